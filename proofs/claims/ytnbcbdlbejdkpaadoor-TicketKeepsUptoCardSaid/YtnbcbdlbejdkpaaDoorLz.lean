import Derived.Test.YtnbcbdlbejdkpaaDoorGp
import Derived.Test.YtnbcbdlbejdkpaaDoorZLm
namespace Go.Proofs.YtnbcbdlbejdkpaaDoor
open Go Go.Sl
theorem add_run0 (x y : Nat) (w : World) : (extSem Tryd.prog 94 #[.int .u64 (x : Nat), .int .u64 (y : Nat), .int .u64 (0 : Nat)]).run Tryd.prog w = .ok (.tuple #[.int .u64 (((x + y + 0) % m64 : Nat) : Int), .int .u64 (((x + y + 0) / m64 : Nat) : Int)]) w := by kernel_rfl
theorem add_run1 (x y : Nat) (w : World) : (extSem Tryd.prog 94 #[.int .u64 (x : Nat), .int .u64 (y : Nat), .int .u64 (1 : Nat)]).run Tryd.prog w = .ok (.tuple #[.int .u64 (((x + y + 1) % m64 : Nat) : Int), .int .u64 (((x + y + 1) / m64 : Nat) : Int)]) w := by kernel_rfl
theorem add_run (x y c : Nat) (hc : c ≤ 1) (w : World) : (extSem Tryd.prog 94 #[.int .u64 x, .int .u64 y, .int .u64 c]).run Tryd.prog w = .ok (.tuple #[.int .u64 (((x + y + c) % m64 : Nat) : Int), .int .u64 (((x + y + c) / m64 : Nat) : Int)]) w := by
  have : c = 0 ∨ c = 1 := by omega
  rcases this with rfl | rfl
  · exact add_run0 x y w
  · exact add_run1 x y w
theorem sub_run0 (x y : Nat) (w : World) : (extSem Tryd.prog 96 #[.int .u64 (x : Nat), .int .u64 (y : Nat), .int .u64 (0 : Nat)]).run Tryd.prog w = .ok (.tuple #[.int .u64 (((x + m64 - y - 0) % m64 : Nat) : Int), .int .u64 ((if x < y + 0 then 1 else 0 : Nat) : Int)]) w := by kernel_rfl
theorem sub_run1 (x y : Nat) (w : World) : (extSem Tryd.prog 96 #[.int .u64 (x : Nat), .int .u64 (y : Nat), .int .u64 (1 : Nat)]).run Tryd.prog w = .ok (.tuple #[.int .u64 (((x + m64 - y - 1) % m64 : Nat) : Int), .int .u64 ((if x < y + 1 then 1 else 0 : Nat) : Int)]) w := by kernel_rfl
theorem sub_run (x y c : Nat) (hc : c ≤ 1) (w : World) : (extSem Tryd.prog 96 #[.int .u64 x, .int .u64 y, .int .u64 c]).run Tryd.prog w = .ok (.tuple #[.int .u64 (((x + m64 - y - c) % m64 : Nat) : Int), .int .u64 ((if x < y + c then 1 else 0 : Nat) : Int)]) w := by
  have : c = 0 ∨ c = 1 := by omega
  rcases this with rfl | rfl
  · exact sub_run0 x y w
  · exact sub_run1 x y w
theorem uvs_at {a : List Nat} {i : Nat} (h : i < a.length) : (uvs a)[i]? = some (.int .u64 (a.getD i 0)) := by
  simp [uvs, uv, h]
def addR (a b : List Nat) : List Nat × Int := if m256 ≤ nat4 a + nat4 b then (z4, 22) else (addL a b, 0)
def subR (a b : List Nat) : List Nat × Int := if nat4 a < nat4 b then (z4, 23) else (subL a b, 0)
theorem add_spec (F : List HP) (a b : List Nat) (ha : wOk a) (hb : wOk b) : SpecF Tryd.prog 49 [.agg ⟨uvs a⟩, .agg ⟨uvs b⟩] F [] (fun r L => r = .tuple #[.agg ⟨uvs (addR a b).1⟩, .int .i64 (addR a b).2] ∧ L = []) := by
  have la := ha.len
  have lb := hb.len
  refine fun49.spec rfl ?_
  conv=>whnf
  intro b2
  conv=>whnf
  intro b3
  conv=>whnf
  intro b4
  conv=>whnf
  intro b6
  conv=>whnf
  refine LoopG.mk (fun mm e L => ∃ i, i ≤ 4 ∧ mm = 4 - i ∧ e = [(2, .pointer (some ⟨b2, 0, none⟩)), (3, .pointer (some ⟨b3, 0, none⟩)), (4, .pointer (some ⟨b4, 0, none⟩)), (6, .pointer (some ⟨b6, 0, none⟩)), (7, .int .u64 (sumC a b i)), (9, .int .i64 i)] ∧
      L = [cel b6 25 (uvs (outA (sumO a b) i)), cel b4 25 (uvs z4), cel b3 25 (uvs b), cel b2 25 (uvs a)]) 4
    [(2, .pointer (some ⟨b2, 0, none⟩)), (3, .pointer (some ⟨b3, 0, none⟩)), (4, .pointer (some ⟨b4, 0, none⟩)), (6, .pointer (some ⟨b6, 0, none⟩)), (7, .int .u64 (sumC a b 0)), (9, .int .i64 0)] _ ⟨rfl, rfl, rfl, rfl, rfl, rfl, trivial⟩ (Ent.refl _) ⟨0, by omega, rfl, rfl, rfl⟩ ?_
  rintro mm e L ⟨i, hi, rfl, rfl, rfl⟩
  conv=>whnf
  refine CondG.dec (fun h => ?_) (fun h => ?_)
  · have hi4 : i < 4 := by omega
    have hc1 := sumC_le ha hb i
    conv=>whnf
    refine DrawG.mk 15 [cel b4 25 (uvs z4), cel b3 25 (uvs b), cel b2 25 (uvs a)] [cel b6 25 (uvs (outA (sumO a b) i))] (Ent.refl _) ?_
    conv=>whnf
    refine .take 0 ?_
    conv=>whnf
    refine ⟨rfl, ?_⟩
    conv=>whnf
    refine .take 1 ?_
    conv=>whnf
    refine ⟨rfl, ?_⟩
    conv=>whnf
    refine .take 2 ?_
    conv=>whnf
    refine ⟨rfl, ?_⟩
    conv=>whnf
    refine SideG.of (by omega) ?_
    conv=>whnf
    refine .take 3 ?_
    conv=>whnf
    refine ⟨rfl, ?_⟩
    conv=>whnf
    refine LoadG.at (v := .int .u64 (a.getD i 0)) (.tl (.tl (.here (by rw [show 0 + ((i : Nat) : Int).toNat * 1 = i by omega]; exact uvs_at (by omega))))) ?_
    conv=>whnf
    refine .take 4 ?_
    conv=>whnf
    refine ⟨rfl, ?_⟩
    conv=>whnf
    refine .take 5 ?_
    conv=>whnf
    refine ⟨rfl, ?_⟩
    conv=>whnf
    refine SideG.of (by omega) ?_
    conv=>whnf
    refine .take 6 ?_
    conv=>whnf
    refine ⟨rfl, ?_⟩
    conv=>whnf
    refine LoadG.at (v := .int .u64 (b.getD i 0)) (.tl (.here (by rw [show 0 + ((i : Nat) : Int).toNat * 1 = i by omega]; exact uvs_at (by omega)))) ?_
    conv=>whnf
    refine .take 7 ?_
    conv=>whnf
    refine ⟨rfl, ?_⟩
    conv=>whnf
    refine .all ?_
    conv=>whnf
    refine ⟨by decide, ?_⟩
    conv=>whnf
    refine ⟨fun w hs => ⟨_, _, w, add_run _ _ _ hc1 w, Ext.refl w, hs, ?_⟩⟩
    conv=>whnf
    refine .take 9 ?_
    conv=>whnf
    refine ⟨rfl, ?_⟩
    conv=>whnf
    refine .take 10 ?_
    conv=>whnf
    refine ⟨rfl, ?_⟩
    conv=>whnf
    refine .take 11 ?_
    conv=>whnf
    refine ⟨rfl, ?_⟩
    conv=>whnf
    refine .take 12 ?_
    conv=>whnf
    refine ⟨rfl, ?_⟩
    conv=>whnf
    refine SideG.of (by omega) ?_
    conv=>whnf
    refine .all ?_
    conv=>whnf
    refine ⟨by decide, ?_⟩
    conv=>whnf
    refine StoreG.at (cs := [_]) rfl (Upd.here (by rw [uvs_len, outA_len]; omega) rfl) ?_
    conv=>whnf
    refine .take 14 ?_
    conv=>whnf
    refine ⟨rfl, ?_⟩
    conv=>whnf
    refine ⟨rfl, ?_⟩
    conv=>whnf
    refine ArithG.i64 (by omega) ?_
    conv=>whnf
    have ex : (uvs (outA (sumO a b) i)).set i (.int .u64 (sumO a b i)) = uvs (outA (sumO a b) (i + 1)) := by
      rw [← outA_set (sumO a b) hi4]
      simp [uvs, uv, List.map_set]
    refine ⟨4 - (i + 1), _, [cel b6 25 (uvs (outA (sumO a b) (i + 1))), cel b4 25 (uvs z4), cel b3 25 (uvs b), cel b2 25 (uvs a)], by omega, ?_, ?_, i + 1, by omega, rfl, rfl, rfl⟩
    · exact ⟨rfl, rfl, rfl, rfl, rfl, rfl, trivial⟩
    · rw [← ex]
      rw [show 0 + ((i : Nat) : Int).toNat * 1 = i by omega]
      exact Ent.refl _
  obtain rfl : i = 4 := by omega
  conv=>whnf
  refine CondG.dec (fun h1 => ?_) (fun h1 => ?_)
  · have hm : m256 ≤ nat4 a + nat4 b := (sum_carry ha hb).1 (by omega)
    conv=>whnf
    refine BuildG.of rfl ?_
    conv=>whnf
    refine StoreG.at rfl (Upd.tl (Upd.whole rfl (uvs_one z4))) ?_
    conv=>whnf
    refine LoadNG.at (vs := uvs z4) rfl (.tl .all) ?_
    conv=>whnf
    refine ⟨[], Ent.nil _, ?_, rfl⟩
    rw [addR, if_pos hm]
    rfl
  · have hm : ¬ m256 ≤ nat4 a + nat4 b := fun h => by
      have := (sum_carry ha hb).2 h
      omega
    have ho := sum_out ha hb (by omega)
    conv=>whnf
    refine LoadNG.at (vs := uvs (outA (sumO a b) 4)) (by rw [uvs_len, outA_len]) .all ?_
    conv=>whnf
    refine StoreG.at (by rw [uvs_len, outA_len]) (Upd.tl (Upd.whole (by rw [uvs_len, outA_len]; rfl) (uvs_one _))) ?_
    conv=>whnf
    refine LoadNG.at (vs := uvs (outA (sumO a b) 4)) (by rw [uvs_len, outA_len]) (.tl .all) ?_
    conv=>whnf
    refine ⟨[], Ent.nil _, ?_, rfl⟩
    rw [addR, if_neg hm, addL, ← ho]
    rfl
theorem sub_spec (F : List HP) (a b : List Nat) (ha : wOk a) (hb : wOk b) : SpecF Tryd.prog 60 [.agg ⟨uvs a⟩, .agg ⟨uvs b⟩] F [] (fun r L => r = .tuple #[.agg ⟨uvs (subR a b).1⟩, .int .i64 (subR a b).2] ∧ L = []) := by
  have la := ha.len
  have lb := hb.len
  refine fun60.spec rfl ?_
  conv=>whnf
  intro b2
  conv=>whnf
  intro b3
  conv=>whnf
  intro b4
  conv=>whnf
  intro b6
  conv=>whnf
  refine LoopG.mk (fun mm e L => ∃ i, i ≤ 4 ∧ mm = 4 - i ∧ e = [(2, .pointer (some ⟨b2, 0, none⟩)), (3, .pointer (some ⟨b3, 0, none⟩)), (4, .pointer (some ⟨b4, 0, none⟩)), (6, .pointer (some ⟨b6, 0, none⟩)), (7, .int .u64 (difC a b i)), (9, .int .i64 i)] ∧
      L = [cel b6 25 (uvs (outA (difO a b) i)), cel b4 25 (uvs z4), cel b3 25 (uvs b), cel b2 25 (uvs a)]) 4
    [(2, .pointer (some ⟨b2, 0, none⟩)), (3, .pointer (some ⟨b3, 0, none⟩)), (4, .pointer (some ⟨b4, 0, none⟩)), (6, .pointer (some ⟨b6, 0, none⟩)), (7, .int .u64 (difC a b 0)), (9, .int .i64 0)] _ ⟨rfl, rfl, rfl, rfl, rfl, rfl, trivial⟩ (Ent.refl _) ⟨0, by omega, rfl, rfl, rfl⟩ ?_
  rintro mm e L ⟨i, hi, rfl, rfl, rfl⟩
  conv=>whnf
  refine CondG.dec (fun h => ?_) (fun h => ?_)
  · have hi4 : i < 4 := by omega
    have hc1 := difC_le a b i
    conv=>whnf
    refine DrawG.mk 15 [cel b4 25 (uvs z4), cel b3 25 (uvs b), cel b2 25 (uvs a)] [cel b6 25 (uvs (outA (difO a b) i))] (Ent.refl _) ?_
    conv=>whnf
    refine .take 0 ?_
    conv=>whnf
    refine ⟨rfl, ?_⟩
    conv=>whnf
    refine .take 1 ?_
    conv=>whnf
    refine ⟨rfl, ?_⟩
    conv=>whnf
    refine .take 2 ?_
    conv=>whnf
    refine ⟨rfl, ?_⟩
    conv=>whnf
    refine SideG.of (by omega) ?_
    conv=>whnf
    refine .take 3 ?_
    conv=>whnf
    refine ⟨rfl, ?_⟩
    conv=>whnf
    refine LoadG.at (v := .int .u64 (a.getD i 0)) (.tl (.tl (.here (by rw [show 0 + ((i : Nat) : Int).toNat * 1 = i by omega]; exact uvs_at (by omega))))) ?_
    conv=>whnf
    refine .take 4 ?_
    conv=>whnf
    refine ⟨rfl, ?_⟩
    conv=>whnf
    refine .take 5 ?_
    conv=>whnf
    refine ⟨rfl, ?_⟩
    conv=>whnf
    refine SideG.of (by omega) ?_
    conv=>whnf
    refine .take 6 ?_
    conv=>whnf
    refine ⟨rfl, ?_⟩
    conv=>whnf
    refine LoadG.at (v := .int .u64 (b.getD i 0)) (.tl (.here (by rw [show 0 + ((i : Nat) : Int).toNat * 1 = i by omega]; exact uvs_at (by omega)))) ?_
    conv=>whnf
    refine .take 7 ?_
    conv=>whnf
    refine ⟨rfl, ?_⟩
    conv=>whnf
    refine .all ?_
    conv=>whnf
    refine ⟨by decide, ?_⟩
    conv=>whnf
    refine ⟨fun w hs => ⟨_, _, w, sub_run _ _ _ hc1 w, Ext.refl w, hs, ?_⟩⟩
    conv=>whnf
    refine .take 9 ?_
    conv=>whnf
    refine ⟨rfl, ?_⟩
    conv=>whnf
    refine .take 10 ?_
    conv=>whnf
    refine ⟨rfl, ?_⟩
    conv=>whnf
    refine .take 11 ?_
    conv=>whnf
    refine ⟨rfl, ?_⟩
    conv=>whnf
    refine .take 12 ?_
    conv=>whnf
    refine ⟨rfl, ?_⟩
    conv=>whnf
    refine SideG.of (by omega) ?_
    conv=>whnf
    refine .all ?_
    conv=>whnf
    refine ⟨by decide, ?_⟩
    conv=>whnf
    refine StoreG.at (cs := [_]) rfl (Upd.here (by rw [uvs_len, outA_len]; omega) rfl) ?_
    conv=>whnf
    refine .take 14 ?_
    conv=>whnf
    refine ⟨rfl, ?_⟩
    conv=>whnf
    refine ⟨rfl, ?_⟩
    conv=>whnf
    refine ArithG.i64 (by omega) ?_
    conv=>whnf
    have ex : (uvs (outA (difO a b) i)).set i (.int .u64 (difO a b i)) = uvs (outA (difO a b) (i + 1)) := by
      rw [← outA_set (difO a b) hi4]
      simp [uvs, uv, List.map_set]
    refine ⟨4 - (i + 1), _, [cel b6 25 (uvs (outA (difO a b) (i + 1))), cel b4 25 (uvs z4), cel b3 25 (uvs b), cel b2 25 (uvs a)], by omega, ?_, ?_, i + 1, by omega, rfl, rfl, rfl⟩
    · exact ⟨rfl, rfl, rfl, rfl, rfl, rfl, trivial⟩
    · rw [← ex]
      rw [show 0 + ((i : Nat) : Int).toNat * 1 = i by omega]
      exact Ent.refl _
  obtain rfl : i = 4 := by omega
  conv=>whnf
  refine CondG.dec (fun h1 => ?_) (fun h1 => ?_)
  · have hm : nat4 a < nat4 b := (dif_borrow ha hb).1 (by omega)
    conv=>whnf
    refine BuildG.of rfl ?_
    conv=>whnf
    refine StoreG.at rfl (Upd.tl (Upd.whole rfl (uvs_one z4))) ?_
    conv=>whnf
    refine LoadNG.at (vs := uvs z4) rfl (.tl .all) ?_
    conv=>whnf
    refine ⟨[], Ent.nil _, ?_, rfl⟩
    rw [subR, if_pos hm]
    rfl
  · have hm : ¬ nat4 a < nat4 b := fun h => by
      have := (dif_borrow ha hb).2 h
      omega
    have ho := dif_out ha hb (by omega)
    conv=>whnf
    refine LoadNG.at (vs := uvs (outA (difO a b) 4)) (by rw [uvs_len, outA_len]) .all ?_
    conv=>whnf
    refine StoreG.at (by rw [uvs_len, outA_len]) (Upd.tl (Upd.whole (by rw [uvs_len, outA_len]; rfl) (uvs_one _))) ?_
    conv=>whnf
    refine LoadNG.at (vs := uvs (outA (difO a b) 4)) (by rw [uvs_len, outA_len]) (.tl .all) ?_
    conv=>whnf
    refine ⟨[], Ent.nil _, ?_, rfl⟩
    rw [subR, if_neg hm, subL, ← ho]
    rfl
theorem wread_no (F : List HP) (v : Value) (bs : List Nat) (hb : bs.length ≠ 32) (hv : RdS F v bs.length (bvs bs)) : SpecF Tryd.prog 63 [v] F [] (fun r L => r = .tuple #[.agg ⟨uvs z4⟩, .int .i64 20] ∧ L = []) := by
  refine fun63.spec rfl ?_
  conv=>whnf
  intro b2
  conv=>whnf
  intro b4
  conv=>whnf
  refine LenG.rd hv ?_
  conv=>whnf
  refine CondG.ndec (fun h => ?_) (fun h => absurd (show bs.length = 32 by omega) hb)
  conv=>whnf
  refine LoadNG.at (vs := uvs z4) rfl .all ?_
  conv=>whnf
  refine StoreG.at rfl (Upd.tl (Upd.whole rfl (uvs_one z4))) ?_
  conv=>whnf
  refine LoadNG.at (vs := uvs z4) rfl (.tl .all) ?_
  conv=>whnf
  exact ⟨[], Ent.nil _, rfl, rfl⟩
theorem tokenKey_spec (F : List HP) (t : Nat) (ht : t < 64) : SpecF Tryd.prog 62 [.int .i64 t] F [] (fun r L => r = .string (tokKey t) ∧ L = []) := by
  refine fun62.spec rfl ?_
  conv=>whnf
  refine ArithG.u8 (by omega) ?_
  conv=>whnf
  refine BuildG.of rfl ?_
  conv=>whnf
  intro b5
  conv=>whnf
  refine DoesG.toStr (e := 5) (bs := [116, t]) (by kernel_rfl) (by kernel_rfl) (by kernel_rfl) (.mk _ _ _ _ _ (by simp) (.left .all F)) rfl ?_
  conv=>whnf
  exact ⟨[], Ent.nil _, rfl, rfl⟩
theorem balanceKey_spec (F : List HP) (t : Nat) (ht : t < 64) (a : List Nat) (ha : a.length = 20) : SpecF Tryd.prog 50 [.int .i64 t, .agg ⟨bvs a⟩] F [] (fun r L => r = .string (balKey t a) ∧ L = []) := by
  refine fun50.spec rfl ?_
  conv=>whnf
  intro b3
  conv=>whnf
  refine ArithG.u8 (by omega) ?_
  conv=>whnf
  refine BuildG.of (cs := [.int .u8 98, .int .u8 t]) rfl ?_
  conv=>whnf
  intro b7
  conv=>whnf
  refine SideG.of (by decide) ?_
  conv=>whnf
  refine SliceG.zero ?_
  conv=>whnf
  refine DoesG.ent (own_of_cel (n := 2) (sz := 1) rfl (by decide)) ?_
  refine app_own bytesT 91 (m := 20) (ys := bvs a) (.mk _ _ _ _ _ (by decide) (.tl (.left .all F))) (by rw [bvs_len, ha]) (bvs_one _) (by decide) (by decide) fun r hr hl _ => ?_
  conv=>whnf
  have e : [Value.int .u8 98, .int .u8 t] ++ bvs a = bvs (98 :: t :: a) := rfl
  rw [e] at hl ⊢
  refine DoesG.toStr (e := 5) (bs := 98 :: t :: a) (by kernel_rfl) (by kernel_rfl) (by kernel_rfl) (.left (own_rd hr hl) F) (by simp [ha]) ?_
  conv=>whnf
  exact ⟨[], Ent.nil _, rfl, rfl⟩
theorem begun_spec (F : List HP) (s : Nat) (t : Int) : SpecF Tryd.prog 58 [.pointer (some ⟨s, 0, none⟩), .int .i64 t] F [] (fun r L => r = .int .i64 (begE t) ∧ L = []) := by
  refine fun58.spec rfl ?_
  (conv=>whnf); repeat ((with_reducible first | refine .tt ?_ | refine .ff ?_); conv=>whnf)
  refine CondG.dec (fun h1 => ?_) (fun h1 => ?_)
  · (conv=>whnf); repeat ((with_reducible first | refine .tt ?_ | refine .ff ?_); conv=>whnf)
    refine ret_here ⟨?_, rfl⟩
    rw [begE, if_pos (.inl h1)]
    rfl
  (conv=>whnf); repeat ((with_reducible first | refine .tt ?_ | refine .ff ?_); conv=>whnf)
  refine CondG.dec (fun h2 => ?_) (fun h2 => ?_)
  · conv=>whnf
    refine ret_here ⟨?_, rfl⟩
    rw [begE, if_pos (.inr h2)]
    rfl
  conv=>whnf
  refine ret_here ⟨?_, rfl⟩
  rw [begE, if_neg (by omega)]
  rfl
end Go.Proofs.YtnbcbdlbejdkpaaDoor
namespace Go.Proofs.YtnbcbdlbejdkpaaDoor
open Go Go.Sl
theorem tokKey_size (t : Nat) : (tokKey t).size = 2 := strB_size _
theorem balKey_size {t : Nat} {a : List Nat} (ha : a.length = 20) : (balKey t a).size = 22 := by rw [balKey, strB_size]; simp [ha]
theorem may_tok (t n : Nat) (hn : n ≤ 4096) : mayI (tokKey t) n = 0 := mayI_ok (by rw [tokKey_size]; decide) (by rw [tokKey_size]; decide) hn
theorem may_bal {t : Nat} {a : List Nat} (ha : a.length = 20) (n : Nat) (hn : n ≤ 4096) : mayI (balKey t a) n = 0 := mayI_ok (by rw [balKey_size ha]; decide) (by rw [balKey_size ha]; decide) hn
section
variable {find : ByteArray → List Nat × Int}
theorem amount_spec (F : List HP) (s : Nat) (src : Value) (V : View) (n : Nat) (key : ByteArray) (hs : SrcG Tryd.prog F src find) (ho : SrcOk find) (hk : mayI key 0 = 0) :
    SpecF Tryd.prog 51 [.pointer (some ⟨s, 0, none⟩), .string key] F [stP 127 s src find V n] (fun r L => r = .tuple #[.agg ⟨uvs (amtR (V key)).1⟩, .int .i64 (amtR (V key)).2] ∧ L = [stP 127 s src find V n]) := by
  refine fun51.spec rfl ?_
  conv=>whnf
  intro b4
  conv=>whnf
  refine CallG.of (pre := [stP 127 s src find V n]) (rest := [cel b4 25 (uvs z4)]) (get_at _ s src V n key (hs.left _) ho hk) (Ent.perm (List.Perm.swap _ _ _)) ?_
  rintro _ _ ⟨x, hx, hl, rfl, rfl⟩
  conv=>whnf
  refine CondG.ff ?_
  (conv=>whnf); repeat ((with_reducible first | refine .tt ?_ | refine .ff ?_); conv=>whnf)
  refine LenG.sl hx ?_
  (conv=>whnf); repeat ((with_reducible first | refine .tt ?_ | refine .ff ?_); conv=>whnf)
  refine CondG.dec (fun h => ?_) (fun h => ?_)
  · have e : V key = [] := List.eq_nil_of_length_eq_zero (by omega)
    conv=>whnf
    refine BuildG.of rfl ?_
    conv=>whnf
    refine StoreG.at rfl (Upd.tl (Upd.tl (Upd.whole rfl (uvs_one z4)))) ?_
    conv=>whnf
    refine LoadNG.at (vs := uvs z4) rfl (.tl (.tl .all)) ?_
    conv=>whnf
    refine ⟨_, Ent.sel (T := []) (A := [_, _, _]) [1] rfl, ?_, rfl⟩
    rw [e]
    rfl
  have hne : V key ≠ [] := fun e => h (by rw [e]; rfl)
  by_cases h32 : (V key).length = 32
  · have hx32 : SlV x 32 := by rw [← h32]; exact hx
    conv=>whnf
    refine CallG.pure (wread_spec _ x (V key) h32 (.left (by rw [h32]; exact own_rd hx32 (by rw [bvs_len, h32])) F)) ?_
    rintro _ _ ⟨rfl, rfl⟩
    rw [ivs_words]
    have hwl := wordsN_len (V key)
    conv=>whnf
    intro b8
    conv=>whnf
    refine StoreG.at (by rw [uvs_len, hwl]) (Upd.whole (by rw [uvs_len, hwl]; rfl) (uvs_one _)) ?_
    conv=>whnf
    refine CondG.ff ?_
    conv=>whnf
    refine LoadNG.at (vs := uvs (wordsN (V key))) (by rw [uvs_len, hwl]) .all ?_
    (conv=>whnf); repeat ((with_reducible first | refine .tt ?_ | refine .ff ?_); conv=>whnf)
    refine CallG.pure (isZero_spec _ (wordsN (V key)) hwl) ?_
    rintro _ _ ⟨rfl, rfl⟩
    (conv=>whnf); repeat ((with_reducible first | refine .tt ?_ | refine .ff ?_); conv=>whnf)
    refine CondG.dec (fun hz => ?_) (fun hz => ?_)
    · conv=>whnf
      refine BuildG.of rfl ?_
      conv=>whnf
      refine StoreG.at rfl (Upd.tl (Upd.tl (Upd.tl (Upd.whole rfl (uvs_one z4))))) ?_
      conv=>whnf
      refine LoadNG.at (vs := uvs z4) rfl (.tl (.tl (.tl .all))) ?_
      conv=>whnf
      refine ⟨_, Ent.sel (T := []) (A := [_, _, _, _]) [2] rfl, ?_, rfl⟩
      rw [amtR, if_neg hne, if_neg (fun hh => hh.2 hz)]
      rfl
    · conv=>whnf
      refine LoadNG.at (vs := uvs (wordsN (V key))) (by rw [uvs_len, hwl]) .all ?_
      conv=>whnf
      refine StoreG.at (by rw [uvs_len, hwl]) (Upd.tl (Upd.tl (Upd.tl (Upd.whole (by rw [uvs_len, hwl]; rfl) (uvs_one _))))) ?_
      conv=>whnf
      refine LoadNG.at (vs := uvs (wordsN (V key))) (by rw [uvs_len, hwl]) (.tl (.tl (.tl .all))) ?_
      conv=>whnf
      refine ⟨_, Ent.sel (T := []) (A := [_, _, _, _]) [2] rfl, ?_, rfl⟩
      rw [amtR, if_neg hne, if_pos ⟨h32, hz⟩]
      rfl
  · conv=>whnf
    refine CallG.pure (wread_no _ x (V key) h32 (.left (own_rd hx (by rw [bvs_len, Nat.mul_one])) F)) ?_
    rintro _ _ ⟨rfl, rfl⟩
    conv=>whnf
    intro b8
    conv=>whnf
    refine StoreG.at rfl (Upd.whole rfl (uvs_one z4)) ?_
    conv=>whnf
    refine CondG.tt ?_
    (conv=>whnf); repeat ((with_reducible first | refine .tt ?_ | refine .ff ?_); conv=>whnf)
    refine BuildG.of rfl ?_
    conv=>whnf
    refine StoreG.at rfl (Upd.tl (Upd.tl (Upd.tl (Upd.whole rfl (uvs_one z4))))) ?_
    conv=>whnf
    refine LoadNG.at (vs := uvs z4) rfl (.tl (.tl (.tl .all))) ?_
    conv=>whnf
    refine ⟨_, Ent.sel (T := []) (A := [_, _, _, _]) [2] rfl, ?_, rfl⟩
    rw [amtR, if_neg hne, if_neg (fun hh => h32 hh.1)]
    rfl
theorem lay_at (F : List HP) (s : Nat) (src : Value) (V : View) (n : Nat) (key : ByteArray) (a : List Nat) (ha : a.length = 4) (hs : SrcG Tryd.prog F src find) (ho : SrcOk find) (hk : ∀ m, m ≤ 4096 → mayI key m = 0) (hn : n ≤ 4398046511104) :
    SpecF Tryd.prog 53 [.pointer (some ⟨s, 0, none⟩), .string key, .agg ⟨uvs a⟩] F [stP 127 s src find V n] (fun r L => r = .int .i64 0 ∧ L = [stP 127 s src find (layA V key a) (n + 1)]) := by
  have hal : (uvs a).length = 4 := by rw [uvs_len, ha]
  refine fun53.spec rfl ?_
  conv=>whnf
  intro b5
  conv=>whnf
  refine LoadNG.at (vs := uvs a) hal .all ?_
  conv=>whnf
  refine CallG.pure (isZero_spec _ a ha) ?_
  rintro _ _ ⟨rfl, rfl⟩
  conv=>whnf
  refine CondG.dec (fun hz => ?_) (fun hz => ?_)
  · conv=>whnf
    refine CallG.of (pre := [stP 127 s src find V n]) (rest := [cel b5 25 (uvs a)]) (put_at _ s src V n key (.slice none 0 0) [] (hs.left _) ho (hk 0 (by decide)) (.inl ⟨rfl, rfl⟩) .nil hn) (Ent.perm (List.Perm.swap _ _ _)) ?_
    rintro _ _ ⟨rfl, rfl⟩
    conv=>whnf
    refine ⟨_, Ent.sel (T := []) (A := [_, _]) [0] rfl, rfl, ?_⟩
    rw [layA, amtB, if_pos (show a = z4 from hz)]
    rfl
  · conv=>whnf
    refine LoadNG.at (vs := uvs a) hal .all ?_
    conv=>whnf
    refine CallG.pure (wbytes_spec _ a ha) ?_
    rintro r _ ⟨hr, rfl⟩
    have hwl := wide_len a
    conv=>whnf
    refine CallG.of (pre := [stP 127 s src find V n]) (rest := [own 1 r 32 (bvs (wideB a)), cel b5 25 (uvs a)]) (put_at _ s src V n key r (wideB a) (hs.left _) ho (hk _ (by rw [hwl]; decide)) (by rw [hwl]; exact hr) (by rw [hwl]; exact .left (own_rd hr (by rw [bvs_len, hwl])) _) hn) (Ent.sel (T := []) (A := [_, _, _]) [2, 0, 1] rfl) ?_
    rintro _ _ ⟨rfl, rfl⟩
    conv=>whnf
    refine ⟨_, Ent.sel (T := []) (A := [_, _, _]) [0] rfl, rfl, ?_⟩
    rw [layA, amtB, if_neg (show ¬ a = z4 from hz)]
    rfl
theorem layToken_at (F : List HP) (s : Nat) (src : Value) (V : View) (n : Nat) (t : Nat) (ht : t < 64) (d : TokD) (hd : d.sup.length = 4) (hs : SrcG Tryd.prog F src find) (ho : SrcOk find) (hn : n ≤ 4398046511104) :
    SpecF Tryd.prog 47 [.pointer (some ⟨s, 0, none⟩), .int .i64 t, .agg ⟨d.cells⟩] F [stP 127 s src find V n] (fun r L => r = .int .i64 0 ∧ L = [stP 127 s src find (layTok V t d) (n + 1)]) := by
  have hdl : d.cells.length = 6 := TokD.cells_len hd
  have hsl : (uvs d.sup).length = 4 := by rw [uvs_len, hd]
  have hwl := wide_len d.sup
  have hsup : (d.cells.drop 2).take (uvs d.sup).length = uvs d.sup := by simp [TokD.cells]
  have htl := tokB_len d
  refine fun47.spec rfl ?_
  conv=>whnf
  intro b5
  conv=>whnf
  refine LoadG.at (v := .bool d.paused) (.here rfl) ?_
  conv=>whnf
  have key : ∀ (f : Nat), f = (if d.paused then 3 else 1) → bvs [f] ++ bvs (wideB d.sup) = bvs (tokB d) := fun f hf => by
    rw [hf]; rfl
  refine CondG.split (fun hp => ?_) (fun hp => ?_)
  all_goals
    conv=>whnf
    refine DrawG.mk 11 [cel b5 44 d.cells] [stP 127 s src find V n] (Ent.perm (List.Perm.swap _ _ _)) ?_
    conv=>whnf
    refine .take 0 ?_
    conv=>whnf
    refine ⟨rfl, ?_⟩
    conv=>whnf
    refine .take 1 ?_
    conv=>whnf
    refine ⟨rfl, ?_⟩
    conv=>whnf
    refine .take 3 ?_
    conv=>whnf
    refine ⟨rfl, ?_⟩
    conv=>whnf
    refine .take 5 ?_
    conv=>whnf
    refine ⟨rfl, ?_⟩
    conv=>whnf
    refine .take 6 ?_
    conv=>whnf
    refine ⟨rfl, ?_⟩
    conv=>whnf
    refine LoadNG.at (vs := uvs d.sup) hsl (.here hsup) ?_
    conv=>whnf
    refine .all ?_
    conv=>whnf
    refine ⟨by decide, ?_, ?_⟩
    conv=>whnf
    refine CallG.pure (tokenKey_spec _ t ht) ?_
    rintro _ _ ⟨rfl, rfl⟩
    conv=>whnf
    refine .all ?_
    conv=>whnf
    refine ⟨by decide, ?_, ?_⟩
    conv=>whnf
    refine BuildG.of (cs := bvs [_]) rfl ?_
    conv=>whnf
    intro b14
    conv=>whnf
    refine .all ?_
    conv=>whnf
    refine ⟨by decide, ?_⟩
    conv=>whnf
    refine CallG.pure (wbytes_spec _ d.sup hd) ?_
    rintro r _ ⟨hr, rfl⟩
    conv=>whnf
    refine .all ?_
    conv=>whnf
    refine ⟨by decide, ?_⟩
    conv=>whnf
    refine DoesG.ent (M := [cel b14 5 (bvs [_]), own 1 r 32 (bvs (wideB d.sup)), stP 127 s src find V n]) (Ent.sel (T := []) (A := [_, _, _]) [1, 0, 2] rfl) ?_
    rotate_left
    conv=>whnf
    refine CallG.pure (wbytes_spec _ d.sup hd) ?_
    rintro r _ ⟨hr, rfl⟩
    conv=>whnf
    refine .all ?_
    conv=>whnf
    refine ⟨by decide, ?_⟩
    conv=>whnf
    refine BuildG.of (cs := bvs [_]) rfl ?_
    conv=>whnf
    intro b14
    conv=>whnf
    refine .all ?_
    conv=>whnf
    refine ⟨by decide, ?_⟩
    conv=>whnf
    refine DoesG.ent (M := [cel b14 5 (bvs [_]), own 1 r 32 (bvs (wideB d.sup)), stP 127 s src find V n]) (Ent.refl _) ?_
    rotate_left
    conv=>whnf
    refine BuildG.of (cs := bvs [_]) rfl ?_
    conv=>whnf
    intro b14
    conv=>whnf
    refine .all ?_
    conv=>whnf
    refine ⟨by decide, ?_⟩
    conv=>whnf
    refine CallG.pure (tokenKey_spec _ t ht) ?_
    rintro _ _ ⟨rfl, rfl⟩
    conv=>whnf
    refine .all ?_
    conv=>whnf
    refine ⟨by decide, ?_⟩
    conv=>whnf
    refine CallG.pure (wbytes_spec _ d.sup hd) ?_
    rintro r _ ⟨hr, rfl⟩
    conv=>whnf
    refine .all ?_
    conv=>whnf
    refine ⟨by decide, ?_⟩
    conv=>whnf
    refine DoesG.ent (M := [cel b14 5 (bvs [_]), own 1 r 32 (bvs (wideB d.sup)), stP 127 s src find V n]) (Ent.sel (T := []) (A := [_, _, _]) [1, 0, 2] rfl) ?_
    all_goals
      refine DoesG.ent (own_of_cel (n := 1) (sz := 1) rfl (by decide)) ?_
      refine app_own bytesT 91 (m := 32) (ys := bvs (wideB d.sup)) (.tl (.left (own_rd hr (by rw [bvs_len, hwl])) _)) (by rw [bvs_len, hwl]) (bvs_one _) (by decide) (by decide) fun q hq hql _ => ?_
      rw [key _ (by rw [hp]; rfl)] at hql ⊢
      conv=>whnf
      refine .all ?_
      conv=>whnf
      refine ⟨by decide, ?_⟩
      conv=>whnf
      refine CallG.of (pre := [stP 127 s src find V n]) (rest := [own 1 q 33 (bvs (tokB d)), own 1 r 32 (bvs (wideB d.sup))]) (put_at _ s src V n (tokKey t) q (tokB d) ((hs.left _).left _) ho (may_tok t _ (by rw [htl]; decide)) (by rw [htl]; exact hq) (by rw [htl]; exact .left (own_rd hq hql) _) hn) (Ent.sel (T := []) (A := [_, _, _]) [2, 0, 1] rfl) ?_
      rintro _ _ ⟨rfl, rfl⟩
      conv=>whnf
      refine .take 10 ?_
      conv=>whnf
      refine ⟨rfl, ?_⟩
      conv=>whnf
      refine ⟨rfl, ?_⟩
      conv=>whnf
      exact ⟨_, Ent.sel (T := []) (A := [_, _, _, _]) [0] rfl, rfl, rfl⟩
end
end Go.Proofs.YtnbcbdlbejdkpaaDoor
namespace Go.Proofs.YtnbcbdlbejdkpaaDoor
open Go Go.Sl
section
variable {find : ByteArray → List Nat × Int}
theorem sup_at (d : TokD) : (d.cells.drop 2).take (uvs d.sup).length = uvs d.sup := by simp [TokD.cells]
theorem z4_len : z4.length = 4 := rfl
theorem token_at (F : List HP) (s : Nat) (src : Value) (V : View) (n : Nat) (t : Int) (hs : SrcG Tryd.prog F src find) (ho : SrcOk find) :
    SpecF Tryd.prog 21 [.pointer (some ⟨s, 0, none⟩), .int .i64 t] F [stP 127 s src find V n] (fun r L => r = .tuple #[.agg ⟨(tokenL V t).1.cells⟩, .int .i64 (tokenL V t).2] ∧ L = [stP 127 s src find V n]) := by
  refine fun21.spec rfl ?_
  conv=>whnf
  intro b4
  conv=>whnf
  refine CallG.pure (begun_spec _ s t) ?_
  rintro _ _ ⟨rfl, rfl⟩
  conv=>whnf
  refine CondG.ndec (fun h1 => ?_) (fun h1 => ?_)
  · conv=>whnf
    refine BuildG.of rfl ?_
    conv=>whnf
    refine StoreG.at rfl (Upd.whole rfl (TokD.cells_one zTok)) ?_
    conv=>whnf
    refine LoadNG.at (vs := zTok.cells) rfl .all ?_
    conv=>whnf
    refine ⟨_, Ent.sel (T := []) (A := [_, _]) [1] rfl, ?_, rfl⟩
    rw [tokenL, if_pos h1]
    rfl
  obtain ⟨m, rfl, hm⟩ := begE_nat h1
  have et : tokenL V (m : Int) = tokR (V (tokKey m)) := by rw [tokenL, if_neg (by rw [h1]; decide), Int.toNat_natCast]
  rw [et]
  conv=>whnf
  refine CallG.pure (tokenKey_spec _ m hm) ?_
  rintro _ _ ⟨rfl, rfl⟩
  conv=>whnf
  refine CallG.of (pre := [stP 127 s src find V n]) (rest := [cel b4 44 zTok.cells]) (get_at _ s src V n (tokKey m) (hs.left _) ho (may_tok m 0 (by decide))) (Ent.perm (List.Perm.swap _ _ _)) ?_
  rintro _ _ ⟨x, hx, hl, rfl, rfl⟩
  conv=>whnf
  refine CondG.ff ?_
  (conv=>whnf); repeat ((with_reducible first | refine .tt ?_ | refine .ff ?_); conv=>whnf)
  refine LenG.sl hx ?_
  (conv=>whnf); repeat ((with_reducible first | refine .tt ?_ | refine .ff ?_); conv=>whnf)
  refine CondG.dec (fun h => ?_) (fun h => ?_)
  · have e : V (tokKey m) = [] := List.eq_nil_of_length_eq_zero (by omega)
    conv=>whnf
    refine BuildG.of rfl ?_
    conv=>whnf
    refine StoreG.at rfl (Upd.tl (Upd.tl (Upd.whole rfl (TokD.cells_one zTok)))) ?_
    conv=>whnf
    refine LoadNG.at (vs := zTok.cells) rfl (.tl (.tl .all)) ?_
    conv=>whnf
    refine ⟨_, Ent.sel (T := []) (A := [_, _, _]) [1] rfl, ?_, rfl⟩
    rw [e]
    rfl
  have hrd : RdS (own 1 x (V (tokKey m)).length (bvs (V (tokKey m))) :: ([stP 127 s src find V n, cel b4 44 zTok.cells] ++ F)) x (V (tokKey m)).length (bvs (V (tokKey m))) := own_rd hx (by rw [bvs_len, Nat.mul_one])
  generalize hV : V (tokKey m) = bs at *
  obtain ⟨b, r, rfl⟩ : ∃ b r, bs = b :: r := by
    cases bs with
    | nil => exact absurd rfl h
    | cons b r => exact ⟨b, r, rfl⟩
  conv=>whnf
  refine SlcG.rd hrd fun a cap hva hcap => ?_
  conv=>whnf
  have hlen : (b :: r).length = r.length + 1 := rfl
  refine SideG.of (by omega) ?_
  conv=>whnf
  refine SliceG.rd (by rw [← hva]; exact hrd) (by show 1 ≤ _; omega) (by omega) (by omega) (by omega) fun v1 hv1 _ => ?_
  have e1 : (((b :: r).length : Nat) : Int).toNat - (1 : Int).toNat = r.length := by show _ - 1 = _; omega
  have e2 : ((bvs (b :: r)).drop ((1 : Int).toNat * 1)).take (((((b :: r).length : Nat) : Int).toNat - (1 : Int).toNat) * 1) = bvs r := by
    rw [e1]
    show ((bvs (b :: r)).drop 1).take _ = _
    show (bvs r).take _ = _
    rw [List.take_of_length_le (by rw [bvs_len]; omega)]
  rw [e2, e1] at hv1
  have bad : ∀ (hb : ¬ (r.length = 32 ∧ (b = 1 ∨ b = 3))), tokR (b :: r) = (zTok, 75) := fun hb => by rw [tokR, if_neg hb]
  by_cases h32 : r.length = 32
  · have hwl := wordsN_len r
    have hwu : (uvs (wordsN r)).length = 4 := by rw [uvs_len, hwl]
    conv=>whnf
    refine CallG.pure (wread_spec _ v1 r h32 (by rw [← h32]; exact hv1)) ?_
    rintro _ _ ⟨rfl, rfl⟩
    rw [ivs_words]
    conv=>whnf
    intro b9
    conv=>whnf
    refine StoreG.at hwu (Upd.whole (by rw [hwu]; rfl) (uvs_one _)) ?_
    conv=>whnf
    refine CondG.ff ?_
    (conv=>whnf); repeat ((with_reducible first | refine .tt ?_ | refine .ff ?_); conv=>whnf)
    have hrd2 := RdS.tl (p := cel b9 25 (uvs (wordsN r))) hrd
    refine IdxG.rd hrd2 (by omega) fun c o hc => ?_
    (conv=>whnf); repeat ((with_reducible first | refine .tt ?_ | refine .ff ?_); conv=>whnf)
    refine LoadG.atG (v := bv b) (hc.one (i := 0) rfl) ?_
    (conv=>whnf); repeat ((with_reducible first | refine .tt ?_ | refine .ff ?_); conv=>whnf)
    have zero : ¬ (b = 1 ∨ b = 3) → tokR (b :: r) = (zTok, 75) := fun hb => bad fun hh => hb hh.2
    have right : (b = 1 ∨ b = 3) → tokR (b :: r) = (⟨true, decide (b = 3), wordsN r⟩, 0) := fun hb => by rw [tokR, if_pos ⟨h32, hb⟩]
    refine CondG.ndec (fun hb1 => ?_) (fun hb1 => ?_)
    (conv=>whnf); repeat ((with_reducible first | refine .tt ?_ | refine .ff ?_); conv=>whnf)
    refine IdxG.rd hrd2 (by omega) fun c2 o2 hc2 => ?_
    (conv=>whnf); repeat ((with_reducible first | refine .tt ?_ | refine .ff ?_); conv=>whnf)
    refine LoadG.atG (v := bv b) (hc2.one (i := 0) rfl) ?_
    (conv=>whnf); repeat ((with_reducible first | refine .tt ?_ | refine .ff ?_); conv=>whnf)
    refine CondG.ndec (fun hb3 => ?_) (fun hb3 => ?_)
    · conv=>whnf
      refine BuildG.of rfl ?_
      conv=>whnf
      refine StoreG.at rfl (Upd.tl (Upd.tl (Upd.tl (Upd.whole rfl (TokD.cells_one zTok))))) ?_
      conv=>whnf
      refine LoadNG.at (vs := zTok.cells) rfl (.tl (.tl (.tl .all))) ?_
      conv=>whnf
      refine ⟨_, Ent.sel (T := []) (A := [_, _, _, _]) [2] rfl, ?_, rfl⟩
      rw [zero (by omega)]
      rfl
    rw [right (by omega)]
    rotate_left
    rw [right (by omega)]
    all_goals
      (conv=>whnf); repeat ((with_reducible first | refine .tt ?_ | refine .ff ?_); conv=>whnf)
      refine DrawG.mk 6 [cel b9 25 (uvs (wordsN r)), own 1 x (b :: r).length (bvs (b :: r)), stP 127 s src find V n, cel b4 44 zTok.cells] [] (Ent.refl _) ?_
      conv=>whnf
      refine .take 0 ?_
      conv=>whnf
      refine ⟨rfl, ?_⟩
      conv=>whnf
      refine .take 1 ?_
      conv=>whnf
      refine ⟨rfl, ?_⟩
      conv=>whnf
      refine IdxG.rd hrd2 (by omega) fun c2 o2 hc2 => ?_
      conv=>whnf
      refine .take 2 ?_
      conv=>whnf
      refine ⟨rfl, ?_⟩
      conv=>whnf
      refine LoadG.atG (v := bv b) (hc2.one (i := 0) rfl) ?_
      conv=>whnf
      refine .take 3 ?_
      conv=>whnf
      refine ⟨rfl, ?_⟩
      conv=>whnf
      refine .take 4 ?_
      conv=>whnf
      refine ⟨rfl, ?_⟩
      conv=>whnf
      refine LoadNG.at (vs := uvs (wordsN r)) hwu .all ?_
      conv=>whnf
      refine .take 5 ?_
      conv=>whnf
      refine ⟨rfl, ?_⟩
      conv=>whnf
      have ed : decide (((b : Nat) : Int) = 3) = decide (b = 3) := by
        by_cases h3 : b = 3
        · subst h3; rfl
        · have : ¬ (b : Int) = 3 := by omega
          simp [h3, this]
      rw [ed]
      refine BuildG.of (cs := (TokD.mk true (decide (b = 3)) (wordsN r)).cells) (by simp [fillL, Value.cells, hwu, TokD.cells]) ?_
      conv=>whnf
      refine .all ?_
      conv=>whnf
      refine ⟨by decide, ?_⟩
      conv=>whnf
      refine ⟨rfl, ?_⟩
      conv=>whnf
      refine StoreG.at (TokD.cells_len hwl) (Upd.tl (Upd.tl (Upd.tl (Upd.whole (by rw [TokD.cells_len hwl]; rfl) (TokD.cells_one _))))) ?_
      conv=>whnf
      refine .all ?_
      conv=>whnf
      refine ⟨by decide, ?_⟩
      conv=>whnf
      refine ⟨rfl, ?_⟩
      conv=>whnf
      refine LoadNG.at (vs := (TokD.mk true (decide (b = 3)) (wordsN r)).cells) (TokD.cells_len hwl) (.tl (.tl (.tl .all))) ?_
      conv=>whnf
      exact ⟨_, Ent.sel (T := []) (A := [_, _, _, _]) [2] rfl, rfl, rfl⟩
  · conv=>whnf
    refine CallG.pure (wread_no _ v1 r h32 hv1) ?_
    rintro _ _ ⟨rfl, rfl⟩
    conv=>whnf
    intro b9
    conv=>whnf
    refine StoreG.at rfl (Upd.whole rfl (uvs_one z4)) ?_
    conv=>whnf
    refine CondG.tt ?_
    (conv=>whnf); repeat ((with_reducible first | refine .tt ?_ | refine .ff ?_); conv=>whnf)
    refine BuildG.of rfl ?_
    conv=>whnf
    refine StoreG.at rfl (Upd.tl (Upd.tl (Upd.tl (Upd.whole rfl (TokD.cells_one zTok))))) ?_
    conv=>whnf
    refine LoadNG.at (vs := zTok.cells) rfl (.tl (.tl (.tl .all))) ?_
    conv=>whnf
    refine ⟨_, Ent.sel (T := []) (A := [_, _, _, _]) [2] rfl, ?_, rfl⟩
    rw [bad (fun hb => h32 hb.1)]
    rfl
theorem there_at (F : List HP) (s : Nat) (src : Value) (V : View) (n : Nat) (t : Int) (hs : SrcG Tryd.prog F src find) (ho : SrcOk find) :
    SpecF Tryd.prog 61 [.pointer (some ⟨s, 0, none⟩), .int .i64 t] F [stP 127 s src find V n] (fun r L => r = .tuple #[.agg ⟨(thereL V t).1.cells⟩, .int .i64 (thereL V t).2] ∧ L = [stP 127 s src find V n]) := by
  have hok := (tokenL_ok V t).len
  have hl1 : (tokenL V t).1.cells.length = 6 := TokD.cells_len hok
  refine fun61.spec rfl ?_
  conv=>whnf
  intro b4
  conv=>whnf
  refine CallG.of (pre := [stP 127 s src find V n]) (rest := [cel b4 44 zTok.cells]) (token_at _ s src V n t (hs.left _) ho) (Ent.perm (List.Perm.swap _ _ _)) ?_
  rintro _ _ ⟨rfl, rfl⟩
  conv=>whnf
  intro b6
  conv=>whnf
  refine StoreG.at hl1 (Upd.whole (by rw [hl1]; rfl) (TokD.cells_one _)) ?_
  conv=>whnf
  refine CondG.ndec (fun h1 => ?_) (fun h1 => ?_)
  · conv=>whnf
    refine BuildG.of rfl ?_
    conv=>whnf
    refine StoreG.at rfl (Upd.tl (Upd.tl (Upd.whole rfl (TokD.cells_one zTok)))) ?_
    conv=>whnf
    refine LoadNG.at (vs := zTok.cells) rfl (.tl (.tl .all)) ?_
    conv=>whnf
    refine ⟨_, Ent.sel (T := []) (A := [_, _, _]) [1] rfl, ?_, rfl⟩
    rw [thereL, if_pos h1]
    rfl
  conv=>whnf
  refine LoadNG.at (vs := (tokenL V t).1.cells) hl1 .all ?_
  conv=>whnf
  refine BuildG.of (cs := zTok.cells) rfl ?_
  conv=>whnf
  refine DoesG.eqv 8 tokK (by kernel_rfl) (by decide) (by kernel_rfl) (by kernel_rfl) (TokD.wt hok) (TokD.wt z4_len) ?_
  conv=>whnf
  refine CondG.split (fun h2 => ?_) (fun h2 => ?_)
  · simp only [decide_eq_true_eq] at h2
    have hz := TokD.cells_inj.1 h2
    conv=>whnf
    refine LoadNG.at (vs := (tokenL V t).1.cells) hl1 .all ?_
    conv=>whnf
    refine StoreG.at hl1 (Upd.tl (Upd.tl (Upd.whole (by rw [hl1]; rfl) (TokD.cells_one _)))) ?_
    conv=>whnf
    refine LoadNG.at (vs := (tokenL V t).1.cells) hl1 (.tl (.tl .all)) ?_
    conv=>whnf
    refine ⟨_, Ent.sel (T := []) (A := [_, _, _]) [1] rfl, ?_, rfl⟩
    have h1' : (tokenL V t).2 = 0 := h1
    rw [thereL, if_neg (by rw [h1']; decide), if_pos hz, hz]
    rfl
  · simp only [decide_eq_false_iff_not] at h2
    have hz : ¬ (tokenL V t).1 = zTok := fun e => h2 (by rw [e])
    have h1' : (tokenL V t).2 = 0 := h1
    conv=>whnf
    refine LoadNG.at (vs := (tokenL V t).1.cells) hl1 .all ?_
    conv=>whnf
    refine StoreG.at hl1 (Upd.tl (Upd.tl (Upd.whole (by rw [hl1]; rfl) (TokD.cells_one _)))) ?_
    conv=>whnf
    refine LoadNG.at (vs := (tokenL V t).1.cells) hl1 (.tl (.tl .all)) ?_
    conv=>whnf
    refine ⟨_, Ent.sel (T := []) (A := [_, _, _]) [1] rfl, ?_, rfl⟩
    rw [thereL, if_neg (by rw [h1']; decide), if_neg hz]
    rw [show tokenL V t = ((tokenL V t).1, (0 : Int)) from by rw [← h1']]
    rfl
theorem running_at (F : List HP) (s : Nat) (src : Value) (V : View) (n : Nat) (t : Int) (hs : SrcG Tryd.prog F src find) (ho : SrcOk find) :
    SpecF Tryd.prog 48 [.pointer (some ⟨s, 0, none⟩), .int .i64 t] F [stP 127 s src find V n] (fun r L => r = .tuple #[.agg ⟨(runL V t).1.cells⟩, .int .i64 (runL V t).2] ∧ L = [stP 127 s src find V n]) := by
  have hok := (thereL_ok V t).len
  have hl1 : (thereL V t).1.cells.length = 6 := TokD.cells_len hok
  refine fun48.spec rfl ?_
  conv=>whnf
  intro b4
  conv=>whnf
  refine CallG.of (pre := [stP 127 s src find V n]) (rest := [cel b4 44 zTok.cells]) (there_at _ s src V n t (hs.left _) ho) (Ent.perm (List.Perm.swap _ _ _)) ?_
  rintro _ _ ⟨rfl, rfl⟩
  conv=>whnf
  intro b6
  conv=>whnf
  refine StoreG.at hl1 (Upd.whole (by rw [hl1]; rfl) (TokD.cells_one _)) ?_
  conv=>whnf
  have other : ¬ ((thereL V t).2 = 0 ∧ (thereL V t).1.paused = true) → runL V t = thereL V t := fun h => by rw [runL, if_neg h]
  refine CondG.dec (fun h1 => ?_) (fun h1 => ?_)
  · (conv=>whnf); repeat ((with_reducible first | refine .tt ?_ | refine .ff ?_); conv=>whnf)
    refine LoadG.at (v := .bool (thereL V t).1.paused) (.here rfl) ?_
    (conv=>whnf); repeat ((with_reducible first | refine .tt ?_ | refine .ff ?_); conv=>whnf)
    refine CondG.split (fun h2 => ?_) (fun h2 => ?_)
    · conv=>whnf
      refine BuildG.of rfl ?_
      conv=>whnf
      refine StoreG.at rfl (Upd.tl (Upd.tl (Upd.whole rfl (TokD.cells_one zTok)))) ?_
      conv=>whnf
      refine LoadNG.at (vs := zTok.cells) rfl (.tl (.tl .all)) ?_
      conv=>whnf
      refine ⟨_, Ent.sel (T := []) (A := [_, _, _]) [1] rfl, ?_, rfl⟩
      rw [runL, if_pos ⟨h1, h2⟩]
      rfl
    · rw [other (fun hh => by rw [h2] at hh; exact absurd hh.2 (by decide))]
      conv=>whnf
      refine LoadNG.at (vs := (thereL V t).1.cells) hl1 .all ?_
      conv=>whnf
      refine StoreG.at hl1 (Upd.tl (Upd.tl (Upd.whole (by rw [hl1]; rfl) (TokD.cells_one _)))) ?_
      conv=>whnf
      refine LoadNG.at (vs := (thereL V t).1.cells) hl1 (.tl (.tl .all)) ?_
      conv=>whnf
      exact ⟨_, Ent.sel (T := []) (A := [_, _, _]) [1] rfl, rfl, rfl⟩
  · rw [other (fun hh => h1 hh.1)]
    (conv=>whnf); repeat ((with_reducible first | refine .tt ?_ | refine .ff ?_); conv=>whnf)
    refine LoadNG.at (vs := (thereL V t).1.cells) hl1 .all ?_
    conv=>whnf
    refine StoreG.at hl1 (Upd.tl (Upd.tl (Upd.whole (by rw [hl1]; rfl) (TokD.cells_one _)))) ?_
    conv=>whnf
    refine LoadNG.at (vs := (thereL V t).1.cells) hl1 (.tl (.tl .all)) ?_
    conv=>whnf
    exact ⟨_, Ent.sel (T := []) (A := [_, _, _]) [1] rfl, rfl, rfl⟩
theorem register_at (F : List HP) (s : Nat) (src : Value) (V : View) (n : Nat) (t : Int) (hs : SrcG Tryd.prog F src find) (ho : SrcOk find) (hn : n ≤ 4398046511104) :
    SpecF Tryd.prog 12 [.pointer (some ⟨s, 0, none⟩), .int .i64 t] F [stP 127 s src find V n] (fun r L => r = .int .i64 (registerL V t).1 ∧ L = [stP 127 s src find (registerL V t).2 (n + 2)]) := by
  have hok := (tokenL_ok V t).len
  have hl1 : (tokenL V t).1.cells.length = 6 := TokD.cells_len hok
  refine fun12.spec rfl ?_
  conv=>whnf
  refine CallG.of (pre := [stP 127 s src find V n]) (rest := []) (token_at _ s src V n t (hs.left _) ho) (Ent.refl _) ?_
  rintro _ _ ⟨rfl, rfl⟩
  conv=>whnf
  intro b5
  conv=>whnf
  refine StoreG.at hl1 (Upd.whole (by rw [hl1]; rfl) (TokD.cells_one _)) ?_
  conv=>whnf
  refine CondG.ndec (fun h1 => ?_) (fun h1 => ?_)
  · conv=>whnf
    refine ⟨_, (Ent.sel (T := []) (A := [_, _]) [1] rfl).trans (stP_more (m := n + 2) (by omega)), ?_, ?_⟩
    · rw [registerL, if_pos h1]; rfl
    · rw [registerL, if_pos h1]; rfl
  obtain ⟨m, rfl, hm⟩ := tokenL_nat h1
  conv=>whnf
  refine LoadG.at (v := .bool (tokenL V m).1.there) (.here rfl) ?_
  conv=>whnf
  refine CondG.split (fun h2 => ?_) (fun h2 => ?_)
  · conv=>whnf
    refine ⟨_, (Ent.sel (T := []) (A := [_, _]) [1] rfl).trans (stP_more (m := n + 2) (by omega)), ?_, ?_⟩
    · rw [registerL, if_neg (by rw [h1]; decide), if_pos h2]; rfl
    · rw [registerL, if_neg (by rw [h1]; decide), if_pos h2]; rfl
  · conv=>whnf
    refine BuildG.of (cs := zTok.cells) rfl ?_
    conv=>whnf
    refine CallG.of (pre := [stP 127 s src find V n]) (rest := [cel b5 44 (tokenL V m).1.cells]) (layToken_at _ s src V n m hm zTok z4_len (hs.left _) ho hn) (Ent.perm (List.Perm.swap _ _ _)) ?_
    rintro _ _ ⟨rfl, rfl⟩
    conv=>whnf
    refine ⟨_, (Ent.sel (T := []) (A := [_, _]) [0] rfl).trans (stP_more (m := n + 2) (by omega)), ?_, ?_⟩
    · rw [registerL, if_neg (by rw [h1]; decide), if_neg (by rw [h2]; decide)]; rfl
    · rw [registerL, if_neg (by rw [h1]; decide), if_neg (by rw [h2]; decide)]; rfl
theorem pause_at (F : List HP) (s : Nat) (src : Value) (V : View) (n : Nat) (t : Int) (hs : SrcG Tryd.prog F src find) (ho : SrcOk find) (hn : n ≤ 4398046511104) :
    SpecF Tryd.prog 64 [.pointer (some ⟨s, 0, none⟩), .int .i64 t] F [stP 127 s src find V n] (fun r L => r = .int .i64 (pauseL V t).1 ∧ L = [stP 127 s src find (pauseL V t).2 (n + 2)]) := by
  have hok := (runL_ok V t).len
  have hl1 : (runL V t).1.cells.length = 6 := TokD.cells_len hok
  refine fun64.spec rfl ?_
  conv=>whnf
  refine CallG.of (pre := [stP 127 s src find V n]) (rest := []) (running_at _ s src V n t (hs.left _) ho) (Ent.refl _) ?_
  rintro _ _ ⟨rfl, rfl⟩
  conv=>whnf
  intro b5
  conv=>whnf
  refine StoreG.at hl1 (Upd.whole (by rw [hl1]; rfl) (TokD.cells_one _)) ?_
  conv=>whnf
  refine CondG.ndec (fun h1 => ?_) (fun h1 => ?_)
  · conv=>whnf
    refine ⟨_, (Ent.sel (T := []) (A := [_, _]) [1] rfl).trans (stP_more (m := n + 2) (by omega)), ?_, ?_⟩
    · rw [pauseL, if_pos h1]; rfl
    · rw [pauseL, if_pos h1]; rfl
  obtain ⟨m, rfl, hm⟩ := runL_nat h1
  conv=>whnf
  refine StoreG.at (cs := [.bool true]) rfl (Upd.here (by rw [hl1]; decide) rfl) ?_
  have e : (runL V m).1.cells.set 1 (.bool true) = ({ (runL V m).1 with paused := true } : TokD).cells := rfl
  have hl2 : ({ (runL V m).1 with paused := true } : TokD).cells.length = 6 := TokD.cells_len hok
  conv=>whnf
  refine LoadNG.at (vs := ({ (runL V m).1 with paused := true } : TokD).cells) hl2 .all ?_
  conv=>whnf
  refine CallG.of (pre := [stP 127 s src find V n]) (rest := [cel b5 44 ({ (runL V m).1 with paused := true } : TokD).cells]) (layToken_at _ s src V n m hm { (runL V m).1 with paused := true } hok (hs.left _) ho hn) (Ent.perm (List.Perm.swap _ _ _)) ?_
  rintro _ _ ⟨rfl, rfl⟩
  conv=>whnf
  refine ⟨_, (Ent.sel (T := []) (A := [_, _]) [0] rfl).trans (stP_more (m := n + 2) (by omega)), ?_, ?_⟩
  · rw [pauseL, if_neg (by rw [h1]; decide)]; rfl
  · rw [pauseL, if_neg (by rw [h1]; decide)]; rfl
theorem resume_at (F : List HP) (s : Nat) (src : Value) (V : View) (n : Nat) (t : Int) (hs : SrcG Tryd.prog F src find) (ho : SrcOk find) (hn : n ≤ 4398046511104) :
    SpecF Tryd.prog 65 [.pointer (some ⟨s, 0, none⟩), .int .i64 t] F [stP 127 s src find V n] (fun r L => r = .int .i64 (resumeL V t).1 ∧ L = [stP 127 s src find (resumeL V t).2 (n + 2)]) := by
  have hok := (thereL_ok V t).len
  have hl1 : (thereL V t).1.cells.length = 6 := TokD.cells_len hok
  refine fun65.spec rfl ?_
  conv=>whnf
  refine CallG.of (pre := [stP 127 s src find V n]) (rest := []) (there_at _ s src V n t (hs.left _) ho) (Ent.refl _) ?_
  rintro _ _ ⟨rfl, rfl⟩
  conv=>whnf
  intro b5
  conv=>whnf
  refine StoreG.at hl1 (Upd.whole (by rw [hl1]; rfl) (TokD.cells_one _)) ?_
  conv=>whnf
  refine CondG.ndec (fun h1 => ?_) (fun h1 => ?_)
  · conv=>whnf
    refine ⟨_, (Ent.sel (T := []) (A := [_, _]) [1] rfl).trans (stP_more (m := n + 2) (by omega)), ?_, ?_⟩
    · rw [resumeL, if_pos h1]; rfl
    · rw [resumeL, if_pos h1]; rfl
  obtain ⟨m, rfl, hm⟩ := thereL_nat h1
  conv=>whnf
  refine LoadG.at (v := .bool (thereL V m).1.paused) (.here rfl) ?_
  conv=>whnf
  refine CondG.split (fun h2 => ?_) (fun h2 => ?_)
  · have h2' : (thereL V m).1.paused = false := by simpa using h2
    conv=>whnf
    refine ⟨_, (Ent.sel (T := []) (A := [_, _]) [1] rfl).trans (stP_more (m := n + 2) (by omega)), ?_, ?_⟩
    · rw [resumeL, if_neg (by rw [h1]; decide), if_pos h2']; rfl
    · rw [resumeL, if_neg (by rw [h1]; decide), if_pos h2']; rfl
  have h2' : ¬ (thereL V m).1.paused = false := by simpa using h2
  conv=>whnf
  refine StoreG.at (cs := [.bool false]) rfl (Upd.here (by rw [hl1]; decide) rfl) ?_
  have hl2 : ({ (thereL V m).1 with paused := false } : TokD).cells.length = 6 := TokD.cells_len hok
  conv=>whnf
  refine LoadNG.at (vs := ({ (thereL V m).1 with paused := false } : TokD).cells) hl2 .all ?_
  conv=>whnf
  refine CallG.of (pre := [stP 127 s src find V n]) (rest := [cel b5 44 ({ (thereL V m).1 with paused := false } : TokD).cells]) (layToken_at _ s src V n m hm { (thereL V m).1 with paused := false } hok (hs.left _) ho hn) (Ent.perm (List.Perm.swap _ _ _)) ?_
  rintro _ _ ⟨rfl, rfl⟩
  conv=>whnf
  refine ⟨_, (Ent.sel (T := []) (A := [_, _]) [0] rfl).trans (stP_more (m := n + 2) (by omega)), ?_, ?_⟩
  · rw [resumeL, if_neg (by rw [h1]; decide), if_neg h2']; rfl
  · rw [resumeL, if_neg (by rw [h1]; decide), if_neg h2']; rfl
end
end Go.Proofs.YtnbcbdlbejdkpaaDoor
namespace Go.Proofs.YtnbcbdlbejdkpaaDoor
open Go Go.Sl
section
variable {find : ByteArray → List Nat × Int}
theorem set_sup {d : TokD} {ws : List Nat} (h : d.sup.length = 4) (hw : ws.length = 4) : d.cells.take 2 ++ uvs ws ++ d.cells.drop (2 + (uvs ws).length) = ({ d with sup := ws } : TokD).cells := by
  have e : d.cells = [.bool d.there, .bool d.paused] ++ (uvs d.sup ++ []) := by simp [TokD.cells]
  have h2 := splice (A := [.bool d.there, .bool d.paused]) (B := uvs d.sup) (B' := uvs ws) (C := []) (o := 2) (n := (uvs ws).length) rfl (by rw [uvs_len, uvs_len, h, hw])
  rw [e, h2]
  simp [TokD.cells]
theorem addR_ok {a b : List Nat} : (addR a b).1.length = 4 := by
  unfold addR
  split
  · rfl
  · rfl
theorem subR_ok {a b : List Nat} : (subR a b).1.length = 4 := by
  unfold subR
  split
  · rfl
  · rfl
theorem addR_no {a b : List Nat} (h : m256 ≤ nat4 a + nat4 b) : addR a b = (z4, 22) := by rw [addR, if_pos h]
theorem addR_yes {a b : List Nat} (h : ¬ m256 ≤ nat4 a + nat4 b) : addR a b = (addL a b, 0) := by rw [addR, if_neg h]
theorem subR_no {a b : List Nat} (h : nat4 a < nat4 b) : subR a b = (z4, 23) := by rw [subR, if_pos h]
theorem subR_yes {a b : List Nat} (h : ¬ nat4 a < nat4 b) : subR a b = (subL a b, 0) := by rw [subR, if_neg h]
theorem mint_at (F : List HP) (s : Nat) (src : Value) (V : View) (n : Nat) (t : Int) (to a : List Nat) (hto : to.length = 20) (ha : wOk a) (hs : SrcG Tryd.prog F src find) (ho : SrcOk find) (hn : n + 1 ≤ 4398046511104) :
    SpecF Tryd.prog 13 [.pointer (some ⟨s, 0, none⟩), .int .i64 t, .agg ⟨bvs to⟩, .agg ⟨uvs a⟩] F [stP 127 s src find V n] (fun r L => r = .int .i64 (mintL V t to a).1 ∧ L = [stP 127 s src find (mintL V t to a).2 (n + 2)]) := by
  have hok := runL_ok V t
  have hl1 : (runL V t).1.cells.length = 6 := TokD.cells_len hok.len
  have hal : (uvs a).length = 4 := by rw [uvs_len, ha.len]
  refine fun13.spec rfl ?_
  conv=>whnf
  intro b6
  conv=>whnf
  intro b7
  conv=>whnf
  refine CallG.of (pre := [stP 127 s src find V n]) (rest := [cel b7 25 (uvs a), cel b6 33 (bvs to)]) (running_at _ s src V n t (hs.left _) ho) (Ent.sel (T := []) (A := [_, _, _]) [2, 0, 1] rfl) ?_
  rintro _ _ ⟨rfl, rfl⟩
  conv=>whnf
  intro b9
  conv=>whnf
  refine StoreG.at hl1 (Upd.whole (by rw [hl1]; rfl) (TokD.cells_one _)) ?_
  conv=>whnf
  refine CondG.ndec (fun h1 => ?_) (fun h1 => ?_)
  · conv=>whnf
    refine ⟨_, (Ent.sel (T := []) (A := [_, _, _, _]) [1] rfl).trans (stP_more (m := n + 2) (by omega)), ?_, ?_⟩
    · rw [mintL, if_pos h1]; rfl
    · rw [mintL, if_pos h1]; rfl
  obtain ⟨m, rfl, hm⟩ := runL_nat h1
  have h1' : ¬ (runL V m).2 ≠ 0 := by rw [show (runL V m).2 = 0 from h1]; decide
  have hsl : (uvs (runL V m).1.sup).length = 4 := by rw [uvs_len, hok.len]
  conv=>whnf
  refine LoadNG.at (vs := uvs (runL V m).1.sup) hsl (.here (sup_at _)) ?_
  conv=>whnf
  refine LoadNG.at (vs := uvs a) hal (.tl (.tl .all)) ?_
  conv=>whnf
  refine CallG.pure (add_spec _ _ a hok ha) ?_
  rintro _ _ ⟨rfl, rfl⟩
  have hA : (uvs (addR (runL V m).1.sup a).1).length = 4 := by rw [uvs_len, addR_ok]
  conv=>whnf
  refine StoreG.at hA (Upd.hereN (by rw [hA, hl1]; decide) (uvs_one _) (set_sup hok.len addR_ok)) ?_
  conv=>whnf
  by_cases h2 : m256 ≤ nat4 (runL V m).1.sup + nat4 a
  · rw [addR_no h2]
    refine CondG.tt ?_
    conv=>whnf
    refine ⟨_, (Ent.sel (T := []) (A := [_, _, _, _]) [1] rfl).trans (stP_more (m := n + 2) (by omega)), ?_, ?_⟩
    · rw [mintL, if_neg h1', if_pos h2]; rfl
    · rw [mintL, if_neg h1', if_pos h2]; rfl
  rw [addR_yes h2]
  have hl2 : ({ (runL V m).1 with sup := addL (runL V m).1.sup a } : TokD).cells.length = 6 := TokD.cells_len rfl
  refine CondG.ff ?_
  conv=>whnf
  refine LoadNG.at (vs := bvs to) (by rw [bvs_len, hto]) (.tl (.tl (.tl .all))) ?_
  conv=>whnf
  refine CallG.pure (balanceKey_spec _ m hm to hto) ?_
  rintro _ _ ⟨rfl, rfl⟩
  conv=>whnf
  refine CallG.of (pre := [stP 127 s src find V n]) (rest := [cel b9 44 ({ (runL V m).1 with sup := addL (runL V m).1.sup a } : TokD).cells, cel b7 25 (uvs a), cel b6 33 (bvs to)]) (amount_spec _ s src V n (balKey m to) (hs.left _) ho (may_bal hto 0 (by decide))) (Ent.sel (T := []) (A := [_, _, _, _]) [1, 0, 2, 3] rfl) ?_
  rintro _ _ ⟨rfl, rfl⟩
  have hbk := amtR_ok (V (balKey m to))
  have hbl : (uvs (amtR (V (balKey m to))).1).length = 4 := by rw [uvs_len, hbk.len]
  have em : ((m : Nat) : Int).toNat = m := Int.toNat_natCast m
  conv=>whnf
  intro b12
  conv=>whnf
  refine StoreG.at hbl (Upd.whole (by rw [hbl]; rfl) (uvs_one _)) ?_
  conv=>whnf
  refine CondG.ndec (fun h3 => ?_) (fun h3 => ?_)
  · conv=>whnf
    refine ⟨_, (Ent.sel (T := []) (A := [_, _, _, _, _]) [1] rfl).trans (stP_more (m := n + 2) (by omega)), ?_, ?_⟩
    · rw [mintL, if_neg h1', if_neg h2, em, if_pos h3]; rfl
    · rw [mintL, if_neg h1', if_neg h2, em, if_pos h3]; rfl
  have h3' : ¬ (amtR (V (balKey m to))).2 ≠ 0 := by rw [show (amtR (V (balKey m to))).2 = 0 from h3]; decide
  conv=>whnf
  refine LoadNG.at (vs := uvs (amtR (V (balKey m to))).1) hbl .all ?_
  conv=>whnf
  refine LoadNG.at (vs := uvs a) hal (.tl (.tl (.tl .all))) ?_
  conv=>whnf
  refine CallG.pure (add_spec _ _ a hbk ha) ?_
  rintro _ _ ⟨rfl, rfl⟩
  have hB : (uvs (addR (amtR (V (balKey m to))).1 a).1).length = 4 := by rw [uvs_len, addR_ok]
  conv=>whnf
  refine StoreG.at hB (Upd.whole (by rw [hB, hbl]) (uvs_one _)) ?_
  conv=>whnf
  by_cases h4 : m256 ≤ nat4 (amtR (V (balKey m to))).1 + nat4 a
  · rw [addR_no h4]
    refine CondG.tt ?_
    conv=>whnf
    refine ⟨_, (Ent.sel (T := []) (A := [_, _, _, _, _]) [1] rfl).trans (stP_more (m := n + 2) (by omega)), ?_, ?_⟩
    · rw [mintL, if_neg h1', if_neg h2, em, if_neg h3', if_pos h4]; rfl
    · rw [mintL, if_neg h1', if_neg h2, em, if_neg h3', if_pos h4]; rfl
  rw [addR_yes h4]
  refine CondG.ff ?_
  conv=>whnf
  refine LoadNG.at (vs := uvs a) hal (.tl (.tl (.tl .all))) ?_
  conv=>whnf
  refine CallG.pure (isZero_spec _ a ha.len) ?_
  rintro _ _ ⟨rfl, rfl⟩
  conv=>whnf
  refine CondG.dec (fun h5 => ?_) (fun h5 => ?_)
  · have h5' : a = z4 := h5
    conv=>whnf
    refine ⟨_, (Ent.sel (T := []) (A := [_, _, _, _, _]) [1] rfl).trans (stP_more (m := n + 2) (by omega)), ?_, ?_⟩
    · rw [mintL, if_neg h1', if_neg h2, em, if_neg h3', if_neg h4, if_pos h5']; rfl
    · rw [mintL, if_neg h1', if_neg h2, em, if_neg h3', if_neg h4, if_pos h5']; rfl
  have h5' : ¬ a = z4 := h5
  conv=>whnf
  refine LoadNG.at (vs := ({ (runL V m).1 with sup := addL (runL V m).1.sup a } : TokD).cells) hl2 (.tl (.tl .all)) ?_
  conv=>whnf
  refine CallG.of (pre := [stP 127 s src find V n]) (rest := [cel b12 25 (uvs (addL (amtR (V (balKey m to))).1 a)), cel b9 44 ({ (runL V m).1 with sup := addL (runL V m).1.sup a } : TokD).cells, cel b7 25 (uvs a), cel b6 33 (bvs to)]) (layToken_at _ s src V n m hm { (runL V m).1 with sup := addL (runL V m).1.sup a } rfl (hs.left _) ho (by omega)) (Ent.sel (T := []) (A := [_, _, _, _, _]) [1, 0, 2, 3, 4] rfl) ?_
  rintro _ _ ⟨rfl, rfl⟩
  conv=>whnf
  refine CondG.ff ?_
  conv=>whnf
  refine LoadNG.at (vs := uvs (addL (amtR (V (balKey m to))).1 a)) rfl (.tl .all) ?_
  conv=>whnf
  refine CallG.of (pre := [stP 127 s src find (layTok V m { (runL V m).1 with sup := addL (runL V m).1.sup a }) (n + 1)]) (rest := [cel b12 25 (uvs (addL (amtR (V (balKey m to))).1 a)), cel b9 44 ({ (runL V m).1 with sup := addL (runL V m).1.sup a } : TokD).cells, cel b7 25 (uvs a), cel b6 33 (bvs to)]) (lay_at _ s src _ (n + 1) (balKey m to) _ rfl (hs.left _) ho (may_bal hto) hn) (Ent.refl _) ?_
  rintro _ _ ⟨rfl, rfl⟩
  conv=>whnf
  refine ⟨_, Ent.sel (T := []) (A := [_, _, _, _, _]) [0] rfl, ?_, ?_⟩
  · rw [mintL, if_neg h1', if_neg h2, em, if_neg h3', if_neg h4, if_neg h5']; rfl
  · rw [mintL, if_neg h1', if_neg h2, em, if_neg h3', if_neg h4, if_neg h5']; rfl
theorem burn_at (F : List HP) (s : Nat) (src : Value) (V : View) (n : Nat) (t : Int) (to a : List Nat) (hto : to.length = 20) (ha : wOk a) (hs : SrcG Tryd.prog F src find) (ho : SrcOk find) (hn : n + 1 ≤ 4398046511104) :
    SpecF Tryd.prog 20 [.pointer (some ⟨s, 0, none⟩), .int .i64 t, .agg ⟨bvs to⟩, .agg ⟨uvs a⟩] F [stP 127 s src find V n] (fun r L => r = .int .i64 (burnL V t to a).1 ∧ L = [stP 127 s src find (burnL V t to a).2 (n + 2)]) := by
  have hok := runL_ok V t
  have hl1 : (runL V t).1.cells.length = 6 := TokD.cells_len hok.len
  have hal : (uvs a).length = 4 := by rw [uvs_len, ha.len]
  refine fun20.spec rfl ?_
  conv=>whnf
  intro b6
  conv=>whnf
  intro b7
  conv=>whnf
  refine CallG.of (pre := [stP 127 s src find V n]) (rest := [cel b7 25 (uvs a), cel b6 33 (bvs to)]) (running_at _ s src V n t (hs.left _) ho) (Ent.sel (T := []) (A := [_, _, _]) [2, 0, 1] rfl) ?_
  rintro _ _ ⟨rfl, rfl⟩
  conv=>whnf
  intro b9
  conv=>whnf
  refine StoreG.at hl1 (Upd.whole (by rw [hl1]; rfl) (TokD.cells_one _)) ?_
  conv=>whnf
  refine CondG.ndec (fun h1 => ?_) (fun h1 => ?_)
  · conv=>whnf
    refine ⟨_, (Ent.sel (T := []) (A := [_, _, _, _]) [1] rfl).trans (stP_more (m := n + 2) (by omega)), ?_, ?_⟩
    · rw [burnL, if_pos h1]; rfl
    · rw [burnL, if_pos h1]; rfl
  obtain ⟨m, rfl, hm⟩ := runL_nat h1
  have h1' : ¬ (runL V m).2 ≠ 0 := by rw [show (runL V m).2 = 0 from h1]; decide
  have hsl : (uvs (runL V m).1.sup).length = 4 := by rw [uvs_len, hok.len]
  conv=>whnf
  refine LoadNG.at (vs := bvs to) (by rw [bvs_len, hto]) (.tl (.tl (.tl .all))) ?_
  conv=>whnf
  refine CallG.pure (balanceKey_spec _ m hm to hto) ?_
  rintro _ _ ⟨rfl, rfl⟩
  conv=>whnf
  refine CallG.of (pre := [stP 127 s src find V n]) (rest := [cel b9 44 (runL V m).1.cells, cel b7 25 (uvs a), cel b6 33 (bvs to)]) (amount_spec _ s src V n (balKey m to) (hs.left _) ho (may_bal hto 0 (by decide))) (Ent.sel (T := []) (A := [_, _, _, _]) [1, 0, 2, 3] rfl) ?_
  rintro _ _ ⟨rfl, rfl⟩
  have hbk := amtR_ok (V (balKey m to))
  have hbl : (uvs (amtR (V (balKey m to))).1).length = 4 := by rw [uvs_len, hbk.len]
  have em : ((m : Nat) : Int).toNat = m := Int.toNat_natCast m
  conv=>whnf
  intro b12
  conv=>whnf
  refine StoreG.at hbl (Upd.whole (by rw [hbl]; rfl) (uvs_one _)) ?_
  conv=>whnf
  refine CondG.ndec (fun h3 => ?_) (fun h3 => ?_)
  · conv=>whnf
    refine ⟨_, (Ent.sel (T := []) (A := [_, _, _, _, _]) [1] rfl).trans (stP_more (m := n + 2) (by omega)), ?_, ?_⟩
    · rw [burnL, if_neg h1', em, if_pos h3]; rfl
    · rw [burnL, if_neg h1', em, if_pos h3]; rfl
  have h3' : ¬ (amtR (V (balKey m to))).2 ≠ 0 := by rw [show (amtR (V (balKey m to))).2 = 0 from h3]; decide
  conv=>whnf
  refine LoadNG.at (vs := uvs (amtR (V (balKey m to))).1) hbl .all ?_
  conv=>whnf
  refine LoadNG.at (vs := uvs a) hal (.tl (.tl (.tl .all))) ?_
  conv=>whnf
  refine CallG.pure (sub_spec _ _ a hbk ha) ?_
  rintro _ _ ⟨rfl, rfl⟩
  have hB : (uvs (subR (amtR (V (balKey m to))).1 a).1).length = 4 := by rw [uvs_len, subR_ok]
  conv=>whnf
  refine StoreG.at hB (Upd.whole (by rw [hB, hbl]) (uvs_one _)) ?_
  conv=>whnf
  by_cases h4 : nat4 (amtR (V (balKey m to))).1 < nat4 a
  · rw [subR_no h4]
    refine CondG.tt ?_
    conv=>whnf
    refine ⟨_, (Ent.sel (T := []) (A := [_, _, _, _, _]) [1] rfl).trans (stP_more (m := n + 2) (by omega)), ?_, ?_⟩
    · rw [burnL, if_neg h1', em, if_neg h3', if_pos h4]; rfl
    · rw [burnL, if_neg h1', em, if_neg h3', if_pos h4]; rfl
  rw [subR_yes h4]
  refine CondG.ff ?_
  conv=>whnf
  refine LoadNG.at (vs := uvs (runL V m).1.sup) hsl (.tl (.tl (.here (sup_at _)))) ?_
  conv=>whnf
  refine LoadNG.at (vs := uvs a) hal (.tl (.tl (.tl .all))) ?_
  conv=>whnf
  refine CallG.pure (sub_spec _ _ a hok ha) ?_
  rintro _ _ ⟨rfl, rfl⟩
  have hA : (uvs (subR (runL V m).1.sup a).1).length = 4 := by rw [uvs_len, subR_ok]
  conv=>whnf
  refine StoreG.at hA (Upd.tl (Upd.tl (Upd.hereN (by rw [hA, hl1]; decide) (uvs_one _) (set_sup hok.len subR_ok)))) ?_
  conv=>whnf
  by_cases h2 : nat4 (runL V m).1.sup < nat4 a
  · rw [subR_no h2]
    refine CondG.tt ?_
    conv=>whnf
    refine ⟨_, (Ent.sel (T := []) (A := [_, _, _, _, _]) [1] rfl).trans (stP_more (m := n + 2) (by omega)), ?_, ?_⟩
    · rw [burnL, if_neg h1', em, if_neg h3', if_neg h4, if_pos h2]; rfl
    · rw [burnL, if_neg h1', em, if_neg h3', if_neg h4, if_pos h2]; rfl
  rw [subR_yes h2]
  have hl2 : ({ (runL V m).1 with sup := subL (runL V m).1.sup a } : TokD).cells.length = 6 := TokD.cells_len rfl
  refine CondG.ff ?_
  conv=>whnf
  refine LoadNG.at (vs := uvs a) hal (.tl (.tl (.tl .all))) ?_
  conv=>whnf
  refine CallG.pure (isZero_spec _ a ha.len) ?_
  rintro _ _ ⟨rfl, rfl⟩
  conv=>whnf
  refine CondG.dec (fun h5 => ?_) (fun h5 => ?_)
  · have h5' : a = z4 := h5
    conv=>whnf
    refine ⟨_, (Ent.sel (T := []) (A := [_, _, _, _, _]) [1] rfl).trans (stP_more (m := n + 2) (by omega)), ?_, ?_⟩
    · rw [burnL, if_neg h1', em, if_neg h3', if_neg h4, if_neg h2, if_pos h5']; rfl
    · rw [burnL, if_neg h1', em, if_neg h3', if_neg h4, if_neg h2, if_pos h5']; rfl
  have h5' : ¬ a = z4 := h5
  conv=>whnf
  refine LoadNG.at (vs := ({ (runL V m).1 with sup := subL (runL V m).1.sup a } : TokD).cells) hl2 (.tl (.tl .all)) ?_
  conv=>whnf
  refine CallG.of (pre := [stP 127 s src find V n]) (rest := [cel b12 25 (uvs (subL (amtR (V (balKey m to))).1 a)), cel b9 44 ({ (runL V m).1 with sup := subL (runL V m).1.sup a } : TokD).cells, cel b7 25 (uvs a), cel b6 33 (bvs to)]) (layToken_at _ s src V n m hm { (runL V m).1 with sup := subL (runL V m).1.sup a } rfl (hs.left _) ho (by omega)) (Ent.sel (T := []) (A := [_, _, _, _, _]) [1, 0, 2, 3, 4] rfl) ?_
  rintro _ _ ⟨rfl, rfl⟩
  conv=>whnf
  refine CondG.ff ?_
  conv=>whnf
  refine LoadNG.at (vs := uvs (subL (amtR (V (balKey m to))).1 a)) rfl (.tl .all) ?_
  conv=>whnf
  refine CallG.of (pre := [stP 127 s src find (layTok V m { (runL V m).1 with sup := subL (runL V m).1.sup a }) (n + 1)]) (rest := [cel b12 25 (uvs (subL (amtR (V (balKey m to))).1 a)), cel b9 44 ({ (runL V m).1 with sup := subL (runL V m).1.sup a } : TokD).cells, cel b7 25 (uvs a), cel b6 33 (bvs to)]) (lay_at _ s src _ (n + 1) (balKey m to) _ rfl (hs.left _) ho (may_bal hto) hn) (Ent.refl _) ?_
  rintro _ _ ⟨rfl, rfl⟩
  conv=>whnf
  refine ⟨_, Ent.sel (T := []) (A := [_, _, _, _, _]) [0] rfl, ?_, ?_⟩
  · rw [burnL, if_neg h1', em, if_neg h3', if_neg h4, if_neg h2, if_neg h5']; rfl
  · rw [burnL, if_neg h1', em, if_neg h3', if_neg h4, if_neg h2, if_neg h5']; rfl
end
end Go.Proofs.YtnbcbdlbejdkpaaDoor
