import Derived.Test.YtjacolfhlfogkabGreatDoorGp
import Derived.Test.YtjacolfhlfogkabGreatDoorZLm
namespace Go.Proofs.YtjacolfhlfogkabGreatDoor
open Go Go.Sl
theorem add_run0 (x y : Nat) (w : World) : (extSem Tryz.prog 141 #[.int .u64 (x : Nat), .int .u64 (y : Nat), .int .u64 (0 : Nat)]).run Tryz.prog w = .ok (.tuple #[.int .u64 (((x + y + 0) % m64 : Nat) : Int), .int .u64 (((x + y + 0) / m64 : Nat) : Int)]) w := by kernel_rfl
theorem add_run1 (x y : Nat) (w : World) : (extSem Tryz.prog 141 #[.int .u64 (x : Nat), .int .u64 (y : Nat), .int .u64 (1 : Nat)]).run Tryz.prog w = .ok (.tuple #[.int .u64 (((x + y + 1) % m64 : Nat) : Int), .int .u64 (((x + y + 1) / m64 : Nat) : Int)]) w := by kernel_rfl
theorem add_run (x y c : Nat) (hc : c ≤ 1) (w : World) : (extSem Tryz.prog 141 #[.int .u64 x, .int .u64 y, .int .u64 c]).run Tryz.prog w = .ok (.tuple #[.int .u64 (((x + y + c) % m64 : Nat) : Int), .int .u64 (((x + y + c) / m64 : Nat) : Int)]) w := by
 have : c = 0 ∨ c = 1 := by omega
 rcases this with rfl | rfl
 ·exact add_run0 x y w
 ·exact add_run1 x y w
theorem uvs_at {a : List Nat} {i : Nat} (h : i < a.length) : (uvs a)[i]? = some (.int .u64 (a.getD i 0)) := by
 simp [uvs, uv, h]
def addR (a b : List Nat) : List Nat × Int := if m256 ≤ nat4 a + nat4 b then (z4, 22) else (addL a b, 0)
theorem add_spec (F : List HP) (a b : List Nat) (ha : wOk a) (hb : wOk b) : SpecF Tryz.prog 105 [.agg ⟨uvs a⟩, .agg ⟨uvs b⟩] F [] (fun r L => r = .tuple #[.agg ⟨uvs (addR a b).1⟩, .int .i64 (addR a b).2] ∧ L = []) := by
 have la := ha.len
 have lb := hb.len
 refine fun105.spec rfl ?_
 conv=>whnf
 intro b2
 conv=>whnf
 intro b3
 conv=>whnf
 intro b4
 conv=>whnf
 intro b6
 conv=>whnf
 refine LoopG.mk (fun mm e L => ∃ i, i ≤ 4 ∧ mm = 4 - i ∧ e = [(2, .pointer (some ⟨b2, 0, none⟩)), (3, .pointer (some ⟨b3, 0, none⟩)), (4, .pointer (some ⟨b4, 0, none⟩)), (6, .pointer (some ⟨b6, 0, none⟩)), (7, .int .u64 (sumC a b i)), (9, .int .i64 i)] ∧
  L = [cel b6 38 (uvs (outA (sumO a b) i)), cel b4 38 (uvs z4), cel b3 38 (uvs b), cel b2 38 (uvs a)]) 4
  [(2, .pointer (some ⟨b2, 0, none⟩)), (3, .pointer (some ⟨b3, 0, none⟩)), (4, .pointer (some ⟨b4, 0, none⟩)), (6, .pointer (some ⟨b6, 0, none⟩)), (7, .int .u64 (sumC a b 0)), (9, .int .i64 0)] _ ⟨rfl, rfl, rfl, rfl, rfl, rfl, trivial⟩ (Ent.refl _) ⟨0, by omega, rfl, rfl, rfl⟩ ?_
 rintro mm e L ⟨i, hi, rfl, rfl, rfl⟩
 conv=>whnf
 refine CondG.dec (fun h => ?_) (fun h => ?_)
 ·have hi4 : i < 4 := by omega
  have hc1 := sumC_le ha hb i
  conv=>whnf
  refine DrawG.mk 15 [cel b4 38 (uvs z4), cel b3 38 (uvs b), cel b2 38 (uvs a)] [cel b6 38 (uvs (outA (sumO a b) i))] (Ent.refl _) ?_
  conv=>whnf
  refine .take 0 ?_
  conv=>whnf
  refine ⟨rfl, ?_⟩
  conv=>whnf
  refine .take 1 ?_
  conv=>whnf
  refine ⟨rfl, ?_⟩
  conv=>whnf
  refine .take 2 ?_
  conv=>whnf
  refine ⟨rfl, ?_⟩
  conv=>whnf
  refine SideG.of (by omega) ?_
  conv=>whnf
  refine .take 3 ?_
  conv=>whnf
  refine ⟨rfl, ?_⟩
  conv=>whnf
  refine LoadG.at (v := .int .u64 (a.getD i 0)) (.tl (.tl (.here (by rw [show 0 + ((i : Nat) : Int).toNat * 1 = i by omega]; exact uvs_at (by omega))))) ?_
  conv=>whnf
  refine .take 4 ?_
  conv=>whnf
  refine ⟨rfl, ?_⟩
  conv=>whnf
  refine .take 5 ?_
  conv=>whnf
  refine ⟨rfl, ?_⟩
  conv=>whnf
  refine SideG.of (by omega) ?_
  conv=>whnf
  refine .take 6 ?_
  conv=>whnf
  refine ⟨rfl, ?_⟩
  conv=>whnf
  refine LoadG.at (v := .int .u64 (b.getD i 0)) (.tl (.here (by rw [show 0 + ((i : Nat) : Int).toNat * 1 = i by omega]; exact uvs_at (by omega)))) ?_
  conv=>whnf
  refine .take 7 ?_
  conv=>whnf
  refine ⟨rfl, ?_⟩
  conv=>whnf
  refine .all ?_
  conv=>whnf
  refine ⟨by decide, ?_⟩
  conv=>whnf
  refine ⟨fun w hs => ⟨_, _, w, add_run _ _ _ hc1 w, Ext.refl w, hs, ?_⟩⟩
  conv=>whnf
  refine .take 9 ?_
  conv=>whnf
  refine ⟨rfl, ?_⟩
  conv=>whnf
  refine .take 10 ?_
  conv=>whnf
  refine ⟨rfl, ?_⟩
  conv=>whnf
  refine .take 11 ?_
  conv=>whnf
  refine ⟨rfl, ?_⟩
  conv=>whnf
  refine .take 12 ?_
  conv=>whnf
  refine ⟨rfl, ?_⟩
  conv=>whnf
  refine SideG.of (by omega) ?_
  conv=>whnf
  refine .all ?_
  conv=>whnf
  refine ⟨by decide, ?_⟩
  conv=>whnf
  refine StoreG.at (cs := [_]) rfl (Upd.here (by rw [uvs_len, outA_len]; omega) rfl) ?_
  conv=>whnf
  refine .take 14 ?_
  conv=>whnf
  refine ⟨rfl, ?_⟩
  conv=>whnf
  refine ⟨rfl, ?_⟩
  conv=>whnf
  refine ArithG.i64 (by omega) ?_
  conv=>whnf
  have ex : (uvs (outA (sumO a b) i)).set i (.int .u64 (sumO a b i)) = uvs (outA (sumO a b) (i + 1)) := by
   rw [← outA_set (sumO a b) hi4]
   simp [uvs, uv, List.map_set]
  refine ⟨4 - (i + 1), _, [cel b6 38 (uvs (outA (sumO a b) (i + 1))), cel b4 38 (uvs z4), cel b3 38 (uvs b), cel b2 38 (uvs a)], by omega, ?_, ?_, i + 1, by omega, rfl, rfl, rfl⟩
  ·exact ⟨rfl, rfl, rfl, rfl, rfl, rfl, trivial⟩
  ·rw [← ex]
   rw [show 0 + ((i : Nat) : Int).toNat * 1 = i by omega]
   exact Ent.refl _
 obtain rfl : i = 4 := by omega
 conv=>whnf
 refine CondG.dec (fun h1 => ?_) (fun h1 => ?_)
 ·have hm : m256 ≤ nat4 a + nat4 b := (sum_carry ha hb).1 (by omega)
  conv=>whnf
  refine BuildG.of rfl ?_
  conv=>whnf
  refine StoreG.at rfl (Upd.tl (Upd.whole rfl (uvs_one z4))) ?_
  conv=>whnf
  refine LoadNG.at (vs := uvs z4) rfl (.tl .all) ?_
  conv=>whnf
  refine ⟨[], Ent.nil _, ?_, rfl⟩
  rw [addR, if_pos hm]
  rfl
 ·have hm : ¬ m256 ≤ nat4 a + nat4 b := fun h => by
   have := (sum_carry ha hb).2 h
   omega
  have ho := sum_out ha hb (by omega)
  conv=>whnf
  refine LoadNG.at (vs := uvs (outA (sumO a b) 4)) (by rw [uvs_len, outA_len]) .all ?_
  conv=>whnf
  refine StoreG.at (by rw [uvs_len, outA_len]) (Upd.tl (Upd.whole (by rw [uvs_len, outA_len]; rfl) (uvs_one _))) ?_
  conv=>whnf
  refine LoadNG.at (vs := uvs (outA (sumO a b) 4)) (by rw [uvs_len, outA_len]) (.tl .all) ?_
  conv=>whnf
  refine ⟨[], Ent.nil _, ?_, rfl⟩
  rw [addR, if_neg hm, addL, ← ho]
  rfl
theorem wread_no (F : List HP) (v : Value) (bs : List Nat) (hb : bs.length ≠ 32) (hv : RdS F v bs.length (bvs bs)) : SpecF Tryz.prog 114 [v] F [] (fun r L => r = .tuple #[.agg ⟨uvs z4⟩, .int .i64 20] ∧ L = []) := by
 refine fun114.spec rfl ?_
 conv=>whnf
 intro b2
 conv=>whnf
 intro b4
 conv=>whnf
 refine LenG.rd hv ?_
 conv=>whnf
 refine CondG.ndec (fun h => ?_) (fun h => absurd (show bs.length = 32 by omega) hb)
 conv=>whnf
 refine LoadNG.at (vs := uvs z4) rfl .all ?_
 conv=>whnf
 refine StoreG.at rfl (Upd.tl (Upd.whole rfl (uvs_one z4))) ?_
 conv=>whnf
 refine LoadNG.at (vs := uvs z4) rfl (.tl .all) ?_
 conv=>whnf
 exact ⟨[], Ent.nil _, rfl, rfl⟩
theorem tokenKey_spec (F : List HP) (t : Nat) (ht : t < 64) : SpecF Tryz.prog 113 [.int .i64 t] F [] (fun r L => r = .string (tokKey t) ∧ L = []) := by
 refine fun113.spec rfl ?_
 conv=>whnf
 refine ArithG.u8 (by omega) ?_
 conv=>whnf
 refine BuildG.of rfl ?_
 conv=>whnf
 intro b5
 conv=>whnf
 refine DoesG.toStr (e := 5) (bs := [116, t]) (by kernel_rfl) (by kernel_rfl) (by kernel_rfl) (.mk _ _ _ _ _ (by simp) (.left .all F)) rfl ?_
 conv=>whnf
 exact ⟨[], Ent.nil _, rfl, rfl⟩
theorem balanceKey_spec (F : List HP) (t : Nat) (ht : t < 64) (a : List Nat) (ha : a.length = 20) : SpecF Tryz.prog 106 [.int .i64 t, .agg ⟨bvs a⟩] F [] (fun r L => r = .string (balKey t a) ∧ L = []) := by
 refine fun106.spec rfl ?_
 conv=>whnf
 intro b3
 conv=>whnf
 refine ArithG.u8 (by omega) ?_
 conv=>whnf
 refine BuildG.of (cs := [.int .u8 98, .int .u8 t]) rfl ?_
 conv=>whnf
 intro b7
 conv=>whnf
 refine SideG.of (by decide) ?_
 conv=>whnf
 refine SliceG.zero ?_
 conv=>whnf
 refine DoesG.ent (own_of_cel (n := 2) (sz := 1) rfl (by decide)) ?_
 refine app_own bytesT 97 (m := 20) (ys := bvs a) (.mk _ _ _ _ _ (by decide) (.tl (.left .all F))) (by rw [bvs_len, ha]) (bvs_one _) (by decide) (by decide) fun r hr hl _ => ?_
 conv=>whnf
 have e : [Value.int .u8 98, .int .u8 t] ++ bvs a = bvs (98 :: t :: a) := rfl
 rw [e] at hl ⊢
 refine DoesG.toStr (e := 5) (bs := 98 :: t :: a) (by kernel_rfl) (by kernel_rfl) (by kernel_rfl) (.left (own_rd hr hl) F) (by simp [ha]) ?_
 conv=>whnf
 exact ⟨[], Ent.nil _, rfl, rfl⟩
theorem begun_spec (F : List HP) (s : Nat) (t : Int) : SpecF Tryz.prog 112 [.pointer (some ⟨s, 0, none⟩), .int .i64 t] F [] (fun r L => r = .int .i64 (begE t) ∧ L = []) := by
 refine fun112.spec rfl ?_
 (conv=>whnf);refine .ff ?_;(conv=>whnf)
 refine CondG.dec (fun h1 => ?_) (fun h1 => ?_)
 ·(conv=>whnf);refine .tt ?_;(conv=>whnf);refine .tt ?_;(conv=>whnf);refine .tt ?_;(conv=>whnf)
  refine ret_here ⟨?_, rfl⟩
  rw [begE, if_pos (.inl h1)]
  rfl
 (conv=>whnf);refine .ff ?_;(conv=>whnf);refine .ff ?_;(conv=>whnf)
 refine CondG.dec (fun h2 => ?_) (fun h2 => ?_)
 ·conv=>whnf
  refine ret_here ⟨?_, rfl⟩
  rw [begE, if_pos (.inr h2)]
  rfl
 conv=>whnf
 refine ret_here ⟨?_, rfl⟩
 rw [begE, if_neg (by omega)]
 rfl
end Go.Proofs.YtjacolfhlfogkabGreatDoor
namespace Go.Proofs.YtjacolfhlfogkabGreatDoor
open Go Go.Sl
section
variable {find : ByteArray → List Nat × Int}
end
end Go.Proofs.YtjacolfhlfogkabGreatDoor
namespace Go.Proofs.YtjacolfhlfogkabGreatDoor
open Go Go.Sl
section
variable {find : ByteArray → List Nat × Int}
theorem sup_at (d : TokD) : (d.cells.drop 2).take (uvs d.sup).length = uvs d.sup := by simp [TokD.cells]
theorem z4_len : z4.length = 4 := rfl
end
end Go.Proofs.YtjacolfhlfogkabGreatDoor
namespace Go.Proofs.YtjacolfhlfogkabGreatDoor
open Go Go.Sl
section
variable {find : ByteArray → List Nat × Int}
theorem set_sup {d : TokD} {ws : List Nat} (h : d.sup.length = 4) (hw : ws.length = 4) : d.cells.take 2 ++ uvs ws ++ d.cells.drop (2 + (uvs ws).length) = ({ d with sup := ws } : TokD).cells := by
 have e : d.cells = [.bool d.there, .bool d.paused] ++ (uvs d.sup ++ []) := by simp [TokD.cells]
 have h2 := splice (A := [.bool d.there, .bool d.paused]) (B := uvs d.sup) (B' := uvs ws) (C := []) (o := 2) (n := (uvs ws).length) rfl (by rw [uvs_len, uvs_len, h, hw])
 rw [e, h2]
 simp [TokD.cells]
theorem addR_ok {a b : List Nat} : (addR a b).1.length = 4 := by
 unfold addR
 split
 ·rfl
 ·rfl
theorem addL_ok (a b : List Nat) : wOk (addL a b) := w4_ok _
theorem addR_no {a b : List Nat} (h : m256 ≤ nat4 a + nat4 b) : addR a b = (z4, 22) := by rw [addR, if_pos h]
theorem addR_yes {a b : List Nat} (h : ¬ m256 ≤ nat4 a + nat4 b) : addR a b = (addL a b, 0) := by rw [addR, if_neg h]
end
end Go.Proofs.YtjacolfhlfogkabGreatDoor
