import Derived.Test.YtjacolfhlfogkabGreatDoorWa
import Derived.Test.YtjacolfhlfogkabGreatDoorR7
import Derived.Test.YtjacolfhlfogkabGreatDoorLz
import Derived.Test.YtjacolfhlfogkabGreatDoorZKp
namespace Go.Proofs.YtjacolfhlfogkabGreatDoor
open Go Go.Sl
theorem zero2_spec (F : List HP) (ws : List Nat) (hw : ws.length = 4) : SpecF Tryz.prog 120 [.agg ⟨uvs ws⟩] F [] (fun r L => r = .bool (decide (ws = z4)) ∧ L = []) := by
 refine fun120.spec rfl ?_
 conv=>whnf
 intro b
 conv=>whnf
 refine LoadNG.at (vs := uvs ws) (by simp [uvs, hw]) .all ?_
 conv=>whnf
 refine BuildG.of rfl ?_
 conv=>whnf
 refine DoesG.eqv 4 (List.replicate 4 (.int .u64)) (by kernel_rfl) (by decide) (by kernel_rfl) (by kernel_rfl) (wt_uvs hw) (wt_uvs (ws := z4) rfl) ?_
 conv=>whnf
 exact ⟨[], Ent.nil _, congrArg Value.bool (decide_eq_decide.2 (uvs_inj (m := z4))), rfl⟩
theorem first8_spec (F : List HP) (s : Nat) (t : Int) : SpecF Tryz.prog 125 [.pointer (some ⟨s, 0, none⟩), .int .i64 t] F [] (fun r L => r = .int .i64 (begE t) ∧ L = []) := by
 refine fun125.spec rfl ?_
 (conv=>whnf);refine .ff ?_;(conv=>whnf)
 refine CondG.dec (fun h1 => ?_) (fun h1 => ?_)
 ·(conv=>whnf);refine .tt ?_;(conv=>whnf);refine .tt ?_;(conv=>whnf);refine .tt ?_;(conv=>whnf)
  refine ret_here ⟨?_, rfl⟩
  rw [begE, if_pos (.inl h1)]
  rfl
 (conv=>whnf);refine .ff ?_;(conv=>whnf);refine .ff ?_;(conv=>whnf)
 refine CondG.dec (fun h2 => ?_) (fun h2 => ?_)
 ·conv=>whnf
  refine ret_here ⟨?_, rfl⟩
  rw [begE, if_pos (.inr h2)]
  rfl
 conv=>whnf
 refine ret_here ⟨?_, rfl⟩
 rw [begE, if_neg (by omega)]
 rfl
theorem tokenKey8_spec (F : List HP) (t : Nat) (ht : t < 64) : SpecF Tryz.prog 126 [.int .i64 t] F [] (fun r L => r = .string (tokKey t) ∧ L = []) := by
 refine fun126.spec rfl ?_
 conv=>whnf
 refine ArithG.u8 (by omega) ?_
 conv=>whnf
 refine BuildG.of (cs := bvs [t]) rfl ?_
 conv=>whnf
 intro b5
 conv=>whnf
 refine DoesG.toStr (e := 5) (bs := [t]) (by kernel_rfl) (by kernel_rfl) (by kernel_rfl) (.mk _ _ _ _ _ (by simp) (.left .all F)) rfl ?_
 conv=>whnf
 refine DoesG.cat (by rw [strB_size]; show 1 + 1 ≤ _; decide) ?_
 conv=>whnf
 exact ⟨[], Ent.nil _, rfl, rfl⟩
theorem balanceKey8_spec (F : List HP) (t : Nat) (ht : t < 64) (a : List Nat) (ha : a.length = 20) : SpecF Tryz.prog 119 [.int .i64 t, .agg ⟨bvs a⟩] F [] (fun r L => r = .string (balKey t a) ∧ L = []) := by
 have ek : ((⟨#[98]⟩ : ByteArray) ++ strB [t]) ++ strB a = balKey t a := by
  rw [show (⟨#[98]⟩ : ByteArray) = strB [98] from rfl, strB_app, strB_app]
  rfl
 refine fun119.spec rfl ?_
 conv=>whnf
 intro b3
 conv=>whnf
 refine DrawG.mk 9 [cel b3 35 (bvs a)] [] (Ent.refl _) ?_
 conv=>whnf
 refine .take 0 ?_
 conv=>whnf
 refine ⟨rfl, ?_⟩
 conv=>whnf
 refine .take 1 ?_
 conv=>whnf
 refine ⟨rfl, ?_⟩
 conv=>whnf
 refine ArithG.u8 (by omega) ?_
 conv=>whnf
 refine .take 5 ?_
 conv=>whnf
 refine ⟨rfl, ?_⟩
 conv=>whnf
 refine SideG.of (by decide) ?_
 conv=>whnf
 refine SliceG.zero ?_
 conv=>whnf
 refine .all ?_
 conv=>whnf
 refine ⟨by decide, ?_⟩
 conv=>whnf
 repeat' (first
  | ((with_reducible refine And.intro ?_ ?_) <;> (conv=>whnf))
  | (refine BuildG.of (cs := bvs [t]) rfl ?_; (conv=>whnf); intro b7; (conv=>whnf))
  | (refine DoesG.toStr (e := 5) (bs := a) (by kernel_rfl) (by kernel_rfl) (by kernel_rfl) (.mk _ _ _ _ _ (by decide) (.right (.left .all F) _)) (by simp [ha]) ?_; (conv=>whnf))
  | (refine DoesG.toStr (e := 5) (bs := [t]) (by kernel_rfl) (by kernel_rfl) (by kernel_rfl) (.mk _ _ _ _ _ (by decide) (.left .all _)) (by simp [ha]) ?_; (conv=>whnf))
  | (refine DoesG.cat (by simp [strB_size, ha, ByteArray.size_append]; decide) ?_; (conv=>whnf))
  | (refine .all ?_; (conv=>whnf); refine ⟨by decide, ?_⟩; (conv=>whnf))
  | rfl
  | exact ⟨[], Ent.nil _, congrArg Value.string ek, rfl⟩)
theorem read2_no (F : List HP) (v : Value) (bs : List Nat) (hb : bs.length ≠ 32) (hv : RdS F v bs.length (bvs bs)) : SpecF Tryz.prog 94 [v] F [] (fun r L => r = .tuple #[.agg ⟨uvs z4⟩, .int .i64 20] ∧ L = []) := by
 refine fun94.spec rfl ?_
 conv=>whnf
 intro b2
 conv=>whnf
 intro b4
 conv=>whnf
 refine LenG.rd hv ?_
 conv=>whnf
 refine CondG.ndec (fun h => ?_) (fun h => absurd (by omega) hb)
 conv=>whnf
 refine LoadNG.at (vs := uvs z4) rfl .all ?_
 conv=>whnf
 refine StoreG.at rfl (Upd.tl (Upd.whole rfl (uvs_one z4))) ?_
 conv=>whnf
 refine LoadNG.at (vs := uvs z4) rfl (.tl .all) ?_
 conv=>whnf
 exact ⟨[], Ent.nil _, rfl, rfl⟩
theorem read2_spec (F : List HP) (v : Value) (bs : List Nat) (hb : bs.length = 32) (hv : RdS F v 32 (bvs bs)) (hby : ∀ b ∈ bs, b < 256) : SpecF Tryz.prog 94 [v] F [] (fun r L => r = .tuple #[.agg ⟨uvs (wordsN bs)⟩, .int .i64 0] ∧ L = []) := by
 rw [words_le hb hby]
 have hby' : ∀ b ∈ bs.reverse, b < 256 := fun b h => hby b (List.mem_reverse.1 h)
 have hrl : bs.reverse.length = 32 := by rw [List.length_reverse, hb]
 refine fun94.spec rfl ?_
 conv=>whnf
 intro b2
 conv=>whnf
 intro b4
 conv=>whnf
 refine LenG.rd hv ?_
 conv=>whnf
 refine CondG.nff ?_
 conv=>whnf
 refine LoopG.mk (fun m e L => ∃ i, i ≤ 32 ∧ m = 32 - i ∧ e = [(0, v), (2, .pointer (some ⟨b2, 0, none⟩)), (4, .pointer (some ⟨b4, 0, none⟩)), (5, .int .i64 i)] ∧
  L = [cel b4 38 (uvs (w4 (leN (bs.reverse.take i)))), cel b2 38 (uvs z4)]) 32
  [(0, v), (2, .pointer (some ⟨b2, 0, none⟩)), (4, .pointer (some ⟨b4, 0, none⟩)), (5, .int .i64 0)] _ ⟨rfl, rfl, rfl, rfl, trivial⟩ (Ent.refl _) ⟨0, by omega, rfl, rfl, by rw [List.take_zero, show leN [] = 0 from rfl, w4z]; rfl⟩ ?_
 rintro m e L ⟨i, hi, rfl, rfl, rfl⟩
 conv=>whnf
 refine CondG.dec (fun h => ?_) (fun h => ?_)
 ·have hlt : i < 32 := by omega
  have hq : (i : Int).tdiv 8 = ((i / 8 : Nat) : Int) := rfl
  have hm : (i : Int).tmod 8 = ((i % 8 : Nat) : Int) := rfl
  have hbt : ∀ b ∈ bs.reverse.take i, b < 256 := fun b h => hby' b (List.mem_of_mem_take h)
  have hN : leN (bs.reverse.take i) < 256 ^ i := by
   have := leN_lt hbt
   rwa [List.length_take, Nat.min_eq_left (by omega)] at this
  obtain ⟨c, hc⟩ : ∃ c, c = bs[31 - i]'(by omega) := ⟨_, rfl⟩
  have hcb : c < 256 := by rw [hc]; exact hby _ (List.getElem_mem _)
  have hrc : bs.reverse[i]'(by omega) = c := by
   rw [hc, List.getElem_reverse]
   congr 1
   omega
  have hst : leN (bs.reverse.take (i + 1)) = leN (bs.reverse.take i) + 256 ^ i * c := by
   rw [List.take_succ_eq_append_getElem (by omega), leN_snoc, List.length_take, Nat.min_eq_left (by omega), hrc]
  obtain ⟨hx, hstep⟩ := w4_byte hN hlt hcb
  rw [← hst] at hstep
  have hp8 : 256 ^ (i % 8) = 2 ^ (8 * (i % 8)) := by rw [Nat.pow_mul]
  have hA : 256 ^ (i % 8) ≤ 256 ^ 7 := Nat.pow_le_pow_right (by decide) (by omega)
  conv=>whnf
  refine DrawG.mk 17 [cel b4 38 (uvs (w4 (leN (bs.reverse.take i)))), cel b2 38 (uvs z4)] [] (Ent.refl _) ?_
  conv=>whnf
  refine .take 0 ?_
  conv=>whnf
  refine ⟨rfl, ?_⟩
  conv=>whnf
  refine .take 1 ?_
  conv=>whnf
  refine ⟨rfl, ?_⟩
  conv=>whnf
  refine SideG.of (by decide) ?_
  refine ArithG.i64' ((i / 8 : Nat) : Int) hq (by omega) ?_
  conv=>whnf
  refine .take 2 ?_
  conv=>whnf
  refine ⟨rfl, ?_⟩
  conv=>whnf
  refine .take 3 ?_
  conv=>whnf
  refine ⟨rfl, ?_⟩
  conv=>whnf
  refine SideG.of (by decide) ?_
  refine ArithG.i64' ((i / 8 : Nat) : Int) hq (by omega) ?_
  conv=>whnf
  refine .take 4 ?_
  conv=>whnf
  refine ⟨rfl, ?_⟩
  conv=>whnf
  refine SideG.of (by omega) ?_
  conv=>whnf
  refine .take 5 ?_
  conv=>whnf
  refine ⟨rfl, ?_⟩
  conv=>whnf
  refine LoadG.at (v := .int .u64 ((w4 (leN (bs.reverse.take i))).getD (i / 8) 0)) (.here (by rw [show 0 + ((i / 8 : Nat) : Int).toNat * 1 = i / 8 by omega]; exact uvs_at (by rw [w4_len]; omega))) ?_
  conv=>whnf
  refine .take 6 ?_
  conv=>whnf
  refine ⟨rfl, ?_⟩
  conv=>whnf
  refine .take 7 ?_
  conv=>whnf
  refine ⟨rfl, ?_⟩
  conv=>whnf
  refine .take 8 ?_
  conv=>whnf
  refine ⟨rfl, ?_⟩
  conv=>whnf
  refine ArithG.i64' ((31 - i : Nat) : Int) (by omega) (by omega) ?_
  conv=>whnf
  refine .take 9 ?_
  conv=>whnf
  refine ⟨rfl, ?_⟩
  conv=>whnf
  refine IdxG.rd hv (by omega) fun cb o hcc => ?_
  conv=>whnf
  refine .take 10 ?_
  conv=>whnf
  refine ⟨rfl, ?_⟩
  conv=>whnf
  refine LoadG.atG (v := bv c) ((hcc.one (i := ((31 - i : Nat) : Int).toNat * 1) (by rw [Int.toNat_natCast, Nat.mul_one, hc]; exact bvs_get (by omega))).right _) ?_
  conv=>whnf
  refine .take 11 ?_
  conv=>whnf
  refine ⟨rfl, ?_⟩
  conv=>whnf
  refine ArithG.u64 (by omega) ?_
  conv=>whnf
  refine .take 12 ?_
  conv=>whnf
  refine ⟨rfl, ?_⟩
  conv=>whnf
  refine .take 13 ?_
  conv=>whnf
  refine ⟨rfl, ?_⟩
  conv=>whnf
  refine SideG.of (by decide) ?_
  conv=>whnf
  rw [hm]
  refine .take 14 ?_
  conv=>whnf
  refine ⟨rfl, ?_⟩
  conv=>whnf
  refine ArithG.i64' ((8 * (i % 8) : Nat) : Int) (by omega) (by omega) ?_
  conv=>whnf
  refine .take 15 ?_
  conv=>whnf
  refine ⟨rfl, ?_⟩
  conv=>whnf
  refine SideG.of (by omega) ?_
  have hbA : c * 256 ^ (i % 8) ≤ 255 * 256 ^ 7 := Nat.mul_le_mul (by omega) hA
  have es : ((c : Nat) : Int) * 2 ^ (min (((8 * (i % 8) : Nat) : Int)).toNat IntKind.u64.bits) = ((c * 256 ^ (i % 8) : Nat) : Int) := by
   have e : min (((8 * (i % 8) : Nat) : Int)).toNat IntKind.u64.bits = 8 * (i % 8) := by
    rw [Int.toNat_natCast]
    exact Nat.min_eq_left (by show _ ≤ 64; omega)
   rw [e, hp8]
   simp
  rw [es]
  refine ArithG.u64 (by omega) ?_
  conv=>whnf
  refine .take 16 ?_
  conv=>whnf
  refine ⟨rfl, ?_⟩
  conv=>whnf
  rw [u64_or (by omega) (by omega), hp8, or_add (by rw [← hp8]; exact hx), ← hp8]
  conv=>whnf
  refine .all ?_
  conv=>whnf
  refine ⟨by decide, ?_⟩
  conv=>whnf
  refine ⟨rfl, ?_⟩
  conv=>whnf
  refine SideG.of (by omega) ?_
  conv=>whnf
  refine .all ?_
  conv=>whnf
  refine ⟨by decide, ?_⟩
  conv=>whnf
  have eu : (uvs (w4 (leN (bs.reverse.take i)))).set (0 + ((i / 8 : Nat) : Int).toNat * 1) (.int .u64 ((w4 (leN (bs.reverse.take i))).getD (i / 8) 0 + c * 256 ^ (i % 8) : Nat)) = uvs (w4 (leN (bs.reverse.take (i + 1)))) := by
   rw [hstep, show 0 + ((i / 8 : Nat) : Int).toNat * 1 = i / 8 by omega]
   exact List.map_set.symm
  refine StoreG.at (cs := [_]) rfl (Upd.here (by rw [uvs_len, w4_len]; omega) rfl) ?_
  rw [eu]
  conv=>whnf
  refine ⟨rfl, ?_⟩
  conv=>whnf
  refine ArithG.i64' ((i + 1 : Nat) : Int) (by omega) (by omega) ?_
  conv=>whnf
  exact ⟨32 - (i + 1), [(0, v), (2, .pointer (some ⟨b2, 0, none⟩)), (4, .pointer (some ⟨b4, 0, none⟩)), (5, .int .i64 ((i + 1 : Nat) : Int))], _, by omega, ⟨rfl, rfl, rfl, rfl, trivial⟩, Ent.refl _, i + 1, by omega, rfl, rfl, rfl⟩
 ·obtain rfl : i = 32 := by omega
  rw [List.take_of_length_le (by omega)]
  conv=>whnf
  refine LoadNG.at (vs := uvs (w4 (leN bs.reverse))) rfl .all ?_
  conv=>whnf
  refine StoreG.at rfl (Upd.tl (Upd.whole rfl (uvs_one _))) ?_
  conv=>whnf
  refine LoadNG.at (vs := uvs (w4 (leN bs.reverse))) rfl (.tl .all) ?_
  conv=>whnf
  exact ⟨[], Ent.nil _, rfl, rfl⟩
theorem bytes2_spec (F : List HP) (ws : List Nat) (hw : wOk ws) : SpecF Tryz.prog 131 [.agg ⟨uvs ws⟩] F [] (fun r L => SlV r 32 ∧ L = [own 1 r 32 (bvs (wideB ws))]) := by
 have h32 := wide_len ws
 have h4 := hw.len
 refine fun131.spec rfl ?_
 conv=>whnf
 intro b1
 conv=>whnf
 refine DoesG.makeC (n := 32) (zv := .int .u8 0) bytesT (by kernel_rfl) rfl .i64 .i64 (by decide) (by decide) fun b3 => ?_
 conv=>whnf
 refine LoopG.mk (fun mm e L => ∃ i, i ≤ 32 ∧ mm = 32 - i ∧ e = [(1, .pointer (some ⟨b1, 0, none⟩)), (3, .slice (some ⟨b3, 0, none⟩) 32 32), (4, .int .i64 i)] ∧ L = [cel b3 5 (bvs (tailN (wideB ws) (32 - i))), cel b1 38 (uvs ws)]) 32
  [(1, .pointer (some ⟨b1, 0, none⟩)), (3, .slice (some ⟨b3, 0, none⟩) 32 32), (4, .int .i64 0)] _ ⟨rfl, rfl, rfl, trivial⟩ (Ent.refl _) ⟨0, by omega, rfl, rfl, by rw [show 32 - 0 = (wideB ws).length by rw [h32], tailN_all, h32]; rfl⟩ ?_
 rintro mm e L ⟨i, hi, rfl, rfl, rfl⟩
 conv=>whnf
 refine CondG.dec (fun h1 => ?_) (fun h1 => ?_)
 ·have hlt : i < 32 := by omega
  have hq : (i : Int).tdiv 8 = ((i / 8 : Nat) : Int) := rfl
  have hm : (i : Int).tmod 8 = ((i % 8 : Nat) : Int) := rfl
  have hx := getD_lt hw (i / 8)
  conv=>whnf
  refine ArithG.i64' ((31 - i : Nat) : Int) (by omega) (by omega) ?_
  conv=>whnf
  refine SideG.of (by decide) ?_
  refine ArithG.i64' ((i / 8 : Nat) : Int) hq (by omega) ?_
  conv=>whnf
  refine SideG.of (by omega) ?_
  conv=>whnf
  refine LoadG.at (v := .int .u64 (ws.getD (i / 8) 0)) (.tl (.here (by rw [show 0 + ((i / 8 : Nat) : Int).toNat * 1 = i / 8 by omega]; exact uvs_at (by omega)))) ?_
  conv=>whnf
  refine SideG.of (by decide) ?_
  conv=>whnf
  rw [hm]
  refine ArithG.i64' ((8 * (i % 8) : Nat) : Int) (by omega) (by omega) ?_
  conv=>whnf
  refine SideG.of (by omega) ?_
  have hp8 : 256 ^ (i % 8) = 2 ^ (8 * (i % 8)) := by rw [Nat.pow_mul]
  obtain ⟨X, hX⟩ : ∃ X, X = ws.getD (i / 8) 0 / 256 ^ (i % 8) := ⟨_, rfl⟩
  have es : ((ws.getD (i / 8) 0 : Nat) : Int).fdiv (2 ^ (min (((8 * (i % 8) : Nat) : Int)).toNat IntKind.u64.bits)) = (X : Int) := by
   have e : min (((8 * (i % 8) : Nat) : Int)).toNat IntKind.u64.bits = 8 * (i % 8) := by
    rw [Int.toNat_natCast]
    exact Nat.min_eq_left (by show _ ≤ 64; omega)
   rw [e, Int.fdiv_eq_ediv_of_nonneg _ (Int.pow_nonneg (by decide)), hX, hp8]
   simp
  rw [es]
  conv=>whnf
  refine ArithG.all ?_
  have ew : IntKind.u8.wrap (X : Int) = ((X % 256 : Nat) : Int) := by
   show (X : Int) % 256 = _
   omega
  rw [ew]
  conv=>whnf
  refine ⟨b3, 0, 32, 32, rfl, by omega, ?_⟩
  conv=>whnf
  have hg := wideB_get ws (i := i / 8) (k := i % 8) (by omega) (by omega)
  rw [show 8 * (i / 8) + i % 8 = i by omega] at hg
  have hget : (wideB ws)[31 - i]'(by omega) = X % 256 := by
   rw [(List.getElem?_eq_some_iff.1 hg).2, hX]
  refine StoreG.at (cs := [_]) rfl (Upd.here (by rw [bvs_len, tailN_len (by omega), h32]; omega) rfl) ?_
  have eu : (bvs (tailN (wideB ws) (32 - i))).set (0 + ((31 - i : Nat) : Int).toNat * 1) (.int .u8 ((X % 256 : Nat) : Int)) = bvs (tailN (wideB ws) (32 - (i + 1))) := by
   rw [show 0 + ((31 - i : Nat) : Int).toNat * 1 = 31 - i by omega, ← hget, show 32 - i = 31 - i + 1 by omega, show 32 - (i + 1) = 31 - i by omega]
   exact tailN_set (by omega)
  rw [eu]
  conv=>whnf
  refine ArithG.i64' ((i + 1 : Nat) : Int) (by omega) (by omega) ?_
  conv=>whnf
  exact ⟨32 - (i + 1), [(1, .pointer (some ⟨b1, 0, none⟩)), (3, .slice (some ⟨b3, 0, none⟩) 32 32), (4, .int .i64 ((i + 1 : Nat) : Int))], _, by omega, ⟨rfl, rfl, rfl, trivial⟩, Ent.refl _, i + 1, by omega, rfl, rfl, rfl⟩
 ·obtain rfl : i = 32 := by omega
  rw [Nat.sub_self, tailN_zero]
  conv=>whnf
  refine ⟨_, (own_of_cel (n := 32) (sz := 1) (by rw [bvs_len, h32]) (by decide)).trans (Ent.sel (T := []) (A := [_, _]) [0] rfl), .inr ⟨_, _, rfl, by decide⟩, rfl⟩
end Go.Proofs.YtjacolfhlfogkabGreatDoor
namespace Go.Proofs.YtjacolfhlfogkabGreatDoor
open Go Go.Sl
def DocF (F : List HP) (hv nv : Value) (part : Bool) (find : SrcF) : Prop :=
 SrcF.bytes find ∧ ∃ (hs : List PairD) (no : List NoD), (∀ k, mayI k 0 = 0 → find k = refF (hs.map PairD.e) no part k) ∧ RdS F hv hs.length (pairsC hs) ∧ hs.length ≤ 4611686018427387904 ∧ (∀ p ∈ hs, RdS F p.v p.bs.length (bvs p.bs)) ∧ RdS F nv no.length (noC no) ∧ no.length ≤ 4611686018427387904
theorem DocF.left {F : List HP} {hv nv : Value} {part : Bool} {find : SrcF} (h : DocF F hv nv part find) (L : List HP) : DocF (L ++ F) hv nv part find := by
 obtain ⟨h0, hs, no, h1, h2, h3, h4, h5, h6⟩ := h
 exact ⟨h0, hs, no, h1, h2.right L, h3, fun p hp => (h4 p hp).right L, h5.right L, h6⟩
theorem may_zero {key : ByteArray} {n : Nat} (h : mayI key n = 0) : mayI key 0 = 0 := by
 unfold mayI at h ⊢
 split at h
 ·cases h
 ·rename_i h1
  rw [if_neg h1, if_neg (by omega)]
section
variable {find : SrcF} {hv nv : Value} {part : Bool}
theorem get7_p (F : List HP) (s : Nat) (R : RSt) (key : ByteArray) (hd : DocF F hv nv part find) (hl : Lim R 1) :
 SpecF Tryz.prog 92 [.pointer (some ⟨s, 0, none⟩), .string key] F [refR 83 s hv part nv R] (fun r L => ∃ x, SlV x (gtQ find R key).1.1.length ∧ r = .tuple #[x, .int .i64 (gtQ find R key).1.2] ∧ L = [own 1 x (gtQ find R key).1.1.length (bvs (gtQ find R key).1.1), refR 83 s hv part nv (gtQ find R key).2]) := by
 obtain ⟨_, hs, no, hf, h2, h3, h4, h5, h6⟩ := hd
 have a := hl.told
 have b := hl.steps
 have e : gtQ find R key = getQ (refF (hs.map PairD.e) no part key) R key := by
  unfold gtQ
  by_cases h : mayI key 0 = 0
  ·rw [hf key h]
  ·unfold getQ; rw [if_pos h, if_pos h]
 rw [e]
 exact get7_spec F s hv part nv hs no h2 h3 h4 h5 h6 (by omega) (by omega) key
theorem put7_p (F : List HP) (s : Nat) (R : RSt) (key : ByteArray) (v : Value) (bs : List Nat) (hd : DocF F hv nv part find) (hr : RdS F v bs.length (bvs bs)) (hl : Lim R 1) :
 SpecF Tryz.prog 88 [.pointer (some ⟨s, 0, none⟩), .string key, v] F [refR 83 s hv part nv R] (fun r L => r = .int .i64 (ptQ find R key bs).1 ∧ L = [refR 83 s hv part nv (ptQ find R key bs).2]) := by
 obtain ⟨_, hs, no, hf, h2, h3, h4, h5, h6⟩ := hd
 have a := hl.told
 have b := hl.steps
 have e : ptQ find R key bs = putQ (refF (hs.map PairD.e) no part key) R key bs := by
  unfold ptQ
  by_cases h : mayI key bs.length = 0
  ·rw [hf key (may_zero h)]
  ·unfold putQ; rw [if_pos h, if_pos h]
 rw [e]
 exact put7s_spec F s hv part nv hs no h2 h3 h4 h5 h6 (by omega) (by omega) key v bs hr
theorem asked8_q (F : List HP) (s : Nat) (R : RSt) (key : ByteArray) (hd : DocF F hv nv part find) (hl : Lim R 1) :
 SpecF Tryz.prog 118 [.pointer (some ⟨s, 0, none⟩), .string key] F [refR 83 s hv part nv R] (fun r L => r = .tuple #[.agg ⟨uvs (amtQ find R key).1.1⟩, .int .i64 (amtQ find R key).1.2] ∧ L = [refR 83 s hv part nv (amtQ find R key).2]) := by
 refine fun118.spec rfl ?_
 conv=>whnf
 intro b4
 conv=>whnf
 refine CallG.of (pre := [refR 83 s hv part nv R]) (rest := [cel b4 38 (uvs z4)]) (get7_p _ s R key (hd.left _) hl) (Ent.perm (List.Perm.swap _ _ _)) ?_
 rintro _ _ ⟨x, hx, rfl, rfl⟩
 obtain ⟨g, hg⟩ : ∃ g, g = gtQ find R key := ⟨_, rfl⟩
 have ha : amtQ find R key = amtOf g := by rw [hg]; rfl
 rw [ha]
 have hgb := (hl.get hd.1 key).2
 rw [← hg] at hx hgb ⊢
 conv=>whnf
 refine CondG.ndec (fun he => ?_) (fun he => ?_)
 ·conv=>whnf
  refine BuildG.of rfl ?_
  conv=>whnf
  refine StoreG.at rfl (Upd.tl (Upd.tl (Upd.whole rfl (uvs_one z4)))) ?_
  conv=>whnf
  refine LoadNG.at (vs := uvs z4) rfl (.tl (.tl .all)) ?_
  conv=>whnf
  refine ⟨_, Ent.sel (T := []) (A := [_, _, _]) [1] rfl, ?_⟩
  unfold amtOf
  rw [if_pos he]
  exact ⟨rfl, rfl⟩
 have hao : amtOf g = (amtR g.1.1, g.2) := by unfold amtOf; rw [if_neg (fun h => h he)]
 rw [hao]
 conv=>whnf
 refine LenG.sl hx ?_
 conv=>whnf
 refine CondG.dec (fun h => ?_) (fun h => ?_)
 ·have e : g.1.1 = [] := List.eq_nil_of_length_eq_zero (by omega)
  conv=>whnf
  refine BuildG.of rfl ?_
  conv=>whnf
  refine StoreG.at rfl (Upd.tl (Upd.tl (Upd.whole rfl (uvs_one z4)))) ?_
  conv=>whnf
  refine LoadNG.at (vs := uvs z4) rfl (.tl (.tl .all)) ?_
  conv=>whnf
  refine ⟨_, Ent.sel (T := []) (A := [_, _, _]) [1] rfl, ?_, rfl⟩
  rw [e]
  rfl
 have hne : g.1.1 ≠ [] := fun e => h (by rw [e]; rfl)
 by_cases h32 : g.1.1.length = 32
 ·have hx32 : SlV x 32 := by rw [← h32]; exact hx
  conv=>whnf
  refine CallG.pure (read2_spec _ x g.1.1 h32 (.left (by rw [h32]; exact own_rd hx32 (by rw [bvs_len, h32])) F) hgb) ?_
  rintro _ _ ⟨rfl, rfl⟩
  have hwl := wordsN_len g.1.1
  conv=>whnf
  intro b8
  conv=>whnf
  refine StoreG.at (by rw [uvs_len, hwl]) (Upd.whole (by rw [uvs_len, hwl]; rfl) (uvs_one _)) ?_
  conv=>whnf
  refine CondG.ff ?_
  conv=>whnf
  refine LoadNG.at (vs := uvs (wordsN g.1.1)) (by rw [uvs_len, hwl]) .all ?_
  (conv=>whnf);refine .ff ?_;(conv=>whnf)
  refine CallG.pure (zero2_spec _ (wordsN g.1.1) hwl) ?_
  rintro _ _ ⟨rfl, rfl⟩
  (conv=>whnf);refine .ff ?_;(conv=>whnf)
  refine CondG.dec (fun hz => ?_) (fun hz => ?_)
  ·conv=>whnf
   refine BuildG.of rfl ?_
   conv=>whnf
   refine StoreG.at rfl (Upd.tl (Upd.tl (Upd.tl (Upd.whole rfl (uvs_one z4))))) ?_
   conv=>whnf
   refine LoadNG.at (vs := uvs z4) rfl (.tl (.tl (.tl .all))) ?_
   conv=>whnf
   refine ⟨_, Ent.sel (T := []) (A := [_, _, _, _]) [2] rfl, ?_, rfl⟩
   rw [amtR, if_neg hne, if_neg (fun hh => hh.2 hz)]
   rfl
  ·conv=>whnf
   refine LoadNG.at (vs := uvs (wordsN g.1.1)) (by rw [uvs_len, hwl]) .all ?_
   conv=>whnf
   refine StoreG.at (by rw [uvs_len, hwl]) (Upd.tl (Upd.tl (Upd.tl (Upd.whole (by rw [uvs_len, hwl]; rfl) (uvs_one _))))) ?_
   conv=>whnf
   refine LoadNG.at (vs := uvs (wordsN g.1.1)) (by rw [uvs_len, hwl]) (.tl (.tl (.tl .all))) ?_
   conv=>whnf
   refine ⟨_, Ent.sel (T := []) (A := [_, _, _, _]) [2] rfl, ?_, rfl⟩
   rw [amtR, if_neg hne, if_pos ⟨h32, hz⟩]
   rfl
 ·conv=>whnf
  refine CallG.pure (read2_no _ x g.1.1 h32 (.left (own_rd hx (by rw [bvs_len, Nat.mul_one])) F)) ?_
  rintro _ _ ⟨rfl, rfl⟩
  conv=>whnf
  intro b8
  conv=>whnf
  refine StoreG.at rfl (Upd.whole rfl (uvs_one z4)) ?_
  conv=>whnf
  refine CondG.tt ?_
  (conv=>whnf);refine .tt ?_;(conv=>whnf);refine .tt ?_;(conv=>whnf);refine .tt ?_;(conv=>whnf)
  refine BuildG.of rfl ?_
  conv=>whnf
  refine StoreG.at rfl (Upd.tl (Upd.tl (Upd.tl (Upd.whole rfl (uvs_one z4))))) ?_
  conv=>whnf
  refine LoadNG.at (vs := uvs z4) rfl (.tl (.tl (.tl .all))) ?_
  conv=>whnf
  refine ⟨_, Ent.sel (T := []) (A := [_, _, _, _]) [2] rfl, ?_, rfl⟩
  rw [amtR, if_neg hne, if_neg (fun hh => h32 hh.1)]
  rfl
theorem lay8_q (F : List HP) (s : Nat) (R : RSt) (key : ByteArray) (a : List Nat) (ha : wOk a) (hd : DocF F hv nv part find) (hl : Lim R 1) :
 SpecF Tryz.prog 121 [.pointer (some ⟨s, 0, none⟩), .string key, .agg ⟨uvs a⟩] F [refR 83 s hv part nv R] (fun r L => r = .int .i64 (layQ find R key a).1 ∧ L = [refR 83 s hv part nv (layQ find R key a).2]) := by
 have hal : (uvs a).length = 4 := by rw [uvs_len, ha.len]
 refine fun121.spec rfl ?_
 conv=>whnf
 intro b5
 conv=>whnf
 refine LoadNG.at (vs := uvs a) hal .all ?_
 conv=>whnf
 refine CallG.pure (zero2_spec _ a ha.len) ?_
 rintro _ _ ⟨rfl, rfl⟩
 conv=>whnf
 refine CondG.dec (fun hz => ?_) (fun hz => ?_)
 ·conv=>whnf
  refine CallG.of (pre := [refR 83 s hv part nv R]) (rest := [cel b5 38 (uvs a)]) (put7_p _ s R key (.slice none 0 0) [] (hd.left _) .nil hl) (Ent.perm (List.Perm.swap _ _ _)) ?_
  rintro _ _ ⟨rfl, rfl⟩
  conv=>whnf
  refine ⟨_, Ent.sel (T := []) (A := [_, _]) [0] rfl, ?_⟩
  rw [layQ, amtB, if_pos (show a = z4 from hz)]
  exact ⟨rfl, rfl⟩
 ·conv=>whnf
  refine LoadNG.at (vs := uvs a) hal .all ?_
  conv=>whnf
  refine CallG.pure (bytes2_spec _ a ha) ?_
  rintro r _ ⟨hr, rfl⟩
  have hwl := wide_len a
  conv=>whnf
  refine CallG.of (pre := [refR 83 s hv part nv R]) (rest := [own 1 r 32 (bvs (wideB a)), cel b5 38 (uvs a)]) (put7_p _ s R key r (wideB a) (hd.left _) (by rw [hwl]; exact .left (own_rd hr (by rw [bvs_len, hwl])) _) hl) (Ent.sel (T := []) (A := [_, _, _]) [2, 0, 1] rfl) ?_
  rintro _ _ ⟨rfl, rfl⟩
  conv=>whnf
  refine ⟨_, Ent.sel (T := []) (A := [_, _, _]) [0] rfl, ?_⟩
  rw [layQ, amtB, if_neg (show ¬ a = z4 from hz)]
  exact ⟨rfl, rfl⟩
theorem layToken8_q (F : List HP) (s : Nat) (R : RSt) (t : Nat) (ht : t < 64) (is : Bool) (sup : List Nat) (hd4 : wOk sup) (hd : DocF F hv nv part find) (hl : Lim R 1) :
 SpecF Tryz.prog 95 [.pointer (some ⟨s, 0, none⟩), .int .i64 t, .bool is, .agg ⟨uvs sup⟩] F [refR 83 s hv part nv R] (fun r L => r = .int .i64 (layTokQ find R t ⟨true, is, sup⟩).1 ∧ L = [refR 83 s hv part nv (layTokQ find R t ⟨true, is, sup⟩).2]) := by
 have hsl : (uvs sup).length = 4 := by rw [uvs_len, hd4.len]
 have hwl := wide_len sup
 have htl := tokB_len ⟨true, is, sup⟩
 refine fun95.spec rfl ?_
 conv=>whnf
 intro b5
 conv=>whnf
 refine BuildG.of (cs := bvs [1]) rfl ?_
 conv=>whnf
 intro b9
 conv=>whnf
 have key : ∀ (f : Nat), f = (if is then 3 else 1) → bvs [f] ++ bvs (wideB sup) = bvs (tokB ⟨true, is, sup⟩) := fun f hf => by
  rw [hf]; rfl
 refine CondG.split (fun hp => ?_) (fun hp => ?_)
 ·conv=>whnf
  refine ⟨b9, 0, 1, 1, rfl, by decide, ?_⟩
  conv=>whnf
  refine StoreG.at (cs := [_]) rfl (Upd.here (by rw [bvs_len]; decide) rfl) ?_
  rw [show (bvs [1]).set (0 + (0 : Int).toNat * 1) (Value.int .u8 3) = bvs [3] from rfl]
  conv=>whnf
  refine DrawG.mk 9 [cel b5 38 (uvs sup)] [cel b9 5 (bvs [_]), refR 83 s hv part nv R] (Ent.sel (T := []) (A := [_, _, _]) [0, 2, 1] rfl) ?_
  conv=>whnf
  refine .take 0 ?_
  conv=>whnf
  refine ⟨rfl, ?_⟩
  conv=>whnf
  refine .take 1 ?_
  conv=>whnf
  refine ⟨rfl, ?_⟩
  conv=>whnf
  refine .take 3 ?_
  conv=>whnf
  refine ⟨rfl, ?_⟩
  conv=>whnf
  refine .take 4 ?_
  conv=>whnf
  refine ⟨rfl, ?_⟩
  conv=>whnf
  refine LoadNG.at (vs := uvs sup) hsl .all ?_
  conv=>whnf
  refine .all ?_
  conv=>whnf
  refine ⟨by decide, ?_⟩
  conv=>whnf
  refine CallG.pure (tokenKey8_spec _ t ht) ?_
  rintro _ _ ⟨rfl, rfl⟩
  conv=>whnf
  refine .all ?_
  conv=>whnf
  refine ⟨by decide, ?_⟩
  conv=>whnf
  refine CallG.pure (bytes2_spec _ sup hd4) ?_
  rintro r _ ⟨hr, rfl⟩
  conv=>whnf
  refine .all ?_
  conv=>whnf
  refine ⟨by decide, ?_⟩
  conv=>whnf
  refine DoesG.ent (M := [cel b9 5 (bvs [_]), own 1 r 32 (bvs (wideB sup)), refR 83 s hv part nv R]) (Ent.sel (T := []) (A := [_, _, _]) [1, 0, 2] rfl) ?_
  refine DoesG.ent (own_of_cel (n := 1) (sz := 1) rfl (by decide)) ?_
  refine app_own bytesT 97 (m := 32) (ys := bvs (wideB sup)) (.tl (.left (own_rd hr (by rw [bvs_len, hwl])) _)) (by rw [bvs_len, hwl]) (bvs_one _) (by decide) (by decide) fun q hq hql _ => ?_
  rw [key _ (by rw [hp]; rfl)] at hql ⊢
  conv=>whnf
  refine .all ?_
  conv=>whnf
  refine ⟨by decide, ?_⟩
  conv=>whnf
  refine CallG.of (pre := [refR 83 s hv part nv R]) (rest := [own 1 q 33 (bvs (tokB ⟨true, is, sup⟩)), own 1 r 32 (bvs (wideB sup))]) (put7_p _ s R (tokKey t) q (tokB ⟨true, is, sup⟩) ((hd.left _).left _) (by rw [htl]; exact .left (own_rd hq hql) _) hl) (Ent.sel (T := []) (A := [_, _, _]) [2, 0, 1] rfl) ?_
  rintro _ _ ⟨rfl, rfl⟩
  conv=>whnf
  refine .take 8 ?_
  conv=>whnf
  refine ⟨rfl, ?_⟩
  conv=>whnf
  refine ⟨rfl, ?_⟩
  conv=>whnf
  exact ⟨_, Ent.sel (T := []) (A := [_, _, _, _]) [0] rfl, rfl, rfl⟩
 ·conv=>whnf
  refine DrawG.mk 9 [cel b5 38 (uvs sup)] [cel b9 5 (bvs [_]), refR 83 s hv part nv R] (Ent.sel (T := []) (A := [_, _, _]) [0, 2, 1] rfl) ?_
  conv=>whnf
  refine .take 0 ?_
  conv=>whnf
  refine ⟨rfl, ?_⟩
  conv=>whnf
  refine .take 1 ?_
  conv=>whnf
  refine ⟨rfl, ?_⟩
  conv=>whnf
  refine .take 3 ?_
  conv=>whnf
  refine ⟨rfl, ?_⟩
  conv=>whnf
  refine .take 4 ?_
  conv=>whnf
  refine ⟨rfl, ?_⟩
  conv=>whnf
  refine LoadNG.at (vs := uvs sup) hsl .all ?_
  conv=>whnf
  refine .all ?_
  conv=>whnf
  refine ⟨by decide, ?_⟩
  conv=>whnf
  refine CallG.pure (tokenKey8_spec _ t ht) ?_
  rintro _ _ ⟨rfl, rfl⟩
  conv=>whnf
  refine .all ?_
  conv=>whnf
  refine ⟨by decide, ?_⟩
  conv=>whnf
  refine CallG.pure (bytes2_spec _ sup hd4) ?_
  rintro r _ ⟨hr, rfl⟩
  conv=>whnf
  refine .all ?_
  conv=>whnf
  refine ⟨by decide, ?_⟩
  conv=>whnf
  refine DoesG.ent (M := [cel b9 5 (bvs [_]), own 1 r 32 (bvs (wideB sup)), refR 83 s hv part nv R]) (Ent.sel (T := []) (A := [_, _, _]) [1, 0, 2] rfl) ?_
  refine DoesG.ent (own_of_cel (n := 1) (sz := 1) rfl (by decide)) ?_
  refine app_own bytesT 97 (m := 32) (ys := bvs (wideB sup)) (.tl (.left (own_rd hr (by rw [bvs_len, hwl])) _)) (by rw [bvs_len, hwl]) (bvs_one _) (by decide) (by decide) fun q hq hql _ => ?_
  rw [key _ (by rw [hp]; rfl)] at hql ⊢
  conv=>whnf
  refine .all ?_
  conv=>whnf
  refine ⟨by decide, ?_⟩
  conv=>whnf
  refine CallG.of (pre := [refR 83 s hv part nv R]) (rest := [own 1 q 33 (bvs (tokB ⟨true, is, sup⟩)), own 1 r 32 (bvs (wideB sup))]) (put7_p _ s R (tokKey t) q (tokB ⟨true, is, sup⟩) ((hd.left _).left _) (by rw [htl]; exact .left (own_rd hq hql) _) hl) (Ent.sel (T := []) (A := [_, _, _]) [2, 0, 1] rfl) ?_
  rintro _ _ ⟨rfl, rfl⟩
  conv=>whnf
  refine .take 8 ?_
  conv=>whnf
  refine ⟨rfl, ?_⟩
  conv=>whnf
  refine ⟨rfl, ?_⟩
  conv=>whnf
  exact ⟨_, Ent.sel (T := []) (A := [_, _, _, _]) [0] rfl, rfl, rfl⟩
theorem token8_q (F : List HP) (s : Nat) (R : RSt) (t : Int) (hd : DocF F hv nv part find) (hl : Lim R 1) :
 SpecF Tryz.prog 73 [.pointer (some ⟨s, 0, none⟩), .int .i64 t] F [refR 83 s hv part nv R] (fun r L => r = .tuple #[.agg ⟨(tokenQ find R t).1.1.cells⟩, .int .i64 (tokenQ find R t).1.2] ∧ L = [refR 83 s hv part nv (tokenQ find R t).2]) := by
 refine fun73.spec rfl ?_
 conv=>whnf
 intro b4
 conv=>whnf
 refine CallG.pure (first8_spec _ s t) ?_
 rintro _ _ ⟨rfl, rfl⟩
 conv=>whnf
 refine CondG.ndec (fun h1 => ?_) (fun h1 => ?_)
 ·conv=>whnf
  refine BuildG.of rfl ?_
  conv=>whnf
  refine StoreG.at rfl (Upd.whole rfl (TokD.cells_one zTok)) ?_
  conv=>whnf
  refine LoadNG.at (vs := zTok.cells) rfl .all ?_
  conv=>whnf
  refine ⟨_, Ent.sel (T := []) (A := [_, _]) [1] rfl, ?_⟩
  rw [tokenQ, if_pos h1]
  exact ⟨rfl, rfl⟩
 obtain ⟨m, rfl, hm⟩ := begE_nat h1
 have et : tokenQ find R (m : Int) = tokOf (gtQ find R (tokKey m)) := by rw [tokenQ, if_neg (by rw [h1]; decide), Int.toNat_natCast]
 rw [et]
 conv=>whnf
 refine CallG.pure (tokenKey8_spec _ m hm) ?_
 rintro _ _ ⟨rfl, rfl⟩
 conv=>whnf
 refine CallG.of (pre := [refR 83 s hv part nv R]) (rest := [cel b4 61 zTok.cells]) (get7_p _ s R (tokKey m) (hd.left _) hl) (Ent.perm (List.Perm.swap _ _ _)) ?_
 rintro _ _ ⟨x, hx, rfl, rfl⟩
 obtain ⟨g, hg⟩ : ∃ g, g = gtQ find R (tokKey m) := ⟨_, rfl⟩
 have hgb := (hl.get hd.1 (tokKey m)).2
 rw [← hg] at hx hgb ⊢
 conv=>whnf
 refine CondG.ndec (fun he => ?_) (fun he => ?_)
 ·conv=>whnf
  refine BuildG.of rfl ?_
  conv=>whnf
  refine StoreG.at rfl (Upd.tl (Upd.tl (Upd.whole rfl (TokD.cells_one zTok)))) ?_
  conv=>whnf
  refine LoadNG.at (vs := zTok.cells) rfl (.tl (.tl .all)) ?_
  conv=>whnf
  refine ⟨_, Ent.sel (T := []) (A := [_, _, _]) [1] rfl, ?_⟩
  unfold tokOf
  rw [if_pos he]
  exact ⟨rfl, rfl⟩
 have hto : tokOf g = (tokR g.1.1, g.2) := by unfold tokOf; rw [if_neg (fun h => h he)]
 rw [hto]
 conv=>whnf
 refine LenG.sl hx ?_
 conv=>whnf
 refine CondG.dec (fun h => ?_) (fun h => ?_)
 ·have e : g.1.1 = [] := List.eq_nil_of_length_eq_zero (by omega)
  conv=>whnf
  refine BuildG.of rfl ?_
  conv=>whnf
  refine StoreG.at rfl (Upd.tl (Upd.tl (Upd.whole rfl (TokD.cells_one zTok)))) ?_
  conv=>whnf
  refine LoadNG.at (vs := zTok.cells) rfl (.tl (.tl .all)) ?_
  conv=>whnf
  refine ⟨_, Ent.sel (T := []) (A := [_, _, _]) [1] rfl, ?_, rfl⟩
  rw [e]
  rfl
 have hrd : RdS (own 1 x g.1.1.length (bvs g.1.1) :: ([refR 83 s hv part nv g.2, cel b4 61 zTok.cells] ++ F)) x g.1.1.length (bvs g.1.1) := own_rd hx (by rw [bvs_len, Nat.mul_one])
 generalize hV : g.1.1 = bs at *
 obtain ⟨b, r, rfl⟩ : ∃ b r, bs = b :: r := by
  cases bs with
  | nil => exact absurd rfl h
  | cons b r => exact ⟨b, r, rfl⟩
 have hlen : (b :: r).length = r.length + 1 := rfl
 have bad : ∀ (hb : ¬ (r.length = 32 ∧ (b = 1 ∨ b = 3))), tokR (b :: r) = (zTok, 75) := fun hb => by rw [tokR, if_neg hb]
 conv=>whnf
 refine LenG.sl hx ?_
 conv=>whnf
 refine CondG.ndec (fun h33 => ?_) (fun h33 => ?_)
 ·(conv=>whnf);refine .tt ?_;(conv=>whnf);refine .tt ?_;(conv=>whnf);refine .tt ?_;(conv=>whnf);refine .tt ?_;(conv=>whnf);refine .tt ?_;(conv=>whnf);refine .tt ?_;(conv=>whnf);refine .tt ?_;(conv=>whnf)
  refine BuildG.of rfl ?_
  conv=>whnf
  refine StoreG.at rfl (Upd.tl (Upd.tl (Upd.whole rfl (TokD.cells_one zTok)))) ?_
  conv=>whnf
  refine LoadNG.at (vs := zTok.cells) rfl (.tl (.tl .all)) ?_
  conv=>whnf
  refine ⟨_, Ent.sel (T := []) (A := [_, _, _]) [1] rfl, ?_, rfl⟩
  rw [bad (fun hb => h33 (by rw [hlen, hb.1]; rfl))]
  rfl
 have h32 : r.length = 32 := by omega
 have hwl := wordsN_len r
 have hwu : (uvs (wordsN r)).length = 4 := by rw [uvs_len, hwl]
 have hrb : ∀ c ∈ r, c < 256 := fun c hc => hgb c (List.mem_cons_of_mem _ hc)
 have right : (b = 1 ∨ b = 3) → tokR (b :: r) = (⟨true, decide (b = 3), wordsN r⟩, 0) := fun hb => by rw [tokR, if_pos ⟨h32, hb⟩]
 (conv=>whnf);refine .ff ?_;(conv=>whnf)
 refine IdxG.rd hrd (by omega) fun c o hc => ?_
 (conv=>whnf);refine .ff ?_;(conv=>whnf)
 refine LoadG.atG (v := bv b) (hc.one (i := 0) rfl) ?_
 (conv=>whnf);refine .ff ?_;(conv=>whnf);refine .ff ?_;(conv=>whnf)
 refine CondG.ndec (fun hb1 => ?_) (fun hb1 => ?_)
 (conv=>whnf);refine .tt ?_;(conv=>whnf)
 refine IdxG.rd hrd (by omega) fun c2 o2 hc2 => ?_
 (conv=>whnf);refine .tt ?_;(conv=>whnf)
 refine LoadG.atG (v := bv b) (hc2.one (i := 0) rfl) ?_
 (conv=>whnf);repeat((with_reducible first|refine .tt ?_|refine .ff ?_);conv=>whnf)
 refine CondG.ndec (fun hb3 => ?_) (fun hb3 => ?_)
 ·conv=>whnf
  refine BuildG.of rfl ?_
  conv=>whnf
  refine StoreG.at rfl (Upd.tl (Upd.tl (Upd.whole rfl (TokD.cells_one zTok)))) ?_
  conv=>whnf
  refine LoadNG.at (vs := zTok.cells) rfl (.tl (.tl .all)) ?_
  conv=>whnf
  refine ⟨_, Ent.sel (T := []) (A := [_, _, _]) [1] rfl, ?_, rfl⟩
  rw [bad (fun hb => by omega)]
  rfl
 rw [right (by omega)]
 rotate_left
 rw [right (by omega)]
 all_goals
  (conv=>whnf);repeat((with_reducible first|refine .ff ?_);conv=>whnf)
  refine SlcG.rd hrd fun a cap hva hcap => ?_
  conv=>whnf
  refine SideG.of (by omega) ?_
  conv=>whnf
  refine SliceG.rd (by rw [← hva]; exact hrd) (by show 1 ≤ _; omega) (by omega) (by omega) (by omega) fun v1 hv1 _ => ?_
  have e1 : (((b :: r).length : Nat) : Int).toNat - (1 : Int).toNat = r.length := by show _ - 1 = _; omega
  have e2 : ((bvs (b :: r)).drop ((1 : Int).toNat * 1)).take (((((b :: r).length : Nat) : Int).toNat - (1 : Int).toNat) * 1) = bvs r := by
   rw [e1]
   show ((bvs (b :: r)).drop 1).take _ = _
   show (bvs r).take _ = _
   rw [List.take_of_length_le (by rw [bvs_len]; omega)]
  rw [e2, e1] at hv1
  conv=>whnf
  refine CallG.pure (read2_spec _ v1 r h32 (by rw [← h32]; exact hv1) hrb) ?_
  rintro _ _ ⟨rfl, rfl⟩
  conv=>whnf
  intro b9
  conv=>whnf
  refine StoreG.at hwu (Upd.whole (by rw [hwu]; rfl) (uvs_one _)) ?_
  have hrd2 := RdS.tl (p := cel b9 38 (uvs (wordsN r))) hrd
  conv=>whnf
  refine DrawG.mk 6 [cel b9 38 (uvs (wordsN r)), own 1 x (b :: r).length (bvs (b :: r)), refR 83 s hv part nv g.2, cel b4 61 zTok.cells] [] (Ent.refl _) ?_
  conv=>whnf
  refine .take 0 ?_
  conv=>whnf
  refine ⟨rfl, ?_⟩
  conv=>whnf
  refine .take 1 ?_
  conv=>whnf
  refine ⟨rfl, ?_⟩
  conv=>whnf
  refine IdxG.rd hrd2 (by omega) fun c2 o2 hc2 => ?_
  conv=>whnf
  refine .take 2 ?_
  conv=>whnf
  refine ⟨rfl, ?_⟩
  conv=>whnf
  refine LoadG.atG (v := bv b) (hc2.one (i := 0) rfl) ?_
  conv=>whnf
  refine .take 3 ?_
  conv=>whnf
  refine ⟨rfl, ?_⟩
  conv=>whnf
  refine .take 4 ?_
  conv=>whnf
  refine ⟨rfl, ?_⟩
  conv=>whnf
  refine LoadNG.at (vs := uvs (wordsN r)) hwu .all ?_
  conv=>whnf
  refine .take 5 ?_
  conv=>whnf
  refine ⟨rfl, ?_⟩
  conv=>whnf
  have ed : decide (((b : Nat) : Int) = 3) = decide (b = 3) := by
   by_cases h3 : b = 3
   ·subst h3; rfl
   ·have : ¬ (b : Int) = 3 := by omega
    simp [h3, this]
  rw [ed]
  refine BuildG.of (cs := (TokD.mk true (decide (b = 3)) (wordsN r)).cells) (by simp [fillL, Value.cells, hwu, TokD.cells]) ?_
  conv=>whnf
  refine .all ?_
  conv=>whnf
  refine ⟨by decide, ?_⟩
  conv=>whnf
  refine ⟨rfl, ?_⟩
  conv=>whnf
  refine StoreG.at (TokD.cells_len hwl) (Upd.tl (Upd.tl (Upd.tl (Upd.whole (by rw [TokD.cells_len hwl]; rfl) (TokD.cells_one _))))) ?_
  conv=>whnf
  refine .all ?_
  conv=>whnf
  refine ⟨by decide, ?_⟩
  conv=>whnf
  refine ⟨rfl, ?_⟩
  conv=>whnf
  refine LoadNG.at (vs := (TokD.mk true (decide (b = 3)) (wordsN r)).cells) (TokD.cells_len hwl) (.tl (.tl (.tl .all))) ?_
  conv=>whnf
  exact ⟨_, Ent.sel (T := []) (A := [_, _, _, _]) [2] rfl, rfl, rfl⟩
def thrQ (find : SrcF) (R : RSt) (t : Int) (run : Bool) : (TokD × Int) × RSt := if run then runQ find R t else thereQ find R t
theorem there8_q (F : List HP) (s : Nat) (R : RSt) (t : Int) (run : Bool) (hd : DocF F hv nv part find) (hl : Lim R 1) :
 SpecF Tryz.prog 96 [.pointer (some ⟨s, 0, none⟩), .int .i64 t, .bool run] F [refR 83 s hv part nv R] (fun r L => ∃ d : TokD, wOk d.sup ∧ r = .tuple #[.agg ⟨d.cells⟩, .int .i64 (thrQ find R t run).1.2] ∧ ((thrQ find R t run).1.2 = 0 → d = (thrQ find R t run).1.1) ∧ L = [refR 83 s hv part nv (thrQ find R t run).2]) := by
 have hst : (thrQ find R t run).2 = (tokenQ find R t).2 := by cases run <;> rfl
 have hok := tokenQ_ok find R t
 have hl1 : (tokenQ find R t).1.1.cells.length = 6 := TokD.cells_len hok.len
 rw [hst]
 refine fun96.spec rfl ?_
 conv=>whnf
 intro b6
 conv=>whnf
 refine CallG.of (pre := [refR 83 s hv part nv R]) (rest := [cel b6 61 zTok.cells]) (token8_q _ s R t (hd.left _) hl) (Ent.perm (List.Perm.swap _ _ _)) ?_
 rintro _ _ ⟨rfl, rfl⟩
 conv=>whnf
 intro b8
 conv=>whnf
 refine StoreG.at hl1 (Upd.whole (by rw [hl1]; rfl) (TokD.cells_one _)) ?_
 conv=>whnf
 obtain ⟨x, hx⟩ : ∃ x, x = tokenQ find R t := ⟨_, rfl⟩
 have ht0 := tokenQ_there find R t
 have hth : thrQ find R t run = if run then runOf (thereOf x) else thereOf x := by rw [hx]; rfl
 rw [hth]
 rw [← hx] at hok hl1 ht0 ⊢
 clear hst hth hx
 refine CondG.ndec (fun h1 => ?_) (fun h1 => ?_)
 ·conv=>whnf
  refine LoadNG.at (vs := x.1.1.cells) hl1 .all ?_
  conv=>whnf
  refine StoreG.at hl1 (Upd.tl (Upd.tl (Upd.whole (by rw [hl1]; rfl) (TokD.cells_one _)))) ?_
  conv=>whnf
  refine LoadNG.at (vs := x.1.1.cells) hl1 (.tl (.tl .all)) ?_
  conv=>whnf
  have e : (if run then runOf (thereOf x) else thereOf x).1.2 = x.1.2 := by
   have h2 : thereOf x = ((zTok, x.1.2), x.2) := by unfold thereOf; rw [if_pos h1]
   rw [h2]
   unfold runOf
   cases run
   ·rfl
   ·simp [h1]
  rw [e]
  exact ⟨_, Ent.sel (T := []) (A := [_, _, _]) [1] rfl, _, hok, rfl, fun h => absurd h h1, rfl⟩
 conv=>whnf
 refine LoadG.at (v := .bool x.1.1.there) (.here rfl) ?_
 conv=>whnf
 have h10 : ¬ x.1.2 ≠ 0 := fun h => h h1
 refine CondG.split (fun h2 => ?_) (fun h2 => ?_)
 ·have hf : x.1.1.there = false := by simpa using h2
  have hz := ht0.1 hf
  conv=>whnf
  refine LoadNG.at (vs := x.1.1.cells) hl1 .all ?_
  conv=>whnf
  refine StoreG.at hl1 (Upd.tl (Upd.tl (Upd.whole (by rw [hl1]; rfl) (TokD.cells_one _)))) ?_
  conv=>whnf
  refine LoadNG.at (vs := x.1.1.cells) hl1 (.tl (.tl .all)) ?_
  conv=>whnf
  have e : (if run then runOf (thereOf x) else thereOf x).1.2 = 81 := by
   have h3 : thereOf x = ((zTok, 81), x.2) := by unfold thereOf; rw [if_neg h10, if_pos hz]
   rw [h3]
   cases run <;> rfl
  rw [e]
  exact ⟨_, Ent.sel (T := []) (A := [_, _, _]) [1] rfl, _, hok, rfl, fun h => absurd h (by decide), rfl⟩
 have hz : ¬ x.1.1 = zTok := fun e => by rw [e] at h2; exact absurd h2 (by decide)
 have h3 : thereOf x = x := by unfold thereOf; rw [if_neg h10, if_neg hz]
 rw [h3]
 refine CondG.split (fun h4 => ?_) (fun h4 => ?_)
 ·rw [if_pos h4]
  (conv=>whnf);refine .tt ?_;(conv=>whnf)
  refine LoadG.at (v := .bool x.1.1.paused) (.here rfl) ?_
  (conv=>whnf);refine .tt ?_;(conv=>whnf)
  refine CondG.split (fun h5 => ?_) (fun h5 => ?_)
  ·have e : (runOf x).1.2 = 83 := by unfold runOf; rw [if_pos ⟨h1, h5⟩]
   conv=>whnf
   refine LoadNG.at (vs := x.1.1.cells) hl1 .all ?_
   conv=>whnf
   refine StoreG.at hl1 (Upd.tl (Upd.tl (Upd.whole (by rw [hl1]; rfl) (TokD.cells_one _)))) ?_
   conv=>whnf
   refine LoadNG.at (vs := x.1.1.cells) hl1 (.tl (.tl .all)) ?_
   conv=>whnf
   rw [e]
   exact ⟨_, Ent.sel (T := []) (A := [_, _, _]) [1] rfl, _, hok, rfl, fun h => absurd h (by decide), rfl⟩
  ·have e : runOf x = x := by unfold runOf; rw [if_neg (fun h => by rw [h5] at h; exact absurd h.2 (by decide))]
   rw [e]
   conv=>whnf
   refine LoadNG.at (vs := x.1.1.cells) hl1 .all ?_
   conv=>whnf
   refine StoreG.at hl1 (Upd.tl (Upd.tl (Upd.whole (by rw [hl1]; rfl) (TokD.cells_one _)))) ?_
   conv=>whnf
   refine LoadNG.at (vs := x.1.1.cells) hl1 (.tl (.tl .all)) ?_
   conv=>whnf
   rw [h1]
   exact ⟨_, Ent.sel (T := []) (A := [_, _, _]) [1] rfl, _, hok, rfl, fun _ => rfl, rfl⟩
 ·rw [if_neg (by rw [h4]; decide)]
  (conv=>whnf);refine .ff ?_;(conv=>whnf);refine .ff ?_;(conv=>whnf);refine .ff ?_;(conv=>whnf)
  refine LoadNG.at (vs := x.1.1.cells) hl1 .all ?_
  conv=>whnf
  refine StoreG.at hl1 (Upd.tl (Upd.tl (Upd.whole (by rw [hl1]; rfl) (TokD.cells_one _)))) ?_
  conv=>whnf
  refine LoadNG.at (vs := x.1.1.cells) hl1 (.tl (.tl .all)) ?_
  conv=>whnf
  rw [h1]
  exact ⟨_, Ent.sel (T := []) (A := [_, _, _]) [1] rfl, _, hok, rfl, fun _ => rfl, rfl⟩
end
end Go.Proofs.YtjacolfhlfogkabGreatDoor
