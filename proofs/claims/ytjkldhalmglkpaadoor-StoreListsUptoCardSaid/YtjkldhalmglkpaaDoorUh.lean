import Derived.Test.YtjkldhalmglkpaaDoorSd
import Derived.Test.YtjkldhalmglkpaaDoorZGr
import Derived.Test.YtjkldhalmglkpaaDoorZCh
namespace Go.Proofs.YtjkldhalmglkpaaDoor
open Go Go.Sl Go.Sort
theorem bytes_same7 (F : List HP) (va vb : Value) (a b : List Nat) (ha : RdS F va a.length (bvs a)) (hb : RdS F vb b.length (bvs b)) :
 SpecF Tryd.prog 17 [va, vb] F [] (fun r L => r = .bool (decide (strB a = strB b)) ∧ L = []) := by
 refine fun17.spec rfl ?_
 conv=>whnf
 refine DoesG.toStr (e := 5) (bs := a) (by kernel_rfl) (by kernel_rfl) (by kernel_rfl) (.right ha []) rfl ?_
 conv=>whnf
 refine DoesG.toStr (e := 5) (bs := b) (by kernel_rfl) (by kernel_rfl) (by kernel_rfl) (.right hb []) rfl ?_
 conv=>whnf
 exact ret_here ⟨rfl, rfl⟩
theorem RdS.take {L : List HP} {a : Option Addr} {n c k : Nat} {cs : List Value} (h : RdS L (.slice a n c) n cs) (hk : k ≤ n) (hl : cs.length = n) : RdS L (.slice a k c) k (cs.take k) := by
 cases h with
 | nil =>
  obtain rfl : k = 0 := by omega
  exact .nil
 | zero a =>
  obtain rfl : k = 0 := by omega
  exact .zero a _
 | mk b o n _ cs hn h =>
  refine .mk b o k _ _ (by omega) fun w hs j u hj => ?_
  rw [List.getElem?_take] at hj
  split at hj
  ·exact h w hs j u hj
  ·cases hj
theorem put_mid {A zs : List Value} {i : Nat} {u : Value} (hA : A.length = i) : (A ++ zs.drop i).take i ++ [u] ++ (A ++ zs.drop i).drop (i + 1) = (A ++ [u]) ++ zs.drop (i + 1) := by
 rw [List.take_left' hA]
 congr 1
 rw [List.drop_append, hA, List.drop_eq_nil_of_le (by omega), List.nil_append, List.drop_drop]
 congr 1
 omega
def lentB (bs : List Nat) : List Nat := bs ++ List.replicate 40 201
theorem lentB_len (bs : List Nat) : (lentB bs).length = bs.length + 40 := by simp [lentB]
theorem lent_spec (F : List HP) (v : Value) (bs : List Nat) (hv : RdS F v bs.length (bvs bs)) (hl : bs.length ≤ 140737488355328) : SpecF Tryd.prog 27 [v] F [] (fun r L => SlV r (bs.length + 40) ∧ L = [own 1 r (bs.length + 40) (bvs (lentB bs))]) := by
 obtain ⟨va, vc, rfl⟩ := hv.len
 refine fun27.spec rfl ?_
 conv=>whnf
 refine LenG.lit ?_
 conv=>whnf
 refine ArithG.i64' ((bs.length + 40 : Nat) : Int) (by omega) (by omega) ?_
 conv=>whnf
 refine DoesG.makeG (n := bs.length + 40) bytesT .i64 .i64 (by omega) (by simp only [maxLen]; omega) fun b zs hz => ?_
 conv=>whnf
 have hz2 : (zs.drop bs.length).length = 40 := by rw [List.length_drop]; omega
 refine DoesG.copyS (o := 0) (cs := bvs bs) bytesT.und (by kernel_rfl) (.tl (.right hv _)) (bvs_len bs) (by omega) (by omega) (bvs_one _) (cur' := bvs bs ++ zs.drop bs.length) (by
  rw [List.take_zero, List.nil_append, Nat.zero_add]) ?_
 conv=>whnf
 refine LenG.lit ?_
 conv=>whnf
 refine LoopG.mk (fun m ev L => ∃ (j : Nat), j ≤ 40 ∧ m = 40 - j ∧
  ev = [(0, .slice va bs.length vc), (3, .slice (some ⟨b, 0, none⟩) (bs.length + 40) (bs.length + 40)), (4, .int .i64 ((bs.length + j : Nat) : Int))] ∧ L = [cel b 5 (bvs (bs ++ List.replicate j 201) ++ zs.drop (bs.length + j))]) 40
  [(0, .slice va bs.length vc), (3, .slice (some ⟨b, 0, none⟩) (bs.length + 40) (bs.length + 40)), (4, .int .i64 ((bs.length : Nat) : Int))] _ ⟨rfl, rfl, rfl, trivial⟩ (Ent.refl _) ⟨0, by omega, rfl, rfl, by simp⟩ ?_
 rintro m ev L ⟨j, hj, rfl, rfl, rfl⟩
 conv=>whnf
 refine LenG.lit ?_
 conv=>whnf
 refine CondG.dec (fun hlt => ?_) (fun hlt => ?_)
 ·have hj2 : j < 40 := by omega
  conv=>whnf
  refine ⟨b, 0, _, _, rfl, by omega, ?_⟩
  conv=>whnf
  refine StoreG.at rfl (Upd.hereN (vs := [.int .u8 201]) (cs' := bvs (bs ++ List.replicate (j + 1) 201) ++ zs.drop (bs.length + (j + 1))) (by simp [bvs_len, List.length_drop]; omega) (by simp [Value.oneCell']) ?_) ?_
  ·have e : 0 + ((bs.length + j : Nat) : Int).toNat * 1 = bs.length + j := by omega
   rw [e, List.length_singleton, put_mid (by simp [bvs_len]), ← List.replicate_append_replicate]
   simp [bvs, bv, Nat.add_assoc]
  conv=>whnf
  refine ArithG.i64' ((bs.length + (j + 1) : Nat) : Int) (by omega) (by omega) ?_
  conv=>whnf
  exact ⟨40 - (j + 1), [(0, .slice va bs.length vc), (3, .slice (some ⟨b, 0, none⟩) (bs.length + 40) (bs.length + 40)), (4, .int .i64 ((bs.length + (j + 1) : Nat) : Int))], _, by omega, ⟨rfl, rfl, rfl, trivial⟩, Ent.refl _, j + 1, by omega, rfl, rfl, rfl⟩
 ·obtain rfl : j = 40 := by omega
  conv=>whnf
  refine ⟨_, ?_, .inr ⟨b, bs.length + 40, rfl, Nat.le_refl _⟩, rfl⟩
  have e : zs.drop (bs.length + 40) = [] := List.drop_eq_nil_of_le (by omega)
  rw [e, List.append_nil]
  exact own_of_cel (n := bs.length + 40) (sz := 1) (by rw [bvs_len]; simp) (by simp only [maxLen]; omega)
theorem kept_spec (F : List HP) (v u : Value) (bs : List Nat) (hv : RdS F v (bs.length + 40) (bvs (lentB bs))) (hu : RdS F u bs.length (bvs bs)) (hl : bs.length ≤ 140737488355328) : SpecF Tryd.prog 29 [v, u] F [] (fun r L => r = .bool true ∧ L = []) := by
 obtain ⟨va, vc, rfl⟩ := hv.len
 obtain ⟨ua, uc, rfl⟩ := hu.len
 refine fun29.spec rfl ?_
 conv=>whnf
 refine LenG.lit ?_
 conv=>whnf
 refine LoopG.mk (fun m ev L => ∃ (j : Nat), j ≤ 40 ∧ m = 40 - j ∧
  ev = [(0, .slice va (bs.length + 40) vc), (1, .slice ua bs.length uc), (4, .bool false), (5, .int .i64 ((bs.length + j : Nat) : Int))] ∧ L = []) 40
  [(0, .slice va (bs.length + 40) vc), (1, .slice ua bs.length uc), (4, .bool false), (5, .int .i64 ((bs.length : Nat) : Int))] [] ⟨rfl, rfl, rfl, rfl, trivial⟩ (Ent.refl _) ⟨0, by omega, rfl, rfl, rfl⟩ ?_
 rintro m ev L ⟨j, hj, rfl, rfl, rfl⟩
 conv=>whnf
 refine LenG.lit ?_
 conv=>whnf
 refine CondG.dec (fun hlt => ?_) (fun hlt => ?_)
 ·have hj2 : j < 40 := by omega
  have hj3 : ((bs.length + j : Nat) : Int).toNat * 1 = bs.length + j := by omega
  have hg : (bvs (lentB bs))[((bs.length + j : Nat) : Int).toNat * 1]? = some (.int .u8 201) := by
   rw [hj3, bvs, List.getElem?_map, lentB, List.getElem?_append_right (by omega), List.getElem?_replicate, if_pos (by omega)]
   rfl
  conv=>whnf
  refine IdxG.rd hv (by omega) fun b o hc => ?_
  conv=>whnf
  refine LoadG.atF (hc.one hg) ?_
  conv=>whnf
  refine CondG.ndec (fun h => absurd rfl h) (fun _ => ?_)
  conv=>whnf
  refine ArithG.i64' ((bs.length + (j + 1) : Nat) : Int) (by omega) (by omega) ?_
  conv=>whnf
  exact ⟨40 - (j + 1), [(0, .slice va (bs.length + 40) vc), (1, .slice ua bs.length uc), (4, .bool false), (5, .int .i64 ((bs.length + (j + 1) : Nat) : Int))], _, by omega, ⟨rfl, rfl, rfl, rfl, trivial⟩, Ent.refl _, j + 1, by omega, rfl, rfl, rfl⟩
 ·obtain rfl : j = 40 := by omega
  have hcap : bs.length + 40 ≤ vc := by
   cases hv
   assumption
  conv=>whnf
  refine LenG.lit ?_
  conv=>whnf
  refine SlcG.lit ?_
  conv=>whnf
  refine SideG.of (by omega) ?_
  conv=>whnf
  refine SliceG.zero ?_
  conv=>whnf
  have h2 := RdS.take hv (k := bs.length) (by omega) (by rw [bvs_len, lentB_len])
  have e : (bvs (lentB bs)).take bs.length = bvs bs := by rw [bvs, ← List.map_take, lentB, List.take_left' rfl]; rfl
  rw [e] at h2
  refine CallG.pure (bytes_same7 _ _ _ bs bs (.right h2 _) (.right hu _)) ?_
  rintro _ _ ⟨rfl, rfl⟩
  conv=>whnf
  exact ret_here ⟨by show Value.bool (decide _) = _; simp, rfl⟩
def ivs (l : List Int) : List Value := l.map fun i => .int .u8 i
theorem ivs_len (l : List Int) : (ivs l).length = l.length := by simp [ivs]
theorem bvs_ivs (l : List Nat) : bvs l = ivs (l.map Int.ofNat) := by simp [bvs, ivs, bv]
theorem ivs_set {m : List Int} {i : Nat} {x : Int} (h : i < m.length) : (ivs m).take i ++ [.int .u8 x] ++ (ivs m).drop (i + 1) = ivs (m.set i x) := by
 rw [List.set_eq_take_append_cons_drop, if_pos h]
 simp [ivs]
theorem slv_pos {v : Value} {n : Nat} (h : SlV v n) (h0 : 0 < n) : ∃ g cap, v = .slice (some ⟨g, 0, none⟩) n cap ∧ n ≤ cap := by
 rcases h with ⟨_, h⟩ | ⟨g, cap, h, hn⟩
 ·omega
 ·exact ⟨g, cap, h, hn⟩
theorem spoil_spec (F : List HP) (v : Value) (l : List Int) (hl : l.length ≤ 4611686018427387904) : SpecF Tryd.prog 16 [v] F [own 1 v l.length (ivs l)] (fun _ L => ∃ m : List Int, m.length = l.length ∧ L = [own 1 v m.length (ivs m)]) := by
 refine SpecF.ownV 0 rfl fun hv _ => ?_
 refine fun16.spec rfl ?_
 conv=>whnf
 refine LoopG.mk (fun mm ev L => ∃ (i : Nat) (m : List Int), i ≤ l.length ∧ mm = l.length - i ∧ m.length = l.length ∧ ev = [(0, v), (2, .int .i64 i)] ∧ L = [own 1 v l.length (ivs m)]) l.length
  [(0, v), (2, .int .i64 0)] _ ⟨rfl, rfl, trivial⟩ (Ent.refl _) ⟨0, l, by omega, rfl, rfl, rfl, rfl⟩ ?_
 rintro mm ev L ⟨i, m, hi, rfl, hm, rfl, rfl⟩
 conv=>whnf
 refine LenG.sl hv ?_
 conv=>whnf
 refine CondG.dec (fun hlt => ?_) (fun hlt => ?_)
 ·have hil : i < l.length := by omega
  obtain ⟨g, cap, rfl, hn⟩ := slv_pos hv (by omega)
  conv=>whnf
  refine IdxG.rd (own_rd (L := []) hv (by rw [ivs_len, hm, Nat.mul_one])) (by omega) fun b o hc => ?_
  conv=>whnf
  refine LoadG.at (hc.one (i := ((i : Nat) : Int).toNat * 1) (u := .int .u8 (m[i]'(by omega))) (by rw [Int.toNat_natCast, Nat.mul_one, ivs, List.getElem?_map, List.getElem?_eq_getElem (by omega)]; rfl)) ?_
  conv=>whnf
  refine ⟨g, 0, _, _, rfl, by omega, ?_⟩
  conv=>whnf
  have e0 : 0 + ((i : Nat) : Int).toNat * 1 = i := by omega
  refine StoreG.at rfl (Upd.own (cs' := ivs (m.set i (IntKind.u8.wrap ((BitVec.ofInt IntKind.u8.bits (m[i]'(by omega)) ^^^ BitVec.ofInt IntKind.u8.bits 165).toNat : Int)))) (by rw [e0, ivs_len, List.length_singleton]; omega) (by simp [Value.oneCell']) (by rw [e0, List.length_singleton]; exact ivs_set (by omega))) ?_
  conv=>whnf
  refine ArithG.i64' ((i + 1 : Nat) : Int) (by omega) (by omega) ?_
  conv=>whnf
  exact ⟨l.length - (i + 1), [(0, _), (2, .int .i64 ((i + 1 : Nat) : Int))], _, by omega, ⟨rfl, rfl, trivial⟩, Ent.refl _, i + 1, _, by omega, rfl, by rw [List.length_set]; exact hm, rfl, rfl⟩
 ·conv=>whnf
  exact ret_here ⟨m, hm, by rw [hm]⟩
theorem texts_same (F : List HP) (a b : Value) (ks : List ByteArray) (ha : RdS F a ks.length (keysB ks)) (hb : RdS F b ks.length (keysB ks)) (hl : ks.length ≤ 4611686018427387904) : SpecF Tryd.prog 36 [a, b] F [] (fun r L => r = .bool true ∧ L = []) := by
 have kB : ∀ i (h : i < ks.length), (keysB ks)[((i : Nat) : Int).toNat * 1]? = some (.string ks[i]) := fun i h => by rw [keysB, Int.toNat_natCast, Nat.mul_one, List.getElem?_map, List.getElem?_eq_getElem h]; rfl
 refine fun36.spec rfl ?_
 conv=>whnf
 refine LenG.rd ha ?_
 conv=>whnf
 refine LenG.rd hb ?_
 conv=>whnf
 refine CondG.ndec (fun h => absurd rfl h) (fun _ => ?_)
 conv=>whnf
 refine LoopG.mk (fun mm e L => ∃ q : Nat, q ≤ ks.length ∧ mm = ks.length - q ∧ e = [(0, a), (1, b), (4, .bool false), (5, .int .i64 q)] ∧ L = []) ks.length
  [(0, a), (1, b), (4, .bool false), (5, .int .i64 0)] _ ⟨rfl, rfl, rfl, rfl, trivial⟩ (Ent.refl _) ⟨0, by omega, rfl, rfl, rfl⟩ ?_
 rintro mm e L ⟨q, hq, rfl, rfl, rfl⟩
 conv=>whnf
 refine LenG.rd ha ?_
 conv=>whnf
 refine CondG.dec (fun h1 => ?_) (fun h1 => ?_)
 ·have hql : q < ks.length := by omega
  conv=>whnf
  refine DrawG.mk 9 [] [] (Ent.refl _) ?_
  conv=>whnf
  refine .take 0 ?_
  conv=>whnf
  refine ⟨rfl, ?_⟩
  conv=>whnf
  refine .take 1 ?_
  conv=>whnf
  refine ⟨rfl, ?_⟩
  conv=>whnf
  refine .take 2 ?_
  conv=>whnf
  refine ⟨rfl, ?_⟩
  conv=>whnf
  refine IdxG.rd ha (by omega) fun c o hc => ?_
  conv=>whnf
  refine .take 3 ?_
  conv=>whnf
  refine ⟨rfl, ?_⟩
  conv=>whnf
  refine LoadG.atF (hc.one (kB q hql)) ?_
  conv=>whnf
  refine .take 4 ?_
  conv=>whnf
  refine ⟨rfl, ?_⟩
  conv=>whnf
  refine .take 5 ?_
  conv=>whnf
  refine ⟨rfl, ?_⟩
  conv=>whnf
  refine .take 6 ?_
  conv=>whnf
  refine ⟨rfl, ?_⟩
  conv=>whnf
  refine IdxG.rd hb (by omega) fun c o hc => ?_
  conv=>whnf
  refine .take 7 ?_
  conv=>whnf
  refine ⟨rfl, ?_⟩
  conv=>whnf
  refine LoadG.atF (hc.one (kB q hql)) ?_
  conv=>whnf
  refine .take 8 ?_
  conv=>whnf
  refine ⟨rfl, ?_⟩
  conv=>whnf
  refine ⟨rfl, ?_⟩
  conv=>whnf
  refine CondG.ndec (fun h => absurd rfl h) (fun _ => ?_)
  conv=>whnf
  refine ArithG.i64' ((q + 1 : Nat) : Int) (by omega) (by omega) ?_
  conv=>whnf
  exact ⟨ks.length - (q + 1), [(0, a), (1, b), (4, .bool false), (5, .int .i64 ((q + 1 : Nat) : Int))], _, by omega, ⟨rfl, rfl, rfl, rfl, trivial⟩, Ent.refl _, q + 1, by omega, rfl, rfl, rfl⟩
 ·conv=>whnf
  exact ret_here ⟨rfl, rfl⟩
theorem stringsU : ElT Tryd.prog 67 9 1 16 := .of (by kernel_rfl)
theorem ltwin_spec (F : List HP) (v : Value) (bs : List Nat) (hv : RdS F v bs.length (bvs bs)) (hl : bs.length ≤ 1099511627776) : SpecF Tryd.prog 33 [v] F [] (fun r L => SlV r bs.length ∧ L = [own 1 r bs.length (bvs bs)]) := by
 obtain ⟨va, vc, rfl⟩ := hv.len
 refine fun33.spec rfl ?_
 conv=>whnf
 refine LenG.lit ?_
 conv=>whnf
 refine DoesG.makeG bytesT .i64 .i64 (by omega) (by simp only [maxLen]; omega) fun b zs hz => ?_
 conv=>whnf
 refine DoesG.copyS (o := 0) (cs := bvs bs) bytesT.und (by kernel_rfl) (.tl (.right hv _)) (bvs_len bs) (Nat.le_refl _) (by omega) (bvs_one _) (cur' := bvs bs) (by
  rw [List.take_zero, List.nil_append, List.drop_eq_nil_of_le (by omega), List.append_nil]) ?_
 conv=>whnf
 refine ⟨_, own_of_cel (n := bs.length) (sz := 1) (by rw [bvs_len, Nat.mul_one]) (by simp only [maxLen]; omega), .inr ⟨b, bs.length, rfl, Nat.le_refl _⟩, rfl⟩
theorem texts_spec (F : List HP) (n : Nat) (m : ByteArray) (hn : n ≤ 4398046511104) : SpecF Tryd.prog 59 [.int .i64 n, .string m] F [] (fun r L => SlV r n ∧ L = [own 1 r n (repE n [.string m])]) := by
 refine fun59.spec rfl ?_
 conv=>whnf
 refine LoopG.mk (fun mm e L => ∃ (i : Nat) (v : Value), i ≤ n ∧ mm = n - i ∧ SlV v i ∧ e = [(0, .int .i64 n), (1, .string m), (5, v), (6, .int .i64 i)] ∧ L = [own 1 v i (repE i [.string m])]) n
  [(0, .int .i64 n), (1, .string m), (5, .slice none 0 0), (6, .int .i64 0)] [own 1 (.slice none 0 0) 0 []] ⟨rfl, rfl, rfl, rfl, trivial⟩ (fun w H hs => Sat.own_nil hs) ⟨0, .slice none 0 0, by omega, rfl, .inl ⟨rfl, rfl⟩, rfl, rfl⟩ ?_
 rintro mm e L ⟨i, v, hi, rfl, hv, rfl, rfl⟩
 conv=>whnf
 refine CondG.dec (fun h1 => ?_) (fun h1 => ?_)
 ·conv=>whnf
  refine BuildG.of (cs := [.string m]) rfl ?_
  conv=>whnf
  intro b
  conv=>whnf
  refine DoesG.ent (Ent.front 1 rfl) ?_
  refine app_own stringsU 67 (m := 1) (ys := [.string m]) (.mk _ _ _ _ _ (Nat.le_refl _) (.tl (.left .all _))) rfl (by simp [Value.oneCell']) (by simp only [maxLen]; omega) (by omega) fun v' hv' _ _ => ?_
  conv=>whnf
  refine ArithG.i64' ((i + 1 : Nat) : Int) (by omega) (by omega) ?_
  conv=>whnf
  have e : repE i [Value.string m] ++ [Value.string m] = repE (i + 1) [.string m] := by rw [repE_add i 1, repE_one]
  rw [e]
  exact ⟨n - (i + 1), [(0, .int .i64 n), (1, .string m), (5, v'), (6, .int .i64 ((i + 1 : Nat) : Int))], _, by omega, ⟨rfl, rfl, rfl, rfl, trivial⟩, Ent.sel (T := []) (A := [_, _]) [0] rfl, i + 1, v', by omega, rfl, hv', rfl, rfl⟩
 obtain rfl : i = n := by omega
 conv=>whnf
 exact ret_here ⟨hv, rfl⟩
def tOne : ByteArray := ⟨#[111, 110, 101]⟩
def tTwo : ByteArray := ⟨#[116, 119, 111]⟩
theorem otexts_spec (F : List HP) (a b : Value) (n k : Nat) (ca cb : List Value) (hn : n ≤ 1099511627776) (hk : k ≤ 1099511627776) : SpecF Tryd.prog 38 [a, b] F [own 1 a n ca, own 1 b k cb] (fun r L => r = .bool true ∧ L = []) := by
 refine SpecF.ownV 0 rfl fun ha hac => ?_
 refine SpecF.ownV 1 rfl fun hb hbc => ?_
 rw [Nat.mul_one] at hac hbc
 refine fun38.spec rfl ?_
 conv=>whnf
 refine LenG.sl ha ?_
 conv=>whnf
 refine LenG.sl hb ?_
 conv=>whnf
 refine LoopG.mk (fun mm ev L => ∃ i : Nat, i ≤ n ∧ mm = n - i ∧ ev = [(0, a), (1, b), (4, .bool false), (5, .int .i64 n), (6, .int .i64 k), (7, .int .i64 i)] ∧ L = [ partP a n i (.string tOne) , own 1 b k cb]) n
  [(0, a), (1, b), (4, .bool false), (5, .int .i64 n), (6, .int .i64 k), (7, .int .i64 0)] _ ⟨rfl, rfl, rfl, rfl, rfl, rfl, trivial⟩ (anyP_of hac) ⟨0, by omega, rfl, rfl, rfl⟩ ?_
 rintro mm ev L ⟨i, hi, rfl, rfl, rfl⟩
 conv=>whnf
 refine CondG.dec (fun hlt => ?_) (fun hlt => ?_)
 ·obtain ⟨g, cap, rfl, hn⟩ := slv_some ha (by omega)
  conv=>whnf
  refine ⟨g, 0, _, _, rfl, by omega, ?_⟩
  conv=>whnf
  have e0 : 0 + ((i : Nat) : Int).toNat * 1 = i := by omega
  rw [e0]
  refine StoreG.at rfl ((partP_upd (c := .string tOne) rfl (by omega))) ?_
  conv=>whnf
  refine ArithG.i64' ((i + 1 : Nat) : Int) (by omega) (by omega) ?_
  conv=>whnf
  exact ⟨n - (i + 1), [(0, _), (1, _), (4, .bool false), (5, .int .i64 n), (6, .int .i64 k), (7, .int .i64 ((i + 1 : Nat) : Int))], _, by omega, ⟨rfl, rfl, rfl, rfl, rfl, rfl, trivial⟩, Ent.refl _, i + 1, by omega, rfl, rfl, rfl⟩
 obtain rfl : n = i := by omega
 conv=>whnf
 refine LoopG.mk (fun mm ev L => ∃ i : Nat, i ≤ k ∧ mm = k - i ∧ ev = [(0, a), (1, b), (4, .bool false), (5, .int .i64 n), (6, .int .i64 k), (8, .int .i64 i)] ∧ L = [own 1 a n (repE n [.string tOne]), partP b k i (.string tTwo) ]) k
  [(0, a), (1, b), (4, .bool false), (5, .int .i64 n), (6, .int .i64 k), (8, .int .i64 0)] _ ⟨rfl, rfl, rfl, rfl, rfl, rfl, trivial⟩ ((partP_end _ _ _).trans (Ent.cons _ (anyP_of hbc))) ⟨0, by omega, rfl, rfl, rfl⟩ ?_
 rintro mm ev L ⟨i, hi, rfl, rfl, rfl⟩
 conv=>whnf
 refine CondG.dec (fun hlt => ?_) (fun hlt => ?_)
 ·obtain ⟨g, cap, rfl, hn⟩ := slv_some hb (by omega)
  conv=>whnf
  refine ⟨g, 0, _, _, rfl, by omega, ?_⟩
  conv=>whnf
  have e0 : 0 + ((i : Nat) : Int).toNat * 1 = i := by omega
  rw [e0]
  refine StoreG.at rfl (Upd.tl (partP_upd (c := .string tTwo) rfl (by omega))) ?_
  conv=>whnf
  refine ArithG.i64' ((i + 1 : Nat) : Int) (by omega) (by omega) ?_
  conv=>whnf
  exact ⟨k - (i + 1), [(0, _), (1, _), (4, .bool false), (5, .int .i64 n), (6, .int .i64 k), (8, .int .i64 ((i + 1 : Nat) : Int))], _, by omega, ⟨rfl, rfl, rfl, rfl, rfl, rfl, trivial⟩, Ent.refl _, i + 1, by omega, rfl, rfl, rfl⟩
 obtain rfl : k = i := by omega
 conv=>whnf
 refine LoopG.mk (fun mm ev L => ∃ (i : Nat) (a : Value), i ≤ 20 ∧ mm = 20 - i ∧ SlV a (n + i) ∧ ev = [(0, a), (1, b), (4, .bool false), (5, .int .i64 n), (6, .int .i64 k), (9, .int .i64 i)] ∧ L = [own 1 a (n + i) (repE (n + i) [.string tOne]), own 1 b k (repE k [.string tTwo])]) 20
  [(0, a), (1, b), (4, .bool false), (5, .int .i64 n), (6, .int .i64 k), (9, .int .i64 0)] _ ⟨rfl, rfl, rfl, rfl, rfl, rfl, trivial⟩ (Ent.cons _ (partP_end _ _ _)) ⟨0, a, by omega, rfl, ha, rfl, rfl⟩ ?_
 clear ha hac hlt hi a
 rintro mm ev L ⟨i, a, hi, rfl, ha, rfl, rfl⟩
 conv=>whnf
 refine CondG.dec (fun hlt => ?_) (fun hlt => ?_)
 ·conv=>whnf
  refine BuildG.of (cs := [.string tOne]) rfl ?_
  conv=>whnf
  intro b5
  conv=>whnf
  refine DoesG.ent (Ent.front 1 rfl) ?_
  refine app_own stringsU 67 (m := 1) (ys := [.string tOne]) (.mk _ _ _ _ _ (Nat.le_refl _) (.tl (.left .all _))) rfl (by simp [Value.oneCell']) (by simp only [maxLen]; omega) (by omega) fun a2 ha2 _ _ => ?_
  conv=>whnf
  refine ArithG.i64' ((i + 1 : Nat) : Int) (by omega) (by omega) ?_
  conv=>whnf
  have e : repE (n + i) [Value.string tOne] ++ [Value.string tOne] = repE (n + (i + 1)) [.string tOne] := by rw [← Nat.add_assoc, repE_add (n + i) 1, repE_one]
  rw [e]
  exact ⟨20 - (i + 1), [(0, a2), (1, b), (4, .bool false), (5, .int .i64 n), (6, .int .i64 k), (9, .int .i64 ((i + 1 : Nat) : Int))], _, by omega, ⟨rfl, rfl, rfl, rfl, rfl, rfl, trivial⟩, Ent.sel (T := []) (A := [_, _, _]) [0, 2] rfl, i + 1, a2, by omega, rfl, ha2, rfl, rfl⟩
 obtain rfl : i = 20 := by omega
 conv=>whnf
 refine LoopG.mk (fun mm ev L => ∃ (i : Nat) (b : Value), i ≤ 20 ∧ mm = 20 - i ∧ SlV b (k + i) ∧ ev = [(0, a), (1, b), (4, .bool false), (5, .int .i64 n), (6, .int .i64 k), (10, .int .i64 i)] ∧ L = [own 1 a (n + 20) (repE (n + 20) [.string tOne]), own 1 b (k + i) (repE (k + i) [.string tTwo])]) 20
  [(0, a), (1, b), (4, .bool false), (5, .int .i64 n), (6, .int .i64 k), (10, .int .i64 0)] _ ⟨rfl, rfl, rfl, rfl, rfl, rfl, trivial⟩ (Ent.refl _) ⟨0, b, by omega, rfl, hb, rfl, rfl⟩ ?_
 clear hb hbc hlt hi b
 rintro mm ev L ⟨i, b, hi, rfl, hb, rfl, rfl⟩
 conv=>whnf
 refine CondG.dec (fun hlt => ?_) (fun hlt => ?_)
 ·conv=>whnf
  refine BuildG.of (cs := [.string tTwo]) rfl ?_
  conv=>whnf
  intro b5
  conv=>whnf
  refine DoesG.ent (Ent.front 2 rfl) ?_
  refine app_own stringsU 67 (m := 1) (ys := [.string tTwo]) (.mk _ _ _ _ _ (Nat.le_refl _) (.tl (.left .all _))) rfl (by simp [Value.oneCell']) (by simp only [maxLen]; omega) (by omega) fun b2 hb2 _ _ => ?_
  conv=>whnf
  refine ArithG.i64' ((i + 1 : Nat) : Int) (by omega) (by omega) ?_
  conv=>whnf
  have e : repE (k + i) [Value.string tTwo] ++ [Value.string tTwo] = repE (k + (i + 1)) [.string tTwo] := by rw [← Nat.add_assoc, repE_add (k + i) 1, repE_one]
  rw [e]
  exact ⟨20 - (i + 1), [(0, a), (1, b2), (4, .bool false), (5, .int .i64 n), (6, .int .i64 k), (10, .int .i64 ((i + 1 : Nat) : Int))], _, by omega, ⟨rfl, rfl, rfl, rfl, rfl, rfl, trivial⟩, Ent.sel (T := []) (A := [_, _, _]) [2, 0] rfl, i + 1, b2, by omega, rfl, hb2, rfl, rfl⟩
 obtain rfl : i = 20 := by omega
 have eK : ∀ (m : Nat) (x : ByteArray), repE m [Value.string x] = keysB (List.replicate m x) := fun m x => by
  unfold repE keysB
  rw [List.map_replicate]
  induction m with
  | zero => rfl
  | succ m ih => rw [List.replicate_succ, List.flatten_cons, ih, List.replicate_succ]; rfl
 conv=>whnf
 refine ArithG.i64' ((n + 20 : Nat) : Int) (by omega) (by omega) ?_
 conv=>whnf
 refine CallG.pure (texts_spec _ (n + 20) tOne (by omega)) ?_
 rintro c _ ⟨hc, rfl⟩
 conv=>whnf
 refine CallG.pure (texts_same _ a c (List.replicate (n + 20) tOne) ?_ ?_ (by rw [List.length_replicate]; omega)) ?_
 ·rw [List.length_replicate, ← eK]
  exact .tl (own_rd ha (by rw [repE_len (sz := 1) rfl]))
 ·rw [List.length_replicate, ← eK]
  exact own_rd hc (by rw [repE_len (sz := 1) rfl])
 rintro _ _ ⟨rfl, rfl⟩
 conv=>whnf
 refine ArithG.i64' ((k + 20 : Nat) : Int) (by omega) (by omega) ?_
 conv=>whnf
 refine CallG.pure (texts_spec _ (k + 20) tTwo (by omega)) ?_
 rintro d _ ⟨hd, rfl⟩
 conv=>whnf
 refine CallG.pure (texts_same _ b d (List.replicate (k + 20) tTwo) ?_ ?_ (by rw [List.length_replicate]; omega)) ?_
 ·rw [List.length_replicate, ← eK]
  exact .tl (.tl (.tl (own_rd hb (by rw [repE_len (sz := 1) rfl]))))
 ·rw [List.length_replicate, ← eK]
  exact own_rd hd (by rw [repE_len (sz := 1) rfl])
 rintro _ _ ⟨rfl, rfl⟩
 (conv=>whnf);refine .tt ?_;(conv=>whnf);refine .tt ?_;(conv=>whnf)
 exact ⟨[], Ent.nil _, rfl, rfl⟩
end Go.Proofs.YtjkldhalmglkpaaDoor
