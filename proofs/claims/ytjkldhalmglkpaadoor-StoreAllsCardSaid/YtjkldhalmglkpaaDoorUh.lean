import Derived.Test.YtjkldhalmglkpaaDoorSd
import Derived.Test.YtjkldhalmglkpaaDoorZAp
import Derived.Test.YtjkldhalmglkpaaDoorZPk
import Derived.Test.YtjkldhalmglkpaaDoorZCh
namespace Go.Proofs.YtjkldhalmglkpaaDoor
open Go Go.Sl Go.Sort
theorem bytes_same7 (F : List HP) (va vb : Value) (a b : List Nat) (ha : RdS F va a.length (bvs a)) (hb : RdS F vb b.length (bvs b)) :
 SpecF Tryd.prog 17 [va, vb] F [] (fun r L => r = .bool (decide (strB a = strB b)) ∧ L = []) := by
 refine fun17.spec rfl ?_
 conv=>whnf
 refine DoesG.toStr (e := 5) (bs := a) (by kernel_rfl) (by kernel_rfl) (by kernel_rfl) (.right ha []) rfl ?_
 conv=>whnf
 refine DoesG.toStr (e := 5) (bs := b) (by kernel_rfl) (by kernel_rfl) (by kernel_rfl) (.right hb []) rfl ?_
 conv=>whnf
 exact ret_here ⟨rfl, rfl⟩
theorem RdS.take {L : List HP} {a : Option Addr} {n c k : Nat} {cs : List Value} (h : RdS L (.slice a n c) n cs) (hk : k ≤ n) (hl : cs.length = n) : RdS L (.slice a k c) k (cs.take k) := by
 cases h with
 | nil =>
  obtain rfl : k = 0 := by omega
  exact .nil
 | zero a =>
  obtain rfl : k = 0 := by omega
  exact .zero a _
 | mk b o n _ cs hn h =>
  refine .mk b o k _ _ (by omega) fun w hs j u hj => ?_
  rw [List.getElem?_take] at hj
  split at hj
  ·exact h w hs j u hj
  ·cases hj
def ivs (l : List Int) : List Value := l.map fun i => .int .u8 i
theorem ivs_len (l : List Int) : (ivs l).length = l.length := by simp [ivs]
theorem bvs_ivs (l : List Nat) : bvs l = ivs (l.map Int.ofNat) := by simp [bvs, ivs, bv]
theorem ivs_set {m : List Int} {i : Nat} {x : Int} (h : i < m.length) : (ivs m).take i ++ [.int .u8 x] ++ (ivs m).drop (i + 1) = ivs (m.set i x) := by
 rw [List.set_eq_take_append_cons_drop, if_pos h]
 simp [ivs]
theorem slv_pos {v : Value} {n : Nat} (h : SlV v n) (h0 : 0 < n) : ∃ g cap, v = .slice (some ⟨g, 0, none⟩) n cap ∧ n ≤ cap := by
 rcases h with ⟨_, h⟩ | ⟨g, cap, h, hn⟩
 ·omega
 ·exact ⟨g, cap, h, hn⟩
theorem spoil_spec (F : List HP) (v : Value) (l : List Int) (hl : l.length ≤ 4611686018427387904) : SpecF Tryd.prog 16 [v] F [own 1 v l.length (ivs l)] (fun _ L => ∃ m : List Int, m.length = l.length ∧ L = [own 1 v m.length (ivs m)]) := by
 refine SpecF.ownV 0 rfl fun hv _ => ?_
 refine fun16.spec rfl ?_
 conv=>whnf
 refine LoopG.mk (fun mm ev L => ∃ (i : Nat) (m : List Int), i ≤ l.length ∧ mm = l.length - i ∧ m.length = l.length ∧ ev = [(0, v), (2, .int .i64 i)] ∧ L = [own 1 v l.length (ivs m)]) l.length
  [(0, v), (2, .int .i64 0)] _ ⟨rfl, rfl, trivial⟩ (Ent.refl _) ⟨0, l, by omega, rfl, rfl, rfl, rfl⟩ ?_
 rintro mm ev L ⟨i, m, hi, rfl, hm, rfl, rfl⟩
 conv=>whnf
 refine LenG.sl hv ?_
 conv=>whnf
 refine CondG.dec (fun hlt => ?_) (fun hlt => ?_)
 ·have hil : i < l.length := by omega
  obtain ⟨g, cap, rfl, hn⟩ := slv_pos hv (by omega)
  conv=>whnf
  refine IdxG.rd (own_rd (L := []) hv (by rw [ivs_len, hm, Nat.mul_one])) (by omega) fun b o hc => ?_
  conv=>whnf
  refine LoadG.at (hc.one (i := ((i : Nat) : Int).toNat * 1) (u := .int .u8 (m[i]'(by omega))) (by rw [Int.toNat_natCast, Nat.mul_one, ivs, List.getElem?_map, List.getElem?_eq_getElem (by omega)]; rfl)) ?_
  conv=>whnf
  refine ⟨g, 0, _, _, rfl, by omega, ?_⟩
  conv=>whnf
  have e0 : 0 + ((i : Nat) : Int).toNat * 1 = i := by omega
  refine StoreG.at rfl (Upd.own (cs' := ivs (m.set i (IntKind.u8.wrap ((BitVec.ofInt IntKind.u8.bits (m[i]'(by omega)) ^^^ BitVec.ofInt IntKind.u8.bits 165).toNat : Int)))) (by rw [e0, ivs_len, List.length_singleton]; omega) (by simp [Value.oneCell']) (by rw [e0, List.length_singleton]; exact ivs_set (by omega))) ?_
  conv=>whnf
  refine ArithG.i64' ((i + 1 : Nat) : Int) (by omega) (by omega) ?_
  conv=>whnf
  exact ⟨l.length - (i + 1), [(0, _), (2, .int .i64 ((i + 1 : Nat) : Int))], _, by omega, ⟨rfl, rfl, trivial⟩, Ent.refl _, i + 1, _, by omega, rfl, by rw [List.length_set]; exact hm, rfl, rfl⟩
 ·conv=>whnf
  exact ret_here ⟨m, hm, by rw [hm]⟩
end Go.Proofs.YtjkldhalmglkpaaDoor
