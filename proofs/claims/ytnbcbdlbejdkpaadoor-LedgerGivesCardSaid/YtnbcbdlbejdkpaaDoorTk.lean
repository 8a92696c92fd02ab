/-
  A ticket's key, value, number: contracts out of the resolved texts.
-/
import Derived.Test.YtnbcbdlbejdkpaaDoorTb
import Derived.Test.YtnbcbdlbejdkpaaDoorZTk
namespace Go.Proofs.YtnbcbdlbejdkpaaDoor
open Go Go.Sl
theorem wbytes_spec (F : List HP) (ws : List Nat) (hw : ws.length = 4) : SpecF Tryd.prog 93 [.agg ⟨uvs ws⟩] F [] (fun r L => SlV r 32 ∧ L = [own 1 r 32 (bvs (wideB ws))]) := by
  refine fun93.spec rfl ?_
  (conv => whnf); repeat ((first | with_reducible refine CondG.tt ?_ | with_reducible refine CondG.ff ?_); conv => whnf)
  intro b1
  (conv => whnf); repeat ((first | with_reducible refine CondG.tt ?_ | with_reducible refine CondG.ff ?_); conv => whnf)
  refine DoesG.make0 bytesT .i64 .i64 (by decide) (by decide) fun v0 hv0 _ => ?_
  (conv => whnf); repeat ((first | with_reducible refine CondG.tt ?_ | with_reducible refine CondG.ff ?_); conv => whnf)
  refine LoopG.mk (fun m e L => ∃ i v, i ≤ 4 ∧ SlV v (8 * i) ∧ m = 4 - i ∧ e = [(1, .pointer (some ⟨b1, 0, none⟩)), (3, v), (4, .int .i64 (3 - i))] ∧ L = [own 1 v (8 * i) (bvs ((wideB ws).take (8 * i))), cel b1 25 (uvs ws)]) 4
    [(1, .pointer (some ⟨b1, 0, none⟩)), (3, v0), (4, .int .i64 3)] _ ⟨rfl, rfl, rfl, trivial⟩ (Ent.refl _) ⟨0, v0, by omega, hv0, rfl, rfl, rfl⟩ ?_
  rintro m e L ⟨i, v, hi, hvi, rfl, rfl, rfl⟩
  (conv => whnf); repeat ((first | with_reducible refine CondG.tt ?_ | with_reducible refine CondG.ff ?_); conv => whnf)
  refine CondG.dec (fun h => ?_) (fun h => ?_)
  · have hi4 : i < 4 := by omega
    (conv => whnf); repeat ((first | with_reducible refine CondG.tt ?_ | with_reducible refine CondG.ff ?_); conv => whnf)
    refine LoopG.mk (fun m e L => ∃ j v, j ≤ 8 ∧ SlV v (8 * i + j) ∧ m = 8 - j ∧ e = [(1, .pointer (some ⟨b1, 0, none⟩)), (3, v), (4, .int .i64 (3 - i)), (5, .int .i64 (56 - 8 * j))] ∧ L = [own 1 v (8 * i + j) (bvs ((wideB ws).take (8 * i + j))), cel b1 25 (uvs ws)]) 8
      [(1, .pointer (some ⟨b1, 0, none⟩)), (3, v), (4, .int .i64 (3 - i)), (5, .int .i64 56)] _ ⟨rfl, rfl, rfl, rfl, trivial⟩ (Ent.refl _) ⟨0, v, by omega, hvi, rfl, rfl, rfl⟩ ?_
    rintro m e L ⟨j, v, hj, hvj, rfl, rfl, rfl⟩
    (conv => whnf); repeat ((first | with_reducible refine CondG.tt ?_ | with_reducible refine CondG.ff ?_); conv => whnf)
    refine CondG.dec (fun h2 => ?_) (fun h2 => ?_)
    · have hj8 : j < 8 := by omega
      (conv => whnf); repeat ((first | with_reducible refine CondG.tt ?_ | with_reducible refine CondG.ff ?_); conv => whnf)
      refine SideG.of (by omega) ?_
      (conv => whnf); repeat ((first | with_reducible refine CondG.tt ?_ | with_reducible refine CondG.ff ?_); conv => whnf)
      have hg : (uvs ws)[0 + (3 - (i : Int)).toNat * 1]? = some (uv (ws.getD (3 - i) 0)) := by
        have e1 : 0 + (3 - (i : Int)).toNat * 1 = 3 - i := by omega
        rw [e1]
        have hlt : 3 - i < ws.length := by omega
        simp [uvs, List.getD, List.getElem?_eq_getElem hlt]
      refine LoadG.at (v := uv (ws.getD (3 - i) 0)) (.tl (.here hg)) ?_
      (conv => whnf); repeat ((first | with_reducible refine CondG.tt ?_ | with_reducible refine CondG.ff ?_); conv => whnf)
      refine SideG.of (by omega) ?_
      (conv => whnf); repeat ((first | with_reducible refine CondG.tt ?_ | with_reducible refine CondG.ff ?_); conv => whnf)
      refine ArithG.all ?_
      (conv => whnf); repeat ((first | with_reducible refine CondG.tt ?_ | with_reducible refine CondG.ff ?_); conv => whnf)
      refine BuildG.of rfl ?_
      (conv => whnf); repeat ((first | with_reducible refine CondG.tt ?_ | with_reducible refine CondG.ff ?_); conv => whnf)
      intro b2
      (conv => whnf); repeat ((first | with_reducible refine CondG.tt ?_ | with_reducible refine CondG.ff ?_); conv => whnf)
      refine DoesG.ent (Ent.front 1 rfl) ?_
      have e1 := shr_be (ws.getD (3 - i) 0) j hj8
      refine app_own bytesT 91 (m := 1) (ys := [bv (ws.getD (3 - i) 0 / 256 ^ (7 - j) % 256)]) (.mk _ _ _ _ _ (by decide) (.tl (.left (fun w hs => CelN.all w (by
        have e2 : (List.take 0 [Value.int .u8 0] ++ (Value.int .u8 (IntKind.u8.wrap (((ws.getD (3 - i) 0 : Nat) : Int).fdiv (2 ^ (min (56 - 8 * (j : Int)).toNat 64))))).cells.toList ++ List.drop (0 + 1) [Value.int .u8 0]) = [bv (ws.getD (3 - i) 0 / 256 ^ (7 - j) % 256)] := by
          rw [e1]; rfl
        rw [← e2]
        exact hs)) _))) rfl (by simp [bv, Value.oneCell']) (by simp only [maxLen]; omega) (by omega) fun r hr hlen hnil => ?_
      have e3 : bvs ((wideB ws).take (8 * i + j)) ++ [bv (ws.getD (3 - i) 0 / 256 ^ (7 - j) % 256)] = bvs ((wideB ws).take (8 * i + (j + 1))) := by
        have := wide_take ws (8 * i + j) (by omega)
        have q1 : (8 * i + j) / 8 = i := by omega
        have q2 : (8 * i + j) % 8 = j := by omega
        rw [q1, q2] at this
        rw [show 8 * i + (j + 1) = 8 * i + j + 1 by omega, this, ← bvs_append]
        rfl
      rw [e3]
      obtain ⟨ra, rc, hre⟩ := hr.len
      subst hre
      (conv => whnf); repeat ((first | with_reducible refine CondG.tt ?_ | with_reducible refine CondG.ff ?_); conv => whnf)
      refine ArithG.i64 (by omega) ?_
      (conv => whnf); repeat ((first | with_reducible refine CondG.tt ?_ | with_reducible refine CondG.ff ?_); conv => whnf)
      refine ⟨8 - (j + 1), [(1, .pointer (some ⟨b1, 0, none⟩)), (3, .slice ra (8 * i + j + 1) rc), (4, .int .i64 (3 - i)), (5, .int .i64 (56 - 8 * ((j + 1 : Nat) : Int)))], _, by omega, ?_, Ent.sel (T := []) [0, 2] (A := [_, _, _]) rfl, j + 1, _, by omega, hr, rfl, rfl, rfl⟩
      refine ⟨rfl, rfl, rfl, ?_, trivial⟩
      show some (Value.int .i64 (56 - 8 * (j : Int) - 8)) = _
      congr 2
      omega
    · obtain rfl : j = 8 := by omega
      (conv => whnf); repeat ((first | with_reducible refine CondG.tt ?_ | with_reducible refine CondG.ff ?_); conv => whnf)
      refine ArithG.i64 (by omega) ?_
      (conv => whnf); repeat ((first | with_reducible refine CondG.tt ?_ | with_reducible refine CondG.ff ?_); conv => whnf)
      refine ⟨4 - (i + 1), [(1, .pointer (some ⟨b1, 0, none⟩)), (3, v), (4, .int .i64 (3 - ((i + 1 : Nat) : Int)))], _, by omega, ?_, Ent.refl _, i + 1, v, by omega, hvj, rfl, rfl, rfl⟩
      refine ⟨rfl, rfl, ?_, trivial⟩
      show some (Value.int .i64 (3 - (i : Int) - 1)) = _
      congr 2
      omega
  · obtain rfl : i = 4 := by omega
    (conv => whnf); repeat ((first | with_reducible refine CondG.tt ?_ | with_reducible refine CondG.ff ?_); conv => whnf)
    refine ⟨[own 1 v 32 (bvs (wideB ws))], ?_, hvi, rfl⟩
    have e : (wideB ws).take (8 * 4) = wideB ws := List.take_of_length_le (by rw [wide_len]; decide)
    rw [e]
    exact Ent.dropL [own 1 v 32 (bvs (wideB ws))] [cel b1 25 (uvs ws)]
theorem wread_spec (F : List HP) (v : Value) (bs : List Nat) (hb : bs.length = 32) (hv : RdS F v 32 (bvs bs)) : SpecF Tryd.prog 63 [v] F [] (fun r L => r = .tuple #[.agg ⟨ivs (wordsF bs 0 [0, 0, 0, 0])⟩, .int .i64 0] ∧ L = []) := by
  refine fun63.spec rfl ?_
  (conv => whnf); repeat ((first | with_reducible refine CondG.tt ?_ | with_reducible refine CondG.ff ?_); conv => whnf)
  intro b2
  (conv => whnf); repeat ((first | with_reducible refine CondG.tt ?_ | with_reducible refine CondG.ff ?_); conv => whnf)
  intro b4
  (conv => whnf); repeat ((first | with_reducible refine CondG.tt ?_ | with_reducible refine CondG.ff ?_); conv => whnf)
  refine LenG.rd hv ?_
  (conv => whnf); repeat ((first | with_reducible refine CondG.tt ?_ | with_reducible refine CondG.ff ?_); conv => whnf)
  refine CondG.ff ?_
  (conv => whnf); repeat ((first | with_reducible refine CondG.tt ?_ | with_reducible refine CondG.ff ?_); conv => whnf)
  refine LenG.rd hv ?_
  (conv => whnf); repeat ((first | with_reducible refine CondG.tt ?_ | with_reducible refine CondG.ff ?_); conv => whnf)
  refine LoopG.mk (fun m e L => ∃ i, i ≤ 32 ∧ m = 32 - i ∧ e = [(2, .pointer (some ⟨b2, 0, none⟩)), (4, .pointer (some ⟨b4, 0, none⟩)), (11, v), (12, .int .i64 32), (13, .int .i64 i)] ∧
    L = [cel b4 25 (ivs (wordsF (bs.take i) 0 [0, 0, 0, 0])), cel b2 25 (ivs [0, 0, 0, 0])]) 32
    [(2, .pointer (some ⟨b2, 0, none⟩)), (4, .pointer (some ⟨b4, 0, none⟩)), (11, v), (12, .int .i64 32), (13, .int .i64 0)] _ ⟨rfl, rfl, rfl, rfl, rfl, trivial⟩ (Ent.refl _) ⟨0, by omega, rfl, rfl, rfl⟩ ?_
  rintro m e L ⟨i, hi, rfl, rfl, rfl⟩
  (conv => whnf); repeat ((first | with_reducible refine CondG.tt ?_ | with_reducible refine CondG.ff ?_); conv => whnf)
  refine CondG.dec (fun h => ?_) (fun h => ?_)
  · have hlt : i < 32 := by omega
    have hq : (i : Int).tdiv 8 = ((i / 8 : Nat) : Int) := rfl
    have hwl : (wordsF (bs.take i) 0 [0, 0, 0, 0]).length = 4 := wordsF_len _ _ _
    (conv => whnf); repeat ((first | with_reducible refine CondG.tt ?_ | with_reducible refine CondG.ff ?_); conv => whnf)
    refine IdxG.rd hv (by omega) fun b o hc => ?_
    (conv => whnf); repeat ((first | with_reducible refine CondG.tt ?_ | with_reducible refine CondG.ff ?_); conv => whnf)
    refine LoadG.atF (v := bv (bs[i]'(by omega))) (hc.one (i := (i : Int).toNat * 1) (by simpa using bvs_get (by omega))) ?_
    (conv => whnf); repeat ((first | with_reducible refine CondG.tt ?_ | with_reducible refine CondG.ff ?_); conv => whnf)
    refine SideG.of (by decide) ?_
    (conv => whnf); repeat ((first | with_reducible refine CondG.tt ?_ | with_reducible refine CondG.ff ?_); conv => whnf)
    refine ArithG.i64' _ hq (by omega) ?_
    (conv => whnf); repeat ((first | with_reducible refine CondG.tt ?_ | with_reducible refine CondG.ff ?_); conv => whnf)
    refine ArithG.i64 (by omega) ?_
    (conv => whnf); repeat ((first | with_reducible refine CondG.tt ?_ | with_reducible refine CondG.ff ?_); conv => whnf)
    refine SideG.of (by decide) ?_
    (conv => whnf); repeat ((first | with_reducible refine CondG.tt ?_ | with_reducible refine CondG.ff ?_); conv => whnf)
    refine ArithG.i64' _ hq (by omega) ?_
    (conv => whnf); repeat ((first | with_reducible refine CondG.tt ?_ | with_reducible refine CondG.ff ?_); conv => whnf)
    refine ArithG.i64 (by omega) ?_
    (conv => whnf); repeat ((first | with_reducible refine CondG.tt ?_ | with_reducible refine CondG.ff ?_); conv => whnf)
    refine SideG.of (by omega) ?_
    (conv => whnf); repeat ((first | with_reducible refine CondG.tt ?_ | with_reducible refine CondG.ff ?_); conv => whnf)
    have e1 : 0 + (3 - ((i / 8 : Nat) : Int)).toNat * 1 = 3 - i / 8 := by omega
    have hg : (ivs (wordsF (bs.take i) 0 [0, 0, 0, 0]))[0 + (3 - ((i / 8 : Nat) : Int)).toNat * 1]? = some (.int .u64 ((wordsF (bs.take i) 0 [0, 0, 0, 0]).getD (3 - i / 8) 0)) := by
      rw [e1]
      have hl4 : 3 - i / 8 < (wordsF (bs.take i) 0 [0, 0, 0, 0]).length := by omega
      simp [ivs, List.getD, List.getElem?_eq_getElem hl4]
    refine LoadG.at (v := .int .u64 ((wordsF (bs.take i) 0 [0, 0, 0, 0]).getD (3 - i / 8) 0)) (.here hg) ?_
    (conv => whnf); repeat ((first | with_reducible refine CondG.tt ?_ | with_reducible refine CondG.ff ?_); conv => whnf)
    refine SideG.of (by decide) ?_
    (conv => whnf); repeat ((first | with_reducible refine CondG.tt ?_ | with_reducible refine CondG.ff ?_); conv => whnf)
    refine ArithG.all ?_
    (conv => whnf); repeat ((first | with_reducible refine CondG.tt ?_ | with_reducible refine CondG.ff ?_); conv => whnf)
    refine ArithG.all ?_
    (conv => whnf); repeat ((first | with_reducible refine CondG.tt ?_ | with_reducible refine CondG.ff ?_); conv => whnf)
    refine SideG.of (by omega) ?_
    (conv => whnf); repeat ((first | with_reducible refine CondG.tt ?_ | with_reducible refine CondG.ff ?_); conv => whnf)
    refine StoreG.at rfl (Upd.here (by rw [e1]; simp [ivs, hwl]; omega) rfl) ?_
    (conv => whnf); repeat ((first | with_reducible refine CondG.tt ?_ | with_reducible refine CondG.ff ?_); conv => whnf)
    refine ArithG.i64 (by omega) ?_
    (conv => whnf); repeat ((first | with_reducible refine CondG.tt ?_ | with_reducible refine CondG.ff ?_); conv => whnf)
    refine ⟨32 - (i + 1), _, _, by omega, ?_, Ent.refl _, i + 1, by omega, rfl, rfl, ?_⟩
    · exact ⟨rfl, rfl, rfl, rfl, rfl, trivial⟩
    rw [wordsF_take bs 0 i _ (by omega), wordsStep]
    simp only [Nat.zero_add]
    rw [show (3 - ((i / 8 : Nat) : Int)).toNat * 1 = 3 - i / 8 by omega]
    simp only [ivs, List.map_set]
    rfl
  · obtain rfl : i = 32 := by omega
    rw [List.take_of_length_le (by omega)]
    (conv => whnf); repeat ((first | with_reducible refine CondG.tt ?_ | with_reducible refine CondG.ff ?_); conv => whnf)
    refine LoadNG.at (vs := ivs (wordsF bs 0 [0, 0, 0, 0])) (by simp [ivs, wordsF_len]) .all ?_
    (conv => whnf); repeat ((first | with_reducible refine CondG.tt ?_ | with_reducible refine CondG.ff ?_); conv => whnf)
    refine StoreG.at (by simp [ivs, wordsF_len]) (Upd.tl (Upd.whole (by simp [ivs, wordsF_len]) (by intro u hu; obtain ⟨z, _, rfl⟩ := List.mem_map.1 hu; rfl))) ?_
    (conv => whnf); repeat ((first | with_reducible refine CondG.tt ?_ | with_reducible refine CondG.ff ?_); conv => whnf)
    refine LoadNG.at (vs := ivs (wordsF bs 0 [0, 0, 0, 0])) (by simp [ivs, wordsF_len]) (.tl .all) ?_
    (conv => whnf); repeat ((first | with_reducible refine CondG.tt ?_ | with_reducible refine CondG.ff ?_); conv => whnf)
    exact ⟨[], Ent.nil _, rfl, rfl⟩
end Go.Proofs.YtnbcbdlbejdkpaaDoor
