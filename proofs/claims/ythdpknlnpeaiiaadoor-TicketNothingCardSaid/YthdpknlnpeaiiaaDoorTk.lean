/-
  A ticket's key, value, number: contracts out of the resolved texts.
-/
import Derived.Test.YthdpknlnpeaiiaaDoorTb
import Derived.Test.YthdpknlnpeaiiaaDoorZTk
namespace Go.Proofs.YthdpknlnpeaiiaaDoor
open Go Go.Sl
theorem eight_spec (F : List HP) (n : Nat) (hn : n < 9223372036854775808) :
    SpecF Tryd.prog 88 [.int .i64 n] F [] (fun r L => SlV r 8 ∧ r ≠ .slice none 0 0 ∧ L = [own 1 r 8 (bvs (be n 8))]) := by
  refine fun88.spec rfl ?_
  (conv => whnf); repeat ((first | with_reducible refine CondG.tt ?_ | with_reducible refine CondG.ff ?_); conv => whnf)
  intro b
  (conv => whnf); repeat ((first | with_reducible refine CondG.tt ?_ | with_reducible refine CondG.ff ?_); conv => whnf)
  refine LoopG.mk (fun m e L => ∃ i, i ≤ 8 ∧ m = 8 - i ∧ e = [(0, .int .i64 n), (3, .pointer (some ⟨b, 0, none⟩)), (5, .int .i64 i)] ∧ L = [cel b 196 (bvs (fillB (fun i => n / 256 ^ (7 - i) % 256) 8 i))]) 8
    [(0, .int .i64 n), (3, .pointer (some ⟨b, 0, none⟩)), (5, .int .i64 0)] _ ⟨rfl, rfl, rfl, trivial⟩ (Ent.refl _) ⟨0, by omega, rfl, rfl, by rw [fillB_zero]; rfl⟩ ?_
  rintro m e L ⟨i, hi, rfl, rfl, rfl⟩
  (conv => whnf); repeat ((first | with_reducible refine CondG.tt ?_ | with_reducible refine CondG.ff ?_); conv => whnf)
  refine CondG.dec (fun h => ?_) (fun h => ?_)
  · have hi8 : i < 8 := by omega
    (conv => whnf); repeat ((first | with_reducible refine CondG.tt ?_ | with_reducible refine CondG.ff ?_); conv => whnf)
    refine ArithG.i64 (by omega) ?_
    (conv => whnf); repeat ((first | with_reducible refine CondG.tt ?_ | with_reducible refine CondG.ff ?_); conv => whnf)
    refine ArithG.i64 (by omega) ?_
    (conv => whnf); repeat ((first | with_reducible refine CondG.tt ?_ | with_reducible refine CondG.ff ?_); conv => whnf)
    refine SideG.of (by omega) ?_
    (conv => whnf); repeat ((first | with_reducible refine CondG.tt ?_ | with_reducible refine CondG.ff ?_); conv => whnf)
    refine ArithG.all ?_
    (conv => whnf); repeat ((first | with_reducible refine CondG.tt ?_ | with_reducible refine CondG.ff ?_); conv => whnf)
    refine SideG.of (by omega) ?_
    (conv => whnf); repeat ((first | with_reducible refine CondG.tt ?_ | with_reducible refine CondG.ff ?_); conv => whnf)
    have e1 := shr_be n i hi8
    refine StoreG.at rfl (Upd.here (by simp [bvs_len, fillB_len]; omega) rfl) ?_
    (conv => whnf); repeat ((first | with_reducible refine CondG.tt ?_ | with_reducible refine CondG.ff ?_); conv => whnf)
    refine ArithG.i64 (by omega) ?_
    (conv => whnf); repeat ((first | with_reducible refine CondG.tt ?_ | with_reducible refine CondG.ff ?_); conv => whnf)
    refine ⟨8 - (i + 1), _, _, by omega, ?_, Ent.refl _, i + 1, by omega, rfl, rfl, ?_⟩
    · exact ⟨rfl, rfl, rfl, trivial⟩
    rw [← fillB_set _ hi8]
    have e2 : (0 : Nat) + (i : Int).toNat * 1 = i := by simp
    rw [e2]
    show [cel b 196 ((bvs (fillB (fun i => n / 256 ^ (7 - i) % 256) 8 i)).set i (.int .u8 (IntKind.u8.wrap ((n : Int).fdiv (2 ^ (min (56 - 8 * (i : Int)).toNat 64))))))] = _
    rw [e1]
    rfl
  · obtain rfl : i = 8 := by omega
    (conv => whnf); repeat ((first | with_reducible refine CondG.tt ?_ | with_reducible refine CondG.ff ?_); conv => whnf)
    refine SideG.of (by decide) ?_
    (conv => whnf); repeat ((first | with_reducible refine CondG.tt ?_ | with_reducible refine CondG.ff ?_); conv => whnf)
    refine SliceG.zero ?_
    (conv => whnf); repeat ((first | with_reducible refine CondG.tt ?_ | with_reducible refine CondG.ff ?_); conv => whnf)
    rw [fillB_all, be_range n 8]
    exact ⟨[own 1 (.slice (some ⟨b, 0, none⟩) 8 8) 8 (bvs (be n 8))], own_of_cel (by simp [bvs_len, be_len]) (by decide), .inr ⟨b, 8, rfl, by decide⟩, by simp [retV], rfl⟩
theorem key_spec (F : List HP) (n : Nat) (hn : n < 9223372036854775808) : SpecF Tryd.prog 86 [.int .i64 n] F [] (fun r L => r = .string (tkey n) ∧ L = []) := by
  refine fun86.spec rfl ?_
  (conv => whnf); repeat ((first | with_reducible refine CondG.tt ?_ | with_reducible refine CondG.ff ?_); conv => whnf)
  refine CallG.pure (eight_spec _ n hn) ?_
  rintro r _ ⟨hr, _, rfl⟩
  (conv => whnf); repeat ((first | with_reducible refine CondG.tt ?_ | with_reducible refine CondG.ff ?_); conv => whnf)
  refine DoesG.toStr (e := 5) (bs := be n 8) (by kernel_rfl) (by kernel_rfl) (by kernel_rfl) (.left (own_rd hr (by simp [bvs_len, be_len])) F) (be_len n 8) ?_
  (conv => whnf); repeat ((first | with_reducible refine CondG.tt ?_ | with_reducible refine CondG.ff ?_); conv => whnf)
  refine DoesG.cat (by rw [strB_size, be_len]; decide) ?_
  (conv => whnf); repeat ((first | with_reducible refine CondG.tt ?_ | with_reducible refine CondG.ff ?_); conv => whnf)
  exact ⟨[], Ent.nil _, rfl, rfl⟩
theorem wbytes_spec (F : List HP) (ws : List Nat) (hw : ws.length = 4) : SpecF Tryd.prog 122 [.agg ⟨uvs ws⟩] F [] (fun r L => SlV r 32 ∧ L = [own 1 r 32 (bvs (wideB ws))]) := by
  refine fun122.spec rfl ?_
  (conv => whnf); repeat ((first | with_reducible refine CondG.tt ?_ | with_reducible refine CondG.ff ?_); conv => whnf)
  intro b1
  (conv => whnf); repeat ((first | with_reducible refine CondG.tt ?_ | with_reducible refine CondG.ff ?_); conv => whnf)
  refine DoesG.make0 bytesT .i64 .i64 (by decide) (by decide) fun v0 hv0 _ => ?_
  (conv => whnf); repeat ((first | with_reducible refine CondG.tt ?_ | with_reducible refine CondG.ff ?_); conv => whnf)
  refine LoopG.mk (fun m e L => ∃ i v, i ≤ 4 ∧ SlV v (8 * i) ∧ m = 4 - i ∧ e = [(1, .pointer (some ⟨b1, 0, none⟩)), (3, v), (4, .int .i64 (3 - i))] ∧ L = [own 1 v (8 * i) (bvs ((wideB ws).take (8 * i))), cel b1 30 (uvs ws)]) 4
    [(1, .pointer (some ⟨b1, 0, none⟩)), (3, v0), (4, .int .i64 3)] _ ⟨rfl, rfl, rfl, trivial⟩ (Ent.refl _) ⟨0, v0, by omega, hv0, rfl, rfl, rfl⟩ ?_
  rintro m e L ⟨i, v, hi, hvi, rfl, rfl, rfl⟩
  (conv => whnf); repeat ((first | with_reducible refine CondG.tt ?_ | with_reducible refine CondG.ff ?_); conv => whnf)
  refine CondG.dec (fun h => ?_) (fun h => ?_)
  · have hi4 : i < 4 := by omega
    (conv => whnf); repeat ((first | with_reducible refine CondG.tt ?_ | with_reducible refine CondG.ff ?_); conv => whnf)
    refine LoopG.mk (fun m e L => ∃ j v, j ≤ 8 ∧ SlV v (8 * i + j) ∧ m = 8 - j ∧ e = [(1, .pointer (some ⟨b1, 0, none⟩)), (3, v), (4, .int .i64 (3 - i)), (5, .int .i64 (56 - 8 * j))] ∧ L = [own 1 v (8 * i + j) (bvs ((wideB ws).take (8 * i + j))), cel b1 30 (uvs ws)]) 8
      [(1, .pointer (some ⟨b1, 0, none⟩)), (3, v), (4, .int .i64 (3 - i)), (5, .int .i64 56)] _ ⟨rfl, rfl, rfl, rfl, trivial⟩ (Ent.refl _) ⟨0, v, by omega, hvi, rfl, rfl, rfl⟩ ?_
    rintro m e L ⟨j, v, hj, hvj, rfl, rfl, rfl⟩
    (conv => whnf); repeat ((first | with_reducible refine CondG.tt ?_ | with_reducible refine CondG.ff ?_); conv => whnf)
    refine CondG.dec (fun h2 => ?_) (fun h2 => ?_)
    · have hj8 : j < 8 := by omega
      (conv => whnf); repeat ((first | with_reducible refine CondG.tt ?_ | with_reducible refine CondG.ff ?_); conv => whnf)
      refine SideG.of (by omega) ?_
      (conv => whnf); repeat ((first | with_reducible refine CondG.tt ?_ | with_reducible refine CondG.ff ?_); conv => whnf)
      have hg : (uvs ws)[0 + (3 - (i : Int)).toNat * 1]? = some (uv (ws.getD (3 - i) 0)) := by
        have e1 : 0 + (3 - (i : Int)).toNat * 1 = 3 - i := by omega
        rw [e1]
        have hlt : 3 - i < ws.length := by omega
        simp [uvs, List.getD, List.getElem?_eq_getElem hlt]
      refine LoadG.at (v := uv (ws.getD (3 - i) 0)) (.tl (.here hg)) ?_
      (conv => whnf); repeat ((first | with_reducible refine CondG.tt ?_ | with_reducible refine CondG.ff ?_); conv => whnf)
      refine SideG.of (by omega) ?_
      (conv => whnf); repeat ((first | with_reducible refine CondG.tt ?_ | with_reducible refine CondG.ff ?_); conv => whnf)
      refine ArithG.all ?_
      (conv => whnf); repeat ((first | with_reducible refine CondG.tt ?_ | with_reducible refine CondG.ff ?_); conv => whnf)
      refine BuildG.of rfl ?_
      (conv => whnf); repeat ((first | with_reducible refine CondG.tt ?_ | with_reducible refine CondG.ff ?_); conv => whnf)
      intro b2
      (conv => whnf); repeat ((first | with_reducible refine CondG.tt ?_ | with_reducible refine CondG.ff ?_); conv => whnf)
      refine DoesG.ent (Ent.front 1 rfl) ?_
      have e1 := shr_be (ws.getD (3 - i) 0) j hj8
      refine app_own bytesT 79 (m := 1) (ys := [bv (ws.getD (3 - i) 0 / 256 ^ (7 - j) % 256)]) (.mk _ _ _ _ _ (by decide) (.tl (.left (fun w hs => CelN.all w (by
        have e2 : (List.take 0 [Value.int .u8 0] ++ (Value.int .u8 (IntKind.u8.wrap (((ws.getD (3 - i) 0 : Nat) : Int).fdiv (2 ^ (min (56 - 8 * (j : Int)).toNat 64))))).cells.toList ++ List.drop (0 + 1) [Value.int .u8 0]) = [bv (ws.getD (3 - i) 0 / 256 ^ (7 - j) % 256)] := by
          rw [e1]; rfl
        rw [← e2]
        exact hs)) _))) rfl (by simp [bv, Value.oneCell']) (by simp only [maxLen]; omega) (by omega) fun r hr hlen hnil => ?_
      have e3 : bvs ((wideB ws).take (8 * i + j)) ++ [bv (ws.getD (3 - i) 0 / 256 ^ (7 - j) % 256)] = bvs ((wideB ws).take (8 * i + (j + 1))) := by
        have := wide_take ws (8 * i + j) (by omega)
        have q1 : (8 * i + j) / 8 = i := by omega
        have q2 : (8 * i + j) % 8 = j := by omega
        rw [q1, q2] at this
        rw [show 8 * i + (j + 1) = 8 * i + j + 1 by omega, this, ← bvs_append]
        rfl
      rw [e3]
      obtain ⟨ra, rc, hre⟩ := hr.len
      subst hre
      (conv => whnf); repeat ((first | with_reducible refine CondG.tt ?_ | with_reducible refine CondG.ff ?_); conv => whnf)
      refine ArithG.i64 (by omega) ?_
      (conv => whnf); repeat ((first | with_reducible refine CondG.tt ?_ | with_reducible refine CondG.ff ?_); conv => whnf)
      refine ⟨8 - (j + 1), [(1, .pointer (some ⟨b1, 0, none⟩)), (3, .slice ra (8 * i + j + 1) rc), (4, .int .i64 (3 - i)), (5, .int .i64 (56 - 8 * ((j + 1 : Nat) : Int)))], _, by omega, ?_, Ent.sel (T := []) [0, 2] (A := [_, _, _]) rfl, j + 1, _, by omega, hr, rfl, rfl, rfl⟩
      refine ⟨rfl, rfl, rfl, ?_, trivial⟩
      show some (Value.int .i64 (56 - 8 * (j : Int) - 8)) = _
      congr 2
      omega
    · obtain rfl : j = 8 := by omega
      (conv => whnf); repeat ((first | with_reducible refine CondG.tt ?_ | with_reducible refine CondG.ff ?_); conv => whnf)
      refine ArithG.i64 (by omega) ?_
      (conv => whnf); repeat ((first | with_reducible refine CondG.tt ?_ | with_reducible refine CondG.ff ?_); conv => whnf)
      refine ⟨4 - (i + 1), [(1, .pointer (some ⟨b1, 0, none⟩)), (3, v), (4, .int .i64 (3 - ((i + 1 : Nat) : Int)))], _, by omega, ?_, Ent.refl _, i + 1, v, by omega, hvj, rfl, rfl, rfl⟩
      refine ⟨rfl, rfl, ?_, trivial⟩
      show some (Value.int .i64 (3 - (i : Int) - 1)) = _
      congr 2
      omega
  · obtain rfl : i = 4 := by omega
    (conv => whnf); repeat ((first | with_reducible refine CondG.tt ?_ | with_reducible refine CondG.ff ?_); conv => whnf)
    refine ⟨[own 1 v 32 (bvs (wideB ws))], ?_, hvi, rfl⟩
    have e : (wideB ws).take (8 * 4) = wideB ws := List.take_of_length_le (by rw [wide_len]; decide)
    rw [e]
    exact Ent.dropL [own 1 v 32 (bvs (wideB ws))] [cel b1 30 (uvs ws)]
theorem number_spec_t (F : List HP) (v : Value) (bs : List Nat) (hb : bs.length ≤ 1152921504606846976) (hv : RdS F v bs.length (bvs bs)) : SpecF Tryd.prog 90 [v] F [] (fun r L => r = .int .i64 (numF bs) ∧ L = []) := by
  refine fun90.spec rfl ?_
  (conv => whnf); repeat ((first | with_reducible refine CondG.tt ?_ | with_reducible refine CondG.ff ?_); conv => whnf)
  refine LenG.rd hv ?_
  (conv => whnf); repeat ((first | with_reducible refine CondG.tt ?_ | with_reducible refine CondG.ff ?_); conv => whnf)
  refine LoopG.mk (fun m e L => ∃ i, i ≤ bs.length ∧ m = bs.length - i ∧ e = [(3, .int .i64 (numF (bs.take i))), (6, v), (7, .int .i64 bs.length), (8, .int .i64 i)] ∧ L = []) bs.length
    [(3, .int .i64 0), (6, v), (7, .int .i64 bs.length), (8, .int .i64 0)] _ ⟨rfl, rfl, rfl, rfl, trivial⟩ (Ent.refl _) ⟨0, by omega, rfl, rfl, rfl⟩ ?_
  rintro m e L ⟨i, hi, rfl, rfl, rfl⟩
  (conv => whnf); repeat ((first | with_reducible refine CondG.tt ?_ | with_reducible refine CondG.ff ?_); conv => whnf)
  refine CondG.dec (fun h => ?_) (fun h => ?_)
  · have hlt : i < bs.length := by omega
    (conv => whnf); repeat ((first | with_reducible refine CondG.tt ?_ | with_reducible refine CondG.ff ?_); conv => whnf)
    refine IdxG.rd hv (by omega) fun b o hc => ?_
    (conv => whnf); repeat ((first | with_reducible refine CondG.tt ?_ | with_reducible refine CondG.ff ?_); conv => whnf)
    refine LoadG.atF (v := bv bs[i]) (hc.one (i := (i : Int).toNat * 1) (by simpa using bvs_get hlt)) ?_
    (conv => whnf); repeat ((first | with_reducible refine CondG.tt ?_ | with_reducible refine CondG.ff ?_); conv => whnf)
    refine SideG.of (by decide) ?_
    (conv => whnf); repeat ((first | with_reducible refine CondG.tt ?_ | with_reducible refine CondG.ff ?_); conv => whnf)
    refine ArithG.all ?_
    (conv => whnf); repeat ((first | with_reducible refine CondG.tt ?_ | with_reducible refine CondG.ff ?_); conv => whnf)
    refine ArithG.all ?_
    (conv => whnf); repeat ((first | with_reducible refine CondG.tt ?_ | with_reducible refine CondG.ff ?_); conv => whnf)
    refine ArithG.i64 (by omega) ?_
    (conv => whnf); repeat ((first | with_reducible refine CondG.tt ?_ | with_reducible refine CondG.ff ?_); conv => whnf)
    refine ⟨bs.length - (i + 1), [(3, .int .i64 (numF (bs.take (i + 1)))), (6, v), (7, .int .i64 bs.length), (8, .int .i64 ((i + 1 : Nat)))], _, by omega, ?_, Ent.refl _, i + 1, by omega, rfl, rfl, rfl⟩
    refine ⟨?_, rfl, rfl, rfl, trivial⟩
    rw [numF_take bs i hlt]
    rfl
  · obtain rfl : i = bs.length := by omega
    rw [List.take_length]
    (conv => whnf); repeat ((first | with_reducible refine CondG.tt ?_ | with_reducible refine CondG.ff ?_); conv => whnf)
    exact ret_here ⟨rfl, rfl⟩
theorem wread_spec (F : List HP) (v : Value) (bs : List Nat) (hb : bs.length = 32) (hv : RdS F v 32 (bvs bs)) : SpecF Tryd.prog 124 [v] F [] (fun r L => r = .tuple #[.agg ⟨ivs (wordsF bs 0 [0, 0, 0, 0])⟩, .int .i64 0] ∧ L = []) := by
  refine fun124.spec rfl ?_
  (conv => whnf); repeat ((first | with_reducible refine CondG.tt ?_ | with_reducible refine CondG.ff ?_); conv => whnf)
  intro b2
  (conv => whnf); repeat ((first | with_reducible refine CondG.tt ?_ | with_reducible refine CondG.ff ?_); conv => whnf)
  intro b4
  (conv => whnf); repeat ((first | with_reducible refine CondG.tt ?_ | with_reducible refine CondG.ff ?_); conv => whnf)
  refine LenG.rd hv ?_
  (conv => whnf); repeat ((first | with_reducible refine CondG.tt ?_ | with_reducible refine CondG.ff ?_); conv => whnf)
  refine CondG.ff ?_
  (conv => whnf); repeat ((first | with_reducible refine CondG.tt ?_ | with_reducible refine CondG.ff ?_); conv => whnf)
  refine LenG.rd hv ?_
  (conv => whnf); repeat ((first | with_reducible refine CondG.tt ?_ | with_reducible refine CondG.ff ?_); conv => whnf)
  refine LoopG.mk (fun m e L => ∃ i, i ≤ 32 ∧ m = 32 - i ∧ e = [(2, .pointer (some ⟨b2, 0, none⟩)), (4, .pointer (some ⟨b4, 0, none⟩)), (11, v), (12, .int .i64 32), (13, .int .i64 i)] ∧
    L = [cel b4 30 (ivs (wordsF (bs.take i) 0 [0, 0, 0, 0])), cel b2 30 (ivs [0, 0, 0, 0])]) 32
    [(2, .pointer (some ⟨b2, 0, none⟩)), (4, .pointer (some ⟨b4, 0, none⟩)), (11, v), (12, .int .i64 32), (13, .int .i64 0)] _ ⟨rfl, rfl, rfl, rfl, rfl, trivial⟩ (Ent.refl _) ⟨0, by omega, rfl, rfl, rfl⟩ ?_
  rintro m e L ⟨i, hi, rfl, rfl, rfl⟩
  (conv => whnf); repeat ((first | with_reducible refine CondG.tt ?_ | with_reducible refine CondG.ff ?_); conv => whnf)
  refine CondG.dec (fun h => ?_) (fun h => ?_)
  · have hlt : i < 32 := by omega
    have hq : (i : Int).tdiv 8 = ((i / 8 : Nat) : Int) := rfl
    have hwl : (wordsF (bs.take i) 0 [0, 0, 0, 0]).length = 4 := wordsF_len _ _ _
    (conv => whnf); repeat ((first | with_reducible refine CondG.tt ?_ | with_reducible refine CondG.ff ?_); conv => whnf)
    refine IdxG.rd hv (by omega) fun b o hc => ?_
    (conv => whnf); repeat ((first | with_reducible refine CondG.tt ?_ | with_reducible refine CondG.ff ?_); conv => whnf)
    refine LoadG.atF (v := bv (bs[i]'(by omega))) (hc.one (i := (i : Int).toNat * 1) (by simpa using bvs_get (by omega))) ?_
    (conv => whnf); repeat ((first | with_reducible refine CondG.tt ?_ | with_reducible refine CondG.ff ?_); conv => whnf)
    refine SideG.of (by decide) ?_
    (conv => whnf); repeat ((first | with_reducible refine CondG.tt ?_ | with_reducible refine CondG.ff ?_); conv => whnf)
    refine ArithG.i64' _ hq (by omega) ?_
    (conv => whnf); repeat ((first | with_reducible refine CondG.tt ?_ | with_reducible refine CondG.ff ?_); conv => whnf)
    refine ArithG.i64 (by omega) ?_
    (conv => whnf); repeat ((first | with_reducible refine CondG.tt ?_ | with_reducible refine CondG.ff ?_); conv => whnf)
    refine SideG.of (by decide) ?_
    (conv => whnf); repeat ((first | with_reducible refine CondG.tt ?_ | with_reducible refine CondG.ff ?_); conv => whnf)
    refine ArithG.i64' _ hq (by omega) ?_
    (conv => whnf); repeat ((first | with_reducible refine CondG.tt ?_ | with_reducible refine CondG.ff ?_); conv => whnf)
    refine ArithG.i64 (by omega) ?_
    (conv => whnf); repeat ((first | with_reducible refine CondG.tt ?_ | with_reducible refine CondG.ff ?_); conv => whnf)
    refine SideG.of (by omega) ?_
    (conv => whnf); repeat ((first | with_reducible refine CondG.tt ?_ | with_reducible refine CondG.ff ?_); conv => whnf)
    have e1 : 0 + (3 - ((i / 8 : Nat) : Int)).toNat * 1 = 3 - i / 8 := by omega
    have hg : (ivs (wordsF (bs.take i) 0 [0, 0, 0, 0]))[0 + (3 - ((i / 8 : Nat) : Int)).toNat * 1]? = some (.int .u64 ((wordsF (bs.take i) 0 [0, 0, 0, 0]).getD (3 - i / 8) 0)) := by
      rw [e1]
      have hl4 : 3 - i / 8 < (wordsF (bs.take i) 0 [0, 0, 0, 0]).length := by omega
      simp [ivs, List.getD, List.getElem?_eq_getElem hl4]
    refine LoadG.at (v := .int .u64 ((wordsF (bs.take i) 0 [0, 0, 0, 0]).getD (3 - i / 8) 0)) (.here hg) ?_
    (conv => whnf); repeat ((first | with_reducible refine CondG.tt ?_ | with_reducible refine CondG.ff ?_); conv => whnf)
    refine SideG.of (by decide) ?_
    (conv => whnf); repeat ((first | with_reducible refine CondG.tt ?_ | with_reducible refine CondG.ff ?_); conv => whnf)
    refine ArithG.all ?_
    (conv => whnf); repeat ((first | with_reducible refine CondG.tt ?_ | with_reducible refine CondG.ff ?_); conv => whnf)
    refine ArithG.all ?_
    (conv => whnf); repeat ((first | with_reducible refine CondG.tt ?_ | with_reducible refine CondG.ff ?_); conv => whnf)
    refine SideG.of (by omega) ?_
    (conv => whnf); repeat ((first | with_reducible refine CondG.tt ?_ | with_reducible refine CondG.ff ?_); conv => whnf)
    refine StoreG.at rfl (Upd.here (by rw [e1]; simp [ivs, hwl]; omega) rfl) ?_
    (conv => whnf); repeat ((first | with_reducible refine CondG.tt ?_ | with_reducible refine CondG.ff ?_); conv => whnf)
    refine ArithG.i64 (by omega) ?_
    (conv => whnf); repeat ((first | with_reducible refine CondG.tt ?_ | with_reducible refine CondG.ff ?_); conv => whnf)
    refine ⟨32 - (i + 1), _, _, by omega, ?_, Ent.refl _, i + 1, by omega, rfl, rfl, ?_⟩
    · exact ⟨rfl, rfl, rfl, rfl, rfl, trivial⟩
    rw [wordsF_take bs 0 i _ (by omega), wordsStep]
    simp only [Nat.zero_add]
    rw [show (3 - ((i / 8 : Nat) : Int)).toNat * 1 = 3 - i / 8 by omega]
    simp only [ivs, List.map_set]
    rfl
  · obtain rfl : i = 32 := by omega
    rw [List.take_of_length_le (by omega)]
    (conv => whnf); repeat ((first | with_reducible refine CondG.tt ?_ | with_reducible refine CondG.ff ?_); conv => whnf)
    refine LoadNG.at (vs := ivs (wordsF bs 0 [0, 0, 0, 0])) (by simp [ivs, wordsF_len]) .all ?_
    (conv => whnf); repeat ((first | with_reducible refine CondG.tt ?_ | with_reducible refine CondG.ff ?_); conv => whnf)
    refine StoreG.at (by simp [ivs, wordsF_len]) (Upd.tl (Upd.whole (by simp [ivs, wordsF_len]) (by intro u hu; obtain ⟨z, _, rfl⟩ := List.mem_map.1 hu; rfl))) ?_
    (conv => whnf); repeat ((first | with_reducible refine CondG.tt ?_ | with_reducible refine CondG.ff ?_); conv => whnf)
    refine LoadNG.at (vs := ivs (wordsF bs 0 [0, 0, 0, 0])) (by simp [ivs, wordsF_len]) (.tl .all) ?_
    (conv => whnf); repeat ((first | with_reducible refine CondG.tt ?_ | with_reducible refine CondG.ff ?_); conv => whnf)
    exact ⟨[], Ent.nil _, rfl, rfl⟩
theorem tmay_spec (F : List HP) (t : TicketD) (ht : t.wf) : SpecF Tryd.prog 85 [.agg ⟨t.cells⟩] F [] (fun v L => v = .bool (decide t.may) ∧ L = []) := by
  refine fun85.spec rfl ?_
  (conv => whnf); repeat ((first | with_reducible refine CondG.tt ?_ | with_reducible refine CondG.ff ?_); conv => whnf)
  intro b
  (conv => whnf); repeat ((first | with_reducible refine CondG.tt ?_ | with_reducible refine CondG.ff ?_); conv => whnf)
  refine LoadG.at (v := .int .i64 t.ent) (.here rfl) ?_
  (conv => whnf); repeat ((first | with_reducible refine CondG.tt ?_ | with_reducible refine CondG.ff ?_); conv => whnf)
  refine CondG.dec (fun h1 => ?_) (fun h1 => ?_)
  rotate_left
  · (conv => whnf); repeat ((first | with_reducible refine CondG.tt ?_ | with_reducible refine CondG.ff ?_); conv => whnf)
    exact ⟨[], Ent.nil _, congrArg Value.bool (decide_eq_false fun h => h1 h.1.1).symm, rfl⟩
  (conv => whnf); repeat ((first | with_reducible refine CondG.tt ?_ | with_reducible refine CondG.ff ?_); conv => whnf)
  refine LoadG.at (v := .int .i64 t.ent) (.here rfl) ?_
  (conv => whnf); repeat ((first | with_reducible refine CondG.tt ?_ | with_reducible refine CondG.ff ?_); conv => whnf)
  refine CondG.dec (fun h2 => ?_) (fun h2 => ?_)
  rotate_left
  · (conv => whnf); repeat ((first | with_reducible refine CondG.tt ?_ | with_reducible refine CondG.ff ?_); conv => whnf)
    exact ⟨[], Ent.nil _, congrArg Value.bool (decide_eq_false fun h => h2 h.1.2).symm, rfl⟩
  (conv => whnf); repeat ((first | with_reducible refine CondG.tt ?_ | with_reducible refine CondG.ff ?_); conv => whnf)
  refine LoadG.at (v := .int .i64 t.tok) (.here (TicketD.tok_at ht)) ?_
  (conv => whnf); repeat ((first | with_reducible refine CondG.tt ?_ | with_reducible refine CondG.ff ?_); conv => whnf)
  refine CondG.dec (fun h3 => ?_) (fun h3 => ?_)
  rotate_left
  · (conv => whnf); repeat ((first | with_reducible refine CondG.tt ?_ | with_reducible refine CondG.ff ?_); conv => whnf)
    exact ⟨[], Ent.nil _, congrArg Value.bool (decide_eq_false fun h => h3 h.2.1.1).symm, rfl⟩
  (conv => whnf); repeat ((first | with_reducible refine CondG.tt ?_ | with_reducible refine CondG.ff ?_); conv => whnf)
  refine LoadG.at (v := .int .i64 t.tok) (.here (TicketD.tok_at ht)) ?_
  (conv => whnf); repeat ((first | with_reducible refine CondG.tt ?_ | with_reducible refine CondG.ff ?_); conv => whnf)
  refine CondG.dec (fun h4 => ?_) (fun h4 => ?_)
  rotate_left
  · (conv => whnf); repeat ((first | with_reducible refine CondG.tt ?_ | with_reducible refine CondG.ff ?_); conv => whnf)
    exact ⟨[], Ent.nil _, congrArg Value.bool (decide_eq_false fun h => h4 h.2.1.2).symm, rfl⟩
  (conv => whnf); repeat ((first | with_reducible refine CondG.tt ?_ | with_reducible refine CondG.ff ?_); conv => whnf)
  refine LoadNG.at (vs := uvs t.amt) (by rw [uvs_len, ht.amt]) (CelN.here (TicketD.amt_at ht)) ?_
  (conv => whnf); repeat ((first | with_reducible refine CondG.tt ?_ | with_reducible refine CondG.ff ?_); conv => whnf)
  refine CallG.pure (isZero_spec _ _ ht.amt) ?_
  rintro _ _ ⟨rfl, rfl⟩
  (conv => whnf); repeat ((first | with_reducible refine CondG.tt ?_ | with_reducible refine CondG.ff ?_); conv => whnf)
  refine ⟨[], Ent.nil _, congrArg Value.bool ?_, rfl⟩
  by_cases h5 : t.amt = List.replicate 4 0
  · rw [decide_eq_true h5]
    exact (decide_eq_false fun h => h.2.2 h5).symm
  · rw [decide_eq_false h5]
    exact (decide_eq_true ⟨⟨h1, h2⟩, ⟨h3, h4⟩, h5⟩).symm
theorem tvalue_spec (F : List HP) (t : TicketD) (ht : t.wf) (he : 0 ≤ t.ent ∧ t.ent < 9223372036854775808) (hk : 0 ≤ t.tok ∧ t.tok < 256) : SpecF Tryd.prog 87 [.agg ⟨t.cells⟩] F [] (fun r L => SlV r t.value.length ∧ L = [own 1 r t.value.length (bvs t.value)]) := by
  obtain ⟨n, hn⟩ : ∃ n : Nat, t.ent = n := ⟨t.ent.toNat, (Int.toNat_of_nonneg he.1).symm⟩
  have hb1 : (bvs t.snd).length = 20 := by rw [bvs_len, ht.snd]
  have hb2 : (bvs t.to).length = 20 := by rw [bvs_len, ht.to]
  refine fun87.spec rfl ?_
  (conv => whnf); repeat ((first | with_reducible refine CondG.tt ?_ | with_reducible refine CondG.ff ?_); conv => whnf)
  intro b
  (conv => whnf); repeat ((first | with_reducible refine CondG.tt ?_ | with_reducible refine CondG.ff ?_); conv => whnf)
  refine DrawG.mk 7 [cel b 96 t.cells] [] (Ent.refl _) ?_
  (conv => whnf); repeat ((first | with_reducible refine CondG.tt ?_ | with_reducible refine CondG.ff ?_); conv => whnf)
  refine .take 0 ?_
  (conv => whnf); repeat ((first | with_reducible refine CondG.tt ?_ | with_reducible refine CondG.ff ?_); conv => whnf)
  refine ⟨rfl, ?_⟩
  (conv => whnf); repeat ((first | with_reducible refine CondG.tt ?_ | with_reducible refine CondG.ff ?_); conv => whnf)
  refine .take 1 ?_
  (conv => whnf); repeat ((first | with_reducible refine CondG.tt ?_ | with_reducible refine CondG.ff ?_); conv => whnf)
  refine ⟨rfl, ?_⟩
  (conv => whnf); repeat ((first | with_reducible refine CondG.tt ?_ | with_reducible refine CondG.ff ?_); conv => whnf)
  refine LoadG.at (v := .int .i64 n) (.here (congrArg (fun z => some (Value.int .i64 z)) hn)) ?_
  (conv => whnf); repeat ((first | with_reducible refine CondG.tt ?_ | with_reducible refine CondG.ff ?_); conv => whnf)
  refine .take 3 ?_
  (conv => whnf); repeat ((first | with_reducible refine CondG.tt ?_ | with_reducible refine CondG.ff ?_); conv => whnf)
  refine ⟨rfl, ?_⟩
  (conv => whnf); repeat ((first | with_reducible refine CondG.tt ?_ | with_reducible refine CondG.ff ?_); conv => whnf)
  refine .take 4 ?_
  (conv => whnf); repeat ((first | with_reducible refine CondG.tt ?_ | with_reducible refine CondG.ff ?_); conv => whnf)
  refine ⟨rfl, ?_⟩
  (conv => whnf); repeat ((first | with_reducible refine CondG.tt ?_ | with_reducible refine CondG.ff ?_); conv => whnf)
  refine SideG.of (by decide) ?_
  (conv => whnf); repeat ((first | with_reducible refine CondG.tt ?_ | with_reducible refine CondG.ff ?_); conv => whnf)
  refine SliceG.zero ?_
  (conv => whnf); repeat ((first | with_reducible refine CondG.tt ?_ | with_reducible refine CondG.ff ?_); conv => whnf)
  refine .all ?_
  (conv => whnf); repeat ((first | with_reducible refine CondG.tt ?_ | with_reducible refine CondG.ff ?_); conv => whnf)
  refine ⟨by decide, ?_⟩
  (conv => whnf); repeat ((first | with_reducible refine CondG.tt ?_ | with_reducible refine CondG.ff ?_); conv => whnf)
  refine CallG.pure (eight_spec _ n (by omega)) ?_
  rintro r _ ⟨hr, _, rfl⟩
  (conv => whnf); repeat ((first | with_reducible refine CondG.tt ?_ | with_reducible refine CondG.ff ?_); conv => whnf)
  refine .all ?_
  (conv => whnf); repeat ((first | with_reducible refine CondG.tt ?_ | with_reducible refine CondG.ff ?_); conv => whnf)
  refine ⟨by decide, ?_⟩
  (conv => whnf); repeat ((first | with_reducible refine CondG.tt ?_ | with_reducible refine CondG.ff ?_); conv => whnf)
  refine app_own bytesT 79 (m := 20) (ys := bvs t.snd) (.mk _ _ _ _ _ (by decide) (.tl (.right (.left (CelN.here (by rw [hb1]; exact hb1 ▸ t.snd_at)) F) _))) (by rw [hb1]) (bvs_one _) (by decide) (by decide) fun r1 hr1 hl1 hn1 => ?_
  rw [bvs_append] at hl1 ⊢
  (conv => whnf); repeat ((first | with_reducible refine CondG.tt ?_ | with_reducible refine CondG.ff ?_); conv => whnf)
  refine .take 6 ?_
  (conv => whnf); repeat ((first | with_reducible refine CondG.tt ?_ | with_reducible refine CondG.ff ?_); conv => whnf)
  refine ⟨rfl, ?_⟩
  (conv => whnf); repeat ((first | with_reducible refine CondG.tt ?_ | with_reducible refine CondG.ff ?_); conv => whnf)
  refine ⟨rfl, ?_⟩
  (conv => whnf); repeat ((first | with_reducible refine CondG.tt ?_ | with_reducible refine CondG.ff ?_); conv => whnf)
  refine DrawG.mk 10 [cel b 96 t.cells] [own 1 r1 (8 + 20) (bvs (be n 8 ++ t.snd))] (Ent.refl _) ?_
  (conv => whnf); repeat ((first | with_reducible refine CondG.tt ?_ | with_reducible refine CondG.ff ?_); conv => whnf)
  refine .take 0 ?_
  (conv => whnf); repeat ((first | with_reducible refine CondG.tt ?_ | with_reducible refine CondG.ff ?_); conv => whnf)
  refine ⟨rfl, ?_⟩
  (conv => whnf); repeat ((first | with_reducible refine CondG.tt ?_ | with_reducible refine CondG.ff ?_); conv => whnf)
  refine .take 1 ?_
  (conv => whnf); repeat ((first | with_reducible refine CondG.tt ?_ | with_reducible refine CondG.ff ?_); conv => whnf)
  refine ⟨rfl, ?_⟩
  (conv => whnf); repeat ((first | with_reducible refine CondG.tt ?_ | with_reducible refine CondG.ff ?_); conv => whnf)
  refine .take 2 ?_
  (conv => whnf); repeat ((first | with_reducible refine CondG.tt ?_ | with_reducible refine CondG.ff ?_); conv => whnf)
  refine ⟨rfl, ?_⟩
  (conv => whnf); repeat ((first | with_reducible refine CondG.tt ?_ | with_reducible refine CondG.ff ?_); conv => whnf)
  refine LoadG.at (v := .int .i64 t.tok) (.here (TicketD.tok_at ht)) ?_
  (conv => whnf); repeat ((first | with_reducible refine CondG.tt ?_ | with_reducible refine CondG.ff ?_); conv => whnf)
  refine .take 3 ?_
  (conv => whnf); repeat ((first | with_reducible refine CondG.tt ?_ | with_reducible refine CondG.ff ?_); conv => whnf)
  refine ⟨rfl, ?_⟩
  (conv => whnf); repeat ((first | with_reducible refine CondG.tt ?_ | with_reducible refine CondG.ff ?_); conv => whnf)
  refine ArithG.u8 (by omega) ?_
  (conv => whnf); repeat ((first | with_reducible refine CondG.tt ?_ | with_reducible refine CondG.ff ?_); conv => whnf)
  refine .take 6 ?_
  (conv => whnf); repeat ((first | with_reducible refine CondG.tt ?_ | with_reducible refine CondG.ff ?_); conv => whnf)
  refine ⟨rfl, ?_⟩
  (conv => whnf); repeat ((first | with_reducible refine CondG.tt ?_ | with_reducible refine CondG.ff ?_); conv => whnf)
  refine .take 7 ?_
  (conv => whnf); repeat ((first | with_reducible refine CondG.tt ?_ | with_reducible refine CondG.ff ?_); conv => whnf)
  refine ⟨rfl, ?_⟩
  (conv => whnf); repeat ((first | with_reducible refine CondG.tt ?_ | with_reducible refine CondG.ff ?_); conv => whnf)
  refine SideG.of (by decide) ?_
  (conv => whnf); repeat ((first | with_reducible refine CondG.tt ?_ | with_reducible refine CondG.ff ?_); conv => whnf)
  refine SliceG.zero ?_
  (conv => whnf); repeat ((first | with_reducible refine CondG.tt ?_ | with_reducible refine CondG.ff ?_); conv => whnf)
  refine .all ?_
  (conv => whnf); repeat ((first | with_reducible refine CondG.tt ?_ | with_reducible refine CondG.ff ?_); conv => whnf)
  refine ⟨by decide, ?_⟩
  (conv => whnf); repeat ((first | with_reducible refine CondG.tt ?_ | with_reducible refine CondG.ff ?_); conv => whnf)
  refine BuildG.of rfl ?_
  (conv => whnf); repeat ((first | with_reducible refine CondG.tt ?_ | with_reducible refine CondG.ff ?_); conv => whnf)
  intro b4
  (conv => whnf); repeat ((first | with_reducible refine CondG.tt ?_ | with_reducible refine CondG.ff ?_); conv => whnf)
  refine .all ?_
  (conv => whnf); repeat ((first | with_reducible refine CondG.tt ?_ | with_reducible refine CondG.ff ?_); conv => whnf)
  refine ⟨by decide, ?_⟩
  (conv => whnf); repeat ((first | with_reducible refine CondG.tt ?_ | with_reducible refine CondG.ff ?_); conv => whnf)
  refine DoesG.ent (Ent.front 1 rfl) ?_
  have hk2 : (Value.int .u8 t.tok) = bv t.tok.toNat := by
    unfold bv
    rw [Int.toNat_of_nonneg hk.1]
  refine app_own bytesT 79 (m := 1) (ys := bvs [t.tok.toNat]) (.mk _ _ _ _ _ (by decide) (.tl (.left (CelN.here (by rw [hk2]; rfl)) _))) rfl (bvs_one _) (by decide) (by decide) fun r2 hr2 hl2 hn2 => ?_
  rw [bvs_append] at hl2 ⊢
  (conv => whnf); repeat ((first | with_reducible refine CondG.tt ?_ | with_reducible refine CondG.ff ?_); conv => whnf)
  refine .all ?_
  (conv => whnf); repeat ((first | with_reducible refine CondG.tt ?_ | with_reducible refine CondG.ff ?_); conv => whnf)
  refine ⟨by decide, ?_⟩
  (conv => whnf); repeat ((first | with_reducible refine CondG.tt ?_ | with_reducible refine CondG.ff ?_); conv => whnf)
  refine app_own bytesT 79 (m := 20) (ys := bvs t.to) (.mk _ _ _ _ _ (by decide) (.tl (.right (.left (CelN.here (by rw [hb2]; exact hb2 ▸ TicketD.to_at ht)) F) _))) (by rw [hb2]) (bvs_one _) (by decide) (by decide) fun r3 hr3 hl3 hn3 => ?_
  rw [bvs_append] at hl3 ⊢
  (conv => whnf); repeat ((first | with_reducible refine CondG.tt ?_ | with_reducible refine CondG.ff ?_); conv => whnf)
  refine .take 9 ?_
  (conv => whnf); repeat ((first | with_reducible refine CondG.tt ?_ | with_reducible refine CondG.ff ?_); conv => whnf)
  refine ⟨rfl, ?_⟩
  (conv => whnf); repeat ((first | with_reducible refine CondG.tt ?_ | with_reducible refine CondG.ff ?_); conv => whnf)
  refine ⟨rfl, ?_⟩
  (conv => whnf); repeat ((first | with_reducible refine CondG.tt ?_ | with_reducible refine CondG.ff ?_); conv => whnf)
  refine LoadNG.at (vs := uvs t.amt) (by rw [uvs_len, ht.amt]) (.tl (.tl (CelN.here (TicketD.amt_at ht)))) ?_
  (conv => whnf); repeat ((first | with_reducible refine CondG.tt ?_ | with_reducible refine CondG.ff ?_); conv => whnf)
  refine CallG.pure (wbytes_spec _ _ ht.amt) ?_
  rintro r4 _ ⟨hr4, rfl⟩
  (conv => whnf); repeat ((first | with_reducible refine CondG.tt ?_ | with_reducible refine CondG.ff ?_); conv => whnf)
  refine DoesG.ent (Ent.front 1 rfl) ?_
  refine app_own bytesT 79 (m := 32) (ys := bvs (wideB t.amt)) (.tl (.left (own_rd hr4 (by rw [bvs_len, wide_len])) _)) (by rw [bvs_len, wide_len]) (bvs_one _) (by decide) (by decide) fun r5 hr5 hl5 hn5 => ?_
  rw [bvs_append] at hl5 ⊢
  (conv => whnf); repeat ((first | with_reducible refine CondG.tt ?_ | with_reducible refine CondG.ff ?_); conv => whnf)
  have e : be n 8 ++ t.snd ++ [t.tok.toNat] ++ t.to ++ wideB t.amt = t.value := by simp only [TicketD.value, hn, Int.toNat_natCast]
  rw [e] at *
  have hl : t.value.length = 8 + 20 + 1 + 20 + 32 := by rw [TicketD.value_len ht]
  rw [hl]
  exact ⟨_, Ent.dropL [own 1 r5 (8 + 20 + 1 + 20 + 32) (bvs t.value)] _, hr5, rfl⟩
theorem cut_spec (F A : List HP) (q n m : Nat) (v : Value) (bs : List Nat) (hn : n ≤ m) (hm : bs.length = m) (hv : RdS A v m (bvs bs)) (hb : m ≤ 1152921504606846976) :
    SpecF Tryd.prog 123 [.int .i64 n, .pointer (some ⟨q, 0, none⟩)] F [cel q 79 [v]] (fun r L => RdS A r n (bvs (bs.take n)) ∧ ∃ v', RdS A v' (m - n) (bvs (bs.drop n)) ∧ L = [cel q 79 [v']]) := by
  refine fun123.spec rfl ?_
  (conv => whnf); repeat ((first | with_reducible refine CondG.tt ?_ | with_reducible refine CondG.ff ?_); conv => whnf)
  refine LoadG.at (.here rfl) ?_
  (conv => whnf); repeat ((first | with_reducible refine CondG.tt ?_ | with_reducible refine CondG.ff ?_); conv => whnf)
  refine SlcG.rd hv fun a cap ha hc => ?_
  subst ha
  (conv => whnf); repeat ((first | with_reducible refine CondG.tt ?_ | with_reducible refine CondG.ff ?_); conv => whnf)
  refine SideG.of (by omega) ?_
  (conv => whnf); repeat ((first | with_reducible refine CondG.tt ?_ | with_reducible refine CondG.ff ?_); conv => whnf)
  refine SliceG.rd (n := m) hv (by simp) (by simpa using hn) (by simp; omega) (by simp) fun r hr _ => ?_
  (conv => whnf); repeat ((first | with_reducible refine CondG.tt ?_ | with_reducible refine CondG.ff ?_); conv => whnf)
  refine LoadG.at (.here rfl) ?_
  (conv => whnf); repeat ((first | with_reducible refine CondG.tt ?_ | with_reducible refine CondG.ff ?_); conv => whnf)
  refine SlcG.lit ?_
  (conv => whnf); repeat ((first | with_reducible refine CondG.tt ?_ | with_reducible refine CondG.ff ?_); conv => whnf)
  refine SideG.of (by omega) ?_
  (conv => whnf); repeat ((first | with_reducible refine CondG.tt ?_ | with_reducible refine CondG.ff ?_); conv => whnf)
  refine SliceG.rd (n := m) hv (by simpa using hn) (by simp) (by simp; omega) (by simp) fun v' hv' _ => ?_
  obtain ⟨va, vc, hve⟩ := hv'.len
  subst hve
  (conv => whnf); repeat ((first | with_reducible refine CondG.tt ?_ | with_reducible refine CondG.ff ?_); conv => whnf)
  refine StoreG.at rfl (Upd.whole rfl (by simp [Value.oneCell'])) ?_
  (conv => whnf); repeat ((first | with_reducible refine CondG.tt ?_ | with_reducible refine CondG.ff ?_); conv => whnf)
  refine ret_here ⟨?_, _, ?_, rfl⟩
  · have e1 : ((n : Int).toNat - (0 : Int).toNat) = n := by simp
    have e2 : ((bvs bs).drop ((0 : Int).toNat * 1)).take (((n : Int).toNat - (0 : Int).toNat) * 1) = bvs (bs.take n) := by simp [bvs]
    rw [e2, e1] at hr
    exact hr
  · have e1 : ((m : Int).toNat - (n : Int).toNat) = m - n := by simp
    have e2 : ((bvs bs).drop ((n : Int).toNat * 1)).take (((m : Int).toNat - (n : Int).toNat) * 1) = bvs (bs.drop n) := by
      simp only [Int.toNat_natCast, Nat.mul_one]
      rw [List.take_of_length_le (by simp [bvs]; omega)]
      simp [bvs]
    rw [e2, e1] at hv'
    simpa using hv'
end Go.Proofs.YthdpknlnpeaiiaaDoor
