/-
  The digest's end, and the digest of bytes: contracts out of the resolved texts.
-/
import Derived.Test.YthdpknlnpeaiiaaDoorSh
import Derived.Test.YthdpknlnpeaiiaaDoorZLv
namespace Go.Proofs.YthdpknlnpeaiiaaDoor
open Go Go.Sl
theorem end_spec (F : List HP) (K : List W32) (hK : CelN F 4 0 (wvs K)) (hk : K.length = 64) (h : Nat) (m : List Nat) (s : List W32) (wait : List Nat) (hH : Hs K m s wait) (hm : m.length ≤ 1152921504606846976) (hb : ∀ b ∈ m, b < 256) :
    SpecF Tryd.prog 173 [.pointer (some ⟨h, 0, none⟩), .int .u8 0, .int .i64 0] F [cel h 245 (hC s wait m.length)] (fun v L => v = .agg ⟨bvs (dig K m)⟩ ∧ L = [cel h 245 (hC s wait m.length)]) := by
  have hs : s.length = 8 := by rw [hH.st]; exact stN_len _ _ _
  have hat : m.length % 64 < 64 := Nat.mod_lt _ (by decide)
  have hmod : ((m.length : Nat) : Int).tmod 64 = ((m.length % 64 : Nat) : Int) := rfl
  refine fun173.spec rfl ?_
  (conv => whnf); repeat ((first | with_reducible refine CondG.tt ?_ | with_reducible refine CondG.ff ?_); conv => whnf)
  intro b6
  (conv => whnf); repeat ((first | with_reducible refine CondG.tt ?_ | with_reducible refine CondG.ff ?_); conv => whnf)
  refine DrawG.mk 12 [cel h 245 (hC s wait m.length)] [cel b6 25 (bvs (List.replicate 32 0))] (Ent.refl _) ?_
  (conv => whnf); repeat ((first | with_reducible refine CondG.tt ?_ | with_reducible refine CondG.ff ?_); conv => whnf)
  refine .take 0 ?_
  (conv => whnf); repeat ((first | with_reducible refine CondG.tt ?_ | with_reducible refine CondG.ff ?_); conv => whnf)
  refine ⟨rfl, ?_⟩
  (conv => whnf); repeat ((first | with_reducible refine CondG.tt ?_ | with_reducible refine CondG.ff ?_); conv => whnf)
  refine .take 1 ?_
  (conv => whnf); repeat ((first | with_reducible refine CondG.tt ?_ | with_reducible refine CondG.ff ?_); conv => whnf)
  refine ⟨rfl, ?_⟩
  (conv => whnf); repeat ((first | with_reducible refine CondG.tt ?_ | with_reducible refine CondG.ff ?_); conv => whnf)
  refine .take 2 ?_
  (conv => whnf); repeat ((first | with_reducible refine CondG.tt ?_ | with_reducible refine CondG.ff ?_); conv => whnf)
  refine ⟨rfl, ?_⟩
  (conv => whnf); repeat ((first | with_reducible refine CondG.tt ?_ | with_reducible refine CondG.ff ?_); conv => whnf)
  refine .take 3 ?_
  (conv => whnf); repeat ((first | with_reducible refine CondG.tt ?_ | with_reducible refine CondG.ff ?_); conv => whnf)
  refine ⟨rfl, ?_⟩
  (conv => whnf); repeat ((first | with_reducible refine CondG.tt ?_ | with_reducible refine CondG.ff ?_); conv => whnf)
  refine LoadNG.at (vs := wvs s) (by rw [wvs_len, hs]) (CelN.here hC_s) ?_
  (conv => whnf); repeat ((first | with_reducible refine CondG.tt ?_ | with_reducible refine CondG.ff ?_); conv => whnf)
  refine .take 4 ?_
  (conv => whnf); repeat ((first | with_reducible refine CondG.tt ?_ | with_reducible refine CondG.ff ?_); conv => whnf)
  refine ⟨rfl, ?_⟩
  (conv => whnf); repeat ((first | with_reducible refine CondG.tt ?_ | with_reducible refine CondG.ff ?_); conv => whnf)
  refine .take 5 ?_
  (conv => whnf); repeat ((first | with_reducible refine CondG.tt ?_ | with_reducible refine CondG.ff ?_); conv => whnf)
  refine ⟨rfl, ?_⟩
  (conv => whnf); repeat ((first | with_reducible refine CondG.tt ?_ | with_reducible refine CondG.ff ?_); conv => whnf)
  refine .take 6 ?_
  (conv => whnf); repeat ((first | with_reducible refine CondG.tt ?_ | with_reducible refine CondG.ff ?_); conv => whnf)
  refine ⟨rfl, ?_⟩
  (conv => whnf); repeat ((first | with_reducible refine CondG.tt ?_ | with_reducible refine CondG.ff ?_); conv => whnf)
  refine .take 7 ?_
  (conv => whnf); repeat ((first | with_reducible refine CondG.tt ?_ | with_reducible refine CondG.ff ?_); conv => whnf)
  refine ⟨rfl, ?_⟩
  (conv => whnf); repeat ((first | with_reducible refine CondG.tt ?_ | with_reducible refine CondG.ff ?_); conv => whnf)
  refine LoadNG.at (vs := bvs wait) (by rw [bvs_len, hH.len]) (CelN.here (hC_wait hs)) ?_
  (conv => whnf); repeat ((first | with_reducible refine CondG.tt ?_ | with_reducible refine CondG.ff ?_); conv => whnf)
  refine .all ?_
  (conv => whnf); repeat ((first | with_reducible refine CondG.tt ?_ | with_reducible refine CondG.ff ?_); conv => whnf)
  refine ⟨by decide, ?_⟩
  (conv => whnf); repeat ((first | with_reducible refine CondG.tt ?_ | with_reducible refine CondG.ff ?_); conv => whnf)
  refine ⟨?_, ?_⟩
  (conv => whnf); repeat ((first | with_reducible refine CondG.tt ?_ | with_reducible refine CondG.ff ?_); conv => whnf)
  intro b7
  (conv => whnf); repeat ((first | with_reducible refine CondG.tt ?_ | with_reducible refine CondG.ff ?_); conv => whnf)
  refine .all ?_
  (conv => whnf); repeat ((first | with_reducible refine CondG.tt ?_ | with_reducible refine CondG.ff ?_); conv => whnf)
  refine ⟨by decide, ?_⟩
  (conv => whnf); repeat ((first | with_reducible refine CondG.tt ?_ | with_reducible refine CondG.ff ?_); conv => whnf)
  intro b8
  (conv => whnf); repeat ((first | with_reducible refine CondG.tt ?_ | with_reducible refine CondG.ff ?_); conv => whnf)
  refine .all ?_
  (conv => whnf); repeat ((first | with_reducible refine CondG.tt ?_ | with_reducible refine CondG.ff ?_); conv => whnf)
  refine ⟨by decide, ?_⟩
  (conv => whnf); repeat ((first | with_reducible refine CondG.tt ?_ | with_reducible refine CondG.ff ?_); conv => whnf)
  refine StoreG.ent (M := [cel b7 242 (wvs (List.replicate 8 0)), cel b8 241 (bvs (List.replicate 64 0)), cel b6 25 (bvs (List.replicate 32 0))]) (Ent.perm (List.Perm.swap _ _ _)) ?_
  refine StoreG.at (by rw [wvs_len, hs]) (Upd.whole (by rw [wvs_len, hs]; rfl) (wvs_one _)) ?_
  rotate_left
  (conv => whnf); repeat ((first | with_reducible refine CondG.tt ?_ | with_reducible refine CondG.ff ?_); conv => whnf)
  intro b8
  (conv => whnf); repeat ((first | with_reducible refine CondG.tt ?_ | with_reducible refine CondG.ff ?_); conv => whnf)
  refine .all ?_
  (conv => whnf); repeat ((first | with_reducible refine CondG.tt ?_ | with_reducible refine CondG.ff ?_); conv => whnf)
  refine ⟨by decide, ?_⟩
  (conv => whnf); repeat ((first | with_reducible refine CondG.tt ?_ | with_reducible refine CondG.ff ?_); conv => whnf)
  intro b7
  (conv => whnf); repeat ((first | with_reducible refine CondG.tt ?_ | with_reducible refine CondG.ff ?_); conv => whnf)
  refine .all ?_
  (conv => whnf); repeat ((first | with_reducible refine CondG.tt ?_ | with_reducible refine CondG.ff ?_); conv => whnf)
  refine ⟨by decide, ?_⟩
  (conv => whnf); repeat ((first | with_reducible refine CondG.tt ?_ | with_reducible refine CondG.ff ?_); conv => whnf)
  refine StoreG.ent (M := [cel b7 242 (wvs (List.replicate 8 0)), cel b8 241 (bvs (List.replicate 64 0)), cel b6 25 (bvs (List.replicate 32 0))]) (Ent.refl _) ?_
  refine StoreG.at (by rw [wvs_len, hs]) (Upd.whole (by rw [wvs_len, hs]; rfl) (wvs_one _)) ?_
  all_goals
    (conv => whnf); repeat ((first | with_reducible refine CondG.tt ?_ | with_reducible refine CondG.ff ?_); conv => whnf)
    refine .all ?_
    (conv => whnf); repeat ((first | with_reducible refine CondG.tt ?_ | with_reducible refine CondG.ff ?_); conv => whnf)
    refine ⟨by decide, ?_⟩
    (conv => whnf); repeat ((first | with_reducible refine CondG.tt ?_ | with_reducible refine CondG.ff ?_); conv => whnf)
    refine StoreG.at (by rw [bvs_len, hH.len]) (Upd.tl (Upd.whole (by rw [bvs_len, hH.len]; rfl) (bvs_one _))) ?_
    (conv => whnf); repeat ((first | with_reducible refine CondG.tt ?_ | with_reducible refine CondG.ff ?_); conv => whnf)
    refine ⟨rfl, ?_⟩
    (conv => whnf); repeat ((first | with_reducible refine CondG.tt ?_ | with_reducible refine CondG.ff ?_); conv => whnf)
    refine LoadG.at (v := .int .i64 (m.length : Nat)) (.tl (.tl (.tl (.here (hC_n hs hH.len))))) ?_
    (conv => whnf); repeat ((first | with_reducible refine CondG.tt ?_ | with_reducible refine CondG.ff ?_); conv => whnf)
    refine SideG.of (by decide) ?_
    (conv => whnf); repeat ((first | with_reducible refine CondG.tt ?_ | with_reducible refine CondG.ff ?_); conv => whnf)
    rw [hmod]
    refine SideG.of (by omega) ?_
    (conv => whnf); repeat ((first | with_reducible refine CondG.tt ?_ | with_reducible refine CondG.ff ?_); conv => whnf)
    refine SliceG.ne (by omega) ?_
    (conv => whnf); repeat ((first | with_reducible refine CondG.tt ?_ | with_reducible refine CondG.ff ?_); conv => whnf)
    have ho : 0 + ((m.length % 64 : Nat) : Int).toNat * 1 = m.length % 64 := by omega
    have hdl : ((64 : Nat) : Int).toNat - ((m.length % 64 : Nat) : Int).toNat = 64 - m.length % 64 := by omega
    refine DoesG.ent (Ent.front 1 rfl) ?_
    refine DoesG.clear1 (elem := 5) (zv := bv 0) (by kernel_rfl) (by kernel_rfl) (by rw [ho, hdl, bvs_len, hH.len]; omega) rfl ?_
    rw [ho, hdl]
    have hrl : (m.drop (64 * (m.length / 64))).length = m.length % 64 := by simp; have := Nat.div_add_mod m.length 64; omega
    have e1 : (bvs wait).take (m.length % 64) ++ List.replicate (64 - m.length % 64) (bv 0) ++ (bvs wait).drop (m.length % 64 + (64 - m.length % 64)) = bvs (m.drop (64 * (m.length / 64)) ++ List.replicate (64 - m.length % 64) 0) := by
      rw [← hH.rem, List.drop_eq_nil_of_le (by rw [bvs_len, hH.len]; omega)]
      simp [bvs]
    rw [e1]
    (conv => whnf); repeat ((first | with_reducible refine CondG.tt ?_ | with_reducible refine CondG.ff ?_); conv => whnf)
    refine DrawG.mk 10 [cel b7 242 (wvs s), cel b6 25 (bvs (List.replicate 32 0)), cel h 245 (hC s wait m.length)] [cel b8 241 (bvs (m.drop (64 * (m.length / 64)) ++ List.replicate (64 - m.length % 64) 0))] (Ent.refl _) ?_
    (conv => whnf); repeat ((first | with_reducible refine CondG.tt ?_ | with_reducible refine CondG.ff ?_); conv => whnf)
    refine .take 0 ?_
    (conv => whnf); repeat ((first | with_reducible refine CondG.tt ?_ | with_reducible refine CondG.ff ?_); conv => whnf)
    refine ⟨rfl, ?_⟩
    (conv => whnf); repeat ((first | with_reducible refine CondG.tt ?_ | with_reducible refine CondG.ff ?_); conv => whnf)
    refine .take 1 ?_
    (conv => whnf); repeat ((first | with_reducible refine CondG.tt ?_ | with_reducible refine CondG.ff ?_); conv => whnf)
    refine ⟨rfl, ?_⟩
    (conv => whnf); repeat ((first | with_reducible refine CondG.tt ?_ | with_reducible refine CondG.ff ?_); conv => whnf)
    refine .take 2 ?_
    (conv => whnf); repeat ((first | with_reducible refine CondG.tt ?_ | with_reducible refine CondG.ff ?_); conv => whnf)
    refine ⟨rfl, ?_⟩
    (conv => whnf); repeat ((first | with_reducible refine CondG.tt ?_ | with_reducible refine CondG.ff ?_); conv => whnf)
    refine .take 3 ?_
    (conv => whnf); repeat ((first | with_reducible refine CondG.tt ?_ | with_reducible refine CondG.ff ?_); conv => whnf)
    refine ⟨rfl, ?_⟩
    (conv => whnf); repeat ((first | with_reducible refine CondG.tt ?_ | with_reducible refine CondG.ff ?_); conv => whnf)
    refine SideG.of (by decide) ?_
    (conv => whnf); repeat ((first | with_reducible refine CondG.tt ?_ | with_reducible refine CondG.ff ?_); conv => whnf)
    refine .take 4 ?_
    (conv => whnf); repeat ((first | with_reducible refine CondG.tt ?_ | with_reducible refine CondG.ff ?_); conv => whnf)
    refine ⟨rfl, ?_⟩
    (conv => whnf); repeat ((first | with_reducible refine CondG.tt ?_ | with_reducible refine CondG.ff ?_); conv => whnf)
    refine .take 5 ?_
    (conv => whnf); repeat ((first | with_reducible refine CondG.tt ?_ | with_reducible refine CondG.ff ?_); conv => whnf)
    refine ⟨rfl, ?_⟩
    (conv => whnf); repeat ((first | with_reducible refine CondG.tt ?_ | with_reducible refine CondG.ff ?_); conv => whnf)
    refine .take 6 ?_
    (conv => whnf); repeat ((first | with_reducible refine CondG.tt ?_ | with_reducible refine CondG.ff ?_); conv => whnf)
    refine ⟨rfl, ?_⟩
    (conv => whnf); repeat ((first | with_reducible refine CondG.tt ?_ | with_reducible refine CondG.ff ?_); conv => whnf)
    refine SideG.of (by decide) ?_
    (conv => whnf); repeat ((first | with_reducible refine CondG.tt ?_ | with_reducible refine CondG.ff ?_); conv => whnf)
    refine .take 7 ?_
    (conv => whnf); repeat ((first | with_reducible refine CondG.tt ?_ | with_reducible refine CondG.ff ?_); conv => whnf)
    refine ⟨rfl, ?_⟩
    (conv => whnf); repeat ((first | with_reducible refine CondG.tt ?_ | with_reducible refine CondG.ff ?_); conv => whnf)
    refine .take 8 ?_
    (conv => whnf); repeat ((first | with_reducible refine CondG.tt ?_ | with_reducible refine CondG.ff ?_); conv => whnf)
    refine ⟨rfl, ?_⟩
    (conv => whnf); repeat ((first | with_reducible refine CondG.tt ?_ | with_reducible refine CondG.ff ?_); conv => whnf)
    refine SideG.of (by omega) ?_
    (conv => whnf); repeat ((first | with_reducible refine CondG.tt ?_ | with_reducible refine CondG.ff ?_); conv => whnf)
    refine .all ?_
    (conv => whnf); repeat ((first | with_reducible refine CondG.tt ?_ | with_reducible refine CondG.ff ?_); conv => whnf)
    refine ⟨by decide, ?_⟩
    (conv => whnf); repeat ((first | with_reducible refine CondG.tt ?_ | with_reducible refine CondG.ff ?_); conv => whnf)
    refine StoreG.at (cs := [bv 128]) rfl (Upd.here (v := bv 128) (by rw [ho, bvs_len]; simp [hrl]; omega) rfl) ?_
    rw [ho, pad_set hrl hat]
    have ep : m.drop (64 * (m.length / 64)) ++ 128 :: List.replicate (63 - m.length % 64) 0 = padP m := rfl
    rw [ep]
    have hpb : ∀ b ∈ padP m, b < 256 := by
      intro b hbm
      simp only [padP, List.mem_append, List.mem_cons, List.mem_replicate] at hbm
      rcases hbm with h1 | h1 | h1
      · exact hb b (List.mem_of_mem_drop h1)
      · omega
      · omega
    (conv => whnf); repeat ((first | with_reducible refine CondG.tt ?_ | with_reducible refine CondG.ff ?_); conv => whnf)
    refine ⟨rfl, ?_⟩
    (conv => whnf); repeat ((first | with_reducible refine CondG.tt ?_ | with_reducible refine CondG.ff ?_); conv => whnf)
    refine CondG.dec (fun h5 => ?_) (fun h5 => ?_)
    rotate_left
    · skip
      have h56 : ¬ 56 ≤ m.length % 64 := by omega
      have q1 : cel b7 242 (wvs s) = cel b7 242 (wvs (endS K m)) := by unfold endS; rw [if_neg h56, hH.st]
      have q2 : padP m = endP m := by unfold endP; rw [if_neg h56]
      rw [q1, q2]
      (conv => whnf); repeat ((first | with_reducible refine CondG.tt ?_ | with_reducible refine CondG.ff ?_); conv => whnf)
      have hel := endS_len K m
      refine LoadG.at (v := .int .i64 (m.length : Nat)) (.tl (.tl (.tl (.here (hC_n hs hH.len))))) ?_
      (conv => whnf); repeat ((first | with_reducible refine CondG.tt ?_ | with_reducible refine CondG.ff ?_); conv => whnf)
      refine ArithG.u64 (by omega) ?_
      (conv => whnf); repeat ((first | with_reducible refine CondG.tt ?_ | with_reducible refine CondG.ff ?_); conv => whnf)
      refine ArithG.u64 (by omega) ?_
      (conv => whnf); repeat ((first | with_reducible refine CondG.tt ?_ | with_reducible refine CondG.ff ?_); conv => whnf)
      refine ArithG.u64 (by omega) ?_
      (conv => whnf); repeat ((first | with_reducible refine CondG.tt ?_ | with_reducible refine CondG.ff ?_); conv => whnf)
      refine ArithG.u64 (by omega) ?_
      have eN : (m.length : Int) * 8 + 0 = ((m.length * 8 : Nat) : Int) := by omega
      rw [eN]
      (conv => whnf); repeat ((first | with_reducible refine CondG.tt ?_ | with_reducible refine CondG.ff ?_); conv => whnf)
      refine LoopG.mk (fun mm e L => ∃ i, i ≤ 8 ∧ mm = 8 - i ∧ e = [(6, .pointer (some ⟨b6, 0, none⟩)), (7, .pointer (some ⟨b7, 0, none⟩)), (8, .pointer (some ⟨b8, 0, none⟩)), (10, .int .u64 (m.length * 8 : Nat)), (53, .int .i64 i)] ∧
        L = [cel b8 241 (bvs (tailQ (endP m) (m.length * 8) i)), cel b7 242 (wvs (endS K m)), cel b6 25 (bvs (List.replicate 32 0)), cel h 245 (hC s wait m.length)]) 8
        [(6, .pointer (some ⟨b6, 0, none⟩)), (7, .pointer (some ⟨b7, 0, none⟩)), (8, .pointer (some ⟨b8, 0, none⟩)), (10, .int .u64 (m.length * 8 : Nat)), (53, .int .i64 0)] _ ⟨rfl, rfl, rfl, rfl, rfl, trivial⟩ (Ent.refl _) ⟨0, by omega, rfl, rfl, by have ez := tailQ_zero (N := m.length * 8) (endP_len m); first | (rw [ez]; done) | (rw [ez]; rfl)⟩ ?_
      rintro mm e L ⟨i, hi, rfl, rfl, rfl⟩
      (conv => whnf); repeat ((first | with_reducible refine CondG.tt ?_ | with_reducible refine CondG.ff ?_); conv => whnf)
      refine CondG.dec (fun h9 => ?_) (fun h9 => ?_)
      · have hi8 : i < 8 := by omega
        (conv => whnf); repeat ((first | with_reducible refine CondG.tt ?_ | with_reducible refine CondG.ff ?_); conv => whnf)
        refine ArithG.i64 (by omega) ?_
        (conv => whnf); repeat ((first | with_reducible refine CondG.tt ?_ | with_reducible refine CondG.ff ?_); conv => whnf)
        refine ArithG.i64 (by omega) ?_
        (conv => whnf); repeat ((first | with_reducible refine CondG.tt ?_ | with_reducible refine CondG.ff ?_); conv => whnf)
        refine SideG.of (by omega) ?_
        (conv => whnf); repeat ((first | with_reducible refine CondG.tt ?_ | with_reducible refine CondG.ff ?_); conv => whnf)
        refine ArithG.all ?_
        (conv => whnf); repeat ((first | with_reducible refine CondG.tt ?_ | with_reducible refine CondG.ff ?_); conv => whnf)
        refine SideG.of (by omega) ?_
        (conv => whnf); repeat ((first | with_reducible refine CondG.tt ?_ | with_reducible refine CondG.ff ?_); conv => whnf)
        have ex := shr_b (m.length * 8) i hi8
        refine StoreG.at rfl (Upd.here (by rw [bvs_len, tailQ_len (endP_len m) (by omega)]; omega) rfl) ?_
        (conv => whnf); repeat ((first | with_reducible refine CondG.tt ?_ | with_reducible refine CondG.ff ?_); conv => whnf)
        refine ArithG.i64 (by omega) ?_
        (conv => whnf); repeat ((first | with_reducible refine CondG.tt ?_ | with_reducible refine CondG.ff ?_); conv => whnf)
        refine ⟨8 - (i + 1), _, _, by omega, ?_, Ent.refl _, i + 1, by omega, rfl, rfl, ?_⟩
        · exact ⟨rfl, rfl, rfl, rfl, rfl, trivial⟩
        rw [show 0 + (63 - (i : Int)).toNat * 1 = 63 - i by omega, ← tailQ_set (endP_len m) hi8]
        show [cel b8 241 ((bvs (tailQ (endP m) (m.length * 8) i)).set (63 - i) (.int .u8 (IntKind.u8.wrap (((m.length * 8 : Nat) : Int).fdiv (2 ^ (min (8 * (i : Int)).toNat 64)))))), _, _, _] = _
        rw [ex]
        rfl
      obtain rfl : i = 8 := by omega
      rw [tailQ_end]
      (conv => whnf); repeat ((first | with_reducible refine CondG.tt ?_ | with_reducible refine CondG.ff ?_); conv => whnf)
      refine LoadNG.at (vs := wvs (endS K m)) (by rw [wvs_len, hel]) (.tl .all) ?_
      (conv => whnf); repeat ((first | with_reducible refine CondG.tt ?_ | with_reducible refine CondG.ff ?_); conv => whnf)
      refine LoadNG.at (vs := bvs (endQ m)) (by rw [bvs_len, endQ_len]) .all ?_
      (conv => whnf); repeat ((first | with_reducible refine CondG.tt ?_ | with_reducible refine CondG.ff ?_); conv => whnf)
      refine CallG.pure (take_spec _ K (endS K m) (endQ m) (.right hK _) hk hel (endQ_len m) (endQ_byte hb)) ?_
      rintro _ _ ⟨rfl, rfl⟩
      (conv => whnf); repeat ((first | with_reducible refine CondG.tt ?_ | with_reducible refine CondG.ff ?_); conv => whnf)
      have hfl := takeS_len (K := K) (p := endQ m) hel
      refine StoreG.at (by rw [wvs_len, hfl]) (Upd.tl (Upd.whole (by rw [wvs_len, hfl, wvs_len, hel]) (wvs_one _))) ?_
      (conv => whnf); repeat ((first | with_reducible refine CondG.tt ?_ | with_reducible refine CondG.ff ?_); conv => whnf)
      intro b12
      (conv => whnf); repeat ((first | with_reducible refine CondG.tt ?_ | with_reducible refine CondG.ff ?_); conv => whnf)
      refine LoopG.mk (fun mm e L => ∃ i, i ≤ 32 ∧ mm = 32 - i ∧ e = [(6, .pointer (some ⟨b6, 0, none⟩)), (7, .pointer (some ⟨b7, 0, none⟩)), (12, .pointer (some ⟨b12, 0, none⟩)), (68, .int .i64 i)] ∧
        L = [cel b12 25 (bvs (fillB (fun i => ((takeS K (endS K m) (endQ m)).getD (i / 4) 0 >>> (24 - 8 * (i % 4))).toNat % 256) 32 i)), cel b8 241 (bvs (endQ m)), cel b7 242 (wvs (takeS K (endS K m) (endQ m))), cel b6 25 (bvs (List.replicate 32 0)), cel h 245 (hC s wait m.length)]) 32
        [(6, .pointer (some ⟨b6, 0, none⟩)), (7, .pointer (some ⟨b7, 0, none⟩)), (12, .pointer (some ⟨b12, 0, none⟩)), (68, .int .i64 0)] _ ⟨rfl, rfl, rfl, rfl, trivial⟩ (Ent.refl _) ⟨0, by omega, rfl, rfl, by rw [fillB_zero]; rfl⟩ ?_
      rintro mm e L ⟨i, hi, rfl, rfl, rfl⟩
      (conv => whnf); repeat ((first | with_reducible refine CondG.tt ?_ | with_reducible refine CondG.ff ?_); conv => whnf)
      refine CondG.dec (fun h9 => ?_) (fun h9 => ?_)
      · have hi8 : i < 32 := by omega
        have hq : (i : Int).tdiv 4 = ((i / 4 : Nat) : Int) := rfl
        have hr : (i : Int).tmod 4 = ((i % 4 : Nat) : Int) := rfl
        (conv => whnf); repeat ((first | with_reducible refine CondG.tt ?_ | with_reducible refine CondG.ff ?_); conv => whnf)
        refine SideG.of (by decide) ?_
        (conv => whnf); repeat ((first | with_reducible refine CondG.tt ?_ | with_reducible refine CondG.ff ?_); conv => whnf)
        refine ArithG.i64' _ hq (by omega) ?_
        (conv => whnf); repeat ((first | with_reducible refine CondG.tt ?_ | with_reducible refine CondG.ff ?_); conv => whnf)
        refine SideG.of (by omega) ?_
        (conv => whnf); repeat ((first | with_reducible refine CondG.tt ?_ | with_reducible refine CondG.ff ?_); conv => whnf)
        have hg : (wvs (takeS K (endS K m) (endQ m)))[0 + ((i / 4 : Nat) : Int).toNat * 1]? = some (wv ((takeS K (endS K m) (endQ m)).getD (i / 4) 0)) := by
          rw [show 0 + ((i / 4 : Nat) : Int).toNat * 1 = i / 4 by omega]
          simp [wvs, List.getD, List.getElem?_eq_getElem (by omega : i / 4 < (takeS K (endS K m) (endQ m)).length)]
        refine LoadG.at (.tl (.tl (.here hg))) ?_
        (conv => whnf); repeat ((first | with_reducible refine CondG.tt ?_ | with_reducible refine CondG.ff ?_); conv => whnf)
        refine SideG.of (by decide) ?_
        (conv => whnf); repeat ((first | with_reducible refine CondG.tt ?_ | with_reducible refine CondG.ff ?_); conv => whnf)
        rw [hr]
        refine ArithG.i64 (by omega) ?_
        (conv => whnf); repeat ((first | with_reducible refine CondG.tt ?_ | with_reducible refine CondG.ff ?_); conv => whnf)
        refine ArithG.i64 (by omega) ?_
        (conv => whnf); repeat ((first | with_reducible refine CondG.tt ?_ | with_reducible refine CondG.ff ?_); conv => whnf)
        refine SideG.of (by omega) ?_
        (conv => whnf); repeat ((first | with_reducible refine CondG.tt ?_ | with_reducible refine CondG.ff ?_); conv => whnf)
        refine ArithG.all ?_
        (conv => whnf); repeat ((first | with_reducible refine CondG.tt ?_ | with_reducible refine CondG.ff ?_); conv => whnf)
        refine SideG.of (by omega) ?_
        (conv => whnf); repeat ((first | with_reducible refine CondG.tt ?_ | with_reducible refine CondG.ff ?_); conv => whnf)
        have ex := shr_d ((takeS K (endS K m) (endQ m)).getD (i / 4) 0) i
        refine StoreG.at rfl (Upd.here (by simp [bvs_len, fillB_len]; omega) rfl) ?_
        (conv => whnf); repeat ((first | with_reducible refine CondG.tt ?_ | with_reducible refine CondG.ff ?_); conv => whnf)
        refine ArithG.i64 (by omega) ?_
        (conv => whnf); repeat ((first | with_reducible refine CondG.tt ?_ | with_reducible refine CondG.ff ?_); conv => whnf)
        refine ⟨32 - (i + 1), _, _, by omega, ?_, Ent.refl _, i + 1, by omega, rfl, rfl, ?_⟩
        · exact ⟨rfl, rfl, rfl, rfl, trivial⟩
        rw [show 0 + (i : Int).toNat * 1 = i by omega, ← fillB_set _ hi8]
        show [cel b12 25 ((bvs (fillB _ 32 i)).set i (.int .u8 (IntKind.u8.wrap ((((takeS K (endS K m) (endQ m)).getD (i / 4) 0).toNat : Int).fdiv (2 ^ (min (24 - 8 * ((i % 4 : Nat) : Int)).toNat 32)))))), _, _, _, _] = _
        rw [ex]
        rfl
      obtain rfl : i = 32 := by omega
      rw [fillB_all]
      (conv => whnf); repeat ((first | with_reducible refine CondG.tt ?_ | with_reducible refine CondG.ff ?_); conv => whnf)
      refine LoadNG.at (vs := bvs (dig K m)) (by rw [bvs_len, dig_len]) .all ?_
      (conv => whnf); repeat ((first | with_reducible refine CondG.tt ?_ | with_reducible refine CondG.ff ?_); conv => whnf)
      refine StoreG.at (by rw [bvs_len, dig_len]) (Upd.tl (Upd.tl (Upd.tl (Upd.whole (by rw [bvs_len, dig_len]; rfl) (bvs_one _))))) ?_
      (conv => whnf); repeat ((first | with_reducible refine CondG.tt ?_ | with_reducible refine CondG.ff ?_); conv => whnf)
      refine LoadNG.at (vs := bvs (dig K m)) (by rw [bvs_len, dig_len]) (.tl (.tl (.tl .all))) ?_
      (conv => whnf); repeat ((first | with_reducible refine CondG.tt ?_ | with_reducible refine CondG.ff ?_); conv => whnf)
      exact ⟨_, Ent.sel (T := []) (A := [_, _, _, _, _]) [4] rfl, rfl, rfl⟩
    have h56 : 56 ≤ m.length % 64 := by omega
    (conv => whnf); repeat ((first | with_reducible refine CondG.tt ?_ | with_reducible refine CondG.ff ?_); conv => whnf)
    refine LoadNG.at (vs := wvs s) (by rw [wvs_len, hs]) (.tl .all) ?_
    (conv => whnf); repeat ((first | with_reducible refine CondG.tt ?_ | with_reducible refine CondG.ff ?_); conv => whnf)
    refine LoadNG.at (vs := bvs (padP m)) (by rw [bvs_len, padP_len]) .all ?_
    (conv => whnf); repeat ((first | with_reducible refine CondG.tt ?_ | with_reducible refine CondG.ff ?_); conv => whnf)
    refine CallG.pure (take_spec _ K s (padP m) (.right hK _) hk hs (padP_len m) hpb) ?_
    rintro _ _ ⟨rfl, rfl⟩
    (conv => whnf); repeat ((first | with_reducible refine CondG.tt ?_ | with_reducible refine CondG.ff ?_); conv => whnf)
    refine BuildG.of (cs := bvs (List.replicate 64 0)) rfl ?_
    (conv => whnf); repeat ((first | with_reducible refine CondG.tt ?_ | with_reducible refine CondG.ff ?_); conv => whnf)
    have hts := takeS_len (K := K) (p := padP m) hs
    refine StoreG.at (by rw [wvs_len, hts]) (Upd.tl (Upd.whole (by rw [wvs_len, hts, wvs_len, hs]) (wvs_one _))) ?_
    (conv => whnf); repeat ((first | with_reducible refine CondG.tt ?_ | with_reducible refine CondG.ff ?_); conv => whnf)
    refine StoreG.at rfl (Upd.whole (by rw [bvs_len, bvs_len, padP_len]; rfl) (bvs_one _)) ?_
    have q1 : takeS K s (padP m) = endS K m := by unfold endS; rw [if_pos h56, hH.st]
    have q2 : List.replicate 64 0 = endP m := by unfold endP; rw [if_pos h56]
    rw [q1, q2]
    (conv => whnf); repeat ((first | with_reducible refine CondG.tt ?_ | with_reducible refine CondG.ff ?_); conv => whnf)
    have hel := endS_len K m
    refine LoadG.at (v := .int .i64 (m.length : Nat)) (.tl (.tl (.tl (.here (hC_n hs hH.len))))) ?_
    (conv => whnf); repeat ((first | with_reducible refine CondG.tt ?_ | with_reducible refine CondG.ff ?_); conv => whnf)
    refine ArithG.u64 (by omega) ?_
    (conv => whnf); repeat ((first | with_reducible refine CondG.tt ?_ | with_reducible refine CondG.ff ?_); conv => whnf)
    refine ArithG.u64 (by omega) ?_
    (conv => whnf); repeat ((first | with_reducible refine CondG.tt ?_ | with_reducible refine CondG.ff ?_); conv => whnf)
    refine ArithG.u64 (by omega) ?_
    (conv => whnf); repeat ((first | with_reducible refine CondG.tt ?_ | with_reducible refine CondG.ff ?_); conv => whnf)
    refine ArithG.u64 (by omega) ?_
    have eN : (m.length : Int) * 8 + 0 = ((m.length * 8 : Nat) : Int) := by omega
    rw [eN]
    (conv => whnf); repeat ((first | with_reducible refine CondG.tt ?_ | with_reducible refine CondG.ff ?_); conv => whnf)
    refine LoopG.mk (fun mm e L => ∃ i, i ≤ 8 ∧ mm = 8 - i ∧ e = [(6, .pointer (some ⟨b6, 0, none⟩)), (7, .pointer (some ⟨b7, 0, none⟩)), (8, .pointer (some ⟨b8, 0, none⟩)), (10, .int .u64 (m.length * 8 : Nat)), (53, .int .i64 i)] ∧
      L = [cel b8 241 (bvs (tailQ (endP m) (m.length * 8) i)), cel b7 242 (wvs (endS K m)), cel b6 25 (bvs (List.replicate 32 0)), cel h 245 (hC s wait m.length)]) 8
      [(6, .pointer (some ⟨b6, 0, none⟩)), (7, .pointer (some ⟨b7, 0, none⟩)), (8, .pointer (some ⟨b8, 0, none⟩)), (10, .int .u64 (m.length * 8 : Nat)), (53, .int .i64 0)] _ ⟨rfl, rfl, rfl, rfl, rfl, trivial⟩ (Ent.refl _) ⟨0, by omega, rfl, rfl, by have ez := tailQ_zero (N := m.length * 8) (endP_len m); first | (rw [ez]; done) | (rw [ez]; rfl)⟩ ?_
    rintro mm e L ⟨i, hi, rfl, rfl, rfl⟩
    (conv => whnf); repeat ((first | with_reducible refine CondG.tt ?_ | with_reducible refine CondG.ff ?_); conv => whnf)
    refine CondG.dec (fun h9 => ?_) (fun h9 => ?_)
    · have hi8 : i < 8 := by omega
      (conv => whnf); repeat ((first | with_reducible refine CondG.tt ?_ | with_reducible refine CondG.ff ?_); conv => whnf)
      refine ArithG.i64 (by omega) ?_
      (conv => whnf); repeat ((first | with_reducible refine CondG.tt ?_ | with_reducible refine CondG.ff ?_); conv => whnf)
      refine ArithG.i64 (by omega) ?_
      (conv => whnf); repeat ((first | with_reducible refine CondG.tt ?_ | with_reducible refine CondG.ff ?_); conv => whnf)
      refine SideG.of (by omega) ?_
      (conv => whnf); repeat ((first | with_reducible refine CondG.tt ?_ | with_reducible refine CondG.ff ?_); conv => whnf)
      refine ArithG.all ?_
      (conv => whnf); repeat ((first | with_reducible refine CondG.tt ?_ | with_reducible refine CondG.ff ?_); conv => whnf)
      refine SideG.of (by omega) ?_
      (conv => whnf); repeat ((first | with_reducible refine CondG.tt ?_ | with_reducible refine CondG.ff ?_); conv => whnf)
      have ex := shr_b (m.length * 8) i hi8
      refine StoreG.at rfl (Upd.here (by rw [bvs_len, tailQ_len (endP_len m) (by omega)]; omega) rfl) ?_
      (conv => whnf); repeat ((first | with_reducible refine CondG.tt ?_ | with_reducible refine CondG.ff ?_); conv => whnf)
      refine ArithG.i64 (by omega) ?_
      (conv => whnf); repeat ((first | with_reducible refine CondG.tt ?_ | with_reducible refine CondG.ff ?_); conv => whnf)
      refine ⟨8 - (i + 1), _, _, by omega, ?_, Ent.refl _, i + 1, by omega, rfl, rfl, ?_⟩
      · exact ⟨rfl, rfl, rfl, rfl, rfl, trivial⟩
      rw [show 0 + (63 - (i : Int)).toNat * 1 = 63 - i by omega, ← tailQ_set (endP_len m) hi8]
      show [cel b8 241 ((bvs (tailQ (endP m) (m.length * 8) i)).set (63 - i) (.int .u8 (IntKind.u8.wrap (((m.length * 8 : Nat) : Int).fdiv (2 ^ (min (8 * (i : Int)).toNat 64)))))), _, _, _] = _
      rw [ex]
      rfl
    obtain rfl : i = 8 := by omega
    rw [tailQ_end]
    (conv => whnf); repeat ((first | with_reducible refine CondG.tt ?_ | with_reducible refine CondG.ff ?_); conv => whnf)
    refine LoadNG.at (vs := wvs (endS K m)) (by rw [wvs_len, hel]) (.tl .all) ?_
    (conv => whnf); repeat ((first | with_reducible refine CondG.tt ?_ | with_reducible refine CondG.ff ?_); conv => whnf)
    refine LoadNG.at (vs := bvs (endQ m)) (by rw [bvs_len, endQ_len]) .all ?_
    (conv => whnf); repeat ((first | with_reducible refine CondG.tt ?_ | with_reducible refine CondG.ff ?_); conv => whnf)
    refine CallG.pure (take_spec _ K (endS K m) (endQ m) (.right hK _) hk hel (endQ_len m) (endQ_byte hb)) ?_
    rintro _ _ ⟨rfl, rfl⟩
    (conv => whnf); repeat ((first | with_reducible refine CondG.tt ?_ | with_reducible refine CondG.ff ?_); conv => whnf)
    have hfl := takeS_len (K := K) (p := endQ m) hel
    refine StoreG.at (by rw [wvs_len, hfl]) (Upd.tl (Upd.whole (by rw [wvs_len, hfl, wvs_len, hel]) (wvs_one _))) ?_
    (conv => whnf); repeat ((first | with_reducible refine CondG.tt ?_ | with_reducible refine CondG.ff ?_); conv => whnf)
    intro b12
    (conv => whnf); repeat ((first | with_reducible refine CondG.tt ?_ | with_reducible refine CondG.ff ?_); conv => whnf)
    refine LoopG.mk (fun mm e L => ∃ i, i ≤ 32 ∧ mm = 32 - i ∧ e = [(6, .pointer (some ⟨b6, 0, none⟩)), (7, .pointer (some ⟨b7, 0, none⟩)), (12, .pointer (some ⟨b12, 0, none⟩)), (68, .int .i64 i)] ∧
      L = [cel b12 25 (bvs (fillB (fun i => ((takeS K (endS K m) (endQ m)).getD (i / 4) 0 >>> (24 - 8 * (i % 4))).toNat % 256) 32 i)), cel b8 241 (bvs (endQ m)), cel b7 242 (wvs (takeS K (endS K m) (endQ m))), cel b6 25 (bvs (List.replicate 32 0)), cel h 245 (hC s wait m.length)]) 32
      [(6, .pointer (some ⟨b6, 0, none⟩)), (7, .pointer (some ⟨b7, 0, none⟩)), (12, .pointer (some ⟨b12, 0, none⟩)), (68, .int .i64 0)] _ ⟨rfl, rfl, rfl, rfl, trivial⟩ (Ent.refl _) ⟨0, by omega, rfl, rfl, by rw [fillB_zero]; rfl⟩ ?_
    rintro mm e L ⟨i, hi, rfl, rfl, rfl⟩
    (conv => whnf); repeat ((first | with_reducible refine CondG.tt ?_ | with_reducible refine CondG.ff ?_); conv => whnf)
    refine CondG.dec (fun h9 => ?_) (fun h9 => ?_)
    · have hi8 : i < 32 := by omega
      have hq : (i : Int).tdiv 4 = ((i / 4 : Nat) : Int) := rfl
      have hr : (i : Int).tmod 4 = ((i % 4 : Nat) : Int) := rfl
      (conv => whnf); repeat ((first | with_reducible refine CondG.tt ?_ | with_reducible refine CondG.ff ?_); conv => whnf)
      refine SideG.of (by decide) ?_
      (conv => whnf); repeat ((first | with_reducible refine CondG.tt ?_ | with_reducible refine CondG.ff ?_); conv => whnf)
      refine ArithG.i64' _ hq (by omega) ?_
      (conv => whnf); repeat ((first | with_reducible refine CondG.tt ?_ | with_reducible refine CondG.ff ?_); conv => whnf)
      refine SideG.of (by omega) ?_
      (conv => whnf); repeat ((first | with_reducible refine CondG.tt ?_ | with_reducible refine CondG.ff ?_); conv => whnf)
      have hg : (wvs (takeS K (endS K m) (endQ m)))[0 + ((i / 4 : Nat) : Int).toNat * 1]? = some (wv ((takeS K (endS K m) (endQ m)).getD (i / 4) 0)) := by
        rw [show 0 + ((i / 4 : Nat) : Int).toNat * 1 = i / 4 by omega]
        simp [wvs, List.getD, List.getElem?_eq_getElem (by omega : i / 4 < (takeS K (endS K m) (endQ m)).length)]
      refine LoadG.at (.tl (.tl (.here hg))) ?_
      (conv => whnf); repeat ((first | with_reducible refine CondG.tt ?_ | with_reducible refine CondG.ff ?_); conv => whnf)
      refine SideG.of (by decide) ?_
      (conv => whnf); repeat ((first | with_reducible refine CondG.tt ?_ | with_reducible refine CondG.ff ?_); conv => whnf)
      rw [hr]
      refine ArithG.i64 (by omega) ?_
      (conv => whnf); repeat ((first | with_reducible refine CondG.tt ?_ | with_reducible refine CondG.ff ?_); conv => whnf)
      refine ArithG.i64 (by omega) ?_
      (conv => whnf); repeat ((first | with_reducible refine CondG.tt ?_ | with_reducible refine CondG.ff ?_); conv => whnf)
      refine SideG.of (by omega) ?_
      (conv => whnf); repeat ((first | with_reducible refine CondG.tt ?_ | with_reducible refine CondG.ff ?_); conv => whnf)
      refine ArithG.all ?_
      (conv => whnf); repeat ((first | with_reducible refine CondG.tt ?_ | with_reducible refine CondG.ff ?_); conv => whnf)
      refine SideG.of (by omega) ?_
      (conv => whnf); repeat ((first | with_reducible refine CondG.tt ?_ | with_reducible refine CondG.ff ?_); conv => whnf)
      have ex := shr_d ((takeS K (endS K m) (endQ m)).getD (i / 4) 0) i
      refine StoreG.at rfl (Upd.here (by simp [bvs_len, fillB_len]; omega) rfl) ?_
      (conv => whnf); repeat ((first | with_reducible refine CondG.tt ?_ | with_reducible refine CondG.ff ?_); conv => whnf)
      refine ArithG.i64 (by omega) ?_
      (conv => whnf); repeat ((first | with_reducible refine CondG.tt ?_ | with_reducible refine CondG.ff ?_); conv => whnf)
      refine ⟨32 - (i + 1), _, _, by omega, ?_, Ent.refl _, i + 1, by omega, rfl, rfl, ?_⟩
      · exact ⟨rfl, rfl, rfl, rfl, trivial⟩
      rw [show 0 + (i : Int).toNat * 1 = i by omega, ← fillB_set _ hi8]
      show [cel b12 25 ((bvs (fillB _ 32 i)).set i (.int .u8 (IntKind.u8.wrap ((((takeS K (endS K m) (endQ m)).getD (i / 4) 0).toNat : Int).fdiv (2 ^ (min (24 - 8 * ((i % 4 : Nat) : Int)).toNat 32)))))), _, _, _, _] = _
      rw [ex]
      rfl
    obtain rfl : i = 32 := by omega
    rw [fillB_all]
    (conv => whnf); repeat ((first | with_reducible refine CondG.tt ?_ | with_reducible refine CondG.ff ?_); conv => whnf)
    refine LoadNG.at (vs := bvs (dig K m)) (by rw [bvs_len, dig_len]) .all ?_
    (conv => whnf); repeat ((first | with_reducible refine CondG.tt ?_ | with_reducible refine CondG.ff ?_); conv => whnf)
    refine StoreG.at (by rw [bvs_len, dig_len]) (Upd.tl (Upd.tl (Upd.tl (Upd.whole (by rw [bvs_len, dig_len]; rfl) (bvs_one _))))) ?_
    (conv => whnf); repeat ((first | with_reducible refine CondG.tt ?_ | with_reducible refine CondG.ff ?_); conv => whnf)
    refine LoadNG.at (vs := bvs (dig K m)) (by rw [bvs_len, dig_len]) (.tl (.tl (.tl .all))) ?_
    (conv => whnf); repeat ((first | with_reducible refine CondG.tt ?_ | with_reducible refine CondG.ff ?_); conv => whnf)
    exact ⟨_, Ent.sel (T := []) (A := [_, _, _, _, _]) [4] rfl, rfl, rfl⟩
theorem hsum_spec (F : List HP) (K : List W32) (hK : CelN F 4 0 (wvs K)) (hk : K.length = 64) (h : Nat) (m : List Nat) (s : List W32) (wait : List Nat) (hH : Hs K m s wait) (hm : m.length ≤ 1152921504606846976) (hb : ∀ b ∈ m, b < 256) :
    SpecF Tryd.prog 157 [.pointer (some ⟨h, 0, none⟩)] F [cel h 245 (hC s wait m.length)] (fun v L => v = .agg ⟨bvs (dig K m)⟩ ∧ L = [cel h 245 (hC s wait m.length)]) := by
  refine fun157.spec rfl ?_
  (conv => whnf); repeat ((first | with_reducible refine CondG.tt ?_ | with_reducible refine CondG.ff ?_); conv => whnf)
  intro b2
  (conv => whnf); repeat ((first | with_reducible refine CondG.tt ?_ | with_reducible refine CondG.ff ?_); conv => whnf)
  refine CallG.of (rest := [cel b2 25 (bvs (List.replicate 32 0))]) (end_spec _ K (.right hK _) hk h m s wait hH hm hb) (Ent.perm (List.Perm.swap _ _ _)) ?_
  rintro _ _ ⟨rfl, rfl⟩
  (conv => whnf); repeat ((first | with_reducible refine CondG.tt ?_ | with_reducible refine CondG.ff ?_); conv => whnf)
  refine StoreG.at (by rw [bvs_len, dig_len]) (Upd.tl (Upd.whole (by rw [bvs_len, dig_len]; rfl) (bvs_one _))) ?_
  (conv => whnf); repeat ((first | with_reducible refine CondG.tt ?_ | with_reducible refine CondG.ff ?_); conv => whnf)
  refine LoadNG.at (vs := bvs (dig K m)) (by rw [bvs_len, dig_len]) (.tl .all) ?_
  (conv => whnf); repeat ((first | with_reducible refine CondG.tt ?_ | with_reducible refine CondG.ff ?_); conv => whnf)
  exact ⟨_, Ent.sel (T := []) (A := [_, _]) [0] rfl, rfl, rfl⟩
theorem dparts_spec (F : List HP) (K : List W32) (hK : CelN F 4 0 (wvs K)) (hk : K.length = 64) (v : Value) (ps : List (List Nat)) (hp : RdParts F v ps) (hn : ps.length ≤ 1152921504606846976) (hm : sumL ps ≤ 1152921504606846976) (hb : ∀ l ∈ ps, ∀ b ∈ l, b < 256) :
    SpecF Tryd.prog 135 [v] F [] (fun r L => r = .agg ⟨bvs (dig K ps.flatten)⟩ ∧ L = []) := by
  obtain ⟨us, hus, hul, hps⟩ := hp.out
  have hbf : ∀ b ∈ ps.flatten, b < 256 := fun b h => by
    obtain ⟨l, hl, hbl⟩ := List.mem_flatten.1 h
    exact hb l hl b hbl
  refine fun135.spec rfl ?_
  (conv => whnf); repeat ((first | with_reducible refine CondG.tt ?_ | with_reducible refine CondG.ff ?_); conv => whnf)
  intro b2
  (conv => whnf); repeat ((first | with_reducible refine CondG.tt ?_ | with_reducible refine CondG.ff ?_); conv => whnf)
  refine CallG.pure (hnew_spec _) ?_
  rintro _ _ ⟨h, rfl, rfl⟩
  (conv => whnf); repeat ((first | with_reducible refine CondG.tt ?_ | with_reducible refine CondG.ff ?_); conv => whnf)
  refine LenG.rd hus ?_
  (conv => whnf); repeat ((first | with_reducible refine CondG.tt ?_ | with_reducible refine CondG.ff ?_); conv => whnf)
  refine LoopG.mk (fun mm e L => ∃ i s wait, i ≤ ps.length ∧ Hs K (ps.take i).flatten s wait ∧ mm = ps.length - i ∧ e = [(2, .pointer (some ⟨b2, 0, none⟩)), (3, .pointer (some ⟨h, 0, none⟩)), (7, v), (8, .int .i64 ps.length), (9, .int .i64 i)] ∧
    L = [cel h 245 (hC s wait (ps.take i).flatten.length), cel b2 25 (bvs (List.replicate 32 0))]) ps.length
    [(2, .pointer (some ⟨b2, 0, none⟩)), (3, .pointer (some ⟨h, 0, none⟩)), (7, v), (8, .int .i64 ps.length), (9, .int .i64 0)] _ ⟨rfl, rfl, rfl, rfl, rfl, trivial⟩ (Ent.refl _) ⟨0, ivW, List.replicate 64 0, by omega, Hs.begin K, rfl, rfl, rfl⟩ ?_
  rintro mm e L ⟨i, s, wait, hi, hH, rfl, rfl, rfl⟩
  (conv => whnf); repeat ((first | with_reducible refine CondG.tt ?_ | with_reducible refine CondG.ff ?_); conv => whnf)
  refine CondG.dec (fun h1 => ?_) (fun h1 => ?_)
  · have hi' : i < ps.length := by omega
    obtain ⟨x, hx, hxr⟩ := hps i hi'
    have hle := sum_le ps (i + 1)
    have hst := sum_take hi'
    (conv => whnf); repeat ((first | with_reducible refine CondG.tt ?_ | with_reducible refine CondG.ff ?_); conv => whnf)
    refine IdxG.rd hus (by omega) fun c o hc => ?_
    (conv => whnf); repeat ((first | with_reducible refine CondG.tt ?_ | with_reducible refine CondG.ff ?_); conv => whnf)
    refine LoadG.atF (v := x) (hc.one (i := (i : Int).toNat * 1) (by simpa using hx)) ?_
    (conv => whnf); repeat ((first | with_reducible refine CondG.tt ?_ | with_reducible refine CondG.ff ?_); conv => whnf)
    refine CallG.of (pre := [cel h 245 (hC s wait (ps.take i).flatten.length)]) (rest := [cel b2 25 (bvs (List.replicate 32 0))]) (write_spec _ K (.right hK _) hk h _ ps[i] s wait x hH (.right hxr _) (hb _ (List.getElem_mem hi')) (by simp only [sumL] at hle hst hm; omega)) (Ent.refl _) ?_
    rintro _ _ ⟨s', wait', hH', rfl⟩
    (conv => whnf); repeat ((first | with_reducible refine CondG.tt ?_ | with_reducible refine CondG.ff ?_); conv => whnf)
    refine ArithG.i64 (by omega) ?_
    (conv => whnf); repeat ((first | with_reducible refine CondG.tt ?_ | with_reducible refine CondG.ff ?_); conv => whnf)
    have ef : (ps.take i).flatten ++ ps[i] = (ps.take (i + 1)).flatten := by
      rw [List.take_succ_eq_append_getElem hi', List.flatten_append]; simp
    rw [ef] at hH' ⊢
    refine ⟨ps.length - (i + 1), _, _, by omega, ?_, Ent.refl _, i + 1, s', wait', by omega, hH', rfl, rfl, rfl⟩
    exact ⟨rfl, rfl, rfl, rfl, rfl, trivial⟩
  · obtain rfl : i = ps.length := by omega
    rw [List.take_length] at hH ⊢
    (conv => whnf); repeat ((first | with_reducible refine CondG.tt ?_ | with_reducible refine CondG.ff ?_); conv => whnf)
    refine CallG.of (pre := [cel h 245 (hC s wait ps.flatten.length)]) (rest := [cel b2 25 (bvs (List.replicate 32 0))]) (hsum_spec _ K (.right hK _) hk h _ s wait hH hm hbf) (Ent.refl _) ?_
    rintro _ _ ⟨rfl, rfl⟩
    (conv => whnf); repeat ((first | with_reducible refine CondG.tt ?_ | with_reducible refine CondG.ff ?_); conv => whnf)
    refine StoreG.at (by rw [bvs_len, dig_len]) (Upd.tl (Upd.whole (by rw [bvs_len, dig_len]; rfl) (bvs_one _))) ?_
    (conv => whnf); repeat ((first | with_reducible refine CondG.tt ?_ | with_reducible refine CondG.ff ?_); conv => whnf)
    refine LoadNG.at (vs := bvs (dig K ps.flatten)) (by rw [bvs_len, dig_len]) (.tl .all) ?_
    (conv => whnf); repeat ((first | with_reducible refine CondG.tt ?_ | with_reducible refine CondG.ff ?_); conv => whnf)
    exact ⟨[], Ent.nil _, rfl, rfl⟩
theorem dsum_spec (F : List HP) (K : List W32) (hK : CelN F 4 0 (wvs K)) (hk : K.length = 64) (v : Value) (bs : List Nat) (hv : RdS F v bs.length (bvs bs)) (hm : bs.length ≤ 1152921504606846976) (hb : ∀ b ∈ bs, b < 256) :
    SpecF Tryd.prog 137 [v] F [] (fun r L => r = .agg ⟨bvs (dig K bs)⟩ ∧ L = []) := by
  obtain ⟨va, vc, hve⟩ := hv.len
  subst hve
  refine fun137.spec rfl ?_
  (conv => whnf); repeat ((first | with_reducible refine CondG.tt ?_ | with_reducible refine CondG.ff ?_); conv => whnf)
  intro b2
  (conv => whnf); repeat ((first | with_reducible refine CondG.tt ?_ | with_reducible refine CondG.ff ?_); conv => whnf)
  refine BuildG.of rfl ?_
  (conv => whnf); repeat ((first | with_reducible refine CondG.tt ?_ | with_reducible refine CondG.ff ?_); conv => whnf)
  intro b3
  (conv => whnf); repeat ((first | with_reducible refine CondG.tt ?_ | with_reducible refine CondG.ff ?_); conv => whnf)
  refine CallG.pure (dparts_spec _ K (.right hK _) hk _ [bs] (RdParts.one (.tl (hv))) (by simp) (by simpa [sumL] using hm) (by simpa using hb)) ?_
  rintro _ _ ⟨rfl, rfl⟩
  simp only [List.flatten_cons, List.flatten_nil, List.append_nil]
  (conv => whnf); repeat ((first | with_reducible refine CondG.tt ?_ | with_reducible refine CondG.ff ?_); conv => whnf)
  refine StoreG.at (by rw [bvs_len, dig_len]) (Upd.tl (Upd.whole (by rw [bvs_len, dig_len]; rfl) (bvs_one _))) ?_
  (conv => whnf); repeat ((first | with_reducible refine CondG.tt ?_ | with_reducible refine CondG.ff ?_); conv => whnf)
  refine LoadNG.at (vs := bvs (dig K bs)) (by rw [bvs_len, dig_len]) (.tl .all) ?_
  (conv => whnf); repeat ((first | with_reducible refine CondG.tt ?_ | with_reducible refine CondG.ff ?_); conv => whnf)
  exact ⟨[], Ent.nil _, rfl, rfl⟩
end Go.Proofs.YthdpknlnpeaiiaaDoor
