/-
  The law of cuts: its own functions.
-/
import Derived.Test.YthdpknlnpeaiiaaDoorBo
namespace Go.Proofs.YthdpknlnpeaiiaaDoor
open Go Go.Sl
theorem pick_spec (F : List HP) (c : Int) (n : Nat) (h1 : -9223372036854775808 ≤ c) (h2 : c ≤ 9223372036854775807) (hn : 0 < n) : SpecF Tryd.prog 23 [.int .i64 c, .int .i64 n] F [] (fun v L => v = .int .i64 (pickN c n) ∧ L = []) := by
  have ht := pickN_tmod (c := c) (n := n)
  refine fun23.spec rfl ?_
  (conv => whnf); repeat ((first | with_reducible refine CondG.tt ?_ | with_reducible refine CondG.ff ?_); conv => whnf)
  refine CondG.dec (fun h => ?_) (fun h => ?_)
  · (conv => whnf); repeat ((first | with_reducible refine CondG.tt ?_ | with_reducible refine CondG.ff ?_); conv => whnf)
    refine ArithG.i64 (by omega) ?_
    (conv => whnf); repeat ((first | with_reducible refine CondG.tt ?_ | with_reducible refine CondG.ff ?_); conv => whnf)
    refine ArithG.i64' (-(c + 1)) (by omega) (by omega) ?_
    (conv => whnf); repeat ((first | with_reducible refine CondG.tt ?_ | with_reducible refine CondG.ff ?_); conv => whnf)
    refine SideG.of (by omega) ?_
    (conv => whnf); repeat ((first | with_reducible refine CondG.tt ?_ | with_reducible refine CondG.ff ?_); conv => whnf)
    rw [if_pos h] at ht
    rw [ht]
    exact ret_here ⟨rfl, rfl⟩
  · (conv => whnf); repeat ((first | with_reducible refine CondG.tt ?_ | with_reducible refine CondG.ff ?_); conv => whnf)
    refine SideG.of (by omega) ?_
    (conv => whnf); repeat ((first | with_reducible refine CondG.tt ?_ | with_reducible refine CondG.ff ?_); conv => whnf)
    rw [if_neg h] at ht
    rw [ht]
    exact ret_here ⟨rfl, rfl⟩
theorem rawsC_len {rs : List RawD} (h : ∀ r ∈ rs, r.wf) : (rawsC rs).length = rs.length * 26 := flat_len fun r hr => RawD.cells_len (h r hr)
theorem rawsC_get {rs : List RawD} (h : ∀ r ∈ rs, r.wf) {i : Nat} (hi : i < rs.length) : ((rawsC rs).drop (i * 26)).take 26 = rs[i].cells := flat_get (fun r hr => RawD.cells_len (h r hr)) hi
theorem rawsC_take {rs : List RawD} (h : ∀ r ∈ rs, r.wf) (n : Nat) : (rawsC rs).take (n * 26) = rawsC (rs.take n) := by
  induction rs generalizing n with
  | nil => simp [rawsC]
  | cons r rs ih =>
    cases n with
    | zero => simp [rawsC]
    | succ n =>
      have hl := RawD.cells_len (h r (by simp))
      have e : rawsC (r :: rs) = r.cells ++ rawsC rs := rfl
      have e2 : rawsC ((r :: rs).take (n + 1)) = r.cells ++ rawsC (rs.take n) := rfl
      rw [e, e2, Nat.add_mul, Nat.one_mul, Nat.add_comm, List.take_append, List.take_of_length_le (by omega), hl, Nat.add_sub_cancel_left, ih (fun x hx => h x (by simp [hx]))]
def fewR (rs : List RawD) : List RawD := rs.take 200
theorem few_spec (F : List HP) {G : List HP} (v : Value) (rs : List RawD) (hr : ∀ r ∈ rs, r.wf) (hv : RdS G v rs.length (rawsC rs)) : SpecF Tryd.prog 21 [v] F [] (fun r L => RdS G r (fewR rs).length (rawsC (fewR rs)) ∧ L = []) := by
  refine fun21.spec rfl ?_
  (conv => whnf); repeat ((first | with_reducible refine CondG.tt ?_ | with_reducible refine CondG.ff ?_); conv => whnf)
  refine LenG.rd hv ?_
  (conv => whnf); repeat ((first | with_reducible refine CondG.tt ?_ | with_reducible refine CondG.ff ?_); conv => whnf)
  refine CondG.dec (fun h => ?_) (fun h => ?_)
  · (conv => whnf); repeat ((first | with_reducible refine CondG.tt ?_ | with_reducible refine CondG.ff ?_); conv => whnf)
    refine SlcG.rd hv fun a cap hva hcap => ?_
    (conv => whnf); repeat ((first | with_reducible refine CondG.tt ?_ | with_reducible refine CondG.ff ?_); conv => whnf)
    refine SideG.of (by omega) ?_
    (conv => whnf); repeat ((first | with_reducible refine CondG.tt ?_ | with_reducible refine CondG.ff ?_); conv => whnf)
    refine SliceG.rd (hva ▸ hv) (by decide) (by show 200 ≤ _; omega) (by show 200 ≤ _; omega) (by omega) fun v1 hv1 _ => ?_
    (conv => whnf); repeat ((first | with_reducible refine CondG.tt ?_ | with_reducible refine CondG.ff ?_); conv => whnf)
    refine ret_here ⟨?_, rfl⟩
    have e : ((rawsC rs).drop ((0 : Int).toNat * 26)).take (((200 : Int).toNat - (0 : Int).toNat) * 26) = rawsC (fewR rs) := by
      show ((rawsC rs).drop 0).take (200 * 26) = _
      rw [List.drop_zero, rawsC_take hr]
      rfl
    have e2 : (200 : Int).toNat - (0 : Int).toNat = (fewR rs).length := by
      show 200 = _
      rw [fewR, List.length_take]
      omega
    rw [e, e2] at hv1
    exact hv1
  · (conv => whnf); repeat ((first | with_reducible refine CondG.tt ?_ | with_reducible refine CondG.ff ?_); conv => whnf)
    refine ret_here ⟨?_, rfl⟩
    have e : fewR rs = rs := List.take_of_length_le (by omega)
    rw [e]
    exact hv
theorem raw_amt {r : RawD} (hr : r.wf) : (r.cells.drop 22).take (uvs r.amt).length = uvs r.amt := by
  have e : r.cells = (.int .i64 r.ent :: .int .i64 r.tok :: bvs r.to) ++ (uvs r.amt ++ []) := by simp [RawD.cells]
  rw [e]
  exact take_drop_mid (by simp [bvs_len, hr.to])
theorem leaf_fill {r : RawD} (hr : r.wf) {a b c : Int} : fillL (LeafD.mk 0 0 0 (List.replicate 20 0) (List.replicate 4 0)).cells [(0, 1, .int .i64 a), (1, 1, .int .i64 b), (2, 1, .int .i64 c), (3, 20, .agg ⟨bvs r.to⟩), (23, 4, .agg ⟨uvs r.amt⟩)] = some (LeafD.mk a b c r.to r.amt).cells := by
  have hb1 := bvs_len r.to
  have hb2 := uvs_len r.amt
  rw [hr.to] at hb1
  rw [hr.amt] at hb2
  show fillL (.int .i64 a :: .int .i64 b :: .int .i64 c :: (bvs (List.replicate 20 0) ++ uvs (List.replicate 4 0))) [(3, 20, .agg ⟨bvs r.to⟩), (23, 4, .agg ⟨uvs r.amt⟩)] = _
  rw [fillL, if_pos ⟨hb1, by simp [bvs_len, uvs_len]⟩]
  have e1 : (Value.int .i64 a :: .int .i64 b :: .int .i64 c :: (bvs (List.replicate 20 0) ++ uvs (List.replicate 4 0))).take 3 ++ (Value.agg ⟨bvs r.to⟩).cells.toList ++ (Value.int .i64 a :: .int .i64 b :: .int .i64 c :: (bvs (List.replicate 20 0) ++ uvs (List.replicate 4 0))).drop (3 + 20) =
      .int .i64 a :: .int .i64 b :: .int .i64 c :: (bvs r.to ++ uvs (List.replicate 4 0)) := rfl
  rw [e1, fillL, if_pos ⟨hb2, by simp [hb1, uvs]⟩]
  have e2 : (Value.agg ⟨uvs r.amt⟩).cells.toList = uvs r.amt := rfl
  rw [e2, fillL]
  have e3 : (bvs r.to ++ uvs (List.replicate 4 0)).take 20 = bvs r.to := by rw [← hb1, List.take_left]
  have e4 : (bvs r.to ++ uvs (List.replicate 4 0)).drop 24 = [] := List.drop_eq_nil_of_le (by rw [List.length_append, hb1]; decide)
  have e5 : (Value.int .i64 a :: .int .i64 b :: .int .i64 c :: (bvs r.to ++ uvs (List.replicate 4 0))).take 23 = .int .i64 a :: .int .i64 b :: .int .i64 c :: (bvs r.to ++ uvs (List.replicate 4 0)).take 20 := rfl
  have e6 : (Value.int .i64 a :: .int .i64 b :: .int .i64 c :: (bvs r.to ++ uvs (List.replicate 4 0))).drop (23 + 4) = (bvs r.to ++ uvs (List.replicate 4 0)).drop 24 := rfl
  rw [e5, e6, e3, e4]
  simp [LeafD.cells]
theorem leaf_set {r : RawD} (hr : r.wf) (hz : r.amt = List.replicate 4 0) {i : Nat} : (LeafD.mk i (pickN r.ent 1099511627776) (pickN r.tok 64) r.to r.amt).cells.set 26 (.int .u64 9) = (leafD r i).cells := by
  have hb1 := bvs_len r.to
  rw [hr.to] at hb1
  simp only [leafD, LeafD.cells, if_pos hz, hz, List.set_cons_succ]
  rw [List.set_append_right _ _ (by omega), hb1]
  rfl
theorem leaf_spec (F : List HP) (r : RawD) (hr : r.wf) (i : Nat) : SpecF Tryd.prog 26 [.agg ⟨r.cells⟩, .int .i64 i] F [] (fun v L => v = .agg ⟨(leafD r i).cells⟩ ∧ L = []) := by
  have hl := RawD.cells_len hr
  have hb1 := bvs_len r.to
  have hb2 := uvs_len r.amt
  rw [hr.to] at hb1
  rw [hr.amt] at hb2
  refine fun26.spec rfl ?_
  (conv => whnf); repeat ((first | with_reducible refine CondG.tt ?_ | with_reducible refine CondG.ff ?_); conv => whnf)
  intro b2
  (conv => whnf); repeat ((first | with_reducible refine CondG.tt ?_ | with_reducible refine CondG.ff ?_); conv => whnf)
  intro b4
  (conv => whnf); repeat ((first | with_reducible refine CondG.tt ?_ | with_reducible refine CondG.ff ?_); conv => whnf)
  refine DrawG.mk 13 [cel b4 32 (LeafD.mk 0 0 0 (List.replicate 20 0) (List.replicate 4 0)).cells, cel b2 67 r.cells] [] (Ent.refl _) ?_
  (conv => whnf); repeat ((first | with_reducible refine CondG.tt ?_ | with_reducible refine CondG.ff ?_); conv => whnf)
  refine .take 0 ?_
  (conv => whnf); repeat ((first | with_reducible refine CondG.tt ?_ | with_reducible refine CondG.ff ?_); conv => whnf)
  refine ⟨rfl, ?_⟩
  (conv => whnf); repeat ((first | with_reducible refine CondG.tt ?_ | with_reducible refine CondG.ff ?_); conv => whnf)
  refine .take 1 ?_
  (conv => whnf); repeat ((first | with_reducible refine CondG.tt ?_ | with_reducible refine CondG.ff ?_); conv => whnf)
  refine ⟨rfl, ?_⟩
  (conv => whnf); repeat ((first | with_reducible refine CondG.tt ?_ | with_reducible refine CondG.ff ?_); conv => whnf)
  refine .take 2 ?_
  (conv => whnf); repeat ((first | with_reducible refine CondG.tt ?_ | with_reducible refine CondG.ff ?_); conv => whnf)
  refine ⟨rfl, ?_⟩
  (conv => whnf); repeat ((first | with_reducible refine CondG.tt ?_ | with_reducible refine CondG.ff ?_); conv => whnf)
  refine LoadG.at (v := .int .i64 r.ent) (.tl (.here rfl)) ?_
  (conv => whnf); repeat ((first | with_reducible refine CondG.tt ?_ | with_reducible refine CondG.ff ?_); conv => whnf)
  refine .take 4 ?_
  (conv => whnf); repeat ((first | with_reducible refine CondG.tt ?_ | with_reducible refine CondG.ff ?_); conv => whnf)
  refine ⟨rfl, ?_⟩
  (conv => whnf); repeat ((first | with_reducible refine CondG.tt ?_ | with_reducible refine CondG.ff ?_); conv => whnf)
  refine .take 5 ?_
  (conv => whnf); repeat ((first | with_reducible refine CondG.tt ?_ | with_reducible refine CondG.ff ?_); conv => whnf)
  refine ⟨rfl, ?_⟩
  (conv => whnf); repeat ((first | with_reducible refine CondG.tt ?_ | with_reducible refine CondG.ff ?_); conv => whnf)
  refine LoadG.at (v := .int .i64 r.tok) (.tl (.here rfl)) ?_
  (conv => whnf); repeat ((first | with_reducible refine CondG.tt ?_ | with_reducible refine CondG.ff ?_); conv => whnf)
  refine .take 7 ?_
  (conv => whnf); repeat ((first | with_reducible refine CondG.tt ?_ | with_reducible refine CondG.ff ?_); conv => whnf)
  refine ⟨rfl, ?_⟩
  (conv => whnf); repeat ((first | with_reducible refine CondG.tt ?_ | with_reducible refine CondG.ff ?_); conv => whnf)
  refine .take 8 ?_
  (conv => whnf); repeat ((first | with_reducible refine CondG.tt ?_ | with_reducible refine CondG.ff ?_); conv => whnf)
  refine ⟨rfl, ?_⟩
  (conv => whnf); repeat ((first | with_reducible refine CondG.tt ?_ | with_reducible refine CondG.ff ?_); conv => whnf)
  refine LoadNG.at (vs := bvs r.to) hb1 (.tl (.here (by simp [RawD.cells]))) ?_
  (conv => whnf); repeat ((first | with_reducible refine CondG.tt ?_ | with_reducible refine CondG.ff ?_); conv => whnf)
  refine .take 9 ?_
  (conv => whnf); repeat ((first | with_reducible refine CondG.tt ?_ | with_reducible refine CondG.ff ?_); conv => whnf)
  refine ⟨rfl, ?_⟩
  (conv => whnf); repeat ((first | with_reducible refine CondG.tt ?_ | with_reducible refine CondG.ff ?_); conv => whnf)
  refine .take 10 ?_
  (conv => whnf); repeat ((first | with_reducible refine CondG.tt ?_ | with_reducible refine CondG.ff ?_); conv => whnf)
  refine ⟨rfl, ?_⟩
  (conv => whnf); repeat ((first | with_reducible refine CondG.tt ?_ | with_reducible refine CondG.ff ?_); conv => whnf)
  refine LoadNG.at (vs := uvs r.amt) hb2 (.tl (.here (raw_amt hr))) ?_
  (conv => whnf); repeat ((first | with_reducible refine CondG.tt ?_ | with_reducible refine CondG.ff ?_); conv => whnf)
  have hi0 : (0 : Int) ≤ (i : Nat) := Int.natCast_nonneg i
  have ebuild : fillL (LeafD.mk 0 0 0 (List.replicate 20 0) (List.replicate 4 0)).cells [(0, 1, .int .i64 i), (1, 1, .int .i64 (pickN r.ent 1099511627776)), (2, 1, .int .i64 (pickN r.tok 64)), (3, 20, .agg ⟨bvs r.to⟩), (23, 4, .agg ⟨uvs r.amt⟩)] = some (LeafD.mk i (pickN r.ent 1099511627776) (pickN r.tok 64) r.to r.amt).cells := leaf_fill hr
  refine .all ?_
  (conv => whnf); repeat ((first | with_reducible refine CondG.tt ?_ | with_reducible refine CondG.ff ?_); conv => whnf)
  refine ⟨by decide, ?_, ?_⟩
  (conv => whnf); repeat ((first | with_reducible refine CondG.tt ?_ | with_reducible refine CondG.ff ?_); conv => whnf)
  refine CallG.pure (pick_spec _ r.ent 1099511627776 hr.e1 hr.e2 (by decide)) ?_
  rintro _ _ ⟨rfl, rfl⟩
  (conv => whnf); repeat ((first | with_reducible refine CondG.tt ?_ | with_reducible refine CondG.ff ?_); conv => whnf)
  refine .all ?_
  (conv => whnf); repeat ((first | with_reducible refine CondG.tt ?_ | with_reducible refine CondG.ff ?_); conv => whnf)
  refine ⟨by decide, ?_, ?_⟩
  (conv => whnf); repeat ((first | with_reducible refine CondG.tt ?_ | with_reducible refine CondG.ff ?_); conv => whnf)
  refine CallG.pure (pick_spec _ r.tok 64 hr.t1 hr.t2 (by decide)) ?_
  rintro _ _ ⟨rfl, rfl⟩
  (conv => whnf); repeat ((first | with_reducible refine CondG.tt ?_ | with_reducible refine CondG.ff ?_); conv => whnf)
  refine .take 11 ?_
  (conv => whnf); repeat ((first | with_reducible refine CondG.tt ?_ | with_reducible refine CondG.ff ?_); conv => whnf)
  refine ⟨rfl, ?_⟩
  (conv => whnf); repeat ((first | with_reducible refine CondG.tt ?_ | with_reducible refine CondG.ff ?_); conv => whnf)
  refine BuildG.of ebuild ?_
  (conv => whnf); repeat ((first | with_reducible refine CondG.tt ?_ | with_reducible refine CondG.ff ?_); conv => whnf)
  refine .all ?_
  (conv => whnf); repeat ((first | with_reducible refine CondG.tt ?_ | with_reducible refine CondG.ff ?_); conv => whnf)
  refine ⟨by decide, ?_⟩
  (conv => whnf); repeat ((first | with_reducible refine CondG.tt ?_ | with_reducible refine CondG.ff ?_); conv => whnf)
  intro b5
  rotate_left
  (conv => whnf); repeat ((first | with_reducible refine CondG.tt ?_ | with_reducible refine CondG.ff ?_); conv => whnf)
  intro b5
  (conv => whnf); repeat ((first | with_reducible refine CondG.tt ?_ | with_reducible refine CondG.ff ?_); conv => whnf)
  refine .all ?_
  (conv => whnf); repeat ((first | with_reducible refine CondG.tt ?_ | with_reducible refine CondG.ff ?_); conv => whnf)
  refine ⟨by decide, ?_⟩
  (conv => whnf); repeat ((first | with_reducible refine CondG.tt ?_ | with_reducible refine CondG.ff ?_); conv => whnf)
  refine CallG.pure (pick_spec _ r.tok 64 hr.t1 hr.t2 (by decide)) ?_
  rintro _ _ ⟨rfl, rfl⟩
  (conv => whnf); repeat ((first | with_reducible refine CondG.tt ?_ | with_reducible refine CondG.ff ?_); conv => whnf)
  refine .take 11 ?_
  (conv => whnf); repeat ((first | with_reducible refine CondG.tt ?_ | with_reducible refine CondG.ff ?_); conv => whnf)
  refine ⟨rfl, ?_⟩
  (conv => whnf); repeat ((first | with_reducible refine CondG.tt ?_ | with_reducible refine CondG.ff ?_); conv => whnf)
  refine BuildG.of ebuild ?_
  rotate_left
  (conv => whnf); repeat ((first | with_reducible refine CondG.tt ?_ | with_reducible refine CondG.ff ?_); conv => whnf)
  intro b5
  (conv => whnf); repeat ((first | with_reducible refine CondG.tt ?_ | with_reducible refine CondG.ff ?_); conv => whnf)
  refine .all ?_
  (conv => whnf); repeat ((first | with_reducible refine CondG.tt ?_ | with_reducible refine CondG.ff ?_); conv => whnf)
  refine ⟨by decide, ?_⟩
  (conv => whnf); repeat ((first | with_reducible refine CondG.tt ?_ | with_reducible refine CondG.ff ?_); conv => whnf)
  refine CallG.pure (pick_spec _ r.ent 1099511627776 hr.e1 hr.e2 (by decide)) ?_
  rintro _ _ ⟨rfl, rfl⟩
  (conv => whnf); repeat ((first | with_reducible refine CondG.tt ?_ | with_reducible refine CondG.ff ?_); conv => whnf)
  refine .all ?_
  (conv => whnf); repeat ((first | with_reducible refine CondG.tt ?_ | with_reducible refine CondG.ff ?_); conv => whnf)
  refine ⟨by decide, ?_⟩
  (conv => whnf); repeat ((first | with_reducible refine CondG.tt ?_ | with_reducible refine CondG.ff ?_); conv => whnf)
  refine CallG.pure (pick_spec _ r.tok 64 hr.t1 hr.t2 (by decide)) ?_
  rintro _ _ ⟨rfl, rfl⟩
  (conv => whnf); repeat ((first | with_reducible refine CondG.tt ?_ | with_reducible refine CondG.ff ?_); conv => whnf)
  refine .take 11 ?_
  (conv => whnf); repeat ((first | with_reducible refine CondG.tt ?_ | with_reducible refine CondG.ff ?_); conv => whnf)
  refine ⟨rfl, ?_⟩
  (conv => whnf); repeat ((first | with_reducible refine CondG.tt ?_ | with_reducible refine CondG.ff ?_); conv => whnf)
  refine BuildG.of ebuild ?_
  rotate_left
  all_goals
    (conv => whnf); repeat ((first | with_reducible refine CondG.tt ?_ | with_reducible refine CondG.ff ?_); conv => whnf)
    refine .all ?_
    (conv => whnf); repeat ((first | with_reducible refine CondG.tt ?_ | with_reducible refine CondG.ff ?_); conv => whnf)
    refine ⟨by decide, ?_⟩
    (conv => whnf); repeat ((first | with_reducible refine CondG.tt ?_ | with_reducible refine CondG.ff ?_); conv => whnf)
    refine ⟨rfl, ?_⟩
    (conv => whnf); repeat ((first | with_reducible refine CondG.tt ?_ | with_reducible refine CondG.ff ?_); conv => whnf)
    refine StoreG.at (LeafD.cells_len ⟨hr.to, hr.amt⟩) (Upd.whole (LeafD.cells_len ⟨hr.to, hr.amt⟩) (LeafD.cells_one _)) ?_
    (conv => whnf); repeat ((first | with_reducible refine CondG.tt ?_ | with_reducible refine CondG.ff ?_); conv => whnf)
    refine ⟨rfl, ?_⟩
    (conv => whnf); repeat ((first | with_reducible refine CondG.tt ?_ | with_reducible refine CondG.ff ?_); conv => whnf)
    refine LoadNG.at (vs := uvs r.amt) hb2 (.here (LeafD.amt_at (l := LeafD.mk i (pickN r.ent 1099511627776) (pickN r.tok 64) r.to r.amt) ⟨hr.to, hr.amt⟩)) ?_
    (conv => whnf); repeat ((first | with_reducible refine CondG.tt ?_ | with_reducible refine CondG.ff ?_); conv => whnf)
    refine BuildG.of rfl ?_
    (conv => whnf); repeat ((first | with_reducible refine CondG.tt ?_ | with_reducible refine CondG.ff ?_); conv => whnf)
    refine DoesG.eqv 8 (List.replicate 4 (.int .u64)) (by kernel_rfl) (by decide) (by kernel_rfl) (by kernel_rfl) (wt_uvs hr.amt) (wt_uvs (ws := List.replicate 4 0) rfl) ?_
    (conv => whnf); repeat ((first | with_reducible refine CondG.tt ?_ | with_reducible refine CondG.ff ?_); conv => whnf)
    refine CondG.split (fun h => ?_) (fun h => ?_)
    · have h' := h
      simp only [decide_eq_true_eq] at h'
      have hz : r.amt = List.replicate 4 0 := uvs_inj.1 h'
      have el : (leafD r i).cells.length = 27 := LeafD.cells_len (leafD_wf hr i)
      (conv => whnf); repeat ((first | with_reducible refine CondG.tt ?_ | with_reducible refine CondG.ff ?_); conv => whnf)
      refine SideG.of (by decide) ?_
      (conv => whnf); repeat ((first | with_reducible refine CondG.tt ?_ | with_reducible refine CondG.ff ?_); conv => whnf)
      refine StoreG.at (cs := [.int .u64 9]) rfl (Upd.here (by rw [LeafD.cells_len ⟨hr.to, hr.amt⟩]; decide) rfl) ?_
      rw [show 0 + 23 + Int.toNat 3 * 1 = 26 from rfl, leaf_set hr hz]
      (conv => whnf); repeat ((first | with_reducible refine CondG.tt ?_ | with_reducible refine CondG.ff ?_); conv => whnf)
      refine LoadNG.at (vs := (leafD r i).cells) el .all ?_
      (conv => whnf); repeat ((first | with_reducible refine CondG.tt ?_ | with_reducible refine CondG.ff ?_); conv => whnf)
      refine StoreG.at el (Upd.tl (Upd.whole (by rw [el]; rfl) (LeafD.cells_one _))) ?_
      (conv => whnf); repeat ((first | with_reducible refine CondG.tt ?_ | with_reducible refine CondG.ff ?_); conv => whnf)
      refine LoadNG.at (vs := (leafD r i).cells) el (.tl .all) ?_
      (conv => whnf); repeat ((first | with_reducible refine CondG.tt ?_ | with_reducible refine CondG.ff ?_); conv => whnf)
      exact ⟨[], Ent.nil _, rfl, rfl⟩
    · have h' := h
      simp only [decide_eq_false_iff_not] at h'
      have hz : ¬ r.amt = List.replicate 4 0 := fun e => h' (by rw [e]; rfl)
      have ed : leafD r i = LeafD.mk i (pickN r.ent 1099511627776) (pickN r.tok 64) r.to r.amt := by rw [leafD, if_neg hz]
      have el : (leafD r i).cells.length = 27 := LeafD.cells_len (leafD_wf hr i)
      rw [← ed]
      (conv => whnf); repeat ((first | with_reducible refine CondG.tt ?_ | with_reducible refine CondG.ff ?_); conv => whnf)
      refine LoadNG.at (vs := (leafD r i).cells) el .all ?_
      (conv => whnf); repeat ((first | with_reducible refine CondG.tt ?_ | with_reducible refine CondG.ff ?_); conv => whnf)
      refine StoreG.at el (Upd.tl (Upd.whole (by rw [el]; rfl) (LeafD.cells_one _))) ?_
      (conv => whnf); repeat ((first | with_reducible refine CondG.tt ?_ | with_reducible refine CondG.ff ?_); conv => whnf)
      refine LoadNG.at (vs := (leafD r i).cells) el (.tl .all) ?_
      (conv => whnf); repeat ((first | with_reducible refine CondG.tt ?_ | with_reducible refine CondG.ff ?_); conv => whnf)
      exact ⟨[], Ent.nil _, rfl, rfl⟩
def digsOk (ds : List (List Nat)) : Prop := ∀ d ∈ ds, d.length = 32
theorem samePath_spec (F : List HP) (va vb : Value) (A B : List (List Nat)) (hA : RdS F va A.length (digsC A)) (hB : RdS F vb B.length (digsC B)) (ha : digsOk A) (hb : digsOk B) (hal : A.length ≤ 4611686018427387904) : SpecF Tryd.prog 14 [va, vb] F [] (fun v L => v = .bool (decide (A = B)) ∧ L = []) := by
  have hga : ∀ {i : Nat} (hi : i < A.length), ((digsC A).drop (i * 32)).take 32 = bvs A[i] := fun hi => flat_get (fun d hd => by rw [bvs_len, ha d hd]) hi
  have hgb : ∀ {i : Nat} (hi : i < B.length), ((digsC B).drop (i * 32)).take 32 = bvs B[i] := fun hi => flat_get (fun d hd => by rw [bvs_len, hb d hd]) hi
  refine fun14.spec rfl ?_
  (conv => whnf); repeat ((first | with_reducible refine CondG.tt ?_ | with_reducible refine CondG.ff ?_); conv => whnf)
  refine LenG.rd hA ?_
  (conv => whnf); repeat ((first | with_reducible refine CondG.tt ?_ | with_reducible refine CondG.ff ?_); conv => whnf)
  refine LenG.rd hB ?_
  (conv => whnf); repeat ((first | with_reducible refine CondG.tt ?_ | with_reducible refine CondG.ff ?_); conv => whnf)
  refine CondG.ndec (fun h => ?_) (fun h => ?_)
  · (conv => whnf); repeat ((first | with_reducible refine CondG.tt ?_ | with_reducible refine CondG.ff ?_); conv => whnf)
    have e : ¬ A = B := fun e => h (by rw [e])
    exact ret_here ⟨by simp [e, retV], rfl⟩
  have hlen : A.length = B.length := by omega
  (conv => whnf); repeat ((first | with_reducible refine CondG.tt ?_ | with_reducible refine CondG.ff ?_); conv => whnf)
  refine LoopG.mk (fun mm e L => ∃ i, i ≤ A.length ∧ mm = A.length - i ∧ A.take i = B.take i ∧ e = [(0, va), (1, vb), (5, .int .i64 i)] ∧ L = []) A.length
    [(0, va), (1, vb), (5, .int .i64 0)] _ ⟨rfl, rfl, rfl, trivial⟩ (Ent.refl _) ⟨0, by omega, rfl, rfl, rfl, rfl⟩ ?_
  rintro mm e L ⟨i, hi, rfl, hpre, rfl, rfl⟩
  (conv => whnf); repeat ((first | with_reducible refine CondG.tt ?_ | with_reducible refine CondG.ff ?_); conv => whnf)
  refine LenG.rd hA ?_
  (conv => whnf); repeat ((first | with_reducible refine CondG.tt ?_ | with_reducible refine CondG.ff ?_); conv => whnf)
  refine CondG.dec (fun h1 => ?_) (fun h1 => ?_)
  · have hi' : i < A.length := by omega
    have hi2 : i < B.length := by omega
    have hla := ha A[i] (List.getElem_mem hi')
    have hlb := hb B[i] (List.getElem_mem hi2)
    (conv => whnf); repeat ((first | with_reducible refine CondG.tt ?_ | with_reducible refine CondG.ff ?_); conv => whnf)
    refine DrawG.mk 9 [] [] (Ent.refl _) ?_
    (conv => whnf); repeat ((first | with_reducible refine CondG.tt ?_ | with_reducible refine CondG.ff ?_); conv => whnf)
    refine .take 0 ?_
    (conv => whnf); repeat ((first | with_reducible refine CondG.tt ?_ | with_reducible refine CondG.ff ?_); conv => whnf)
    refine ⟨rfl, ?_⟩
    (conv => whnf); repeat ((first | with_reducible refine CondG.tt ?_ | with_reducible refine CondG.ff ?_); conv => whnf)
    refine .take 1 ?_
    (conv => whnf); repeat ((first | with_reducible refine CondG.tt ?_ | with_reducible refine CondG.ff ?_); conv => whnf)
    refine ⟨rfl, ?_⟩
    (conv => whnf); repeat ((first | with_reducible refine CondG.tt ?_ | with_reducible refine CondG.ff ?_); conv => whnf)
    refine .take 4 ?_
    (conv => whnf); repeat ((first | with_reducible refine CondG.tt ?_ | with_reducible refine CondG.ff ?_); conv => whnf)
    refine ⟨rfl, ?_⟩
    (conv => whnf); repeat ((first | with_reducible refine CondG.tt ?_ | with_reducible refine CondG.ff ?_); conv => whnf)
    refine .take 5 ?_
    (conv => whnf); repeat ((first | with_reducible refine CondG.tt ?_ | with_reducible refine CondG.ff ?_); conv => whnf)
    refine ⟨rfl, ?_⟩
    (conv => whnf); repeat ((first | with_reducible refine CondG.tt ?_ | with_reducible refine CondG.ff ?_); conv => whnf)
    refine .take 2 ?_
    (conv => whnf); repeat ((first | with_reducible refine CondG.tt ?_ | with_reducible refine CondG.ff ?_); conv => whnf)
    refine ⟨rfl, ?_⟩
    (conv => whnf); repeat ((first | with_reducible refine CondG.tt ?_ | with_reducible refine CondG.ff ?_); conv => whnf)
    refine IdxG.rd hA (by omega) fun c o hc => ?_
    (conv => whnf); repeat ((first | with_reducible refine CondG.tt ?_ | with_reducible refine CondG.ff ?_); conv => whnf)
    refine .take 3 ?_
    (conv => whnf); repeat ((first | with_reducible refine CondG.tt ?_ | with_reducible refine CondG.ff ?_); conv => whnf)
    refine ⟨rfl, ?_⟩
    (conv => whnf); repeat ((first | with_reducible refine CondG.tt ?_ | with_reducible refine CondG.ff ?_); conv => whnf)
    refine LoadNG.atF (vs := bvs A[i]) (by rw [bvs_len, hla]) (hc.part (by rw [bvs_len, hla, Int.toNat_natCast]; exact hga hi')) ?_
    (conv => whnf); repeat ((first | with_reducible refine CondG.tt ?_ | with_reducible refine CondG.ff ?_); conv => whnf)
    refine .take 6 ?_
    (conv => whnf); repeat ((first | with_reducible refine CondG.tt ?_ | with_reducible refine CondG.ff ?_); conv => whnf)
    refine ⟨rfl, ?_⟩
    (conv => whnf); repeat ((first | with_reducible refine CondG.tt ?_ | with_reducible refine CondG.ff ?_); conv => whnf)
    refine IdxG.rd hB (by omega) fun c o hc => ?_
    (conv => whnf); repeat ((first | with_reducible refine CondG.tt ?_ | with_reducible refine CondG.ff ?_); conv => whnf)
    refine .take 7 ?_
    (conv => whnf); repeat ((first | with_reducible refine CondG.tt ?_ | with_reducible refine CondG.ff ?_); conv => whnf)
    refine ⟨rfl, ?_⟩
    (conv => whnf); repeat ((first | with_reducible refine CondG.tt ?_ | with_reducible refine CondG.ff ?_); conv => whnf)
    refine LoadNG.atF (vs := bvs B[i]) (by rw [bvs_len, hlb]) (hc.part (by rw [bvs_len, hlb, Int.toNat_natCast]; exact hgb hi2)) ?_
    (conv => whnf); repeat ((first | with_reducible refine CondG.tt ?_ | with_reducible refine CondG.ff ?_); conv => whnf)
    refine .all ?_
    (conv => whnf); repeat ((first | with_reducible refine CondG.tt ?_ | with_reducible refine CondG.ff ?_); conv => whnf)
    refine ⟨by decide, ?_⟩
    (conv => whnf); repeat ((first | with_reducible refine CondG.tt ?_ | with_reducible refine CondG.ff ?_); conv => whnf)
    refine DoesG.eqv 8 (List.replicate 32 (.int .u8)) (by kernel_rfl) (by decide) (by kernel_rfl) (by kernel_rfl) (wt_bvs hla) (wt_bvs hlb) ?_
    (conv => whnf); repeat ((first | with_reducible refine CondG.tt ?_ | with_reducible refine CondG.ff ?_); conv => whnf)
    refine ⟨rfl, ?_⟩
    (conv => whnf); repeat ((first | with_reducible refine CondG.tt ?_ | with_reducible refine CondG.ff ?_); conv => whnf)
    refine CondG.split (fun h2 => ?_) (fun h2 => ?_)
    · (conv => whnf); repeat ((first | with_reducible refine CondG.tt ?_ | with_reducible refine CondG.ff ?_); conv => whnf)
      have e : ¬ A = B := fun e => by
        subst e
        simp at h2
      exact ret_here ⟨by simp [e, retV], rfl⟩
    · (conv => whnf); repeat ((first | with_reducible refine CondG.tt ?_ | with_reducible refine CondG.ff ?_); conv => whnf)
      refine ArithG.i64 (by omega) ?_
      (conv => whnf); repeat ((first | with_reducible refine CondG.tt ?_ | with_reducible refine CondG.ff ?_); conv => whnf)
      have h2' : A[i] = B[i] := bvs_inj.1 (by simpa using h2)
      refine ⟨A.length - (i + 1), _, _, by omega, ?_, Ent.refl _, i + 1, by omega, rfl, ?_, rfl, rfl⟩
      · exact ⟨rfl, rfl, rfl, trivial⟩
      · rw [List.take_succ_eq_append_getElem hi', List.take_succ_eq_append_getElem hi2, hpre, h2']
  · obtain rfl : i = A.length := by omega
    (conv => whnf); repeat ((first | with_reducible refine CondG.tt ?_ | with_reducible refine CondG.ff ?_); conv => whnf)
    have e : A = B := by
      have := hpre
      rw [List.take_length, hlen, List.take_length] at this
      exact this
    exact ret_here ⟨by simp [e, retV], rfl⟩
theorem booked_spec (F : List HP) (v : Value) (rs : List RawD) (hr : ∀ r ∈ rs, r.wf) (hl : rs.length ≤ 1099511627776) (hv : RdS F v rs.length (rawsC rs)) :
    SpecF Tryd.prog 22 [v] F [] (fun r L => ∃ b, r = .pointer (some ⟨b, 0, none⟩) ∧ L = [bookP 60 b (lvs rs)]) := by
  refine fun22.spec rfl ?_
  (conv => whnf); repeat ((first | with_reducible refine CondG.tt ?_ | with_reducible refine CondG.ff ?_); conv => whnf)
  refine CallG.pure (newP _) ?_
  rintro _ _ ⟨b, rfl, rfl⟩
  (conv => whnf); repeat ((first | with_reducible refine CondG.tt ?_ | with_reducible refine CondG.ff ?_); conv => whnf)
  refine LoopG.mk (fun mm e L => ∃ i, i ≤ rs.length ∧ mm = rs.length - i ∧ e = [(0, v), (3, .pointer (some ⟨b, 0, none⟩)), (4, .int .i64 i)] ∧ L = [bookP 60 b (lvs (rs.take i))]) rs.length
    [(0, v), (3, .pointer (some ⟨b, 0, none⟩)), (4, .int .i64 0)] _ ⟨rfl, rfl, rfl, trivial⟩ (Ent.refl _) ⟨0, by omega, rfl, rfl, rfl⟩ ?_
  rintro mm e L ⟨i, hi, rfl, rfl, rfl⟩
  (conv => whnf); repeat ((first | with_reducible refine CondG.tt ?_ | with_reducible refine CondG.ff ?_); conv => whnf)
  refine LenG.rd hv ?_
  (conv => whnf); repeat ((first | with_reducible refine CondG.tt ?_ | with_reducible refine CondG.ff ?_); conv => whnf)
  refine CondG.dec (fun h1 => ?_) (fun h1 => ?_)
  · have hi' : i < rs.length := by omega
    have hw := hr rs[i] (List.getElem_mem hi')
    have hwl := RawD.cells_len hw
    (conv => whnf); repeat ((first | with_reducible refine CondG.tt ?_ | with_reducible refine CondG.ff ?_); conv => whnf)
    refine IdxG.rd hv (by omega) fun c o hc => ?_
    (conv => whnf); repeat ((first | with_reducible refine CondG.tt ?_ | with_reducible refine CondG.ff ?_); conv => whnf)
    refine LoadNG.atF (vs := rs[i].cells) hwl (hc.part (by rw [hwl, Int.toNat_natCast]; exact rawsC_get hr hi')) ?_
    (conv => whnf); repeat ((first | with_reducible refine CondG.tt ?_ | with_reducible refine CondG.ff ?_); conv => whnf)
    refine CallG.pure (leaf_spec _ rs[i] hw i) ?_
    rintro _ _ ⟨rfl, rfl⟩
    (conv => whnf); repeat ((first | with_reducible refine CondG.tt ?_ | with_reducible refine CondG.ff ?_); conv => whnf)
    refine CallG.of (rest := []) (putP _ b (leafD rs[i] i) (leafD_wf hw i) (leafD_may (by omega)) (lvs (rs.take i)) (by rw [lvs_len, List.length_take, Nat.min_eq_left (by omega)]; rfl) (by rw [lvs_len, List.length_take]; omega)) (Ent.refl _) ?_
    rintro _ _ ⟨rfl, rfl⟩
    (conv => whnf); repeat ((first | with_reducible refine CondG.tt ?_ | with_reducible refine CondG.ff ?_); conv => whnf)
    refine CondG.ff ?_
    (conv => whnf); repeat ((first | with_reducible refine CondG.tt ?_ | with_reducible refine CondG.ff ?_); conv => whnf)
    refine ArithG.i64 (by omega) ?_
    (conv => whnf); repeat ((first | with_reducible refine CondG.tt ?_ | with_reducible refine CondG.ff ?_); conv => whnf)
    have e : lvs (rs.take i) ++ [leafD rs[i] i] = lvs (rs.take (i + 1)) := by
      rw [List.take_succ_eq_append_getElem hi', lvs_app, List.length_take, Nat.min_eq_left (by omega)]
    rw [e]
    refine ⟨rs.length - (i + 1), _, _, by omega, ?_, Ent.refl _, i + 1, by omega, rfl, rfl, rfl⟩
    exact ⟨rfl, rfl, rfl, trivial⟩
  · obtain rfl : i = rs.length := by omega
    rw [List.take_length]
    (conv => whnf); repeat ((first | with_reducible refine CondG.tt ?_ | with_reducible refine CondG.ff ?_); conv => whnf)
    exact ret_here ⟨b, rfl, rfl⟩
end Go.Proofs.YthdpknlnpeaiiaaDoor
