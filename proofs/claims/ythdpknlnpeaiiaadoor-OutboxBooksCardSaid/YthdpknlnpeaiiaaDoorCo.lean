/-
  Paths that are shown: the tree's check and the outbox's.
-/
import Derived.Test.YthdpknlnpeaiiaaDoorCu
import Derived.Test.YthdpknlnpeaiiaaDoorZCk
namespace Go.Proofs.YthdpknlnpeaiiaaDoor
open Go Go.Sl
structure DigOk (d : List Nat) : Prop where
  len : d.length = 32
  byte : ∀ b ∈ d, b < 256
theorem digs_snoc (p : List (List Nat)) (d : List Nat) : digsC (p ++ [d]) = digsC p ++ bvs d := by simp [digsC]
theorem cut_none (F : List HP) (v : Value) (hv : RdS F v 0 []) : SpecF Tryd.prog 134 [v] F [] (fun r L => r = .tuple #[.slice none 0 0, .agg ⟨bvs (List.replicate 32 0)⟩, .bool false] ∧ L = []) := by
  refine fun134.spec rfl ?_
  (conv => whnf); repeat ((first | with_reducible refine CondG.tt ?_ | with_reducible refine CondG.ff ?_); conv => whnf)
  intro b3
  (conv => whnf); repeat ((first | with_reducible refine CondG.tt ?_ | with_reducible refine CondG.ff ?_); conv => whnf)
  refine LenG.rd hv ?_
  (conv => whnf); repeat ((first | with_reducible refine CondG.tt ?_ | with_reducible refine CondG.ff ?_); conv => whnf)
  refine ArithG.i64 (by decide) ?_
  (conv => whnf); repeat ((first | with_reducible refine CondG.tt ?_ | with_reducible refine CondG.ff ?_); conv => whnf)
  refine CondG.decT (by decide) ?_
  (conv => whnf); repeat ((first | with_reducible refine CondG.tt ?_ | with_reducible refine CondG.ff ?_); conv => whnf)
  refine BuildG.of (cs := bvs (List.replicate 32 0)) rfl ?_
  (conv => whnf); repeat ((first | with_reducible refine CondG.tt ?_ | with_reducible refine CondG.ff ?_); conv => whnf)
  refine StoreG.at (by rw [bvs_len]; rfl) (Upd.whole (by rw [bvs_len]; rfl) (bvs_one _)) ?_
  (conv => whnf); repeat ((first | with_reducible refine CondG.tt ?_ | with_reducible refine CondG.ff ?_); conv => whnf)
  refine LoadNG.at (vs := bvs (List.replicate 32 0)) (by rw [bvs_len]; rfl) .all ?_
  (conv => whnf); repeat ((first | with_reducible refine CondG.tt ?_ | with_reducible refine CondG.ff ?_); conv => whnf)
  exact ⟨[], Ent.nil _, rfl, rfl⟩
theorem cut_some (F : List HP) (v : Value) (p : List (List Nat)) (d : List Nat) (hp : ∀ x ∈ p, DigOk x) (hd : DigOk d) (hn : p.length ≤ 4611686018427387904) (hv : RdS F v (p.length + 1) (digsC (p ++ [d]))) :
    SpecF Tryd.prog 134 [v] F [] (fun r L => ∃ u, RdS F u p.length (digsC p) ∧ r = .tuple #[u, .agg ⟨bvs d⟩, .bool true] ∧ L = []) := by
  have h32 : (bvs d).length = 32 := by rw [bvs_len, hd.len]
  have hpl : (digsC p).length = p.length * 32 := digs_len fun x hx => (hp x hx).len
  refine fun134.spec rfl ?_
  (conv => whnf); repeat ((first | with_reducible refine CondG.tt ?_ | with_reducible refine CondG.ff ?_); conv => whnf)
  intro b3
  (conv => whnf); repeat ((first | with_reducible refine CondG.tt ?_ | with_reducible refine CondG.ff ?_); conv => whnf)
  refine LenG.rd hv ?_
  (conv => whnf); repeat ((first | with_reducible refine CondG.tt ?_ | with_reducible refine CondG.ff ?_); conv => whnf)
  refine ArithG.i64' (p.length : Int) (by omega) (by omega) ?_
  (conv => whnf); repeat ((first | with_reducible refine CondG.tt ?_ | with_reducible refine CondG.ff ?_); conv => whnf)
  refine CondG.decF (by omega) ?_
  (conv => whnf); repeat ((first | with_reducible refine CondG.tt ?_ | with_reducible refine CondG.ff ?_); conv => whnf)
  refine DrawG.mk 9 [cel b3 25 (bvs (List.replicate 32 0))] [] (Ent.refl _) ?_
  (conv => whnf); repeat ((first | with_reducible refine CondG.tt ?_ | with_reducible refine CondG.ff ?_); conv => whnf)
  refine .take 0 ?_
  (conv => whnf); repeat ((first | with_reducible refine CondG.tt ?_ | with_reducible refine CondG.ff ?_); conv => whnf)
  refine ⟨rfl, ?_⟩
  (conv => whnf); repeat ((first | with_reducible refine CondG.tt ?_ | with_reducible refine CondG.ff ?_); conv => whnf)
  refine .take 1 ?_
  (conv => whnf); repeat ((first | with_reducible refine CondG.tt ?_ | with_reducible refine CondG.ff ?_); conv => whnf)
  refine ⟨rfl, ?_⟩
  (conv => whnf); repeat ((first | with_reducible refine CondG.tt ?_ | with_reducible refine CondG.ff ?_); conv => whnf)
  refine .take 2 ?_
  (conv => whnf); repeat ((first | with_reducible refine CondG.tt ?_ | with_reducible refine CondG.ff ?_); conv => whnf)
  refine ⟨rfl, ?_⟩
  (conv => whnf); repeat ((first | with_reducible refine CondG.tt ?_ | with_reducible refine CondG.ff ?_); conv => whnf)
  refine .take 4 ?_
  (conv => whnf); repeat ((first | with_reducible refine CondG.tt ?_ | with_reducible refine CondG.ff ?_); conv => whnf)
  refine ⟨rfl, ?_⟩
  (conv => whnf); repeat ((first | with_reducible refine CondG.tt ?_ | with_reducible refine CondG.ff ?_); conv => whnf)
  refine .take 5 ?_
  (conv => whnf); repeat ((first | with_reducible refine CondG.tt ?_ | with_reducible refine CondG.ff ?_); conv => whnf)
  refine ⟨rfl, ?_⟩
  (conv => whnf); repeat ((first | with_reducible refine CondG.tt ?_ | with_reducible refine CondG.ff ?_); conv => whnf)
  refine .take 3 ?_
  (conv => whnf); repeat ((first | with_reducible refine CondG.tt ?_ | with_reducible refine CondG.ff ?_); conv => whnf)
  refine ⟨rfl, ?_⟩
  (conv => whnf); repeat ((first | with_reducible refine CondG.tt ?_ | with_reducible refine CondG.ff ?_); conv => whnf)
  refine SlcG.rd hv fun a cap hva hcap => ?_
  (conv => whnf); repeat ((first | with_reducible refine CondG.tt ?_ | with_reducible refine CondG.ff ?_); conv => whnf)
  refine SideG.of (by omega) ?_
  (conv => whnf); repeat ((first | with_reducible refine CondG.tt ?_ | with_reducible refine CondG.ff ?_); conv => whnf)
  refine SliceG.rd (hva ▸ hv) (by omega) (by omega) (by omega) (by omega) fun v1 hv1 _ => ?_
  have e1 : ((digsC (p ++ [d])).drop ((0 : Int).toNat * 32)).take ((((p.length : Nat) : Int).toNat - (0 : Int).toNat) * 32) = digsC p := by
    show ((digsC (p ++ [d])).drop 0).take (p.length * 32) = _
    rw [List.drop_zero, digs_snoc, ← hpl, List.take_left]
  have e2 : ((p.length : Nat) : Int).toNat - (0 : Int).toNat = p.length := rfl
  rw [e1, e2] at hv1
  (conv => whnf); repeat ((first | with_reducible refine CondG.tt ?_ | with_reducible refine CondG.ff ?_); conv => whnf)
  refine .take 6 ?_
  (conv => whnf); repeat ((first | with_reducible refine CondG.tt ?_ | with_reducible refine CondG.ff ?_); conv => whnf)
  refine ⟨rfl, ?_⟩
  (conv => whnf); repeat ((first | with_reducible refine CondG.tt ?_ | with_reducible refine CondG.ff ?_); conv => whnf)
  refine IdxG.rd hv (by omega) fun c o hc => ?_
  (conv => whnf); repeat ((first | with_reducible refine CondG.tt ?_ | with_reducible refine CondG.ff ?_); conv => whnf)
  refine .take 7 ?_
  (conv => whnf); repeat ((first | with_reducible refine CondG.tt ?_ | with_reducible refine CondG.ff ?_); conv => whnf)
  refine ⟨rfl, ?_⟩
  (conv => whnf); repeat ((first | with_reducible refine CondG.tt ?_ | with_reducible refine CondG.ff ?_); conv => whnf)
  refine LoadNG.atF (vs := bvs d) h32 (hc.part (by rw [h32, Int.toNat_natCast, digs_snoc, ← hpl, List.drop_left, ← h32, List.take_length])) ?_
  (conv => whnf); repeat ((first | with_reducible refine CondG.tt ?_ | with_reducible refine CondG.ff ?_); conv => whnf)
  refine .take 8 ?_
  (conv => whnf); repeat ((first | with_reducible refine CondG.tt ?_ | with_reducible refine CondG.ff ?_); conv => whnf)
  refine ⟨rfl, ?_⟩
  (conv => whnf); repeat ((first | with_reducible refine CondG.tt ?_ | with_reducible refine CondG.ff ?_); conv => whnf)
  refine .all ?_
  (conv => whnf); repeat ((first | with_reducible refine CondG.tt ?_ | with_reducible refine CondG.ff ?_); conv => whnf)
  refine ⟨by decide, ?_⟩
  (conv => whnf); repeat ((first | with_reducible refine CondG.tt ?_ | with_reducible refine CondG.ff ?_); conv => whnf)
  refine ⟨rfl, ?_⟩
  (conv => whnf); repeat ((first | with_reducible refine CondG.tt ?_ | with_reducible refine CondG.ff ?_); conv => whnf)
  refine StoreG.at h32 (Upd.whole (by rw [h32]; rfl) (bvs_one _)) ?_
  (conv => whnf); repeat ((first | with_reducible refine CondG.tt ?_ | with_reducible refine CondG.ff ?_); conv => whnf)
  refine .all ?_
  (conv => whnf); repeat ((first | with_reducible refine CondG.tt ?_ | with_reducible refine CondG.ff ?_); conv => whnf)
  refine ⟨by decide, ?_⟩
  (conv => whnf); repeat ((first | with_reducible refine CondG.tt ?_ | with_reducible refine CondG.ff ?_); conv => whnf)
  refine ⟨rfl, ?_⟩
  (conv => whnf); repeat ((first | with_reducible refine CondG.tt ?_ | with_reducible refine CondG.ff ?_); conv => whnf)
  refine LoadNG.at (vs := bvs d) h32 .all ?_
  (conv => whnf); repeat ((first | with_reducible refine CondG.tt ?_ | with_reducible refine CondG.ff ?_); conv => whnf)
  exact ⟨[], Ent.nil _, v1, hv1, rfl, rfl⟩
section
variable (K : List W32) (hk : K.length = 64)
include hk
theorem shown_spec : ∀ (p : List (List Nat)) (F : List HP) (v : Value) (n i : Nat) (leaf : List Nat), CelN F 4 0 (wvs K) → RdS F v p.length (digsC p.reverse) → (∀ d ∈ p, DigOk d) → DigOk leaf → 1 ≤ n → n ≤ 1099511627776 → i < n → p.length ≤ 1099511627776 →
    SpecF Tryd.prog 98 [.int .i64 n, .int .i64 i, .agg ⟨bvs leaf⟩, v] F [] (fun r L => r = .tuple #[.agg ⟨bvs (shownR K p n i leaf).1⟩, .bool (shownR K p n i leaf).2] ∧ L = [])
  | [], F, v, n, i, leaf, hK, hv, hp, hl, h1, h2, h3, _ => by
    have hl32 : (bvs leaf).length = 32 := by rw [bvs_len, hl.len]
    refine fun98.spec rfl ?_
    (conv => whnf); repeat ((first | with_reducible refine CondG.tt ?_ | with_reducible refine CondG.ff ?_); conv => whnf)
    intro b6
    (conv => whnf); repeat ((first | with_reducible refine CondG.tt ?_ | with_reducible refine CondG.ff ?_); conv => whnf)
    intro b8
    (conv => whnf); repeat ((first | with_reducible refine CondG.tt ?_ | with_reducible refine CondG.ff ?_); conv => whnf)
    refine CondG.dec (fun h4 => ?_) (fun h4 => ?_)
    · obtain rfl : n = 1 := by omega
      (conv => whnf); repeat ((first | with_reducible refine CondG.tt ?_ | with_reducible refine CondG.ff ?_); conv => whnf)
      refine LoadNG.at (vs := bvs leaf) hl32 (.tl .all) ?_
      (conv => whnf); repeat ((first | with_reducible refine CondG.tt ?_ | with_reducible refine CondG.ff ?_); conv => whnf)
      refine LenG.rd hv ?_
      (conv => whnf); repeat ((first | with_reducible refine CondG.tt ?_ | with_reducible refine CondG.ff ?_); conv => whnf)
      refine StoreG.at hl32 (Upd.whole (by rw [hl32]; rfl) (bvs_one _)) ?_
      (conv => whnf); repeat ((first | with_reducible refine CondG.tt ?_ | with_reducible refine CondG.ff ?_); conv => whnf)
      refine LoadNG.at (vs := bvs leaf) hl32 .all ?_
      (conv => whnf); repeat ((first | with_reducible refine CondG.tt ?_ | with_reducible refine CondG.ff ?_); conv => whnf)
      exact ⟨[], Ent.nil _, rfl, rfl⟩
    · (conv => whnf); repeat ((first | with_reducible refine CondG.tt ?_ | with_reducible refine CondG.ff ?_); conv => whnf)
      refine CallG.pure (cut_none _ v (.right hv _)) ?_
      rintro _ _ ⟨rfl, rfl⟩
      (conv => whnf); repeat ((first | with_reducible refine CondG.tt ?_ | with_reducible refine CondG.ff ?_); conv => whnf)
      intro b11
      (conv => whnf); repeat ((first | with_reducible refine CondG.tt ?_ | with_reducible refine CondG.ff ?_); conv => whnf)
      refine StoreG.at (by rw [bvs_len]; rfl) (Upd.whole (by rw [bvs_len]; rfl) (bvs_one _)) ?_
      (conv => whnf); repeat ((first | with_reducible refine CondG.tt ?_ | with_reducible refine CondG.ff ?_); conv => whnf)
      refine CondG.tt ?_
      (conv => whnf); repeat ((first | with_reducible refine CondG.tt ?_ | with_reducible refine CondG.ff ?_); conv => whnf)
      refine LoadNG.at (vs := bvs (List.replicate 32 0)) (by rw [bvs_len]; rfl) .all ?_
      (conv => whnf); repeat ((first | with_reducible refine CondG.tt ?_ | with_reducible refine CondG.ff ?_); conv => whnf)
      refine StoreG.at (by rw [bvs_len]; rfl) (Upd.tl (Upd.whole (by rw [bvs_len]; rfl) (bvs_one _))) ?_
      (conv => whnf); repeat ((first | with_reducible refine CondG.tt ?_ | with_reducible refine CondG.ff ?_); conv => whnf)
      refine LoadNG.at (vs := bvs (List.replicate 32 0)) (by rw [bvs_len]; rfl) (.tl .all) ?_
      (conv => whnf); repeat ((first | with_reducible refine CondG.tt ?_ | with_reducible refine CondG.ff ?_); conv => whnf)
      refine ⟨[], Ent.nil _, ?_, rfl⟩
      rw [shownR, if_neg (by omega)]
      rfl
  | d :: r, F, v, n, i, leaf, hK, hv, hp, hl, h1, h2, h3, h5 => by
    have hl32 : (bvs leaf).length = 32 := by rw [bvs_len, hl.len]
    refine fun98.spec rfl ?_
    (conv => whnf); repeat ((first | with_reducible refine CondG.tt ?_ | with_reducible refine CondG.ff ?_); conv => whnf)
    intro b6
    (conv => whnf); repeat ((first | with_reducible refine CondG.tt ?_ | with_reducible refine CondG.ff ?_); conv => whnf)
    intro b8
    (conv => whnf); repeat ((first | with_reducible refine CondG.tt ?_ | with_reducible refine CondG.ff ?_); conv => whnf)
    refine CondG.dec (fun h4 => ?_) (fun h4 => ?_)
    · obtain rfl : n = 1 := by omega
      (conv => whnf); repeat ((first | with_reducible refine CondG.tt ?_ | with_reducible refine CondG.ff ?_); conv => whnf)
      refine LoadNG.at (vs := bvs leaf) hl32 (.tl .all) ?_
      (conv => whnf); repeat ((first | with_reducible refine CondG.tt ?_ | with_reducible refine CondG.ff ?_); conv => whnf)
      refine LenG.rd hv ?_
      (conv => whnf); repeat ((first | with_reducible refine CondG.tt ?_ | with_reducible refine CondG.ff ?_); conv => whnf)
      refine StoreG.at hl32 (Upd.whole (by rw [hl32]; rfl) (bvs_one _)) ?_
      (conv => whnf); repeat ((first | with_reducible refine CondG.tt ?_ | with_reducible refine CondG.ff ?_); conv => whnf)
      refine LoadNG.at (vs := bvs leaf) hl32 .all ?_
      (conv => whnf); repeat ((first | with_reducible refine CondG.tt ?_ | with_reducible refine CondG.ff ?_); conv => whnf)
      refine ⟨[], Ent.nil _, ?_, rfl⟩
      have e : ¬ ((r.length + 1 : Nat) : Int) = 0 := by omega
      simp [shownR, retV]
      omega
    · have hd := hp d (by simp)
      have hr : ∀ d ∈ r, DigOk d := fun x hx => hp x (by simp [hx])
      have hd32 : (bvs d).length = 32 := by rw [bvs_len, hd.len]
      have hh := half_pos n
      have hh2 := half_lt (n := n) (by omega)
      rw [List.reverse_cons] at hv
      (conv => whnf); repeat ((first | with_reducible refine CondG.tt ?_ | with_reducible refine CondG.ff ?_); conv => whnf)
      refine CallG.pure (cut_some _ v r.reverse d (fun x hx => hr x (by simpa using hx)) hd (by rw [List.length_reverse]; simp at h5; omega) (.right (by rw [List.length_reverse]; exact hv) _)) ?_
      rintro _ _ ⟨u, hu, rfl, rfl⟩
      rw [List.length_reverse] at hu
      (conv => whnf); repeat ((first | with_reducible refine CondG.tt ?_ | with_reducible refine CondG.ff ?_); conv => whnf)
      intro b11
      (conv => whnf); repeat ((first | with_reducible refine CondG.tt ?_ | with_reducible refine CondG.ff ?_); conv => whnf)
      refine StoreG.at hd32 (Upd.whole (by rw [hd32]; rfl) (bvs_one _)) ?_
      (conv => whnf); repeat ((first | with_reducible refine CondG.tt ?_ | with_reducible refine CondG.ff ?_); conv => whnf)
      refine CondG.ff ?_
      (conv => whnf); repeat ((first | with_reducible refine CondG.tt ?_ | with_reducible refine CondG.ff ?_); conv => whnf)
      refine CallG.pure (half_spec _ n (by omega) (by omega)) ?_
      rintro _ _ ⟨rfl, rfl⟩
      (conv => whnf); repeat ((first | with_reducible refine CondG.tt ?_ | with_reducible refine CondG.ff ?_); conv => whnf)
      refine CondG.dec (fun h6 => ?_) (fun h6 => ?_)
      · have h7 : i < half n := by omega
        have hs1 := shownR_len K r (half n) i leaf hl.len
        have hs2 := shownR_byte K r (half n) i leaf hl.byte
        have hs32 : (bvs (shownR K r (half n) i leaf).1).length = 32 := by rw [bvs_len, hs1]
        (conv => whnf); repeat ((first | with_reducible refine CondG.tt ?_ | with_reducible refine CondG.ff ?_); conv => whnf)
        refine LoadNG.at (vs := bvs leaf) hl32 (.tl (.tl .all)) ?_
        (conv => whnf); repeat ((first | with_reducible refine CondG.tt ?_ | with_reducible refine CondG.ff ?_); conv => whnf)
        refine CallG.pure (shown_spec r _ u (half n) i leaf (.right hK _) (.tl hu) hr hl (by omega) (by omega) h7 (by simp at h5; omega)) ?_
        rintro _ _ ⟨rfl, rfl⟩
        (conv => whnf); repeat ((first | with_reducible refine CondG.tt ?_ | with_reducible refine CondG.ff ?_); conv => whnf)
        intro b14
        (conv => whnf); repeat ((first | with_reducible refine CondG.tt ?_ | with_reducible refine CondG.ff ?_); conv => whnf)
        refine StoreG.at hs32 (Upd.whole (by rw [hs32]; rfl) (bvs_one _)) ?_
        (conv => whnf); repeat ((first | with_reducible refine CondG.tt ?_ | with_reducible refine CondG.ff ?_); conv => whnf)
        refine LoadNG.at (vs := bvs (shownR K r (half n) i leaf).1) hs32 .all ?_
        (conv => whnf); repeat ((first | with_reducible refine CondG.tt ?_ | with_reducible refine CondG.ff ?_); conv => whnf)
        refine LoadNG.at (vs := bvs d) hd32 (.tl .all) ?_
        (conv => whnf); repeat ((first | with_reducible refine CondG.tt ?_ | with_reducible refine CondG.ff ?_); conv => whnf)
        refine CallG.pure (node_spec K hk _ (.right hK _) (shownR K r (half n) i leaf).1 d hs1 hd.len hs2 hd.byte) ?_
        rintro _ _ ⟨rfl, rfl⟩
        (conv => whnf); repeat ((first | with_reducible refine CondG.tt ?_ | with_reducible refine CondG.ff ?_); conv => whnf)
        refine StoreG.at (by rw [bvs_len, nodeD, dig_len]) (Upd.tl (Upd.tl (Upd.whole (by rw [bvs_len, nodeD, dig_len]; rfl) (bvs_one _)))) ?_
        (conv => whnf); repeat ((first | with_reducible refine CondG.tt ?_ | with_reducible refine CondG.ff ?_); conv => whnf)
        refine LoadNG.at (vs := bvs (nodeD K (shownR K r (half n) i leaf).1 d)) (by rw [bvs_len, nodeD, dig_len]) (.tl (.tl .all)) ?_
        (conv => whnf); repeat ((first | with_reducible refine CondG.tt ?_ | with_reducible refine CondG.ff ?_); conv => whnf)
        refine ⟨[], Ent.nil _, ?_, rfl⟩
        rw [shownR, if_neg (by omega), if_pos h7]
        rfl
      · have h7 : ¬ i < half n := by omega
        have hs1 := shownR_len K r (n - half n) (i - half n) leaf hl.len
        have hs2 := shownR_byte K r (n - half n) (i - half n) leaf hl.byte
        have hs32 : (bvs (shownR K r (n - half n) (i - half n) leaf).1).length = 32 := by rw [bvs_len, hs1]
        (conv => whnf); repeat ((first | with_reducible refine CondG.tt ?_ | with_reducible refine CondG.ff ?_); conv => whnf)
        refine ArithG.i64' ((n - half n : Nat) : Int) (by omega) (by omega) ?_
        (conv => whnf); repeat ((first | with_reducible refine CondG.tt ?_ | with_reducible refine CondG.ff ?_); conv => whnf)
        refine ArithG.i64' ((i - half n : Nat) : Int) (by omega) (by omega) ?_
        (conv => whnf); repeat ((first | with_reducible refine CondG.tt ?_ | with_reducible refine CondG.ff ?_); conv => whnf)
        refine LoadNG.at (vs := bvs leaf) hl32 (.tl (.tl .all)) ?_
        (conv => whnf); repeat ((first | with_reducible refine CondG.tt ?_ | with_reducible refine CondG.ff ?_); conv => whnf)
        refine CallG.pure (shown_spec r _ u (n - half n) (i - half n) leaf (.right hK _) (.tl hu) hr hl (by omega) (by omega) (by omega) (by simp at h5; omega)) ?_
        rintro _ _ ⟨rfl, rfl⟩
        (conv => whnf); repeat ((first | with_reducible refine CondG.tt ?_ | with_reducible refine CondG.ff ?_); conv => whnf)
        intro b14
        (conv => whnf); repeat ((first | with_reducible refine CondG.tt ?_ | with_reducible refine CondG.ff ?_); conv => whnf)
        refine StoreG.at hs32 (Upd.whole (by rw [hs32]; rfl) (bvs_one _)) ?_
        (conv => whnf); repeat ((first | with_reducible refine CondG.tt ?_ | with_reducible refine CondG.ff ?_); conv => whnf)
        refine LoadNG.at (vs := bvs d) hd32 (.tl .all) ?_
        (conv => whnf); repeat ((first | with_reducible refine CondG.tt ?_ | with_reducible refine CondG.ff ?_); conv => whnf)
        refine LoadNG.at (vs := bvs (shownR K r (n - half n) (i - half n) leaf).1) hs32 .all ?_
        (conv => whnf); repeat ((first | with_reducible refine CondG.tt ?_ | with_reducible refine CondG.ff ?_); conv => whnf)
        refine CallG.pure (node_spec K hk _ (.right hK _) d (shownR K r (n - half n) (i - half n) leaf).1 hd.len hs1 hd.byte hs2) ?_
        rintro _ _ ⟨rfl, rfl⟩
        (conv => whnf); repeat ((first | with_reducible refine CondG.tt ?_ | with_reducible refine CondG.ff ?_); conv => whnf)
        refine StoreG.at (by rw [bvs_len, nodeD, dig_len]) (Upd.tl (Upd.tl (Upd.whole (by rw [bvs_len, nodeD, dig_len]; rfl) (bvs_one _)))) ?_
        (conv => whnf); repeat ((first | with_reducible refine CondG.tt ?_ | with_reducible refine CondG.ff ?_); conv => whnf)
        refine LoadNG.at (vs := bvs (nodeD K d (shownR K r (n - half n) (i - half n) leaf).1)) (by rw [bvs_len, nodeD, dig_len]) (.tl (.tl .all)) ?_
        (conv => whnf); repeat ((first | with_reducible refine CondG.tt ?_ | with_reducible refine CondG.ff ?_); conv => whnf)
        refine ⟨[], Ent.nil _, ?_, rfl⟩
        rw [shownR, if_neg (by omega), if_neg h7]
        rfl
def checkD (K : List W32) (root : List Nat) (n i : Nat) (t : List Nat) (p : List (List Nat)) : Prop :=
  p.length ≤ 64 ∧ (shownR K p.reverse n i (leafT K t)).2 = true ∧ (shownR K p.reverse n i (leafT K t)).1 = root
open Classical in
theorem tcheck_spec (F : List HP) (hK : CelN F 4 0 (wvs K)) (root : List Nat) (hroot : root.length = 32) (n i : Nat) (t : List Nat) (p : List (List Nat)) (v pv : Value) (h1 : 1 ≤ n) (h2 : n ≤ 1099511627776) (h3 : i < n)
    (hv : RdS F v t.length (bvs t)) (ht : t.length ≤ 1099511627776) (htb : ∀ b ∈ t, b < 256) (hpv : RdS F pv p.length (digsC p)) (hp : ∀ d ∈ p, DigOk d) :
    SpecF Tryd.prog 48 [.agg ⟨bvs root⟩, .int .i64 n, .int .i64 i, v, pv] F [] (fun r L => r = .int .i64 (if checkD K root n i t p then 0 else 43) ∧ L = []) := by
  have hr32 : (bvs root).length = 32 := by rw [bvs_len, hroot]
  have hlf : DigOk (leafT K t) := ⟨dig_len _ _, dig_byte _ _⟩
  refine fun48.spec rfl ?_
  (conv => whnf); repeat ((first | with_reducible refine CondG.tt ?_ | with_reducible refine CondG.ff ?_); conv => whnf)
  intro b5
  (conv => whnf); repeat ((first | with_reducible refine CondG.tt ?_ | with_reducible refine CondG.ff ?_); conv => whnf)
  refine CondG.decF (by omega) ?_
  (conv => whnf); repeat ((first | with_reducible refine CondG.tt ?_ | with_reducible refine CondG.ff ?_); conv => whnf)
  refine CondG.decF (by omega) ?_
  (conv => whnf); repeat ((first | with_reducible refine CondG.tt ?_ | with_reducible refine CondG.ff ?_); conv => whnf)
  refine CondG.decF (by omega) ?_
  (conv => whnf); repeat ((first | with_reducible refine CondG.tt ?_ | with_reducible refine CondG.ff ?_); conv => whnf)
  refine CondG.decF (by omega) ?_
  (conv => whnf); repeat ((first | with_reducible refine CondG.tt ?_ | with_reducible refine CondG.ff ?_); conv => whnf)
  refine LenG.rd hpv ?_
  (conv => whnf); repeat ((first | with_reducible refine CondG.tt ?_ | with_reducible refine CondG.ff ?_); conv => whnf)
  refine CondG.dec (fun h4 => ?_) (fun h4 => ?_)
  · (conv => whnf); repeat ((first | with_reducible refine CondG.tt ?_ | with_reducible refine CondG.ff ?_); conv => whnf)
    refine ⟨[], Ent.nil _, ?_, rfl⟩
    rw [if_neg (fun h => by have := h.1; omega)]
    rfl
  · have hs1 := shownR_len K p.reverse n i (leafT K t) hlf.len
    have hs32 : (bvs (shownR K p.reverse n i (leafT K t)).1).length = 32 := by rw [bvs_len, hs1]
    (conv => whnf); repeat ((first | with_reducible refine CondG.tt ?_ | with_reducible refine CondG.ff ?_); conv => whnf)
    refine CallG.pure (tleaf_spec K hk _ (.right hK _) v t (.right hv _) ht htb) ?_
    rintro _ _ ⟨rfl, rfl⟩
    (conv => whnf); repeat ((first | with_reducible refine CondG.tt ?_ | with_reducible refine CondG.ff ?_); conv => whnf)
    refine CallG.pure (shown_spec K hk p.reverse _ pv n i (leafT K t) (.right hK _) (by rw [List.length_reverse, List.reverse_reverse]; exact .right hpv _) (fun d hd => hp d (by simpa using hd)) hlf h1 h2 h3 (by rw [List.length_reverse]; omega)) ?_
    rintro _ _ ⟨rfl, rfl⟩
    (conv => whnf); repeat ((first | with_reducible refine CondG.tt ?_ | with_reducible refine CondG.ff ?_); conv => whnf)
    intro b11
    (conv => whnf); repeat ((first | with_reducible refine CondG.tt ?_ | with_reducible refine CondG.ff ?_); conv => whnf)
    refine StoreG.at hs32 (Upd.whole (by rw [hs32]; rfl) (bvs_one _)) ?_
    (conv => whnf); repeat ((first | with_reducible refine CondG.tt ?_ | with_reducible refine CondG.ff ?_); conv => whnf)
    cases hx : (shownR K p.reverse n i (leafT K t)).2
    · (conv => whnf); repeat ((first | with_reducible refine CondG.tt ?_ | with_reducible refine CondG.ff ?_); conv => whnf)
      refine CondG.tt ?_
      (conv => whnf); repeat ((first | with_reducible refine CondG.tt ?_ | with_reducible refine CondG.ff ?_); conv => whnf)
      refine ⟨[], Ent.nil _, ?_, rfl⟩
      rw [if_neg (fun h => by have := h.2.1; rw [hx] at this; cases this)]
      rfl
    · (conv => whnf); repeat ((first | with_reducible refine CondG.tt ?_ | with_reducible refine CondG.ff ?_); conv => whnf)
      refine CondG.ff ?_
      (conv => whnf); repeat ((first | with_reducible refine CondG.tt ?_ | with_reducible refine CondG.ff ?_); conv => whnf)
      refine LoadNG.at (vs := bvs (shownR K p.reverse n i (leafT K t)).1) hs32 .all ?_
      (conv => whnf); repeat ((first | with_reducible refine CondG.tt ?_ | with_reducible refine CondG.ff ?_); conv => whnf)
      refine LoadNG.at (vs := bvs root) hr32 (.tl .all) ?_
      (conv => whnf); repeat ((first | with_reducible refine CondG.tt ?_ | with_reducible refine CondG.ff ?_); conv => whnf)
      refine DoesG.eqv 8 (List.replicate 32 (.int .u8)) (by kernel_rfl) (by decide) (by kernel_rfl) (by kernel_rfl) (wt_bvs hs1) (wt_bvs hroot) ?_
      (conv => whnf); repeat ((first | with_reducible refine CondG.tt ?_ | with_reducible refine CondG.ff ?_); conv => whnf)
      refine CondG.split (fun h7 => ?_) (fun h7 => ?_)
      · (conv => whnf); repeat ((first | with_reducible refine CondG.tt ?_ | with_reducible refine CondG.ff ?_); conv => whnf)
        refine ⟨[], Ent.nil _, ?_, rfl⟩
        rw [if_neg (fun h => by rw [h.2.2] at h7; simp at h7)]
        rfl
      · (conv => whnf); repeat ((first | with_reducible refine CondG.tt ?_ | with_reducible refine CondG.ff ?_); conv => whnf)
        refine ⟨[], Ent.nil _, ?_, rfl⟩
        rw [if_pos ⟨by omega, hx, bvs_inj.1 (by simpa using h7)⟩]
        rfl
open Classical in
theorem ocheck_spec (F : List HP) (hK : CelN F 4 0 (wvs K)) (root : List Nat) (hroot : root.length = 32) (n i : Nat) (l : LeafD) (hi : l.idx = i) (hl : l.wf) (hm : l.may) (hto : ∀ b ∈ l.to, b < 256) (p : List (List Nat)) (pv : Value) (h1 : 1 ≤ n) (h2 : n ≤ 1099511627776) (h3 : i < n)
    (hpv : RdS F pv p.length (digsC p)) (hp : ∀ d ∈ p, DigOk d) :
    SpecF Tryd.prog 12 [.agg ⟨bvs root⟩, .int .i64 n, .agg ⟨l.cells⟩, pv] F [] (fun r L => r = .int .i64 (if checkD K root n i l.bytes p then 0 else 113) ∧ L = []) := by
  have hr32 : (bvs root).length = 32 := by rw [bvs_len, hroot]
  have hcl := LeafD.cells_len hl
  have hbl := LeafD.bytes_len l hl
  refine fun12.spec rfl ?_
  (conv => whnf); repeat ((first | with_reducible refine CondG.tt ?_ | with_reducible refine CondG.ff ?_); conv => whnf)
  intro b4
  (conv => whnf); repeat ((first | with_reducible refine CondG.tt ?_ | with_reducible refine CondG.ff ?_); conv => whnf)
  intro b6
  (conv => whnf); repeat ((first | with_reducible refine CondG.tt ?_ | with_reducible refine CondG.ff ?_); conv => whnf)
  refine LoadNG.at (vs := l.cells) hcl .all ?_
  (conv => whnf); repeat ((first | with_reducible refine CondG.tt ?_ | with_reducible refine CondG.ff ?_); conv => whnf)
  refine CallG.pure (bytes_spec _ l hl) ?_
  rintro _ _ (⟨_, r, hr, rfl, rfl⟩ | ⟨hno, _⟩)
  rotate_left
  · exact absurd hm hno
  (conv => whnf); repeat ((first | with_reducible refine CondG.tt ?_ | with_reducible refine CondG.ff ?_); conv => whnf)
  refine CondG.ff ?_
  (conv => whnf); repeat ((first | with_reducible refine CondG.tt ?_ | with_reducible refine CondG.ff ?_); conv => whnf)
  refine CondG.decF (by omega) ?_
  (conv => whnf); repeat ((first | with_reducible refine CondG.tt ?_ | with_reducible refine CondG.ff ?_); conv => whnf)
  refine CondG.decF (by omega) ?_
  (conv => whnf); repeat ((first | with_reducible refine CondG.tt ?_ | with_reducible refine CondG.ff ?_); conv => whnf)
  refine LoadG.at (v := .int .i64 l.idx) (.tl (.here rfl)) ?_
  (conv => whnf); repeat ((first | with_reducible refine CondG.tt ?_ | with_reducible refine CondG.ff ?_); conv => whnf)
  refine CondG.decF (by omega) ?_
  (conv => whnf); repeat ((first | with_reducible refine CondG.tt ?_ | with_reducible refine CondG.ff ?_); conv => whnf)
  refine LoadNG.at (vs := bvs root) hr32 (.tl (.tl .all)) ?_
  (conv => whnf); repeat ((first | with_reducible refine CondG.tt ?_ | with_reducible refine CondG.ff ?_); conv => whnf)
  refine LoadG.at (v := .int .i64 l.idx) (.tl (.here rfl)) ?_
  rw [hi]
  (conv => whnf); repeat ((first | with_reducible refine CondG.tt ?_ | with_reducible refine CondG.ff ?_); conv => whnf)
  refine CallG.pure (tcheck_spec K hk _ (.right hK _) root hroot n i l.bytes p r pv h1 h2 h3 (.left (own_rd hr (by rw [bvs_len, Nat.mul_one])) F) (by omega) (bytes_lt hto) (.right hpv _) hp) ?_
  rintro _ _ ⟨rfl, rfl⟩
  (conv => whnf); repeat ((first | with_reducible refine CondG.tt ?_ | with_reducible refine CondG.ff ?_); conv => whnf)
  by_cases hc : checkD K root n i l.bytes p
  · rw [if_pos hc, if_pos hc]
    (conv => whnf); repeat ((first | with_reducible refine CondG.tt ?_ | with_reducible refine CondG.ff ?_); conv => whnf)
    refine CondG.ff ?_
    (conv => whnf); repeat ((first | with_reducible refine CondG.tt ?_ | with_reducible refine CondG.ff ?_); conv => whnf)
    exact ⟨[], Ent.nil _, rfl, rfl⟩
  · rw [if_neg hc, if_neg hc]
    (conv => whnf); repeat ((first | with_reducible refine CondG.tt ?_ | with_reducible refine CondG.ff ?_); conv => whnf)
    refine CondG.tt ?_
    (conv => whnf); repeat ((first | with_reducible refine CondG.tt ?_ | with_reducible refine CondG.ff ?_); conv => whnf)
    exact ⟨[], Ent.nil _, rfl, rfl⟩
end
end Go.Proofs.YthdpknlnpeaiiaaDoor
