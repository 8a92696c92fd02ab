import Derived.Test.YthdpknlnpeaiiaaDoorOc
import Derived.Test.YthdpknlnpeaiiaaDoorZMk
/-
  The document's tree and book: contracts.
-/
namespace Go.Proofs.YthdpknlnpeaiiaaDoor
open Go Go.Sl
section
variable (K : List W32) (hk : K.length = 64)
include hk
theorem rleafT_spec (F : List HP) (hC' : CelN F 1 0 (wvs K)) (hB : CelN F 0 0 (wvs ivW)) (v : Value) (bs : List Nat) (hv : RdS F v bs.length (bvs bs)) (hl : bs.length ≤ 4096) (hb : ∀ b ∈ bs, b < 256) :
    SpecF Tryd.prog 104 [v] F [] (fun r L => r = .agg ⟨bvs (leafT K bs)⟩ ∧ L = []) := by
  refine fun104.spec rfl ?_
  (conv => whnf); repeat ((first | with_reducible refine CondG.tt ?_ | with_reducible refine CondG.ff ?_); conv => whnf)
  intro b2
  (conv => whnf); repeat ((first | with_reducible refine CondG.tt ?_ | with_reducible refine CondG.ff ?_); conv => whnf)
  refine CallG.pure (ltext_spec _ v bs (.right hv _) (by omega)) ?_
  rintro q _ ⟨hq, rfl⟩
  (conv => whnf); repeat ((first | with_reducible refine CondG.tt ?_ | with_reducible refine CondG.ff ?_); conv => whnf)
  refine CallG.pure (rsum_spec _ K (.right hC' _) (.right hB _) hk q (0 :: bs) (.left (own_rd hq (by rw [bvs_len, Nat.mul_one])) _) (by simp; omega) (by intro b h; rcases List.mem_cons.1 h with rfl | h; decide; exact hb b h)) ?_
  rintro _ _ ⟨rfl, rfl⟩
  (conv => whnf); repeat ((first | with_reducible refine CondG.tt ?_ | with_reducible refine CondG.ff ?_); conv => whnf)
  refine StoreG.at (by rw [bvs_len, dig_len]) (Upd.tl (Upd.whole (by rw [bvs_len, dig_len]; rfl) (bvs_one _))) ?_
  (conv => whnf); repeat ((first | with_reducible refine CondG.tt ?_ | with_reducible refine CondG.ff ?_); conv => whnf)
  refine LoadNG.at (vs := bvs (leafT K bs)) (by rw [bvs_len]; exact dig_len _ _) (.tl .all) ?_
  (conv => whnf); repeat ((first | with_reducible refine CondG.tt ?_ | with_reducible refine CondG.ff ?_); conv => whnf)
  exact ⟨[], Ent.nil _, rfl, rfl⟩
theorem rnodeT_spec (F : List HP) (hC' : CelN F 1 0 (wvs K)) (hB : CelN F 0 0 (wvs ivW)) (a b : List Nat) (ha : DigOk a) (hb : DigOk b) :
    SpecF Tryd.prog 106 [.agg ⟨bvs a⟩, .agg ⟨bvs b⟩] F [] (fun r L => r = .agg ⟨bvs (nodeD K a b)⟩ ∧ L = []) := by
  have ha32 : (bvs a).length = 32 := by rw [bvs_len, ha.len]
  have hb32 : (bvs b).length = 32 := by rw [bvs_len, hb.len]
  refine fun106.spec rfl ?_
  (conv => whnf); repeat ((first | with_reducible refine CondG.tt ?_ | with_reducible refine CondG.ff ?_); conv => whnf)
  intro b2
  (conv => whnf); repeat ((first | with_reducible refine CondG.tt ?_ | with_reducible refine CondG.ff ?_); conv => whnf)
  intro b3
  (conv => whnf); repeat ((first | with_reducible refine CondG.tt ?_ | with_reducible refine CondG.ff ?_); conv => whnf)
  intro b4
  (conv => whnf); repeat ((first | with_reducible refine CondG.tt ?_ | with_reducible refine CondG.ff ?_); conv => whnf)
  refine LoadNG.at (vs := bvs a) ha32 (.tl (.tl .all)) ?_
  (conv => whnf); repeat ((first | with_reducible refine CondG.tt ?_ | with_reducible refine CondG.ff ?_); conv => whnf)
  refine LoadNG.at (vs := bvs b) hb32 (.tl .all) ?_
  (conv => whnf); repeat ((first | with_reducible refine CondG.tt ?_ | with_reducible refine CondG.ff ?_); conv => whnf)
  refine CallG.pure (ntext_spec _ a b ha.len hb.len) ?_
  rintro q _ ⟨hq, rfl⟩
  (conv => whnf); repeat ((first | with_reducible refine CondG.tt ?_ | with_reducible refine CondG.ff ?_); conv => whnf)
  refine CallG.pure (rsum_spec _ K (.right hC' _) (.right hB _) hk q (1 :: (a ++ b)) (.left (own_rd hq (by rw [bvs_len, Nat.mul_one])) _) (by simp [ha.len, hb.len]) (by
    intro x h
    rcases List.mem_cons.1 h with rfl | h
    · decide
    · rcases List.mem_append.1 h with h | h
      · exact ha.byte x h
      · exact hb.byte x h)) ?_
  rintro _ _ ⟨rfl, rfl⟩
  (conv => whnf); repeat ((first | with_reducible refine CondG.tt ?_ | with_reducible refine CondG.ff ?_); conv => whnf)
  refine StoreG.at (by rw [bvs_len, dig_len]) (Upd.tl (Upd.whole (by rw [bvs_len, dig_len]; rfl) (bvs_one _))) ?_
  (conv => whnf); repeat ((first | with_reducible refine CondG.tt ?_ | with_reducible refine CondG.ff ?_); conv => whnf)
  refine LoadNG.at (vs := bvs (nodeD K a b)) (by rw [bvs_len]; exact dig_len _ _) (.tl .all) ?_
  (conv => whnf); repeat ((first | with_reducible refine CondG.tt ?_ | with_reducible refine CondG.ff ?_); conv => whnf)
  exact ⟨[], Ent.nil _, rfl, rfl⟩
theorem rroot_spec : ∀ (n : Nat) (F : List HP) (v : Value) (ls : List (List Nat)), CelN F 1 0 (wvs K) → CelN F 0 0 (wvs ivW) → RdT F v ls → ls.length ≤ n → ls.length ≤ 1099511627776 → (∀ l ∈ ls, l.length ≤ 4096 ∧ ∀ b ∈ l, b < 256) →
    SpecF Tryd.prog 58 [v] F [] (fun r L => r = .agg ⟨bvs (rootD K ls)⟩ ∧ L = []) := by
  intro n
  induction n with
  | zero =>
    intro F v ls hC' hB hv hn hl hb
    obtain ⟨us, h1, h2, h3⟩ := hv.out
    obtain rfl : ls = [] := List.eq_nil_of_length_eq_zero (by omega)
    refine fun58.spec rfl ?_
    (conv => whnf); repeat ((first | with_reducible refine CondG.tt ?_ | with_reducible refine CondG.ff ?_); conv => whnf)
    intro b2
    (conv => whnf); repeat ((first | with_reducible refine CondG.tt ?_ | with_reducible refine CondG.ff ?_); conv => whnf)
    refine LenG.rd h2 ?_
    (conv => whnf); repeat ((first | with_reducible refine CondG.tt ?_ | with_reducible refine CondG.ff ?_); conv => whnf)
    refine CondG.decT rfl ?_
    (conv => whnf); repeat ((first | with_reducible refine CondG.tt ?_ | with_reducible refine CondG.ff ?_); conv => whnf)
    refine CallG.pure (rsum_spec _ K (.right hC' _) (.right hB _) hk _ [] .nil (by simp) (by simp)) ?_
    rintro _ _ ⟨rfl, rfl⟩
    (conv => whnf); repeat ((first | with_reducible refine CondG.tt ?_ | with_reducible refine CondG.ff ?_); conv => whnf)
    refine StoreG.at (by rw [bvs_len, dig_len]) (Upd.whole (by rw [bvs_len, dig_len]; rfl) (bvs_one _)) ?_
    (conv => whnf); repeat ((first | with_reducible refine CondG.tt ?_ | with_reducible refine CondG.ff ?_); conv => whnf)
    refine LoadNG.at (vs := bvs (dig K [])) (by rw [bvs_len, dig_len]) .all ?_
    (conv => whnf); repeat ((first | with_reducible refine CondG.tt ?_ | with_reducible refine CondG.ff ?_); conv => whnf)
    exact ⟨[], Ent.nil _, rfl, rfl⟩
  | succ n ih =>
    intro F v ls hC' hB hv hn hl hb
    obtain ⟨us, h1, h2, h3⟩ := hv.out
    refine fun58.spec rfl ?_
    (conv => whnf); repeat ((first | with_reducible refine CondG.tt ?_ | with_reducible refine CondG.ff ?_); conv => whnf)
    intro b2
    (conv => whnf); repeat ((first | with_reducible refine CondG.tt ?_ | with_reducible refine CondG.ff ?_); conv => whnf)
    refine LenG.rd h2 ?_
    (conv => whnf); repeat ((first | with_reducible refine CondG.tt ?_ | with_reducible refine CondG.ff ?_); conv => whnf)
    refine CondG.dec (fun h0 => ?_) (fun h0 => ?_)
    · obtain rfl : ls = [] := List.eq_nil_of_length_eq_zero (by omega)
      (conv => whnf); repeat ((first | with_reducible refine CondG.tt ?_ | with_reducible refine CondG.ff ?_); conv => whnf)
      refine CallG.pure (rsum_spec _ K (.right hC' _) (.right hB _) hk _ [] .nil (by simp) (by simp)) ?_
      rintro _ _ ⟨rfl, rfl⟩
      (conv => whnf); repeat ((first | with_reducible refine CondG.tt ?_ | with_reducible refine CondG.ff ?_); conv => whnf)
      refine StoreG.at (by rw [bvs_len, dig_len]) (Upd.whole (by rw [bvs_len, dig_len]; rfl) (bvs_one _)) ?_
      (conv => whnf); repeat ((first | with_reducible refine CondG.tt ?_ | with_reducible refine CondG.ff ?_); conv => whnf)
      refine LoadNG.at (vs := bvs (dig K [])) (by rw [bvs_len, dig_len]) .all ?_
      (conv => whnf); repeat ((first | with_reducible refine CondG.tt ?_ | with_reducible refine CondG.ff ?_); conv => whnf)
      exact ⟨[], Ent.nil _, rfl, rfl⟩
    (conv => whnf); repeat ((first | with_reducible refine CondG.tt ?_ | with_reducible refine CondG.ff ?_); conv => whnf)
    refine LenG.rd h2 ?_
    (conv => whnf); repeat ((first | with_reducible refine CondG.tt ?_ | with_reducible refine CondG.ff ?_); conv => whnf)
    refine CondG.dec (fun h9 => ?_) (fun h9 => ?_)
    · obtain ⟨l, rfl⟩ : ∃ l, ls = [l] := List.length_eq_one_iff.1 (by omega)
      have hlb := hb l (by simp)
      obtain ⟨x, rfl⟩ : ∃ x, us = [x] := List.length_eq_one_iff.1 (by simpa using h1)
      have hx := h3 0 x l rfl rfl
      (conv => whnf); repeat ((first | with_reducible refine CondG.tt ?_ | with_reducible refine CondG.ff ?_); conv => whnf)
      refine IdxG.rd h2 (by simp) fun c o hc => ?_
      (conv => whnf); repeat ((first | with_reducible refine CondG.tt ?_ | with_reducible refine CondG.ff ?_); conv => whnf)
      refine LoadG.atF (v := x) (hc.one (i := (0 : Int).toNat * 1) rfl) ?_
      (conv => whnf); repeat ((first | with_reducible refine CondG.tt ?_ | with_reducible refine CondG.ff ?_); conv => whnf)
      refine CallG.pure (rleafT_spec K hk _ (.right hC' _) (.right hB _) x l (.right hx _) hlb.1 hlb.2) ?_
      rintro _ _ ⟨rfl, rfl⟩
      (conv => whnf); repeat ((first | with_reducible refine CondG.tt ?_ | with_reducible refine CondG.ff ?_); conv => whnf)
      refine StoreG.at (by rw [bvs_len]; exact dig_len _ _) (Upd.whole (by rw [bvs_len, leafT, dig_len]; rfl) (bvs_one _)) ?_
      (conv => whnf); repeat ((first | with_reducible refine CondG.tt ?_ | with_reducible refine CondG.ff ?_); conv => whnf)
      refine LoadNG.at (vs := bvs (leafT K l)) (by rw [bvs_len]; exact dig_len _ _) .all ?_
      (conv => whnf); repeat ((first | with_reducible refine CondG.tt ?_ | with_reducible refine CondG.ff ?_); conv => whnf)
      exact ⟨[], Ent.nil _, rfl, rfl⟩
    have h22 : 2 ≤ ls.length := by omega
    have hp := half_pos ls.length
    have hh := half_lt h22
    (conv => whnf); repeat ((first | with_reducible refine CondG.tt ?_ | with_reducible refine CondG.ff ?_); conv => whnf)
    refine LenG.rd h2 ?_
    (conv => whnf); repeat ((first | with_reducible refine CondG.tt ?_ | with_reducible refine CondG.ff ?_); conv => whnf)
    refine CallG.pure (below_spec _ ls.length h22 hl) ?_
    rintro _ _ ⟨rfl, rfl⟩
    (conv => whnf); repeat ((first | with_reducible refine CondG.tt ?_ | with_reducible refine CondG.ff ?_); conv => whnf)
    refine SlcG.rd h2 fun a cap hva hcap => ?_
    (conv => whnf); repeat ((first | with_reducible refine CondG.tt ?_ | with_reducible refine CondG.ff ?_); conv => whnf)
    refine SideG.of (by omega) ?_
    (conv => whnf); repeat ((first | with_reducible refine CondG.tt ?_ | with_reducible refine CondG.ff ?_); conv => whnf)
    refine SliceG.rd (hva ▸ h2) (by omega) (by omega) (by omega) (by omega) fun v1 hv1 _ => ?_
    have hr1 := RdT.cut h1 h3 (l := (0 : Int).toNat) (h := ((half ls.length : Nat) : Int).toNat) (by omega) hv1
    have e1 : (ls.drop (0 : Int).toNat).take (((half ls.length : Nat) : Int).toNat - (0 : Int).toNat) = ls.take (half ls.length) := by simp
    rw [e1] at hr1
    (conv => whnf); repeat ((first | with_reducible refine CondG.tt ?_ | with_reducible refine CondG.ff ?_); conv => whnf)
    refine CallG.pure (ih _ v1 (ls.take (half ls.length)) (.right hC' _) (.right hB _) (.right hr1 _) (by rw [List.length_take]; omega) (by rw [List.length_take]; omega) (fun l hl => hb l (List.mem_of_mem_take hl))) ?_
    rintro _ _ ⟨rfl, rfl⟩
    have d1 : DigOk (rootD K (ls.take (half ls.length))) := ⟨rootD_len _ _, rootD_byte _ _⟩
    have d132 : (bvs (rootD K (ls.take (half ls.length)))).length = 32 := by rw [bvs_len, d1.len]
    (conv => whnf); repeat ((first | with_reducible refine CondG.tt ?_ | with_reducible refine CondG.ff ?_); conv => whnf)
    intro b4
    (conv => whnf); repeat ((first | with_reducible refine CondG.tt ?_ | with_reducible refine CondG.ff ?_); conv => whnf)
    refine StoreG.at d132 (Upd.whole (by rw [d132]; rfl) (bvs_one _)) ?_
    (conv => whnf); repeat ((first | with_reducible refine CondG.tt ?_ | with_reducible refine CondG.ff ?_); conv => whnf)
    refine SlcG.rd h2 fun a cap hva hcap => ?_
    (conv => whnf); repeat ((first | with_reducible refine CondG.tt ?_ | with_reducible refine CondG.ff ?_); conv => whnf)
    refine SideG.of (by omega) ?_
    (conv => whnf); repeat ((first | with_reducible refine CondG.tt ?_ | with_reducible refine CondG.ff ?_); conv => whnf)
    refine SliceG.rd (hva ▸ h2) (by omega) (by omega) (by omega) (by omega) fun v2 hv2 _ => ?_
    have hr2 := RdT.cut h1 h3 (l := ((half ls.length : Nat) : Int).toNat) (h := ((ls.length : Nat) : Int).toNat) (by omega) hv2
    have e2 : (ls.drop ((half ls.length : Nat) : Int).toNat).take (((ls.length : Nat) : Int).toNat - ((half ls.length : Nat) : Int).toNat) = ls.drop (half ls.length) := by simp [List.take_of_length_le]
    rw [e2] at hr2
    (conv => whnf); repeat ((first | with_reducible refine CondG.tt ?_ | with_reducible refine CondG.ff ?_); conv => whnf)
    refine CallG.pure (ih _ v2 (ls.drop (half ls.length)) (.right hC' _) (.right hB _) (.right hr2 _) (by rw [List.length_drop]; omega) (by rw [List.length_drop]; omega) (fun l hl => hb l (List.mem_of_mem_drop hl))) ?_
    rintro _ _ ⟨rfl, rfl⟩
    have d2 : DigOk (rootD K (ls.drop (half ls.length))) := ⟨rootD_len _ _, rootD_byte _ _⟩
    have d232 : (bvs (rootD K (ls.drop (half ls.length)))).length = 32 := by rw [bvs_len, d2.len]
    (conv => whnf); repeat ((first | with_reducible refine CondG.tt ?_ | with_reducible refine CondG.ff ?_); conv => whnf)
    intro b5
    (conv => whnf); repeat ((first | with_reducible refine CondG.tt ?_ | with_reducible refine CondG.ff ?_); conv => whnf)
    refine StoreG.at d232 (Upd.whole (by rw [d232]; rfl) (bvs_one _)) ?_
    (conv => whnf); repeat ((first | with_reducible refine CondG.tt ?_ | with_reducible refine CondG.ff ?_); conv => whnf)
    refine LoadNG.at (vs := bvs (rootD K (ls.take (half ls.length)))) d132 (.tl .all) ?_
    (conv => whnf); repeat ((first | with_reducible refine CondG.tt ?_ | with_reducible refine CondG.ff ?_); conv => whnf)
    refine LoadNG.at (vs := bvs (rootD K (ls.drop (half ls.length)))) d232 .all ?_
    (conv => whnf); repeat ((first | with_reducible refine CondG.tt ?_ | with_reducible refine CondG.ff ?_); conv => whnf)
    refine CallG.pure (rnodeT_spec K hk _ (.right hC' _) (.right hB _) _ _ d1 d2) ?_
    rintro _ _ ⟨rfl, rfl⟩
    rw [← rootD_two K ls h22]
    (conv => whnf); repeat ((first | with_reducible refine CondG.tt ?_ | with_reducible refine CondG.ff ?_); conv => whnf)
    refine StoreG.at (by rw [bvs_len, rootD_len]) (Upd.tl (Upd.tl (Upd.whole (by rw [bvs_len, rootD_len]; rfl) (bvs_one _)))) ?_
    (conv => whnf); repeat ((first | with_reducible refine CondG.tt ?_ | with_reducible refine CondG.ff ?_); conv => whnf)
    refine LoadNG.at (vs := bvs (rootD K ls)) (by rw [bvs_len, rootD_len]) (.tl (.tl .all)) ?_
    (conv => whnf); repeat ((first | with_reducible refine CondG.tt ?_ | with_reducible refine CondG.ff ?_); conv => whnf)
    exact ⟨[], Ent.nil _, rfl, rfl⟩
theorem rpath_spec : ∀ (n : Nat) (F : List HP) (v : Value) (ls : List (List Nat)) (i : Nat), CelN F 1 0 (wvs K) → CelN F 0 0 (wvs ivW) → RdT F v ls → ls.length ≤ n → ls.length ≤ 1099511627776 → i < ls.length → (∀ l ∈ ls, l.length ≤ 4096 ∧ ∀ b ∈ l, b < 256) →
    SpecF Tryd.prog 136 [v, .int .i64 i] F [] (fun r L => SlV r (pathD K ls i).length ∧ L = [own 32 r (pathD K ls i).length (digsC (pathD K ls i))]) := by
  intro n
  induction n with
  | zero =>
    intro F v ls i hC' hB hv hn hl hi
    omega
  | succ n ih =>
    intro F v ls i hC' hB hv hn hl hi hb
    obtain ⟨us, h1, h2, h3⟩ := hv.out
    have hpl := pathD_len K ls.length ls i (Nat.le_refl _)
    refine fun136.spec rfl ?_
    (conv => whnf); repeat ((first | with_reducible refine CondG.tt ?_ | with_reducible refine CondG.ff ?_); conv => whnf)
    refine LenG.rd h2 ?_
    (conv => whnf); repeat ((first | with_reducible refine CondG.tt ?_ | with_reducible refine CondG.ff ?_); conv => whnf)
    refine CondG.dec (fun h0 => ?_) (fun h0 => ?_)
    · obtain ⟨l, rfl⟩ : ∃ l, ls = [l] := List.length_eq_one_iff.1 (by omega)
      (conv => whnf); repeat ((first | with_reducible refine CondG.tt ?_ | with_reducible refine CondG.ff ?_); conv => whnf)
      exact ⟨[own 32 (.slice none 0 0) 0 []], fun w G hs => Sat.own_nil hs, .inl ⟨rfl, rfl⟩, rfl⟩
    have h22 : 2 ≤ ls.length := by omega
    have hp := half_pos ls.length
    have hh := half_lt h22
    have hpt := pathD_two K ls i h22
    (conv => whnf); repeat ((first | with_reducible refine CondG.tt ?_ | with_reducible refine CondG.ff ?_); conv => whnf)
    refine LenG.rd h2 ?_
    (conv => whnf); repeat ((first | with_reducible refine CondG.tt ?_ | with_reducible refine CondG.ff ?_); conv => whnf)
    refine CallG.pure (below_spec _ ls.length h22 hl) ?_
    rintro _ _ ⟨rfl, rfl⟩
    (conv => whnf); repeat ((first | with_reducible refine CondG.tt ?_ | with_reducible refine CondG.ff ?_); conv => whnf)
    refine CondG.dec (fun h9 => ?_) (fun h9 => ?_)
    · rw [if_pos (by omega)] at hpt
      (conv => whnf); repeat ((first | with_reducible refine CondG.tt ?_ | with_reducible refine CondG.ff ?_); conv => whnf)
      refine SlcG.rd h2 fun a cap hva hcap => ?_
      (conv => whnf); repeat ((first | with_reducible refine CondG.tt ?_ | with_reducible refine CondG.ff ?_); conv => whnf)
      refine SideG.of (by omega) ?_
      (conv => whnf); repeat ((first | with_reducible refine CondG.tt ?_ | with_reducible refine CondG.ff ?_); conv => whnf)
      refine SliceG.rd (hva ▸ h2) (by omega) (by omega) (by omega) (by omega) fun v1 hv1 _ => ?_
      have hr1 := RdT.cut h1 h3 (l := (0 : Int).toNat) (h := ((half ls.length : Nat) : Int).toNat) (by omega) hv1
      rw [show (ls.drop (0 : Int).toNat).take (((half ls.length : Nat) : Int).toNat - (0 : Int).toNat) = ls.take (half ls.length) by simp] at hr1
      (conv => whnf); repeat ((first | with_reducible refine CondG.tt ?_ | with_reducible refine CondG.ff ?_); conv => whnf)
      refine CallG.pure (ih _ v1 (ls.take (half ls.length)) i (.right hC' _) (.right hB _) (.right hr1 _) (by rw [List.length_take]; omega) (by rw [List.length_take]; omega) (by rw [List.length_take]; omega) (fun l hl => hb l (List.mem_of_mem_take hl))) ?_
      rintro r _ ⟨hr, rfl⟩
      (conv => whnf); repeat ((first | with_reducible refine CondG.tt ?_ | with_reducible refine CondG.ff ?_); conv => whnf)
      refine SlcG.rd h2 fun a cap hva hcap => ?_
      (conv => whnf); repeat ((first | with_reducible refine CondG.tt ?_ | with_reducible refine CondG.ff ?_); conv => whnf)
      refine SideG.of (by omega) ?_
      (conv => whnf); repeat ((first | with_reducible refine CondG.tt ?_ | with_reducible refine CondG.ff ?_); conv => whnf)
      refine SliceG.rd (hva ▸ h2) (by omega) (by omega) (by omega) (by omega) fun v2 hv2 _ => ?_
      have hr2 := RdT.cut h1 h3 (l := ((half ls.length : Nat) : Int).toNat) (h := ((ls.length : Nat) : Int).toNat) (by omega) hv2
      rw [show (ls.drop ((half ls.length : Nat) : Int).toNat).take (((ls.length : Nat) : Int).toNat - ((half ls.length : Nat) : Int).toNat) = ls.drop (half ls.length) by simp [List.take_of_length_le]] at hr2
      (conv => whnf); repeat ((first | with_reducible refine CondG.tt ?_ | with_reducible refine CondG.ff ?_); conv => whnf)
      refine CallG.pure (rroot_spec K hk _ _ v2 (ls.drop (half ls.length)) (.right hC' _) (.right hB _) (.right hr2 _) (Nat.le_refl _) (by rw [List.length_drop]; omega) (fun l hl => hb l (List.mem_of_mem_drop hl))) ?_
      rintro _ _ ⟨rfl, rfl⟩
      have d1 : DigOk (rootD K (ls.drop (half ls.length))) := ⟨rootD_len _ _, rootD_byte _ _⟩
      have d132 : (bvs (rootD K (ls.drop (half ls.length)))).length = 32 := by rw [bvs_len, d1.len]
      (conv => whnf); repeat ((first | with_reducible refine CondG.tt ?_ | with_reducible refine CondG.ff ?_); conv => whnf)
      intro b7
      (conv => whnf); repeat ((first | with_reducible refine CondG.tt ?_ | with_reducible refine CondG.ff ?_); conv => whnf)
      refine StoreG.at d132 (Upd.whole (by rw [d132]; rfl) (bvs_one _)) ?_
      (conv => whnf); repeat ((first | with_reducible refine CondG.tt ?_ | with_reducible refine CondG.ff ?_); conv => whnf)
      refine LoadNG.at (vs := bvs (rootD K (ls.drop (half ls.length)))) d132 .all ?_
      (conv => whnf); repeat ((first | with_reducible refine CondG.tt ?_ | with_reducible refine CondG.ff ?_); conv => whnf)
      refine BuildG.of (cs := bvs (rootD K (ls.drop (half ls.length)))) (by simp [fillL, Value.cells, bvs_len, rootD_len]) ?_
      (conv => whnf); repeat ((first | with_reducible refine CondG.tt ?_ | with_reducible refine CondG.ff ?_); conv => whnf)
      intro b9
      (conv => whnf); repeat ((first | with_reducible refine CondG.tt ?_ | with_reducible refine CondG.ff ?_); conv => whnf)
      refine DoesG.ent (Ent.front 2 rfl) ?_
      have hpl2 := pathD_len K (ls.take (half ls.length)).length (ls.take (half ls.length)) i (Nat.le_refl _)
      have hps : (ls.take (half ls.length)).length ≤ ls.length := (by rw [List.length_take]; omega)
      refine app_own digsT 33 (m := 1) (ys := bvs (rootD K (ls.drop (half ls.length)))) (.mk _ _ _ _ _ (by decide) (.tl (.left .all _))) d132 (bvs_one _) (by simp only [maxLen]; omega) (by omega) fun r' hr' hlen hnil => ?_
      (conv => whnf); repeat ((first | with_reducible refine CondG.tt ?_ | with_reducible refine CondG.ff ?_); conv => whnf)
      have ed : digsC (pathD K (ls.take (half ls.length)) i) ++ bvs (rootD K (ls.drop (half ls.length))) = digsC (pathD K ls i) := by rw [hpt]; simp [digsC]
      have el : (pathD K (ls.take (half ls.length)) i).length + 1 = (pathD K ls i).length := by rw [hpt]; simp
      rw [ed, el]
      rw [el] at hr'
      exact ⟨_, Ent.dropL [_] _, hr', rfl⟩
    · rw [if_neg (by omega)] at hpt
      (conv => whnf); repeat ((first | with_reducible refine CondG.tt ?_ | with_reducible refine CondG.ff ?_); conv => whnf)
      refine SlcG.rd h2 fun a cap hva hcap => ?_
      (conv => whnf); repeat ((first | with_reducible refine CondG.tt ?_ | with_reducible refine CondG.ff ?_); conv => whnf)
      refine SideG.of (by omega) ?_
      (conv => whnf); repeat ((first | with_reducible refine CondG.tt ?_ | with_reducible refine CondG.ff ?_); conv => whnf)
      refine SliceG.rd (hva ▸ h2) (by omega) (by omega) (by omega) (by omega) fun v1 hv1 _ => ?_
      have hr1 := RdT.cut h1 h3 (l := ((half ls.length : Nat) : Int).toNat) (h := ((ls.length : Nat) : Int).toNat) (by omega) hv1
      rw [show (ls.drop ((half ls.length : Nat) : Int).toNat).take (((ls.length : Nat) : Int).toNat - ((half ls.length : Nat) : Int).toNat) = ls.drop (half ls.length) by simp [List.take_of_length_le]] at hr1
      (conv => whnf); repeat ((first | with_reducible refine CondG.tt ?_ | with_reducible refine CondG.ff ?_); conv => whnf)
      refine ArithG.i64' ((i - half ls.length : Nat) : Int) (by omega) (by omega) ?_
      (conv => whnf); repeat ((first | with_reducible refine CondG.tt ?_ | with_reducible refine CondG.ff ?_); conv => whnf)
      refine CallG.pure (ih _ v1 (ls.drop (half ls.length)) (i - half ls.length) (.right hC' _) (.right hB _) (.right hr1 _) (by rw [List.length_drop]; omega) (by rw [List.length_drop]; omega) (by rw [List.length_drop]; omega) (fun l hl => hb l (List.mem_of_mem_drop hl))) ?_
      rintro r _ ⟨hr, rfl⟩
      (conv => whnf); repeat ((first | with_reducible refine CondG.tt ?_ | with_reducible refine CondG.ff ?_); conv => whnf)
      refine SlcG.rd h2 fun a cap hva hcap => ?_
      (conv => whnf); repeat ((first | with_reducible refine CondG.tt ?_ | with_reducible refine CondG.ff ?_); conv => whnf)
      refine SideG.of (by omega) ?_
      (conv => whnf); repeat ((first | with_reducible refine CondG.tt ?_ | with_reducible refine CondG.ff ?_); conv => whnf)
      refine SliceG.rd (hva ▸ h2) (by omega) (by omega) (by omega) (by omega) fun v2 hv2 _ => ?_
      have hr2 := RdT.cut h1 h3 (l := (0 : Int).toNat) (h := ((half ls.length : Nat) : Int).toNat) (by omega) hv2
      rw [show (ls.drop (0 : Int).toNat).take (((half ls.length : Nat) : Int).toNat - (0 : Int).toNat) = ls.take (half ls.length) by simp] at hr2
      (conv => whnf); repeat ((first | with_reducible refine CondG.tt ?_ | with_reducible refine CondG.ff ?_); conv => whnf)
      refine CallG.pure (rroot_spec K hk _ _ v2 (ls.take (half ls.length)) (.right hC' _) (.right hB _) (.right hr2 _) (Nat.le_refl _) (by rw [List.length_take]; omega) (fun l hl => hb l (List.mem_of_mem_take hl))) ?_
      rintro _ _ ⟨rfl, rfl⟩
      have d1 : DigOk (rootD K (ls.take (half ls.length))) := ⟨rootD_len _ _, rootD_byte _ _⟩
      have d132 : (bvs (rootD K (ls.take (half ls.length)))).length = 32 := by rw [bvs_len, d1.len]
      (conv => whnf); repeat ((first | with_reducible refine CondG.tt ?_ | with_reducible refine CondG.ff ?_); conv => whnf)
      intro b7
      (conv => whnf); repeat ((first | with_reducible refine CondG.tt ?_ | with_reducible refine CondG.ff ?_); conv => whnf)
      refine StoreG.at d132 (Upd.whole (by rw [d132]; rfl) (bvs_one _)) ?_
      (conv => whnf); repeat ((first | with_reducible refine CondG.tt ?_ | with_reducible refine CondG.ff ?_); conv => whnf)
      refine LoadNG.at (vs := bvs (rootD K (ls.take (half ls.length)))) d132 .all ?_
      (conv => whnf); repeat ((first | with_reducible refine CondG.tt ?_ | with_reducible refine CondG.ff ?_); conv => whnf)
      refine BuildG.of (cs := bvs (rootD K (ls.take (half ls.length)))) (by simp [fillL, Value.cells, bvs_len, rootD_len]) ?_
      (conv => whnf); repeat ((first | with_reducible refine CondG.tt ?_ | with_reducible refine CondG.ff ?_); conv => whnf)
      intro b9
      (conv => whnf); repeat ((first | with_reducible refine CondG.tt ?_ | with_reducible refine CondG.ff ?_); conv => whnf)
      refine DoesG.ent (Ent.front 2 rfl) ?_
      have hpl2 := pathD_len K (ls.drop (half ls.length)).length (ls.drop (half ls.length)) (i - half ls.length) (Nat.le_refl _)
      have hps : (ls.drop (half ls.length)).length ≤ ls.length := (by rw [List.length_drop]; omega)
      refine app_own digsT 33 (m := 1) (ys := bvs (rootD K (ls.take (half ls.length)))) (.mk _ _ _ _ _ (by decide) (.tl (.left .all _))) d132 (bvs_one _) (by simp only [maxLen]; omega) (by omega) fun r' hr' hlen hnil => ?_
      (conv => whnf); repeat ((first | with_reducible refine CondG.tt ?_ | with_reducible refine CondG.ff ?_); conv => whnf)
      have ed : digsC (pathD K (ls.drop (half ls.length)) (i - half ls.length)) ++ bvs (rootD K (ls.take (half ls.length))) = digsC (pathD K ls i) := by rw [hpt]; simp [digsC]
      have el : (pathD K (ls.drop (half ls.length)) (i - half ls.length)).length + 1 = (pathD K ls i).length := by rw [hpt]; simp
      rw [ed, el]
      rw [el] at hr'
      exact ⟨_, Ent.dropL [_] _, hr', rfl⟩
end
end Go.Proofs.YthdpknlnpeaiiaaDoor
/-
  The document's book: contracts.
-/
namespace Go.Proofs.YthdpknlnpeaiiaaDoor
open Go Go.Sl
structure LvOk (l : LeafD) : Prop where
  wf : l.wf
  may : l.may
  to : ∀ b ∈ l.to, b < 256
  amt : wOk l.amt
def z32 : List Nat := List.replicate 32 0
def z27 : LeafD := ⟨0, 0, 0, List.replicate 20 0, List.replicate 4 0⟩
def rootE (K : List W32) (ls : List LeafD) (n : Int) : List Nat × Int := if n < 0 ∨ (ls.length : Int) < n then (z32, 112) else (rootD K (bytesL (ls.take n.toNat)), 0)
def pathE (K : List W32) (ls : List LeafD) (i n : Int) : List (List Nat) × Int := if n < 0 ∨ (ls.length : Int) < n then ([], 112) else if i < 0 ∨ n ≤ i then ([], 111) else (pathD K (bytesL (ls.take n.toNat)) i.toNat, 0)
def leafE (ls : List LeafD) (i : Int) : LeafD × Int := if i < 0 ∨ (ls.length : Int) ≤ i then (z27, 111) else (ls.getD i.toNat z27, 0)
open Classical in
noncomputable def putE (ls : List LeafD) (l : LeafD) : List LeafD × Int := if ¬ l.may then (ls, 110) else if l.idx ≠ ls.length then (ls, 111) else (ls ++ [l], 0)
def cutE (ls : List LeafD) (n : Int) : List LeafD × Int := if n < 0 ∨ (ls.length : Int) < n then (ls, 112) else (ls.take n.toNat, 0)
theorem bytesL_ok {ls : List LeafD} (h : ∀ l ∈ ls, LvOk l) : ∀ t ∈ bytesL ls, t.length ≤ 4096 ∧ ∀ b ∈ t, b < 256 := by
  intro t ht
  obtain ⟨l, hl, rfl⟩ := List.mem_map.1 ht
  have := LeafD.bytes_len l (h l hl).wf
  exact ⟨by omega, bytes_lt (h l hl).to⟩
theorem texts_next {c : HP} {q v : Value} {l : List Nat} {ts : List (Value × List Nat)} :
    Ent (own 1 v (ts.length + 1) (fsts ts ++ [q]) :: c :: own 1 q l.length (bvs l) :: textsL ts) (own 1 v (ts ++ [(q, l)]).length (fsts (ts ++ [(q, l)])) :: textsL (ts ++ [(q, l)])) := by
  have e1 : (ts ++ [(q, l)]).length = ts.length + 1 := by simp
  have e2 : fsts (ts ++ [(q, l)]) = fsts ts ++ [q] := by simp [fsts]
  have e3 : textsL (ts ++ [(q, l)]) = textsL ts ++ [own 1 q l.length (bvs l)] := by simp [textsL]
  rw [e1, e2, e3]
  exact (Ent.sel (T := textsL ts) (A := [_, _, _]) [0, 2] rfl).trans (Ent.cons _ (Ent.perm (List.perm_append_comm (l₁ := [_]))))
theorem upd_right {A L L' : List HP} {b o : Nat} {vs : List Value} (h : Upd Tryd.prog L b o vs L') : Upd Tryd.prog (A ++ L) b o vs (A ++ L') := by
  induction A with
  | nil => exact h
  | cons a A ih => exact .tl ih
theorem btexts_spec (F : List HP) (v : Value) (ls : List LeafD) (n : Nat) (hn : n ≤ ls.length) (hl : ls.length ≤ 1099511627776) (hls : ∀ l ∈ ls, LvOk l) (hv : RdS F v ls.length (leavesC ls)) :
    SpecF Tryd.prog 59 [v, .int .i64 n] F [] (fun r L => ∃ ts, TxOk ts r (bytesL (ls.take n)) ∧ L = own 1 r ts.length (fsts ts) :: textsL ts) := by
  refine fun59.spec rfl ?_
  (conv => whnf); repeat ((first | with_reducible refine CondG.tt ?_ | with_reducible refine CondG.ff ?_); conv => whnf)
  refine LoopG.mk (fun mm e L => ∃ k tv ts, k ≤ n ∧ mm = n - k ∧ e = [(0, v), (1, .int .i64 (n : Nat)), (5, tv), (6, .int .i64 (k : Nat))] ∧ TxOk ts tv (bytesL (ls.take k)) ∧ L = own 1 tv ts.length (fsts ts) :: textsL ts) n
    [(0, v), (1, .int .i64 (n : Nat)), (5, .slice none 0 0), (6, .int .i64 0)] [own 1 (.slice none 0 0) 0 []] ⟨rfl, rfl, rfl, rfl, trivial⟩ (fun w G hs => Sat.own_nil hs)
    ⟨0, .slice none 0 0, [], by omega, rfl, rfl, ⟨rfl, .inl ⟨rfl, rfl⟩, by simp⟩, rfl⟩ ?_
  rintro mm e L ⟨k, tv, ts, hkn, rfl, rfl, hok, rfl⟩
  have htl : ts.length = k := by rw [hok.len, bytesL, List.length_map, List.length_take]; omega
  (conv => whnf); repeat ((first | with_reducible refine CondG.tt ?_ | with_reducible refine CondG.ff ?_); conv => whnf)
  refine CondG.dec (fun h1 => ?_) (fun h1 => ?_)
  · have hk1 : k < ls.length := by omega
    have hlk := hls ls[k] (List.getElem_mem hk1)
    have hlc := LeafD.cells_len hlk.wf
    have hbl := LeafD.bytes_len ls[k] hlk.wf
    (conv => whnf); repeat ((first | with_reducible refine CondG.tt ?_ | with_reducible refine CondG.ff ?_); conv => whnf)
    refine IdxG.rd hv (by omega) fun c o hc => ?_
    (conv => whnf); repeat ((first | with_reducible refine CondG.tt ?_ | with_reducible refine CondG.ff ?_); conv => whnf)
    refine LoadNG.atF (vs := ls[k].cells) hlc (hc.part (by rw [hlc, Int.toNat_natCast]; exact leavesC_get (fun l h => (hls l h).wf) hk1)) ?_
    (conv => whnf); repeat ((first | with_reducible refine CondG.tt ?_ | with_reducible refine CondG.ff ?_); conv => whnf)
    refine CallG.pure (form_of _ ls[k] hlk.wf hlk.may hlk.amt) ?_
    rintro q _ ⟨hq, rfl⟩
    (conv => whnf); repeat ((first | with_reducible refine CondG.tt ?_ | with_reducible refine CondG.ff ?_); conv => whnf)
    refine BuildG.of (cs := [q]) (by obtain ⟨a, c, rfl⟩ := hq.len; rfl) ?_
    (conv => whnf); repeat ((first | with_reducible refine CondG.tt ?_ | with_reducible refine CondG.ff ?_); conv => whnf)
    intro b18
    (conv => whnf); repeat ((first | with_reducible refine CondG.tt ?_ | with_reducible refine CondG.ff ?_); conv => whnf)
    refine DoesG.ent (Ent.sel (T := textsL ts) (A := [_, _, _]) [2, 0, 1] rfl) ?_
    refine app_own partsT 44 (m := 1) (ys := [q]) (.mk _ _ _ _ _ (Nat.le_refl _) (.tl (.left .all _))) rfl (by intro u hu; rw [List.mem_singleton.1 hu]; exact hq.one) (by simp only [maxLen]; omega) (by omega) fun tv' htv' hll _ => ?_
    (conv => whnf); repeat ((first | with_reducible refine CondG.tt ?_ | with_reducible refine CondG.ff ?_); conv => whnf)
    refine ArithG.i64 (by omega) ?_
    (conv => whnf); repeat ((first | with_reducible refine CondG.tt ?_ | with_reducible refine CondG.ff ?_); conv => whnf)
    refine ⟨n - (k + 1), [(0, v), (1, .int .i64 (n : Nat)), (5, tv'), (6, .int .i64 ((k + 1 : Nat) : Int))], _, by omega, ⟨rfl, rfl, rfl, rfl, trivial⟩, texts_next, k + 1, tv', ts ++ [(q, ls[k].bytes)], by omega, rfl, rfl, ⟨?_, by rw [List.length_append]; exact htv', ?_⟩, rfl⟩
    · have e : bytesL (ls.take (k + 1)) = bytesL (ls.take k) ++ [ls[k].bytes] := by
        rw [List.take_succ_eq_append_getElem hk1, bytesL, List.map_append]
        rfl
      rw [List.map_append, hok.txt, e]
      rfl
    · intro x hx
      rcases List.mem_append.1 hx with hx | hx
      · exact hok.each x hx
      · rw [List.mem_singleton.1 hx]; exact hq
  · obtain rfl : k = n := by omega
    (conv => whnf); repeat ((first | with_reducible refine CondG.tt ?_ | with_reducible refine CondG.ff ?_); conv => whnf)
    exact ret_here ⟨ts, hok, rfl⟩
section
variable (K : List W32) (hk : K.length = 64)
include hk
theorem brootR_spec (F : List HP) (hC' : CelN F 1 0 (wvs K)) (hB : CelN F 0 0 (wvs ivW)) (v : Value) (ls : List LeafD) (n : Int) (hl : ls.length ≤ 1099511627776) (hls : ∀ l ∈ ls, LvOk l) (hv : RdS F v ls.length (leavesC ls)) :
    SpecF Tryd.prog 18 [v, .int .i64 n] F [] (fun r L => r = .tuple #[.agg ⟨bvs (rootE K ls n).1⟩, .int .i64 (rootE K ls n).2] ∧ L = []) := by
  have hz : (bvs z32).length = 32 := rfl
  by_cases hn : n < 0 ∨ (ls.length : Int) < n
  · have e : rootE K ls n = (z32, 112) := by rw [rootE, if_pos hn]
    rw [e]
    refine fun18.spec rfl ?_
    (conv => whnf); repeat ((first | with_reducible refine CondG.tt ?_ | with_reducible refine CondG.ff ?_); conv => whnf)
    intro b4
    (conv => whnf); repeat ((first | with_reducible refine CondG.tt ?_ | with_reducible refine CondG.ff ?_); conv => whnf)
    refine CondG.dec (fun h1 => ?_) (fun h1 => ?_)
    · (conv => whnf); repeat ((first | with_reducible refine CondG.tt ?_ | with_reducible refine CondG.ff ?_); conv => whnf)
      refine BuildG.of (cs := bvs z32) rfl ?_
      (conv => whnf); repeat ((first | with_reducible refine CondG.tt ?_ | with_reducible refine CondG.ff ?_); conv => whnf)
      refine StoreG.at hz (Upd.whole (by rw [hz]; rfl) (bvs_one _)) ?_
      (conv => whnf); repeat ((first | with_reducible refine CondG.tt ?_ | with_reducible refine CondG.ff ?_); conv => whnf)
      refine LoadNG.at (vs := bvs z32) hz .all ?_
      (conv => whnf); repeat ((first | with_reducible refine CondG.tt ?_ | with_reducible refine CondG.ff ?_); conv => whnf)
      exact ⟨[], Ent.nil _, rfl, rfl⟩
    · (conv => whnf); repeat ((first | with_reducible refine CondG.tt ?_ | with_reducible refine CondG.ff ?_); conv => whnf)
      refine LenG.rd hv ?_
      (conv => whnf); repeat ((first | with_reducible refine CondG.tt ?_ | with_reducible refine CondG.ff ?_); conv => whnf)
      refine CondG.decT (by omega) ?_
      (conv => whnf); repeat ((first | with_reducible refine CondG.tt ?_ | with_reducible refine CondG.ff ?_); conv => whnf)
      refine BuildG.of (cs := bvs z32) rfl ?_
      (conv => whnf); repeat ((first | with_reducible refine CondG.tt ?_ | with_reducible refine CondG.ff ?_); conv => whnf)
      refine StoreG.at hz (Upd.whole (by rw [hz]; rfl) (bvs_one _)) ?_
      (conv => whnf); repeat ((first | with_reducible refine CondG.tt ?_ | with_reducible refine CondG.ff ?_); conv => whnf)
      refine LoadNG.at (vs := bvs z32) hz .all ?_
      (conv => whnf); repeat ((first | with_reducible refine CondG.tt ?_ | with_reducible refine CondG.ff ?_); conv => whnf)
      exact ⟨[], Ent.nil _, rfl, rfl⟩
  · obtain ⟨m, rfl⟩ : ∃ m : Nat, n = m := ⟨n.toNat, by omega⟩
    have e : rootE K ls m = (rootD K (bytesL (ls.take m)), 0) := by rw [rootE, if_neg hn, Int.toNat_natCast]
    rw [e]
    have hr := rootD_len K (bytesL (ls.take m))
    refine fun18.spec rfl ?_
    (conv => whnf); repeat ((first | with_reducible refine CondG.tt ?_ | with_reducible refine CondG.ff ?_); conv => whnf)
    intro b4
    (conv => whnf); repeat ((first | with_reducible refine CondG.tt ?_ | with_reducible refine CondG.ff ?_); conv => whnf)
    refine CondG.decF (by omega) ?_
    (conv => whnf); repeat ((first | with_reducible refine CondG.tt ?_ | with_reducible refine CondG.ff ?_); conv => whnf)
    refine LenG.rd hv ?_
    (conv => whnf); repeat ((first | with_reducible refine CondG.tt ?_ | with_reducible refine CondG.ff ?_); conv => whnf)
    refine CondG.decF (by omega) ?_
    (conv => whnf); repeat ((first | with_reducible refine CondG.tt ?_ | with_reducible refine CondG.ff ?_); conv => whnf)
    refine CallG.pure (btexts_spec _ v ls m (by omega) hl hls (.right hv _)) ?_
    rintro tv _ ⟨ts, hts, rfl⟩
    (conv => whnf); repeat ((first | with_reducible refine CondG.tt ?_ | with_reducible refine CondG.ff ?_); conv => whnf)
    refine CallG.pure (rroot_spec K hk _ _ tv (bytesL (ls.take m)) (.right hC' _) (.right hB _) (by
      have h := hts.rdT ([cel b4 25 (bvs z32)] ++ F)
      rw [← List.append_assoc] at h
      exact h) (Nat.le_refl _) (by simp [bytesL]; omega) (bytesL_ok fun l h => hls l (List.mem_of_mem_take h))) ?_
    rintro _ _ ⟨rfl, rfl⟩
    (conv => whnf); repeat ((first | with_reducible refine CondG.tt ?_ | with_reducible refine CondG.ff ?_); conv => whnf)
    refine StoreG.at (by rw [bvs_len, hr]) (Upd.tl (upd_right (Upd.whole (by rw [bvs_len, hr]; rfl) (bvs_one _)))) ?_
    (conv => whnf); repeat ((first | with_reducible refine CondG.tt ?_ | with_reducible refine CondG.ff ?_); conv => whnf)
    refine LoadNG.at (vs := bvs (rootD K (bytesL (ls.take m)))) (by rw [bvs_len, hr]) (.tl (.right .all _)) ?_
    (conv => whnf); repeat ((first | with_reducible refine CondG.tt ?_ | with_reducible refine CondG.ff ?_); conv => whnf)
    exact ⟨[], Ent.nil _, rfl, rfl⟩
theorem rPath_spec (F : List HP) (hC' : CelN F 1 0 (wvs K)) (hB : CelN F 0 0 (wvs ivW)) (v : Value) (ls : List (List Nat)) (i : Nat) (hv : RdT F v ls) (hl : ls.length ≤ 1099511627776) (hi : i < ls.length) (hb : ∀ l ∈ ls, l.length ≤ 4096 ∧ ∀ b ∈ l, b < 256) :
    SpecF Tryd.prog 100 [v, .int .i64 i] F [] (fun r L => ∃ u, SlV u (pathD K ls i).length ∧ r = .tuple #[u, .int .i64 0] ∧ L = [own 32 u (pathD K ls i).length (digsC (pathD K ls i))]) := by
  obtain ⟨us, h1, h2, h3⟩ := hv.out
  refine fun100.spec rfl ?_
  (conv => whnf); repeat ((first | with_reducible refine CondG.tt ?_ | with_reducible refine CondG.ff ?_); conv => whnf)
  refine CondG.decF (by omega) ?_
  (conv => whnf); repeat ((first | with_reducible refine CondG.tt ?_ | with_reducible refine CondG.ff ?_); conv => whnf)
  refine LenG.rd h2 ?_
  (conv => whnf); repeat ((first | with_reducible refine CondG.tt ?_ | with_reducible refine CondG.ff ?_); conv => whnf)
  refine CondG.decF (by omega) ?_
  (conv => whnf); repeat ((first | with_reducible refine CondG.tt ?_ | with_reducible refine CondG.ff ?_); conv => whnf)
  refine CallG.pure (rpath_spec K hk _ _ v ls i (.right hC' _) (.right hB _) (.right hv _) (Nat.le_refl _) hl hi hb) ?_
  rintro r _ ⟨hr, rfl⟩
  (conv => whnf); repeat ((first | with_reducible refine CondG.tt ?_ | with_reducible refine CondG.ff ?_); conv => whnf)
  exact ret_here ⟨r, hr, rfl, rfl⟩
theorem bpathR_spec (F : List HP) (hC' : CelN F 1 0 (wvs K)) (hB : CelN F 0 0 (wvs ivW)) (v : Value) (ls : List LeafD) (i n : Int) (hl : ls.length ≤ 1099511627776) (hls : ∀ l ∈ ls, LvOk l) (hv : RdS F v ls.length (leavesC ls)) :
    SpecF Tryd.prog 53 [v, .int .i64 i, .int .i64 n] F [] (fun r L => ∃ u, SlV u (pathE K ls i n).1.length ∧ r = .tuple #[u, .int .i64 (pathE K ls i n).2] ∧ L = [own 32 u (pathE K ls i n).1.length (digsC (pathE K ls i n).1)]) := by
  refine fun53.spec rfl ?_
  (conv => whnf); repeat ((first | with_reducible refine CondG.tt ?_ | with_reducible refine CondG.ff ?_); conv => whnf)
  refine CondG.dec (fun h1 => ?_) (fun h1 => ?_)
  · have e : pathE K ls i n = ([], 112) := by rw [pathE, if_pos (.inl h1)]
    rw [e]
    (conv => whnf); repeat ((first | with_reducible refine CondG.tt ?_ | with_reducible refine CondG.ff ?_); conv => whnf)
    exact ⟨[own 32 (.slice none 0 0) 0 []], fun w G hs => Sat.own_nil hs, _, .inl ⟨rfl, rfl⟩, rfl, rfl⟩
  (conv => whnf); repeat ((first | with_reducible refine CondG.tt ?_ | with_reducible refine CondG.ff ?_); conv => whnf)
  refine LenG.rd hv ?_
  (conv => whnf); repeat ((first | with_reducible refine CondG.tt ?_ | with_reducible refine CondG.ff ?_); conv => whnf)
  refine CondG.dec (fun h2 => ?_) (fun h2 => ?_)
  · have e : pathE K ls i n = ([], 112) := by rw [pathE, if_pos (.inr h2)]
    rw [e]
    (conv => whnf); repeat ((first | with_reducible refine CondG.tt ?_ | with_reducible refine CondG.ff ?_); conv => whnf)
    exact ⟨[own 32 (.slice none 0 0) 0 []], fun w G hs => Sat.own_nil hs, _, .inl ⟨rfl, rfl⟩, rfl, rfl⟩
  (conv => whnf); repeat ((first | with_reducible refine CondG.tt ?_ | with_reducible refine CondG.ff ?_); conv => whnf)
  refine CondG.dec (fun h3 => ?_) (fun h3 => ?_)
  · have e : pathE K ls i n = ([], 111) := by rw [pathE, if_neg (by omega), if_pos (.inl h3)]
    rw [e]
    (conv => whnf); repeat ((first | with_reducible refine CondG.tt ?_ | with_reducible refine CondG.ff ?_); conv => whnf)
    exact ⟨[own 32 (.slice none 0 0) 0 []], fun w G hs => Sat.own_nil hs, _, .inl ⟨rfl, rfl⟩, rfl, rfl⟩
  (conv => whnf); repeat ((first | with_reducible refine CondG.tt ?_ | with_reducible refine CondG.ff ?_); conv => whnf)
  refine CondG.dec (fun h4 => ?_) (fun h4 => ?_)
  · have e : pathE K ls i n = ([], 111) := by rw [pathE, if_neg (by omega), if_pos (.inr h4)]
    rw [e]
    (conv => whnf); repeat ((first | with_reducible refine CondG.tt ?_ | with_reducible refine CondG.ff ?_); conv => whnf)
    exact ⟨[own 32 (.slice none 0 0) 0 []], fun w G hs => Sat.own_nil hs, _, .inl ⟨rfl, rfl⟩, rfl, rfl⟩
  obtain ⟨m, rfl⟩ : ∃ m : Nat, n = m := ⟨n.toNat, by omega⟩
  obtain ⟨j, rfl⟩ : ∃ j : Nat, i = j := ⟨i.toNat, by omega⟩
  have e : pathE K ls j m = (pathD K (bytesL (ls.take m)) j, 0) := by rw [pathE, if_neg (by omega), if_neg (by omega), Int.toNat_natCast, Int.toNat_natCast]
  rw [e]
  (conv => whnf); repeat ((first | with_reducible refine CondG.tt ?_ | with_reducible refine CondG.ff ?_); conv => whnf)
  refine CallG.pure (btexts_spec _ v ls m (by omega) hl hls (.right hv _)) ?_
  rintro tv _ ⟨ts, hts, rfl⟩
  (conv => whnf); repeat ((first | with_reducible refine CondG.tt ?_ | with_reducible refine CondG.ff ?_); conv => whnf)
  refine CallG.pure (rPath_spec K hk _ (.right hC' _) (.right hB _) tv (bytesL (ls.take m)) j (by
    have h := hts.rdT ([] ++ F)
    rw [← List.append_assoc] at h
    exact h) (by simp [bytesL]; omega) (by simp [bytesL]; omega) (bytesL_ok fun l h => hls l (List.mem_of_mem_take h))) ?_
  rintro _ _ ⟨u, hu, rfl, rfl⟩
  (conv => whnf); repeat ((first | with_reducible refine CondG.tt ?_ | with_reducible refine CondG.ff ?_); conv => whnf)
  exact ⟨_, Ent.dropL [_] _, u, hu, rfl, rfl⟩
end
theorem bleafR_spec (F : List HP) (v : Value) (ls : List LeafD) (i : Int) (hls : ∀ l ∈ ls, l.wf) (hv : RdS F v ls.length (leavesC ls)) :
    SpecF Tryd.prog 52 [v, .int .i64 i] F [] (fun r L => r = .tuple #[.agg ⟨(leafE ls i).1.cells⟩, .int .i64 (leafE ls i).2] ∧ L = []) := by
  have hz : z27.cells.length = 27 := rfl
  refine fun52.spec rfl ?_
  (conv => whnf); repeat ((first | with_reducible refine CondG.tt ?_ | with_reducible refine CondG.ff ?_); conv => whnf)
  intro b4
  (conv => whnf); repeat ((first | with_reducible refine CondG.tt ?_ | with_reducible refine CondG.ff ?_); conv => whnf)
  refine CondG.dec (fun h1 => ?_) (fun h1 => ?_)
  · have e : leafE ls i = (z27, 111) := by rw [leafE, if_pos (.inl h1)]
    rw [e]
    (conv => whnf); repeat ((first | with_reducible refine CondG.tt ?_ | with_reducible refine CondG.ff ?_); conv => whnf)
    refine BuildG.of (cs := z27.cells) rfl ?_
    (conv => whnf); repeat ((first | with_reducible refine CondG.tt ?_ | with_reducible refine CondG.ff ?_); conv => whnf)
    refine StoreG.at hz (Upd.whole (by rw [hz]; rfl) (LeafD.cells_one _)) ?_
    (conv => whnf); repeat ((first | with_reducible refine CondG.tt ?_ | with_reducible refine CondG.ff ?_); conv => whnf)
    refine LoadNG.at (vs := z27.cells) hz .all ?_
    (conv => whnf); repeat ((first | with_reducible refine CondG.tt ?_ | with_reducible refine CondG.ff ?_); conv => whnf)
    exact ⟨[], Ent.nil _, rfl, rfl⟩
  (conv => whnf); repeat ((first | with_reducible refine CondG.tt ?_ | with_reducible refine CondG.ff ?_); conv => whnf)
  refine LenG.rd hv ?_
  (conv => whnf); repeat ((first | with_reducible refine CondG.tt ?_ | with_reducible refine CondG.ff ?_); conv => whnf)
  refine CondG.dec (fun h2 => ?_) (fun h2 => ?_)
  · have e : leafE ls i = (z27, 111) := by rw [leafE, if_pos (.inr h2)]
    rw [e]
    (conv => whnf); repeat ((first | with_reducible refine CondG.tt ?_ | with_reducible refine CondG.ff ?_); conv => whnf)
    refine BuildG.of (cs := z27.cells) rfl ?_
    (conv => whnf); repeat ((first | with_reducible refine CondG.tt ?_ | with_reducible refine CondG.ff ?_); conv => whnf)
    refine StoreG.at hz (Upd.whole (by rw [hz]; rfl) (LeafD.cells_one _)) ?_
    (conv => whnf); repeat ((first | with_reducible refine CondG.tt ?_ | with_reducible refine CondG.ff ?_); conv => whnf)
    refine LoadNG.at (vs := z27.cells) hz .all ?_
    (conv => whnf); repeat ((first | with_reducible refine CondG.tt ?_ | with_reducible refine CondG.ff ?_); conv => whnf)
    exact ⟨[], Ent.nil _, rfl, rfl⟩
  obtain ⟨j, rfl⟩ : ∃ j : Nat, i = j := ⟨i.toNat, by omega⟩
  have hj : j < ls.length := by omega
  have e : leafE ls j = (ls[j], 0) := by rw [leafE, if_neg (by omega), Int.toNat_natCast, List.getD, List.getElem?_eq_getElem hj]; rfl
  rw [e]
  have hlc := LeafD.cells_len (hls ls[j] (List.getElem_mem hj))
  (conv => whnf); repeat ((first | with_reducible refine CondG.tt ?_ | with_reducible refine CondG.ff ?_); conv => whnf)
  refine IdxG.rd hv (by omega) fun c o hc => ?_
  (conv => whnf); repeat ((first | with_reducible refine CondG.tt ?_ | with_reducible refine CondG.ff ?_); conv => whnf)
  refine LoadNG.atF (vs := ls[j].cells) hlc (hc.part (by rw [hlc, Int.toNat_natCast]; exact leavesC_get hls hj)) ?_
  (conv => whnf); repeat ((first | with_reducible refine CondG.tt ?_ | with_reducible refine CondG.ff ?_); conv => whnf)
  refine StoreG.at hlc (Upd.whole (by rw [hlc]; rfl) (LeafD.cells_one _)) ?_
  (conv => whnf); repeat ((first | with_reducible refine CondG.tt ?_ | with_reducible refine CondG.ff ?_); conv => whnf)
  refine LoadNG.at (vs := ls[j].cells) hlc .all ?_
  (conv => whnf); repeat ((first | with_reducible refine CondG.tt ?_ | with_reducible refine CondG.ff ?_); conv => whnf)
  exact ⟨[], Ent.nil _, rfl, rfl⟩
theorem bcutR_spec (F : List HP) (v : Value) (ls : List LeafD) (n : Int) (hls : ∀ l ∈ ls, l.wf) (hv : SlV v ls.length) :
    SpecF Tryd.prog 55 [v, .int .i64 n] F [own 27 v ls.length (leavesC ls)] (fun r L => ∃ u, SlV u (cutE ls n).1.length ∧ r = .tuple #[u, .int .i64 (cutE ls n).2] ∧ L = [own 27 u (cutE ls n).1.length (leavesC (cutE ls n).1)]) := by
  refine fun55.spec rfl ?_
  (conv => whnf); repeat ((first | with_reducible refine CondG.tt ?_ | with_reducible refine CondG.ff ?_); conv => whnf)
  refine CondG.dec (fun h1 => ?_) (fun h1 => ?_)
  · have e : cutE ls n = (ls, 112) := by rw [cutE, if_pos (.inl h1)]
    rw [e]
    (conv => whnf); repeat ((first | with_reducible refine CondG.tt ?_ | with_reducible refine CondG.ff ?_); conv => whnf)
    exact ret_here ⟨v, hv, rfl, rfl⟩
  (conv => whnf); repeat ((first | with_reducible refine CondG.tt ?_ | with_reducible refine CondG.ff ?_); conv => whnf)
  refine LenG.sl hv ?_
  (conv => whnf); repeat ((first | with_reducible refine CondG.tt ?_ | with_reducible refine CondG.ff ?_); conv => whnf)
  refine CondG.dec (fun h2 => ?_) (fun h2 => ?_)
  · have e : cutE ls n = (ls, 112) := by rw [cutE, if_pos (.inr h2)]
    rw [e]
    (conv => whnf); repeat ((first | with_reducible refine CondG.tt ?_ | with_reducible refine CondG.ff ?_); conv => whnf)
    exact ret_here ⟨v, hv, rfl, rfl⟩
  obtain ⟨m, rfl⟩ : ∃ m : Nat, n = m := ⟨n.toNat, by omega⟩
  have hm : m ≤ ls.length := by omega
  have e : cutE ls m = (ls.take m, 0) := by rw [cutE, if_neg (by omega), Int.toNat_natCast]
  rw [e]
  have hml : (ls.take m).length = m := by rw [List.length_take]; omega
  rw [hml]
  (conv => whnf); repeat ((first | with_reducible refine CondG.tt ?_ | with_reducible refine CondG.ff ?_); conv => whnf)
  refine SlcG.sl hv fun a cap hva hcap => ?_
  subst hva
  (conv => whnf); repeat ((first | with_reducible refine CondG.tt ?_ | with_reducible refine CondG.ff ?_); conv => whnf)
  refine SideG.of (by omega) ?_
  (conv => whnf); repeat ((first | with_reducible refine CondG.tt ?_ | with_reducible refine CondG.ff ?_); conv => whnf)
  refine SliceG.zero ?_
  (conv => whnf); repeat ((first | with_reducible refine CondG.tt ?_ | with_reducible refine CondG.ff ?_); conv => whnf)
  rw [← leavesC_take hls m]
  refine ⟨_, own_cut (l := m) hm, _, ?_, rfl, rfl⟩
  rcases hv with ⟨h, h0⟩ | ⟨g, c, h, hc⟩
  · simp only [Value.slice.injEq] at h
    obtain ⟨rfl, _, rfl⟩ := h
    obtain rfl : m = 0 := by omega
    exact .inl ⟨rfl, rfl⟩
  · simp only [Value.slice.injEq] at h
    obtain ⟨rfl, _, rfl⟩ := h
    exact .inr ⟨g, cap, rfl, by omega⟩
theorem bputR_spec (F : List HP) (v : Value) (ls : List LeafD) (l : LeafD) (hlw : l.wf) (hl : ls.length ≤ 1099511627776) (hls : ∀ l ∈ ls, l.wf) (hv : SlV v ls.length) :
    SpecF Tryd.prog 51 [v, .agg ⟨l.cells⟩] F [own 27 v ls.length (leavesC ls)] (fun r L => ∃ u, SlV u (putE ls l).1.length ∧ r = .tuple #[u, .int .i64 (putE ls l).2] ∧ L = [own 27 u (putE ls l).1.length (leavesC (putE ls l).1)]) := by
  have hlc := LeafD.cells_len hlw
  have hcl := leavesC_len hls
  refine fun51.spec rfl ?_
  (conv => whnf); repeat ((first | with_reducible refine CondG.tt ?_ | with_reducible refine CondG.ff ?_); conv => whnf)
  intro b3
  (conv => whnf); repeat ((first | with_reducible refine CondG.tt ?_ | with_reducible refine CondG.ff ?_); conv => whnf)
  refine LoadNG.at (vs := l.cells) hlc .all ?_
  (conv => whnf); repeat ((first | with_reducible refine CondG.tt ?_ | with_reducible refine CondG.ff ?_); conv => whnf)
  refine CallG.pure (rmay_spec _ l hlw) ?_
  rintro _ _ ⟨rfl, rfl⟩
  (conv => whnf); repeat ((first | with_reducible refine CondG.tt ?_ | with_reducible refine CondG.ff ?_); conv => whnf)
  by_cases hm : l.may
  rotate_left
  · have e : putE ls l = (ls, 110) := by rw [putE, if_pos hm]
    rw [e, decide_eq_false hm]
    refine CondG.tt ?_
    (conv => whnf); repeat ((first | with_reducible refine CondG.tt ?_ | with_reducible refine CondG.ff ?_); conv => whnf)
    exact ⟨_, Ent.sel (T := []) (A := [_, _]) [1] rfl, v, hv, rfl, rfl⟩
  rw [decide_eq_true hm]
  refine CondG.ff ?_
  (conv => whnf); repeat ((first | with_reducible refine CondG.tt ?_ | with_reducible refine CondG.ff ?_); conv => whnf)
  refine LoadG.at (v := .int .i64 l.idx) (.here rfl) ?_
  (conv => whnf); repeat ((first | with_reducible refine CondG.tt ?_ | with_reducible refine CondG.ff ?_); conv => whnf)
  refine LenG.sl hv ?_
  (conv => whnf); repeat ((first | with_reducible refine CondG.tt ?_ | with_reducible refine CondG.ff ?_); conv => whnf)
  refine CondG.ndec (fun h1 => ?_) (fun h1 => ?_)
  · have e : putE ls l = (ls, 111) := by rw [putE, if_neg (by simpa using hm), if_pos h1]
    rw [e]
    (conv => whnf); repeat ((first | with_reducible refine CondG.tt ?_ | with_reducible refine CondG.ff ?_); conv => whnf)
    exact ⟨_, Ent.sel (T := []) (A := [_, _]) [1] rfl, v, hv, rfl, rfl⟩
  have e : putE ls l = (ls ++ [l], 0) := by rw [putE, if_neg (by simpa using hm), if_neg (by simpa using h1)]
  rw [e]
  (conv => whnf); repeat ((first | with_reducible refine CondG.tt ?_ | with_reducible refine CondG.ff ?_); conv => whnf)
  refine LoopG.mk (fun mm e L => ∃ k u, k ≤ ls.length ∧ mm = ls.length - k ∧ SlV u k ∧ e = [(0, v), (3, .pointer (some ⟨b3, 0, none⟩)), (6, u), (7, .int .i64 (k : Nat))] ∧ L = [own 27 u k (leavesC (ls.take k)), cel b3 32 l.cells, own 27 v ls.length (leavesC ls)]) ls.length
    [(0, v), (3, .pointer (some ⟨b3, 0, none⟩)), (6, .slice none 0 0), (7, .int .i64 0)] [own 27 (.slice none 0 0) 0 [], cel b3 32 l.cells, own 27 v ls.length (leavesC ls)] ⟨rfl, rfl, rfl, rfl, trivial⟩ (fun w G hs => Sat.own_nil hs)
    ⟨0, .slice none 0 0, by omega, rfl, .inl ⟨rfl, rfl⟩, rfl, rfl⟩ ?_
  rintro mm e L ⟨k, u, hk, rfl, hu, rfl, rfl⟩
  have hrd : RdS [own 27 u k (leavesC (ls.take k)), cel b3 32 l.cells, own 27 v ls.length (leavesC ls)] v ls.length (leavesC ls) := .tl (.tl (own_rd hv hcl))
  (conv => whnf); repeat ((first | with_reducible refine CondG.tt ?_ | with_reducible refine CondG.ff ?_); conv => whnf)
  refine LenG.sl hv ?_
  (conv => whnf); repeat ((first | with_reducible refine CondG.tt ?_ | with_reducible refine CondG.ff ?_); conv => whnf)
  refine CondG.dec (fun h2 => ?_) (fun h2 => ?_)
  · have hk1 : k < ls.length := by omega
    have hkl := LeafD.cells_len (hls ls[k] (List.getElem_mem hk1))
    (conv => whnf); repeat ((first | with_reducible refine CondG.tt ?_ | with_reducible refine CondG.ff ?_); conv => whnf)
    refine IdxG.rd hrd (by omega) fun c o hc => ?_
    (conv => whnf); repeat ((first | with_reducible refine CondG.tt ?_ | with_reducible refine CondG.ff ?_); conv => whnf)
    refine LoadNG.at (vs := ls[k].cells) hkl (hc.part (by rw [hkl, Int.toNat_natCast]; exact leavesC_get hls hk1)) ?_
    (conv => whnf); repeat ((first | with_reducible refine CondG.tt ?_ | with_reducible refine CondG.ff ?_); conv => whnf)
    refine BuildG.of (cs := ls[k].cells) (by simp [fillL, Value.cells, hkl]) ?_
    (conv => whnf); repeat ((first | with_reducible refine CondG.tt ?_ | with_reducible refine CondG.ff ?_); conv => whnf)
    intro b29
    (conv => whnf); repeat ((first | with_reducible refine CondG.tt ?_ | with_reducible refine CondG.ff ?_); conv => whnf)
    refine DoesG.ent (Ent.front 1 rfl) ?_
    refine app_own leavesT 48 (m := 1) (ys := ls[k].cells) (.mk _ _ _ _ _ (Nat.le_refl _) (.tl (.left .all _))) hkl (LeafD.cells_one _) (by simp only [maxLen]; omega) (by omega) fun u' hu' hlen hnil => ?_
    have ec : leavesC (ls.take k) ++ ls[k].cells = leavesC (ls.take (k + 1)) := by rw [List.take_succ_eq_append_getElem hk1, leavesC_app]
    rw [ec]
    (conv => whnf); repeat ((first | with_reducible refine CondG.tt ?_ | with_reducible refine CondG.ff ?_); conv => whnf)
    refine ArithG.i64 (by omega) ?_
    (conv => whnf); repeat ((first | with_reducible refine CondG.tt ?_ | with_reducible refine CondG.ff ?_); conv => whnf)
    refine ⟨ls.length - (k + 1), [(0, v), (3, .pointer (some ⟨b3, 0, none⟩)), (6, u'), (7, .int .i64 ((k + 1 : Nat) : Int))], [own 27 u' (k + 1) (leavesC (ls.take (k + 1))), cel b3 32 l.cells, own 27 v ls.length (leavesC ls)], by omega, ⟨rfl, rfl, rfl, rfl, trivial⟩, Ent.sel (T := []) (A := [_, _, _, _]) [0, 2, 3] rfl, k + 1, u', by omega, rfl, hu', rfl, rfl⟩
  · obtain rfl : k = ls.length := by omega
    rw [List.take_length]
    (conv => whnf); repeat ((first | with_reducible refine CondG.tt ?_ | with_reducible refine CondG.ff ?_); conv => whnf)
    refine LoadNG.at (vs := l.cells) hlc (.tl .all) ?_
    (conv => whnf); repeat ((first | with_reducible refine CondG.tt ?_ | with_reducible refine CondG.ff ?_); conv => whnf)
    refine BuildG.of (cs := l.cells) (by simp [fillL, Value.cells, hlc]) ?_
    (conv => whnf); repeat ((first | with_reducible refine CondG.tt ?_ | with_reducible refine CondG.ff ?_); conv => whnf)
    intro b33
    (conv => whnf); repeat ((first | with_reducible refine CondG.tt ?_ | with_reducible refine CondG.ff ?_); conv => whnf)
    refine DoesG.ent (Ent.front 1 rfl) ?_
    refine app_own leavesT 48 (m := 1) (ys := l.cells) (.mk _ _ _ _ _ (Nat.le_refl _) (.tl (.left .all _))) hlc (LeafD.cells_one _) (by simp only [maxLen]; omega) (by omega) fun u' hu' hlen hnil => ?_
    rw [← leavesC_app]
    (conv => whnf); repeat ((first | with_reducible refine CondG.tt ?_ | with_reducible refine CondG.ff ?_); conv => whnf)
    have el : ls.length + 1 = (ls ++ [l]).length := by simp
    rw [el] at hu' ⊢
    exact ⟨_, Ent.sel (T := []) (A := [_, _, _, _]) [0] rfl, u', hu', rfl, rfl⟩
end Go.Proofs.YthdpknlnpeaiiaaDoor
/-
  The book's calls, whatever they are handed.
-/
namespace Go.Proofs.YthdpknlnpeaiiaaDoor
open Go Go.Sl
theorem put_all (F : List HP) (b : Nat) (l : LeafD) (hl : l.wf) (ls : List LeafD) (hn : ls.length ≤ 1099511627776) :
    SpecF Tryd.prog 25 [.pointer (some ⟨b, 0, none⟩), .agg ⟨l.cells⟩] F [bookP 60 b ls] (fun v L => v = .int .i64 (putE ls l).2 ∧ L = [bookP 60 b (putE ls l).1]) := by
  refine SpecF.unpack0 fun x hx => ?_
  refine (put_spec F b x.1 x.2.1 l hl ls x.2.2 hn (by rw [hx.len]; exact hn)).turn fun v L h => ?_
  rcases h with ⟨hm, rfl, rfl⟩ | ⟨hm, hi, rfl, rfl⟩ | ⟨hm, hi, rfl, lv', tv', r, h1, h2, h3, rfl⟩
  · have e : putE ls l = (ls, 110) := by rw [putE, if_pos hm]
    rw [e]
    exact ⟨_, ⟨rfl, rfl⟩, book_pack hx⟩
  · have e : putE ls l = (ls, 111) := by rw [putE, if_neg (by simpa using hm), if_pos hi]
    rw [e]
    exact ⟨_, ⟨rfl, rfl⟩, book_pack hx⟩
  · have e : putE ls l = (ls ++ [l], 0) := by rw [putE, if_neg (by simpa using hm), if_neg (by simpa using hi)]
    rw [e]
    refine ⟨_, ⟨rfl, rfl⟩, book_pack (x := (lv', tv', x.2.2 ++ [(r, l.bytes)])) ⟨by simp [hx.ts], fun y hy => ?_, by simpa using h1, by simpa using h2, fun t ht => ?_⟩⟩
    · rcases List.mem_append.1 hy with hy | hy
      · exact hx.wf y hy
      · rw [List.mem_singleton.1 hy]; exact hl
    · rcases List.mem_append.1 ht with ht | ht
      · exact hx.each t ht
      · rw [List.mem_singleton.1 ht]; exact h3
theorem leaf_all (F : List HP) (b : Nat) (i : Int) (ls : List LeafD) : SpecF Tryd.prog 27 [.pointer (some ⟨b, 0, none⟩), .int .i64 i] F [bookP 60 b ls] (fun v L => v = .tuple #[.agg ⟨(leafE ls i).1.cells⟩, .int .i64 (leafE ls i).2] ∧ L = [bookP 60 b ls]) := by
  by_cases hi : 0 ≤ i ∧ i < (ls.length : Int)
  · obtain ⟨j, rfl⟩ : ∃ j : Nat, i = j := ⟨i.toNat, by omega⟩
    have hj : j < ls.length := by omega
    have e : leafE ls j = (ls[j], 0) := by rw [leafE, if_neg (by omega), Int.toNat_natCast, List.getD, List.getElem?_eq_getElem hj]; rfl
    rw [e]
    exact bleafP F b j ls hj
  · have e : leafE ls i = (z27, 111) := by rw [leafE, if_pos (by omega)]
    rw [e]
    refine SpecF.unpack0 fun x hx => ?_
    intro w hw
    have hll := leavesC_len hx.wf
    refine (bleaf_spec (bookL 60 b x.1 x.2.1 ls x.2.2 ++ F) b x.1 i ls hx.wf (.left (.tl (.tl (.here rfl))) F) (.left (own_rd hx.lv hll) F) hx.lv w (by simpa using hw)).mono ?_
    rintro e w' ⟨v, L, rfl, ⟨rfl, h⟩, hx', hs⟩
    refine ⟨_, _, rfl, ⟨?_, rfl⟩, hx', book_pack hx w' F (by simpa using hs)⟩
    rcases h with ⟨h, rfl⟩ | ⟨h, rfl⟩
    · exact absurd h hi
    · rfl
theorem cut_all (F : List HP) (b : Nat) (n : Int) (ls : List LeafD) (hl : ls.length ≤ 1099511627776) : SpecF Tryd.prog 24 [.pointer (some ⟨b, 0, none⟩), .int .i64 n] F [bookP 60 b ls] (fun v L => v = .int .i64 (cutE ls n).2 ∧ L = [bookP 60 b (cutE ls n).1]) := by
  by_cases hn : n < 0 ∨ (ls.length : Int) < n
  · rw [cutE, if_pos hn]
    exact bcut_no F b n ls hn
  · obtain ⟨m, rfl⟩ : ∃ m : Nat, n = m := ⟨n.toNat, by omega⟩
    rw [cutE, if_neg hn, Int.toNat_natCast]
    exact bcutP F b m ls (by omega) hl
section
variable (K : List W32) (hk : K.length = 64)
include hk
theorem root_all (F : List HP) (hK : CelN F 4 0 (wvs K)) (b : Nat) (n : Int) (ls : List LeafD) (hl : ls.length ≤ 1099511627776) (hb : ∀ l ∈ ls, ∀ b ∈ l.to, b < 256) :
    SpecF Tryd.prog 17 [.pointer (some ⟨b, 0, none⟩), .int .i64 n] F [bookP 60 b ls] (fun v L => v = .tuple #[.agg ⟨bvs (rootE K ls n).1⟩, .int .i64 (rootE K ls n).2] ∧ L = [bookP 60 b ls]) := by
  by_cases hn : n < 0 ∨ (ls.length : Int) < n
  · have hz : (bvs z32).length = 32 := rfl
    rw [rootE, if_pos hn]
    refine SpecF.unpack0 fun x hx => ?_
    refine fun17.spec rfl ?_
    (conv => whnf); repeat ((first | with_reducible refine CondG.tt ?_ | with_reducible refine CondG.ff ?_); conv => whnf)
    intro b4
    (conv => whnf); repeat ((first | with_reducible refine CondG.tt ?_ | with_reducible refine CondG.ff ?_); conv => whnf)
    refine CallG.pure (sized_spec _ b x.1 n ls.length (.left (.tl (.tl (.tl (.here rfl)))) F) hx.lv) ?_
    rintro _ _ ⟨rfl, rfl⟩
    rw [if_pos hn]
    (conv => whnf); repeat ((first | with_reducible refine CondG.tt ?_ | with_reducible refine CondG.ff ?_); conv => whnf)
    refine CondG.tt ?_
    (conv => whnf); repeat ((first | with_reducible refine CondG.tt ?_ | with_reducible refine CondG.ff ?_); conv => whnf)
    refine BuildG.of (cs := bvs z32) rfl ?_
    (conv => whnf); repeat ((first | with_reducible refine CondG.tt ?_ | with_reducible refine CondG.ff ?_); conv => whnf)
    refine StoreG.at hz (Upd.whole (by rw [hz]; rfl) (bvs_one _)) ?_
    (conv => whnf); repeat ((first | with_reducible refine CondG.tt ?_ | with_reducible refine CondG.ff ?_); conv => whnf)
    refine LoadNG.at (vs := bvs z32) hz .all ?_
    (conv => whnf); repeat ((first | with_reducible refine CondG.tt ?_ | with_reducible refine CondG.ff ?_); conv => whnf)
    exact ⟨_, (Ent.drop _).trans (book_pack hx), rfl, rfl⟩
  · obtain ⟨m, rfl⟩ : ∃ m : Nat, n = m := ⟨n.toNat, by omega⟩
    rw [rootE, if_neg hn, Int.toNat_natCast, show bytesL (ls.take m) = (bytesL ls).take m by simp [bytesL, List.map_take]]
    exact brootP K hk F hK b m ls (by omega) hl hb
theorem path_all (F : List HP) (hK : CelN F 4 0 (wvs K)) (b : Nat) (i n : Int) (ls : List LeafD) (hl : ls.length ≤ 1099511627776) (hb : ∀ l ∈ ls, ∀ b ∈ l.to, b < 256) :
    SpecF Tryd.prog 28 [.pointer (some ⟨b, 0, none⟩), .int .i64 i, .int .i64 n] F [bookP 60 b ls] (fun v L => ∃ u, SlV u (pathE K ls i n).1.length ∧ v = .tuple #[u, .int .i64 (pathE K ls i n).2] ∧
      L = [own 32 u (pathE K ls i n).1.length (digsC (pathE K ls i n).1), bookP 60 b ls]) := by
  by_cases hn : n < 0 ∨ (ls.length : Int) < n
  · rw [pathE, if_pos hn]
    refine SpecF.unpack0 fun x hx => ?_
    refine fun28.spec rfl ?_
    (conv => whnf); repeat ((first | with_reducible refine CondG.tt ?_ | with_reducible refine CondG.ff ?_); conv => whnf)
    refine CallG.pure (sized_spec _ b x.1 n ls.length (.left (.tl (.tl (.here rfl))) F) hx.lv) ?_
    rintro _ _ ⟨rfl, rfl⟩
    rw [if_pos hn]
    (conv => whnf); repeat ((first | with_reducible refine CondG.tt ?_ | with_reducible refine CondG.ff ?_); conv => whnf)
    refine CondG.tt ?_
    (conv => whnf); repeat ((first | with_reducible refine CondG.tt ?_ | with_reducible refine CondG.ff ?_); conv => whnf)
    exact ⟨[own 32 (.slice none 0 0) 0 [], bookP 60 b ls], fun w G hs => Sat.own_nil (book_pack hx w G hs), _, .inl ⟨rfl, rfl⟩, rfl, rfl⟩
  by_cases hi : i < 0 ∨ n ≤ i
  · rw [pathE, if_neg hn, if_pos hi]
    refine SpecF.unpack0 fun x hx => ?_
    refine fun28.spec rfl ?_
    (conv => whnf); repeat ((first | with_reducible refine CondG.tt ?_ | with_reducible refine CondG.ff ?_); conv => whnf)
    refine CallG.pure (sized_spec _ b x.1 n ls.length (.left (.tl (.tl (.here rfl))) F) hx.lv) ?_
    rintro _ _ ⟨rfl, rfl⟩
    rw [if_neg hn]
    (conv => whnf); repeat ((first | with_reducible refine CondG.tt ?_ | with_reducible refine CondG.ff ?_); conv => whnf)
    refine CondG.ff ?_
    (conv => whnf); repeat ((first | with_reducible refine CondG.tt ?_ | with_reducible refine CondG.ff ?_); conv => whnf)
    refine CondG.dec (fun h1 => ?_) (fun h1 => ?_)
    · (conv => whnf); repeat ((first | with_reducible refine CondG.tt ?_ | with_reducible refine CondG.ff ?_); conv => whnf)
      exact ⟨[own 32 (.slice none 0 0) 0 [], bookP 60 b ls], fun w G hs => Sat.own_nil (book_pack hx w G hs), _, .inl ⟨rfl, rfl⟩, rfl, rfl⟩
    · (conv => whnf); repeat ((first | with_reducible refine CondG.tt ?_ | with_reducible refine CondG.ff ?_); conv => whnf)
      refine CondG.decT (by omega) ?_
      (conv => whnf); repeat ((first | with_reducible refine CondG.tt ?_ | with_reducible refine CondG.ff ?_); conv => whnf)
      exact ⟨[own 32 (.slice none 0 0) 0 [], bookP 60 b ls], fun w G hs => Sat.own_nil (book_pack hx w G hs), _, .inl ⟨rfl, rfl⟩, rfl, rfl⟩
  · obtain ⟨m, rfl⟩ : ∃ m : Nat, n = m := ⟨n.toNat, by omega⟩
    obtain ⟨j, rfl⟩ : ∃ j : Nat, i = j := ⟨i.toNat, by omega⟩
    rw [pathE, if_neg hn, if_neg hi, Int.toNat_natCast, Int.toNat_natCast, show bytesL (ls.take m) = (bytesL ls).take m by simp [bytesL, List.map_take]]
    exact bpathP K hk F hK b j m ls (by omega) (by omega) hl hb
end
end Go.Proofs.YthdpknlnpeaiiaaDoor
