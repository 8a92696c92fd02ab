/-
  The document's check of a leaf, and that it answers as the outbox does.
-/
import Derived.Test.YthdpknlnpeaiiaaDoorTx
import Derived.Test.YthdpknlnpeaiiaaDoorRw
import Derived.Test.YthdpknlnpeaiiaaDoorZCm
import Derived.Test.YthdpknlnpeaiiaaDoorZKc
namespace Go.Proofs.YthdpknlnpeaiiaaDoor
open Go Go.Sl
theorem rmay_spec (F : List HP) (l : LeafD) (hl : l.wf) : SpecF Tryd.prog 49 [.agg ⟨l.cells⟩] F [] (fun v L => v = .bool (decide l.may) ∧ L = []) := by
  refine fun49.spec rfl ?_
  (conv => whnf); repeat ((first | with_reducible refine CondG.tt ?_ | with_reducible refine CondG.ff ?_); conv => whnf)
  intro b
  (conv => whnf); repeat ((first | with_reducible refine CondG.tt ?_ | with_reducible refine CondG.ff ?_); conv => whnf)
  refine LoadG.at (v := .int .i64 l.idx) (.here rfl) ?_
  (conv => whnf); repeat ((first | with_reducible refine CondG.tt ?_ | with_reducible refine CondG.ff ?_); conv => whnf)
  refine CondG.dec (fun h1 => ?_) (fun h1 => ?_)
  rotate_left
  · (conv => whnf); repeat ((first | with_reducible refine CondG.tt ?_ | with_reducible refine CondG.ff ?_); conv => whnf)
    exact ⟨[], Ent.nil _, congrArg Value.bool (decide_eq_false fun h => h1 h.1.1).symm, rfl⟩
  (conv => whnf); repeat ((first | with_reducible refine CondG.tt ?_ | with_reducible refine CondG.ff ?_); conv => whnf)
  refine LoadG.at (v := .int .i64 l.idx) (.here rfl) ?_
  (conv => whnf); repeat ((first | with_reducible refine CondG.tt ?_ | with_reducible refine CondG.ff ?_); conv => whnf)
  refine CondG.dec (fun h2 => ?_) (fun h2 => ?_)
  rotate_left
  · (conv => whnf); repeat ((first | with_reducible refine CondG.tt ?_ | with_reducible refine CondG.ff ?_); conv => whnf)
    exact ⟨[], Ent.nil _, congrArg Value.bool (decide_eq_false fun h => h2 h.1.2).symm, rfl⟩
  (conv => whnf); repeat ((first | with_reducible refine CondG.tt ?_ | with_reducible refine CondG.ff ?_); conv => whnf)
  refine LoadG.at (v := .int .i64 l.ent) (.here rfl) ?_
  (conv => whnf); repeat ((first | with_reducible refine CondG.tt ?_ | with_reducible refine CondG.ff ?_); conv => whnf)
  refine CondG.dec (fun h3 => ?_) (fun h3 => ?_)
  rotate_left
  · (conv => whnf); repeat ((first | with_reducible refine CondG.tt ?_ | with_reducible refine CondG.ff ?_); conv => whnf)
    exact ⟨[], Ent.nil _, congrArg Value.bool (decide_eq_false fun h => h3 h.2.1.1).symm, rfl⟩
  (conv => whnf); repeat ((first | with_reducible refine CondG.tt ?_ | with_reducible refine CondG.ff ?_); conv => whnf)
  refine LoadG.at (v := .int .i64 l.ent) (.here rfl) ?_
  (conv => whnf); repeat ((first | with_reducible refine CondG.tt ?_ | with_reducible refine CondG.ff ?_); conv => whnf)
  refine CondG.dec (fun h4 => ?_) (fun h4 => ?_)
  rotate_left
  · (conv => whnf); repeat ((first | with_reducible refine CondG.tt ?_ | with_reducible refine CondG.ff ?_); conv => whnf)
    exact ⟨[], Ent.nil _, congrArg Value.bool (decide_eq_false fun h => h4 h.2.1.2).symm, rfl⟩
  (conv => whnf); repeat ((first | with_reducible refine CondG.tt ?_ | with_reducible refine CondG.ff ?_); conv => whnf)
  refine LoadG.at (v := .int .i64 l.tok) (.here rfl) ?_
  (conv => whnf); repeat ((first | with_reducible refine CondG.tt ?_ | with_reducible refine CondG.ff ?_); conv => whnf)
  refine CondG.dec (fun h5 => ?_) (fun h5 => ?_)
  rotate_left
  · (conv => whnf); repeat ((first | with_reducible refine CondG.tt ?_ | with_reducible refine CondG.ff ?_); conv => whnf)
    exact ⟨[], Ent.nil _, congrArg Value.bool (decide_eq_false fun h => h5 h.2.2.1.1).symm, rfl⟩
  (conv => whnf); repeat ((first | with_reducible refine CondG.tt ?_ | with_reducible refine CondG.ff ?_); conv => whnf)
  refine LoadG.at (v := .int .i64 l.tok) (.here rfl) ?_
  (conv => whnf); repeat ((first | with_reducible refine CondG.tt ?_ | with_reducible refine CondG.ff ?_); conv => whnf)
  refine CondG.dec (fun h6 => ?_) (fun h6 => ?_)
  rotate_left
  · (conv => whnf); repeat ((first | with_reducible refine CondG.tt ?_ | with_reducible refine CondG.ff ?_); conv => whnf)
    exact ⟨[], Ent.nil _, congrArg Value.bool (decide_eq_false fun h => h6 h.2.2.1.2).symm, rfl⟩
  (conv => whnf); repeat ((first | with_reducible refine CondG.tt ?_ | with_reducible refine CondG.ff ?_); conv => whnf)
  refine LoadNG.at (vs := uvs l.amt) (by rw [uvs_len, hl.amt]) (CelN.here (LeafD.amt_at hl)) ?_
  (conv => whnf); repeat ((first | with_reducible refine CondG.tt ?_ | with_reducible refine CondG.ff ?_); conv => whnf)
  refine BuildG.of rfl ?_
  (conv => whnf); repeat ((first | with_reducible refine CondG.tt ?_ | with_reducible refine CondG.ff ?_); conv => whnf)
  refine DoesG.eqv 8 (List.replicate 4 (.int .u64)) (by kernel_rfl) (by decide) (by kernel_rfl) (by kernel_rfl) (wt_uvs hl.amt) (wt_uvs (ws := List.replicate 4 0) rfl) ?_
  (conv => whnf); repeat ((first | with_reducible refine CondG.tt ?_ | with_reducible refine CondG.ff ?_); conv => whnf)
  refine ⟨[], Ent.nil _, congrArg Value.bool ?_, rfl⟩
  by_cases h7 : l.amt = List.replicate 4 0
  · rw [decide_eq_false (p := l.may) fun h => h.2.2.2 h7, h7]
    have e : ∀ (d : Decidable (uvs (List.replicate 4 0) = uvs (List.replicate 4 0))), (!@decide _ d) = false := fun d => by rw [decide_eq_true rfl]; rfl
    exact e _
  · rw [decide_eq_true (p := l.may) ⟨⟨h1, h2⟩, ⟨h3, h4⟩, ⟨h5, h6⟩, h7⟩]
    have e : ∀ (d : Decidable (uvs l.amt = uvs (List.replicate 4 0))), (!@decide _ d) = true := fun d => by rw [decide_eq_false fun h => h7 (uvs_inj.1 h)]; rfl
    exact e _
section
variable (K : List W32) (hk : K.length = 64)
include hk
open Classical in
theorem rtcheck_spec (F : List HP) (hC' : CelN F 1 0 (wvs K)) (hB : CelN F 0 0 (wvs ivW)) (root : List Nat) (hroot : root.length = 32) (n i : Nat) (t : List Nat) (p : List (List Nat)) (v pv : Value) (h1 : 1 ≤ n) (h2 : n ≤ 1099511627776) (h3 : i < n)
    (hv : RdS F v t.length (bvs t)) (ht : t.length ≤ 4000) (htb : ∀ b ∈ t, b < 256) (hpv : RdS F pv p.length (digsC p)) (hp : ∀ d ∈ p, DigOk d) :
    SpecF Tryd.prog 50 [.agg ⟨bvs root⟩, .int .i64 n, .int .i64 i, v, pv] F [] (fun r L => r = .int .i64 (if checkD K root n i t p then 0 else 43) ∧ L = []) := by
  have hr32 : (bvs root).length = 32 := by rw [bvs_len, hroot]
  refine fun50.spec rfl ?_
  (conv => whnf); repeat ((first | with_reducible refine CondG.tt ?_ | with_reducible refine CondG.ff ?_); conv => whnf)
  intro b5
  (conv => whnf); repeat ((first | with_reducible refine CondG.tt ?_ | with_reducible refine CondG.ff ?_); conv => whnf)
  refine CondG.decF (by omega) ?_
  (conv => whnf); repeat ((first | with_reducible refine CondG.tt ?_ | with_reducible refine CondG.ff ?_); conv => whnf)
  refine CondG.decF (by omega) ?_
  (conv => whnf); repeat ((first | with_reducible refine CondG.tt ?_ | with_reducible refine CondG.ff ?_); conv => whnf)
  refine CondG.decF (by omega) ?_
  (conv => whnf); repeat ((first | with_reducible refine CondG.tt ?_ | with_reducible refine CondG.ff ?_); conv => whnf)
  refine CondG.decF (by omega) ?_
  (conv => whnf); repeat ((first | with_reducible refine CondG.tt ?_ | with_reducible refine CondG.ff ?_); conv => whnf)
  refine CallG.pure (sides_spec n _ n i (Nat.le_refl _) h1 h2 h3) ?_
  rintro rv _ ⟨hrv, rfl⟩
  (conv => whnf); repeat ((first | with_reducible refine CondG.tt ?_ | with_reducible refine CondG.ff ?_); conv => whnf)
  refine LenG.rd hpv ?_
  (conv => whnf); repeat ((first | with_reducible refine CondG.tt ?_ | with_reducible refine CondG.ff ?_); conv => whnf)
  refine LenG.sl hrv ?_
  (conv => whnf); repeat ((first | with_reducible refine CondG.tt ?_ | with_reducible refine CondG.ff ?_); conv => whnf)
  refine CondG.ndec (fun h4 => ?_) (fun h4 => ?_)
  · (conv => whnf); repeat ((first | with_reducible refine CondG.tt ?_ | with_reducible refine CondG.ff ?_); conv => whnf)
    refine ⟨[], Ent.nil _, ?_, rfl⟩
    rw [if_neg fun h => h4 (by
      have := (shown_top K (0 :: t) p.reverse n i h1 h.2.1).1
      rw [List.length_reverse] at this
      rw [this])]
    rfl
  have h4' : p.length = (sides n i).length := by omega
  have hs40 := sides_log 40 n i (by show n ≤ 1099511627776; exact h2)
  (conv => whnf); repeat ((first | with_reducible refine CondG.tt ?_ | with_reducible refine CondG.ff ?_); conv => whnf)
  refine CallG.pure (texts_spec K hk _ (.right hC' _) (.right hB _) n i v pv t p h1 h2 h3 (.right hv _) (by omega) htb (.right hpv _) hp h4') ?_
  rintro tx _ ⟨ts, hts, rfl⟩
  have hl1 := hts.len
  rw [walkL_len, List.length_zip, h4', Nat.min_self] at hl1
  (conv => whnf); repeat ((first | with_reducible refine CondG.tt ?_ | with_reducible refine CondG.ff ?_); conv => whnf)
  refine LenG.sl hts.lv ?_
  (conv => whnf); repeat ((first | with_reducible refine CondG.tt ?_ | with_reducible refine CondG.ff ?_); conv => whnf)
  refine ArithG.i64' (((sides n i).length : Nat) : Int) (by omega) (by omega) ?_
  (conv => whnf); repeat ((first | with_reducible refine CondG.tt ?_ | with_reducible refine CondG.ff ?_); conv => whnf)
  have hzd : ∀ x ∈ (sides n i).zip p, DigOk x.2 := fun x hx => hp _ (List.of_mem_zip (a := x.1) (b := x.2) hx).2
  obtain ⟨u, hu, htop⟩ := walkL_last K (0 :: t) ((sides n i).zip p)
  rw [List.length_zip, h4', Nat.min_self, ← hts.txt, List.getElem?_map, Option.map_eq_some_iff] at hu
  obtain ⟨y, hy, rfl⟩ := hu
  have hyo := walkL_ok K (N := 4097) (by decide) (0 :: t) ((sides n i).zip p) ⟨by simp; omega, by intro b hb; rcases List.mem_cons.1 hb with rfl | hb; decide; exact htb b hb⟩ hzd y.2 (by rw [← hts.txt]; exact List.mem_map_of_mem (List.mem_of_getElem? hy))
  have hye := hts.each y (List.mem_of_getElem? hy)
  have hrd : RdS (own 1 tx ts.length (fsts ts) :: textsL ts) tx ts.length (fsts ts) := own_rd hts.lv (by simp [fsts])
  refine IdxG.rd hrd (by omega) fun c o hc => ?_
  (conv => whnf); repeat ((first | with_reducible refine CondG.tt ?_ | with_reducible refine CondG.ff ?_); conv => whnf)
  have hcc : Cel (own 1 tx ts.length (fsts ts) :: textsL ts) c (o + (((sides n i).length : Nat) : Int).toNat * 1) y.1 := hc.one (by rw [Int.toNat_natCast, Nat.mul_one, fsts, List.getElem?_map, hy]; rfl)
  refine LoadG.at (v := y.1) (.left hcc _) ?_
  (conv => whnf); repeat ((first | with_reducible refine CondG.tt ?_ | with_reducible refine CondG.ff ?_); conv => whnf)
  have hdl := dig_len K y.2
  have hd32 : (bvs (dig K y.2)).length = 32 := by rw [bvs_len, hdl]
  refine CallG.pure (rsum_spec _ K (.right hC' _) (.right hB _) hk y.1 y.2 (by
    have h := RdS.tl (p := own 1 tx ts.length (fsts ts)) (texts_rd (M := [own 1 rv (sides n i).length (bos (sides n i)), cel b5 25 (bvs root)] ++ F) hy hye)
    simpa [List.append_assoc] using h) (by omega) hyo.2) ?_
  rintro _ _ ⟨rfl, rfl⟩
  (conv => whnf); repeat ((first | with_reducible refine CondG.tt ?_ | with_reducible refine CondG.ff ?_); conv => whnf)
  intro b13
  (conv => whnf); repeat ((first | with_reducible refine CondG.tt ?_ | with_reducible refine CondG.ff ?_); conv => whnf)
  refine StoreG.at hd32 (Upd.whole (by rw [hd32]; rfl) (bvs_one _)) ?_
  (conv => whnf); repeat ((first | with_reducible refine CondG.tt ?_ | with_reducible refine CondG.ff ?_); conv => whnf)
  refine LoadNG.at (vs := bvs (dig K y.2)) hd32 .all ?_
  (conv => whnf); repeat ((first | with_reducible refine CondG.tt ?_ | with_reducible refine CondG.ff ?_); conv => whnf)
  refine LoadNG.at (vs := bvs root) hr32 (by
    have h : CelN (own 1 tx ts.length (fsts ts) :: (textsL ts ++ (own 1 rv (sides n i).length (bos (sides n i)) :: cel b5 25 (bvs root) :: []))) b5 0 (bvs root) := .tl (.right (.tl .all) _)
    exact .tl h) ?_
  (conv => whnf); repeat ((first | with_reducible refine CondG.tt ?_ | with_reducible refine CondG.ff ?_); conv => whnf)
  have ht2 := shown_top K (0 :: t) p.reverse n i h1 (shown_of K _ _ n i h1 (by rw [List.length_reverse]; exact h4'))
  have ht3 : (shownR K p.reverse n i (leafT K t)).1 = dig K y.2 := by rw [← htop]; have := ht2.2; rwa [List.reverse_reverse] at this
  refine DoesG.eqv 8 (List.replicate 32 (.int .u8)) (by kernel_rfl) (by decide) (by kernel_rfl) (by kernel_rfl) (wt_bvs hdl) (wt_bvs hroot) ?_
  (conv => whnf); repeat ((first | with_reducible refine CondG.tt ?_ | with_reducible refine CondG.ff ?_); conv => whnf)
  refine CondG.split (fun h7 => ?_) (fun h7 => ?_)
  · (conv => whnf); repeat ((first | with_reducible refine CondG.tt ?_ | with_reducible refine CondG.ff ?_); conv => whnf)
    refine ⟨[], Ent.nil _, ?_, rfl⟩
    rw [if_neg (fun h => by rw [← ht3, h.2.2] at h7; simp at h7)]
    rfl
  · (conv => whnf); repeat ((first | with_reducible refine CondG.tt ?_ | with_reducible refine CondG.ff ?_); conv => whnf)
    refine ⟨[], Ent.nil _, ?_, rfl⟩
    rw [if_pos ⟨by omega, shown_of K _ _ n i h1 (by rw [List.length_reverse]; exact h4'), ht3.trans (bvs_inj.1 (by simpa using h7))⟩]
    rfl
open Classical in
/-- What both answer. -/
noncomputable def ochk (K : List W32) (root : List Nat) (n : Int) (l : LeafD) (p : List (List Nat)) : Int :=
  if ¬ l.may then 110 else if n < 0 ∨ 1099511627776 < n then 112 else if n ≤ l.idx then 111 else if checkD K root n.toNat l.idx.toNat l.bytes p then 0 else 113
open Classical in
theorem ocheck_all (F : List HP) (hK : CelN F 4 0 (wvs K)) (root : List Nat) (hroot : root.length = 32) (n : Int) (l : LeafD) (hl : l.wf) (hto : ∀ b ∈ l.to, b < 256) (p : List (List Nat)) (pv : Value)
    (hpv : RdS F pv p.length (digsC p)) (hp : ∀ d ∈ p, DigOk d) :
    SpecF Tryd.prog 12 [.agg ⟨bvs root⟩, .int .i64 n, .agg ⟨l.cells⟩, pv] F [] (fun r L => r = .int .i64 (ochk K root n l p) ∧ L = []) := by
  by_cases hm : l.may
  rotate_left
  · have hcl := LeafD.cells_len hl
    refine fun12.spec rfl ?_
    (conv => whnf); repeat ((first | with_reducible refine CondG.tt ?_ | with_reducible refine CondG.ff ?_); conv => whnf)
    intro b4
    (conv => whnf); repeat ((first | with_reducible refine CondG.tt ?_ | with_reducible refine CondG.ff ?_); conv => whnf)
    intro b6
    (conv => whnf); repeat ((first | with_reducible refine CondG.tt ?_ | with_reducible refine CondG.ff ?_); conv => whnf)
    refine LoadNG.at (vs := l.cells) hcl .all ?_
    (conv => whnf); repeat ((first | with_reducible refine CondG.tt ?_ | with_reducible refine CondG.ff ?_); conv => whnf)
    refine CallG.pure (bytes_spec _ l hl) ?_
    rintro _ _ (⟨h, _⟩ | ⟨_, rfl, rfl⟩)
    · exact absurd h hm
    (conv => whnf); repeat ((first | with_reducible refine CondG.tt ?_ | with_reducible refine CondG.ff ?_); conv => whnf)
    refine CondG.tt ?_
    (conv => whnf); repeat ((first | with_reducible refine CondG.tt ?_ | with_reducible refine CondG.ff ?_); conv => whnf)
    refine ⟨[], Ent.nil _, ?_, rfl⟩
    rw [ochk, if_pos hm]
    rfl
  obtain ⟨⟨i1, i2⟩, _⟩ := id hm
  obtain ⟨i, hi⟩ : ∃ i : Nat, l.idx = i := ⟨l.idx.toNat, by omega⟩
  by_cases hn : 1 ≤ n ∧ n ≤ 1099511627776 ∧ l.idx < n
  · obtain ⟨m, rfl⟩ : ∃ m : Nat, n = m := ⟨n.toNat, by omega⟩
    have e : ochk K root m l p = if checkD K root m i l.bytes p then 0 else 113 := by
      rw [ochk, if_neg (by simpa using hm), if_neg (by omega), if_neg (by omega), hi, Int.toNat_natCast, Int.toNat_natCast]
    rw [e]
    exact ocheck_spec K hk F hK root hroot m i l hi hl hm hto p pv (by omega) (by omega) (by omega) hpv hp
  · have hcl := LeafD.cells_len hl
    refine fun12.spec rfl ?_
    (conv => whnf); repeat ((first | with_reducible refine CondG.tt ?_ | with_reducible refine CondG.ff ?_); conv => whnf)
    intro b4
    (conv => whnf); repeat ((first | with_reducible refine CondG.tt ?_ | with_reducible refine CondG.ff ?_); conv => whnf)
    intro b6
    (conv => whnf); repeat ((first | with_reducible refine CondG.tt ?_ | with_reducible refine CondG.ff ?_); conv => whnf)
    refine LoadNG.at (vs := l.cells) hcl .all ?_
    (conv => whnf); repeat ((first | with_reducible refine CondG.tt ?_ | with_reducible refine CondG.ff ?_); conv => whnf)
    refine CallG.pure (bytes_spec _ l hl) ?_
    rintro _ _ (⟨_, r, hr, rfl, rfl⟩ | ⟨hno, _⟩)
    rotate_left
    · exact absurd hm hno
    (conv => whnf); repeat ((first | with_reducible refine CondG.tt ?_ | with_reducible refine CondG.ff ?_); conv => whnf)
    refine CondG.ff ?_
    (conv => whnf); repeat ((first | with_reducible refine CondG.tt ?_ | with_reducible refine CondG.ff ?_); conv => whnf)
    refine CondG.dec (fun h1 => ?_) (fun h1 => ?_)
    · (conv => whnf); repeat ((first | with_reducible refine CondG.tt ?_ | with_reducible refine CondG.ff ?_); conv => whnf)
      refine ⟨[], Ent.nil _, ?_, rfl⟩
      rw [ochk, if_neg (by simpa using hm), if_pos (.inl h1)]
      rfl
    (conv => whnf); repeat ((first | with_reducible refine CondG.tt ?_ | with_reducible refine CondG.ff ?_); conv => whnf)
    refine CondG.dec (fun h2 => ?_) (fun h2 => ?_)
    · (conv => whnf); repeat ((first | with_reducible refine CondG.tt ?_ | with_reducible refine CondG.ff ?_); conv => whnf)
      refine ⟨[], Ent.nil _, ?_, rfl⟩
      rw [ochk, if_neg (by simpa using hm), if_pos (.inr h2)]
      rfl
    (conv => whnf); repeat ((first | with_reducible refine CondG.tt ?_ | with_reducible refine CondG.ff ?_); conv => whnf)
    refine LoadG.at (v := .int .i64 l.idx) (.tl (.here rfl)) ?_
    (conv => whnf); repeat ((first | with_reducible refine CondG.tt ?_ | with_reducible refine CondG.ff ?_); conv => whnf)
    refine CondG.decT (by omega) ?_
    (conv => whnf); repeat ((first | with_reducible refine CondG.tt ?_ | with_reducible refine CondG.ff ?_); conv => whnf)
    refine ⟨[], Ent.nil _, ?_, rfl⟩
    rw [ochk, if_neg (by simpa using hm), if_neg (by omega), if_pos (by omega)]
    rfl
open Classical in
theorem rcheck_all (F : List HP) (hC' : CelN F 1 0 (wvs K)) (hB : CelN F 0 0 (wvs ivW)) (root : List Nat) (hroot : root.length = 32) (n : Int) (l : LeafD) (hl : l.wf) (hw : wOk l.amt) (hto : ∀ b ∈ l.to, b < 256) (p : List (List Nat)) (pv : Value)
    (hpv : RdS F pv p.length (digsC p)) (hp : ∀ d ∈ p, DigOk d) :
    SpecF Tryd.prog 13 [.agg ⟨bvs root⟩, .int .i64 n, .agg ⟨l.cells⟩, pv] F [] (fun r L => r = .int .i64 (ochk K root n l p) ∧ L = []) := by
  have hr32 : (bvs root).length = 32 := by rw [bvs_len, hroot]
  have hcl := LeafD.cells_len hl
  have hbl := LeafD.bytes_len l hl
  refine fun13.spec rfl ?_
  (conv => whnf); repeat ((first | with_reducible refine CondG.tt ?_ | with_reducible refine CondG.ff ?_); conv => whnf)
  intro b4
  (conv => whnf); repeat ((first | with_reducible refine CondG.tt ?_ | with_reducible refine CondG.ff ?_); conv => whnf)
  intro b6
  (conv => whnf); repeat ((first | with_reducible refine CondG.tt ?_ | with_reducible refine CondG.ff ?_); conv => whnf)
  refine LoadNG.at (vs := l.cells) hcl .all ?_
  (conv => whnf); repeat ((first | with_reducible refine CondG.tt ?_ | with_reducible refine CondG.ff ?_); conv => whnf)
  refine CallG.pure (rmay_spec _ l hl) ?_
  rintro _ _ ⟨rfl, rfl⟩
  (conv => whnf); repeat ((first | with_reducible refine CondG.tt ?_ | with_reducible refine CondG.ff ?_); conv => whnf)
  by_cases hm : l.may
  rotate_left
  · rw [decide_eq_false hm]
    refine CondG.tt ?_
    (conv => whnf); repeat ((first | with_reducible refine CondG.tt ?_ | with_reducible refine CondG.ff ?_); conv => whnf)
    refine ⟨[], Ent.nil _, ?_, rfl⟩
    rw [ochk, if_pos hm]
    rfl
  rw [decide_eq_true hm]
  refine CondG.ff ?_
  obtain ⟨⟨i1, i2⟩, _⟩ := id hm
  obtain ⟨i, hi⟩ : ∃ i : Nat, l.idx = i := ⟨l.idx.toNat, by omega⟩
  (conv => whnf); repeat ((first | with_reducible refine CondG.tt ?_ | with_reducible refine CondG.ff ?_); conv => whnf)
  refine CondG.dec (fun h1 => ?_) (fun h1 => ?_)
  · (conv => whnf); repeat ((first | with_reducible refine CondG.tt ?_ | with_reducible refine CondG.ff ?_); conv => whnf)
    refine ⟨[], Ent.nil _, ?_, rfl⟩
    rw [ochk, if_neg (by simpa using hm), if_pos (.inl h1)]
    rfl
  (conv => whnf); repeat ((first | with_reducible refine CondG.tt ?_ | with_reducible refine CondG.ff ?_); conv => whnf)
  refine CondG.dec (fun h2 => ?_) (fun h2 => ?_)
  · (conv => whnf); repeat ((first | with_reducible refine CondG.tt ?_ | with_reducible refine CondG.ff ?_); conv => whnf)
    refine ⟨[], Ent.nil _, ?_, rfl⟩
    rw [ochk, if_neg (by simpa using hm), if_pos (.inr h2)]
    rfl
  (conv => whnf); repeat ((first | with_reducible refine CondG.tt ?_ | with_reducible refine CondG.ff ?_); conv => whnf)
  refine LoadG.at (v := .int .i64 l.idx) (.here rfl) ?_
  (conv => whnf); repeat ((first | with_reducible refine CondG.tt ?_ | with_reducible refine CondG.ff ?_); conv => whnf)
  refine CondG.dec (fun h3 => ?_) (fun h3 => ?_)
  · (conv => whnf); repeat ((first | with_reducible refine CondG.tt ?_ | with_reducible refine CondG.ff ?_); conv => whnf)
    refine ⟨[], Ent.nil _, ?_, rfl⟩
    rw [ochk, if_neg (by simpa using hm), if_neg (by omega), if_pos h3]
    rfl
  obtain ⟨m, rfl⟩ : ∃ m : Nat, n = m := ⟨n.toNat, by omega⟩
  have e : ochk K root m l p = if checkD K root m i l.bytes p then 0 else 113 := by
    rw [ochk, if_neg (by simpa using hm), if_neg (by omega), if_neg (by omega), hi, Int.toNat_natCast, Int.toNat_natCast]
  rw [e]
  (conv => whnf); repeat ((first | with_reducible refine CondG.tt ?_ | with_reducible refine CondG.ff ?_); conv => whnf)
  refine DrawG.mk 8 [cel b6 32 l.cells, cel b4 25 (bvs root)] [] (Ent.refl _) ?_
  (conv => whnf); repeat ((first | with_reducible refine CondG.tt ?_ | with_reducible refine CondG.ff ?_); conv => whnf)
  refine .take 0 ?_
  (conv => whnf); repeat ((first | with_reducible refine CondG.tt ?_ | with_reducible refine CondG.ff ?_); conv => whnf)
  refine ⟨rfl, ?_⟩
  (conv => whnf); repeat ((first | with_reducible refine CondG.tt ?_ | with_reducible refine CondG.ff ?_); conv => whnf)
  refine LoadNG.at (vs := bvs root) hr32 (.tl .all) ?_
  (conv => whnf); repeat ((first | with_reducible refine CondG.tt ?_ | with_reducible refine CondG.ff ?_); conv => whnf)
  refine .take 1 ?_
  (conv => whnf); repeat ((first | with_reducible refine CondG.tt ?_ | with_reducible refine CondG.ff ?_); conv => whnf)
  refine ⟨rfl, ?_⟩
  (conv => whnf); repeat ((first | with_reducible refine CondG.tt ?_ | with_reducible refine CondG.ff ?_); conv => whnf)
  refine .take 2 ?_
  (conv => whnf); repeat ((first | with_reducible refine CondG.tt ?_ | with_reducible refine CondG.ff ?_); conv => whnf)
  refine ⟨rfl, ?_⟩
  (conv => whnf); repeat ((first | with_reducible refine CondG.tt ?_ | with_reducible refine CondG.ff ?_); conv => whnf)
  refine .take 3 ?_
  (conv => whnf); repeat ((first | with_reducible refine CondG.tt ?_ | with_reducible refine CondG.ff ?_); conv => whnf)
  refine ⟨rfl, ?_⟩
  (conv => whnf); repeat ((first | with_reducible refine CondG.tt ?_ | with_reducible refine CondG.ff ?_); conv => whnf)
  refine LoadG.at (v := .int .i64 l.idx) (.here rfl) ?_
  rw [hi]
  (conv => whnf); repeat ((first | with_reducible refine CondG.tt ?_ | with_reducible refine CondG.ff ?_); conv => whnf)
  refine .take 4 ?_
  (conv => whnf); repeat ((first | with_reducible refine CondG.tt ?_ | with_reducible refine CondG.ff ?_); conv => whnf)
  refine ⟨rfl, ?_⟩
  (conv => whnf); repeat ((first | with_reducible refine CondG.tt ?_ | with_reducible refine CondG.ff ?_); conv => whnf)
  refine LoadNG.at (vs := l.cells) hcl .all ?_
  (conv => whnf); repeat ((first | with_reducible refine CondG.tt ?_ | with_reducible refine CondG.ff ?_); conv => whnf)
  refine .take 6 ?_
  (conv => whnf); repeat ((first | with_reducible refine CondG.tt ?_ | with_reducible refine CondG.ff ?_); conv => whnf)
  refine ⟨rfl, ?_⟩
  (conv => whnf); repeat ((first | with_reducible refine CondG.tt ?_ | with_reducible refine CondG.ff ?_); conv => whnf)
  refine .all ?_
  (conv => whnf); repeat ((first | with_reducible refine CondG.tt ?_ | with_reducible refine CondG.ff ?_); conv => whnf)
  refine ⟨by decide, ?_⟩
  (conv => whnf); repeat ((first | with_reducible refine CondG.tt ?_ | with_reducible refine CondG.ff ?_); conv => whnf)
  refine CallG.pure (form_of _ l hl hm hw) ?_
  rintro fx _ ⟨hfx, rfl⟩
  (conv => whnf); repeat ((first | with_reducible refine CondG.tt ?_ | with_reducible refine CondG.ff ?_); conv => whnf)
  refine .all ?_
  (conv => whnf); repeat ((first | with_reducible refine CondG.tt ?_ | with_reducible refine CondG.ff ?_); conv => whnf)
  refine ⟨by decide, ?_⟩
  (conv => whnf); repeat ((first | with_reducible refine CondG.tt ?_ | with_reducible refine CondG.ff ?_); conv => whnf)
  refine CallG.pure (rtcheck_spec K hk _ (.right (.right hC' _) _) (.right (.right hB _) _) root hroot m i l.bytes p fx pv (by omega) (by omega) (by omega) (.left (.left (own_rd hfx (by rw [bvs_len, Nat.mul_one])) []) _) (by omega) (bytes_lt hto) (.right (.right hpv _) _) hp) ?_
  rintro _ _ ⟨rfl, rfl⟩
  (conv => whnf); repeat ((first | with_reducible refine CondG.tt ?_ | with_reducible refine CondG.ff ?_); conv => whnf)
  refine .all ?_
  (conv => whnf); repeat ((first | with_reducible refine CondG.tt ?_ | with_reducible refine CondG.ff ?_); conv => whnf)
  refine ⟨by decide, ?_⟩
  (conv => whnf); repeat ((first | with_reducible refine CondG.tt ?_ | with_reducible refine CondG.ff ?_); conv => whnf)
  refine ⟨rfl, ?_⟩
  (conv => whnf); repeat ((first | with_reducible refine CondG.tt ?_ | with_reducible refine CondG.ff ?_); conv => whnf)
  refine ⟨rfl, ?_⟩
  (conv => whnf); repeat ((first | with_reducible refine CondG.tt ?_ | with_reducible refine CondG.ff ?_); conv => whnf)
  by_cases hc : checkD K root m i l.bytes p
  · rw [if_pos hc, if_pos hc]
    (conv => whnf); repeat ((first | with_reducible refine CondG.tt ?_ | with_reducible refine CondG.ff ?_); conv => whnf)
    refine CondG.ff ?_
    (conv => whnf); repeat ((first | with_reducible refine CondG.tt ?_ | with_reducible refine CondG.ff ?_); conv => whnf)
    exact ⟨[], Ent.nil _, rfl, rfl⟩
  · rw [if_neg hc, if_neg hc]
    (conv => whnf); repeat ((first | with_reducible refine CondG.tt ?_ | with_reducible refine CondG.ff ?_); conv => whnf)
    refine CondG.tt ?_
    (conv => whnf); repeat ((first | with_reducible refine CondG.tt ?_ | with_reducible refine CondG.ff ?_); conv => whnf)
    exact ⟨[], Ent.nil _, rfl, rfl⟩
end
end Go.Proofs.YthdpknlnpeaiiaaDoor
