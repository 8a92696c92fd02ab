/-
  The law of one leaf a place, walked.
-/
import Derived.Test.YthdpknlnpeaiiaaDoorTx
import Derived.Test.YthdpknlnpeaiiaaDoorRw
import Derived.Test.YthdpknlnpeaiiaaDoorZKc
namespace Go.Proofs.YthdpknlnpeaiiaaDoor
open Go Go.Sl
theorem known_q (F : List HP) : SpecF Tryd.prog 11 [] F [] (fun v L => v = .bool true ∧ L = []) := (known_spec F).turn fun _ L h => ⟨[], ⟨h, rfl⟩, Ent.nil L⟩
theorem leafD_wide {r : RawD} (h : r.wf) (i : Nat) : wOk (leafD r i).amt := by
  unfold leafD
  simp only
  split
  · exact ⟨rfl, by decide⟩
  · exact ⟨h.amt, h.amtB⟩
theorem rdT_two {M : List HP} {v : Value} {ts1 ts2 : List (Value × List Nat)} {l1 l2 : List (List Nat)} (hv : RdS M v (ts1.length + ts2.length) (fsts ts1 ++ fsts ts2)) (h1 : ts1.map (·.2) = l1) (h2 : ts2.map (·.2) = l2)
    (r1 : ∀ (i : Nat) t, ts1[i]? = some t → RdS M t.1 t.2.length (bvs t.2)) (r2 : ∀ (i : Nat) t, ts2[i]? = some t → RdS M t.1 t.2.length (bvs t.2)) : RdT M v (l1 ++ l2) := by
  have e1 : l1.length = ts1.length := by rw [← h1, List.length_map]
  have e2 : l2.length = ts2.length := by rw [← h2, List.length_map]
  refine ⟨fsts ts1 ++ fsts ts2, by simp [fsts, e1, e2], by rw [List.length_append, e1, e2]; exact hv, fun i x l hx hl => ?_⟩
  rw [← h1, ← h2, ← List.map_append] at hl
  rw [show fsts ts1 ++ fsts ts2 = (ts1 ++ ts2).map (·.1) by simp [fsts]] at hx
  simp only [List.getElem?_map, Option.map_eq_some_iff] at hx hl
  obtain ⟨t, ht, rfl⟩ := hx
  obtain ⟨t', ht', rfl⟩ := hl
  obtain rfl := Option.some.inj (ht.symm.trans ht')
  rcases Nat.lt_or_ge i ts1.length with h | h
  · rw [List.getElem?_append_left h] at ht
    exact r1 i _ ht
  · rw [List.getElem?_append_right h] at ht
    exact r2 _ _ ht
theorem one_spec (K : List W32) (hk : K.length = 64) (F : List HP) (hK : CelN F 4 0 (wvs K)) (hC : CelN F 1 0 (wvs K)) (hB : CelN F 0 0 (wvs ivW)) (vr : Value) (rs : List RawD) (hrs : ∀ r ∈ rs, r.wf) (hvr : RdS F vr rs.length (rawsC rs))
    (ix : Int) (hx1 : -9223372036854775808 ≤ ix) (hx2 : ix ≤ 9223372036854775807) (r2 : RawD) (hr2 : r2.wf) (pv : Value) (p : List (List Nat)) (hpv : RdS F pv p.length (digsC p)) (hp : ∀ d ∈ p, DigOk d) :
    SpecF Tryd.prog 6 [vr, .agg ⟨.int .i64 ix :: (r2.cells ++ [pv])⟩] F [] (fun v _ => v = .bool true) := by
  have hr2l := RawD.cells_len hr2
  refine fun6.spec rfl ?_
  (conv => whnf); repeat ((first | with_reducible refine CondG.tt ?_ | with_reducible refine CondG.ff ?_); conv => whnf)
  intro b3
  (conv => whnf); repeat ((first | with_reducible refine CondG.tt ?_ | with_reducible refine CondG.ff ?_); conv => whnf)
  refine CallG.pure (few_spec _ vr rs hrs hvr) ?_
  rintro lv _ ⟨hl, rfl⟩
  have hll : (fewR rs).length ≤ 200 := by rw [fewR, List.length_take]; omega
  have hlw : ∀ r ∈ fewR rs, r.wf := fun r h => hrs r (List.mem_of_mem_take h)
  generalize fewR rs = l at *
  clear hvr hrs
  replace hl : RdS F lv l.length (rawsC l) := hl
  generalize hoc : Value.int .i64 ix :: (r2.cells ++ [pv]) = oc at *
  have hvl := lvs_len l
  have hvt := lvs_to hlw
  have hbl : (bytesL (lvs l)).length = l.length := by simp [bytesL, hvl]
  (conv => whnf); repeat ((first | with_reducible refine CondG.tt ?_ | with_reducible refine CondG.ff ?_); conv => whnf)
  refine CallG.pure (booked_spec _ lv l hlw (by omega) (.right hl _)) ?_
  rintro _ _ ⟨b, rfl, rfl⟩
  (conv => whnf); repeat ((first | with_reducible refine CondG.tt ?_ | with_reducible refine CondG.ff ?_); conv => whnf)
  refine CallG.pure (known_q _) ?_
  rintro _ _ ⟨rfl, rfl⟩
  (conv => whnf); repeat ((first | with_reducible refine CondG.tt ?_ | with_reducible refine CondG.ff ?_); conv => whnf)
  refine CondG.ff ?_
  (conv => whnf); repeat ((first | with_reducible refine CondG.tt ?_ | with_reducible refine CondG.ff ?_); conv => whnf)
  refine LenG.rd hl ?_
  (conv => whnf); repeat ((first | with_reducible refine CondG.tt ?_ | with_reducible refine CondG.ff ?_); conv => whnf)
  refine CondG.dec (fun h0 => ?_) (fun h0 => ?_)
  · (conv => whnf); repeat ((first | with_reducible refine CondG.tt ?_ | with_reducible refine CondG.ff ?_); conv => whnf)
    exact ret_here rfl
  (conv => whnf); repeat ((first | with_reducible refine CondG.tt ?_ | with_reducible refine CondG.ff ?_); conv => whnf)
  refine LoadG.at (v := .int .i64 ix) (.tl (.here (by rw [← hoc]; rfl))) ?_
  (conv => whnf); repeat ((first | with_reducible refine CondG.tt ?_ | with_reducible refine CondG.ff ?_); conv => whnf)
  refine LenG.rd hl ?_
  (conv => whnf); repeat ((first | with_reducible refine CondG.tt ?_ | with_reducible refine CondG.ff ?_); conv => whnf)
  refine CallG.pure (pick_spec _ ix l.length hx1 hx2 (by omega)) ?_
  rintro _ _ ⟨rfl, rfl⟩
  have hal : pickN ix l.length < l.length := pickN_lt ix (by omega)
  generalize pickN ix l.length = at' at *
  (conv => whnf); repeat ((first | with_reducible refine CondG.tt ?_ | with_reducible refine CondG.ff ?_); conv => whnf)
  refine LenG.rd hl ?_
  (conv => whnf); repeat ((first | with_reducible refine CondG.tt ?_ | with_reducible refine CondG.ff ?_); conv => whnf)
  refine CallG.of (rest := [cel b3 77 oc]) (brootP K hk _ (.right hK _) b l.length (lvs l) (by omega) (by omega) hvt) (Ent.refl _) ?_
  rintro _ _ ⟨rfl, rfl⟩
  have et : (bytesL (lvs l)).take l.length = bytesL (lvs l) := List.take_of_length_le (by omega)
  rw [et]
  have hroot := rootD_len K (bytesL (lvs l))
  have hroot32 : (bvs (rootD K (bytesL (lvs l)))).length = 32 := by rw [bvs_len, hroot]
  generalize hR : rootD K (bytesL (lvs l)) = root at *
  (conv => whnf); repeat ((first | with_reducible refine CondG.tt ?_ | with_reducible refine CondG.ff ?_); conv => whnf)
  intro b8
  (conv => whnf); repeat ((first | with_reducible refine CondG.tt ?_ | with_reducible refine CondG.ff ?_); conv => whnf)
  refine StoreG.at hroot32 (Upd.whole (by rw [hroot32]; rfl) (bvs_one _)) ?_
  (conv => whnf); repeat ((first | with_reducible refine CondG.tt ?_ | with_reducible refine CondG.ff ?_); conv => whnf)
  refine LenG.rd hl ?_
  (conv => whnf); repeat ((first | with_reducible refine CondG.tt ?_ | with_reducible refine CondG.ff ?_); conv => whnf)
  refine CallG.of (rest := [cel b8 25 (bvs root), cel b3 77 oc]) (bpathP K hk _ (.right hK _) b at' l.length (lvs l) (by omega) (by omega) (by omega) hvt) (Ent.sel (T := []) (A := [_, _, _]) [1, 0, 2] rfl) ?_
  rintro _ _ ⟨rp, hrp, rfl, rfl⟩
  rw [et] at hrp ⊢
  have hpd : ∀ d ∈ pathD K (bytesL (lvs l)) at', DigOk d := fun d hd => ⟨pathD_each K _ _ _ (Nat.le_refl _) d hd, pathD_byte K _ _ _ (Nat.le_refl _) d hd⟩
  have hg : (bytesL (lvs l))[at']? = some (leafD l[at'] at').bytes := by simp [bytesL, lvs, hal]
  have hshow := shown_path K _ (bytesL (lvs l)) at' _ (Nat.le_refl _) hg
  rw [hbl, hR] at hshow
  generalize pathD K (bytesL (lvs l)) at' = P0 at *
  (conv => whnf); repeat ((first | with_reducible refine CondG.tt ?_ | with_reducible refine CondG.ff ?_); conv => whnf)
  refine CondG.ff ?_
  (conv => whnf); repeat ((first | with_reducible refine CondG.tt ?_ | with_reducible refine CondG.ff ?_); conv => whnf)
  refine CondG.ff ?_
  (conv => whnf); repeat ((first | with_reducible refine CondG.tt ?_ | with_reducible refine CondG.ff ?_); conv => whnf)
  have hwl := hlw l[at'] (List.getElem_mem hal)
  have hwll := RawD.cells_len hwl
  have hx := leafD_wf hwl at'
  have hxl := LeafD.cells_len hx
  have hy := leafD_wf hr2 at'
  have hyl := LeafD.cells_len hy
  refine IdxG.rd hl (by omega) fun c o hc => ?_
  (conv => whnf); repeat ((first | with_reducible refine CondG.tt ?_ | with_reducible refine CondG.ff ?_); conv => whnf)
  refine LoadNG.atF (vs := l[at'].cells) hwll (hc.part (by rw [hwll, Int.toNat_natCast]; exact rawsC_get hlw hal)) ?_
  (conv => whnf); repeat ((first | with_reducible refine CondG.tt ?_ | with_reducible refine CondG.ff ?_); conv => whnf)
  refine CallG.pure (leaf_spec _ l[at'] hwl at') ?_
  rintro _ _ ⟨rfl, rfl⟩
  (conv => whnf); repeat ((first | with_reducible refine CondG.tt ?_ | with_reducible refine CondG.ff ?_); conv => whnf)
  intro b12
  (conv => whnf); repeat ((first | with_reducible refine CondG.tt ?_ | with_reducible refine CondG.ff ?_); conv => whnf)
  refine StoreG.at hxl (Upd.whole (by rw [hxl]; rfl) (LeafD.cells_one _)) ?_
  (conv => whnf); repeat ((first | with_reducible refine CondG.tt ?_ | with_reducible refine CondG.ff ?_); conv => whnf)
  refine LoadNG.at (vs := r2.cells) hr2l (.tl (.tl (.tl (.tl (.here (by rw [← hoc, hr2l]; show (r2.cells ++ [pv]).take 26 = _; rw [← hr2l, List.take_left])))))) ?_
  (conv => whnf); repeat ((first | with_reducible refine CondG.tt ?_ | with_reducible refine CondG.ff ?_); conv => whnf)
  refine CallG.pure (leaf_spec _ r2 hr2 at') ?_
  rintro _ _ ⟨rfl, rfl⟩
  (conv => whnf); repeat ((first | with_reducible refine CondG.tt ?_ | with_reducible refine CondG.ff ?_); conv => whnf)
  intro b13
  (conv => whnf); repeat ((first | with_reducible refine CondG.tt ?_ | with_reducible refine CondG.ff ?_); conv => whnf)
  refine StoreG.at hyl (Upd.whole (by rw [hyl]; rfl) (LeafD.cells_one _)) ?_
  (conv => whnf); repeat ((first | with_reducible refine CondG.tt ?_ | with_reducible refine CondG.ff ?_); conv => whnf)
  have hto1 : ∀ b ∈ (leafD l[at'] at').to, b < 256 := hwl.toB
  have hto2 : ∀ b ∈ (leafD r2 at').to, b < 256 := hr2.toB
  have hmx : (leafD l[at'] at').may := leafD_may (by omega)
  have hmy : (leafD r2 at').may := leafD_may (by omega)
  have hwx := leafD_wide hwl at'
  have hwy := leafD_wide hr2 at'
  have hix : (leafD l[at'] at').idx = at' := rfl
  have hiy : (leafD r2 at').idx = at' := rfl
  generalize leafD l[at'] at' = x at *
  generalize leafD r2 at' = y at *
  have hP0l : (digsC P0).length = P0.length * 32 := digs_len fun d hd => (hpd d hd).len
  have htop := shown_top K (0 :: x.bytes) P0.reverse l.length at' (by omega) (by show (shownR K P0.reverse l.length at' (leafT K x.bytes)).2 = true; rw [hshow])
  have hPs : P0.length = (sides l.length at').length := by have := htop.1; rwa [List.length_reverse] at this
  have hs8 := sides_log 8 l.length at' (by show l.length ≤ 256; omega)
  have hcx : checkD K root l.length at' x.bytes P0 := ⟨by omega, by rw [hshow], by rw [hshow]⟩
  refine LoadNG.at (vs := bvs root) hroot32 (.tl (.tl (.tl (.tl .all)))) ?_
  (conv => whnf); repeat ((first | with_reducible refine CondG.tt ?_ | with_reducible refine CondG.ff ?_); conv => whnf)
  refine LenG.rd hl ?_
  (conv => whnf); repeat ((first | with_reducible refine CondG.tt ?_ | with_reducible refine CondG.ff ?_); conv => whnf)
  refine LoadNG.at (vs := x.cells) hxl (.tl .all) ?_
  (conv => whnf); repeat ((first | with_reducible refine CondG.tt ?_ | with_reducible refine CondG.ff ?_); conv => whnf)
  refine CallG.pure (ocheck_spec K hk _ (.right hK _) root hroot l.length at' x hix hx hmx hto1 P0 rp (by omega) (by omega) hal (.left (.tl (.tl (own_rd hrp hP0l))) F) hpd) ?_
  rintro _ _ ⟨rfl, rfl⟩
  rw [if_pos hcx]
  (conv => whnf); repeat ((first | with_reducible refine CondG.tt ?_ | with_reducible refine CondG.ff ?_); conv => whnf)
  refine CondG.ff ?_
  (conv => whnf); repeat ((first | with_reducible refine CondG.tt ?_ | with_reducible refine CondG.ff ?_); conv => whnf)
  refine LoadG.at (v := pv) (.tl (.tl (.tl (.tl (.tl (.here (by rw [← hoc]; show (r2.cells ++ [pv])[26]? = _; rw [← hr2l, List.getElem?_append_right (Nat.le_refl _), Nat.sub_self]; rfl)))))) ) ?_
  (conv => whnf); repeat ((first | with_reducible refine CondG.tt ?_ | with_reducible refine CondG.ff ?_); conv => whnf)
  have hpv1 : pv.oneCell' = true := by obtain ⟨a2, c2, rfl⟩ := hpv.len; rfl
  refine BuildG.of (cs := [rp, pv]) (by obtain ⟨a, c, rfl⟩ := hrp.len; obtain ⟨a2, c2, rfl⟩ := hpv.len; rfl) ?_
  (conv => whnf); repeat ((first | with_reducible refine CondG.tt ?_ | with_reducible refine CondG.ff ?_); conv => whnf)
  intro b78
  (conv => whnf); repeat ((first | with_reducible refine CondG.tt ?_ | with_reducible refine CondG.ff ?_); conv => whnf)
  refine LoopG.mk (fun mm e L => ∃ i, i ≤ 2 ∧ mm = 2 - i ∧ e = [(5, lv), (7, .int .i64 (at' : Nat)), (8, .pointer (some ⟨b8, 0, none⟩)), (10, rp), (12, .pointer (some ⟨b12, 0, none⟩)), (13, .pointer (some ⟨b13, 0, none⟩)), (14, .slice (some ⟨b78, 0, none⟩) 2 2), (15, .int .i64 (i : Nat))] ∧
      L = [cel b78 33 [rp, pv], cel b13 32 y.cells, cel b12 32 x.cells, own 32 rp P0.length (digsC P0), cel b8 25 (bvs root)]) 2
    [(5, lv), (7, .int .i64 (at' : Nat)), (8, .pointer (some ⟨b8, 0, none⟩)), (10, rp), (12, .pointer (some ⟨b12, 0, none⟩)), (13, .pointer (some ⟨b13, 0, none⟩)), (14, .slice (some ⟨b78, 0, none⟩) 2 2), (15, .int .i64 0)] _ ⟨rfl, rfl, rfl, rfl, rfl, rfl, rfl, rfl, trivial⟩ (Ent.sel (T := []) (A := [_, _, _, _, _, _, _]) [0, 1, 2, 3, 5] rfl)
    ⟨0, by omega, rfl, rfl, rfl⟩ ?_
  rintro mm e L ⟨i, hi, rfl, rfl, rfl⟩
  (conv => whnf); repeat ((first | with_reducible refine CondG.tt ?_ | with_reducible refine CondG.ff ?_); conv => whnf)
  refine LenG.lit ?_
  (conv => whnf); repeat ((first | with_reducible refine CondG.tt ?_ | with_reducible refine CondG.ff ?_); conv => whnf)
  refine CondG.dec (fun h1 => ?_) (fun h1 => ?_)
  · obtain ⟨w, q, hw, hqr, hqd⟩ : ∃ w q, [rp, pv][i]? = some w ∧ RdS ([cel b78 33 [rp, pv], cel b13 32 y.cells, cel b12 32 x.cells, own 32 rp P0.length (digsC P0), cel b8 25 (bvs root)] ++ F) w q.length (digsC q) ∧ ∀ d ∈ q, DigOk d := by
      rcases (by omega : i = 0 ∨ i = 1) with rfl | rfl
      · exact ⟨rp, P0, rfl, .left (.tl (.tl (.tl (own_rd hrp hP0l)))) F, hpd⟩
      · exact ⟨pv, p, rfl, .right hpv _, hp⟩
    have ei : 0 + ((i : Nat) : Int).toNat * 1 = i := by omega
    (conv => whnf); repeat ((first | with_reducible refine CondG.tt ?_ | with_reducible refine CondG.ff ?_); conv => whnf)
    refine DrawG.mk 9 [cel b78 33 [rp, pv], cel b13 32 y.cells, cel b12 32 x.cells, own 32 rp P0.length (digsC P0), cel b8 25 (bvs root)] [] (Ent.refl _) ?_
    (conv => whnf); repeat ((first | with_reducible refine CondG.tt ?_ | with_reducible refine CondG.ff ?_); conv => whnf)
    refine .take 0 ?_
    (conv => whnf); repeat ((first | with_reducible refine CondG.tt ?_ | with_reducible refine CondG.ff ?_); conv => whnf)
    refine ⟨rfl, ?_⟩
    (conv => whnf); repeat ((first | with_reducible refine CondG.tt ?_ | with_reducible refine CondG.ff ?_); conv => whnf)
    refine LoadNG.at (vs := bvs root) hroot32 (.tl (.tl (.tl (.tl .all)))) ?_
    (conv => whnf); repeat ((first | with_reducible refine CondG.tt ?_ | with_reducible refine CondG.ff ?_); conv => whnf)
    refine .take 1 ?_
    (conv => whnf); repeat ((first | with_reducible refine CondG.tt ?_ | with_reducible refine CondG.ff ?_); conv => whnf)
    refine ⟨rfl, ?_⟩
    (conv => whnf); repeat ((first | with_reducible refine CondG.tt ?_ | with_reducible refine CondG.ff ?_); conv => whnf)
    refine .take 2 ?_
    (conv => whnf); repeat ((first | with_reducible refine CondG.tt ?_ | with_reducible refine CondG.ff ?_); conv => whnf)
    refine ⟨rfl, ?_⟩
    (conv => whnf); repeat ((first | with_reducible refine CondG.tt ?_ | with_reducible refine CondG.ff ?_); conv => whnf)
    refine LenG.rd hl ?_
    (conv => whnf); repeat ((first | with_reducible refine CondG.tt ?_ | with_reducible refine CondG.ff ?_); conv => whnf)
    refine .take 3 ?_
    (conv => whnf); repeat ((first | with_reducible refine CondG.tt ?_ | with_reducible refine CondG.ff ?_); conv => whnf)
    refine ⟨rfl, ?_⟩
    (conv => whnf); repeat ((first | with_reducible refine CondG.tt ?_ | with_reducible refine CondG.ff ?_); conv => whnf)
    refine LoadNG.at (vs := y.cells) hyl (.tl .all) ?_
    (conv => whnf); repeat ((first | with_reducible refine CondG.tt ?_ | with_reducible refine CondG.ff ?_); conv => whnf)
    refine .take 4 ?_
    (conv => whnf); repeat ((first | with_reducible refine CondG.tt ?_ | with_reducible refine CondG.ff ?_); conv => whnf)
    refine ⟨rfl, ?_⟩
    (conv => whnf); repeat ((first | with_reducible refine CondG.tt ?_ | with_reducible refine CondG.ff ?_); conv => whnf)
    refine .take 5 ?_
    (conv => whnf); repeat ((first | with_reducible refine CondG.tt ?_ | with_reducible refine CondG.ff ?_); conv => whnf)
    refine ⟨rfl, ?_⟩
    (conv => whnf); repeat ((first | with_reducible refine CondG.tt ?_ | with_reducible refine CondG.ff ?_); conv => whnf)
    refine .take 6 ?_
    (conv => whnf); repeat ((first | with_reducible refine CondG.tt ?_ | with_reducible refine CondG.ff ?_); conv => whnf)
    refine ⟨rfl, ?_⟩
    (conv => whnf); repeat ((first | with_reducible refine CondG.tt ?_ | with_reducible refine CondG.ff ?_); conv => whnf)
    refine ⟨b78, 0, 2, 2, rfl, by omega, ?_⟩
    (conv => whnf); repeat ((first | with_reducible refine CondG.tt ?_ | with_reducible refine CondG.ff ?_); conv => whnf)
    refine .take 7 ?_
    (conv => whnf); repeat ((first | with_reducible refine CondG.tt ?_ | with_reducible refine CondG.ff ?_); conv => whnf)
    refine ⟨rfl, ?_⟩
    (conv => whnf); repeat ((first | with_reducible refine CondG.tt ?_ | with_reducible refine CondG.ff ?_); conv => whnf)
    refine LoadG.at (v := w) (.here (by rw [ei]; exact hw)) ?_
    (conv => whnf); repeat ((first | with_reducible refine CondG.tt ?_ | with_reducible refine CondG.ff ?_); conv => whnf)
    refine .all ?_
    (conv => whnf); repeat ((first | with_reducible refine CondG.tt ?_ | with_reducible refine CondG.ff ?_); conv => whnf)
    refine ⟨by decide, ?_⟩
    (conv => whnf); repeat ((first | with_reducible refine CondG.tt ?_ | with_reducible refine CondG.ff ?_); conv => whnf)
    refine CallG.pure (ocheck_spec K hk _ (.right (.right hK _) _) root hroot l.length at' y hiy hy hmy hto2 q w (by omega) (by omega) hal (.right hqr _) hqd) ?_
    rintro _ _ ⟨rfl, rfl⟩
    (conv => whnf); repeat ((first | with_reducible refine CondG.tt ?_ | with_reducible refine CondG.ff ?_); conv => whnf)
    refine .all ?_
    (conv => whnf); repeat ((first | with_reducible refine CondG.tt ?_ | with_reducible refine CondG.ff ?_); conv => whnf)
    refine ⟨by decide, ?_⟩
    (conv => whnf); repeat ((first | with_reducible refine CondG.tt ?_ | with_reducible refine CondG.ff ?_); conv => whnf)
    refine ⟨rfl, ?_⟩
    (conv => whnf); repeat ((first | with_reducible refine CondG.tt ?_ | with_reducible refine CondG.ff ?_); conv => whnf)
    refine ⟨rfl, ?_⟩
    (conv => whnf); repeat ((first | with_reducible refine CondG.tt ?_ | with_reducible refine CondG.ff ?_); conv => whnf)
    by_cases hcy : checkD K root l.length at' y.bytes q
    · rw [if_pos hcy]
      (conv => whnf); repeat ((first | with_reducible refine CondG.tt ?_ | with_reducible refine CondG.ff ?_); conv => whnf)
      refine CondG.ff ?_
      (conv => whnf); repeat ((first | with_reducible refine CondG.tt ?_ | with_reducible refine CondG.ff ?_); conv => whnf)
      refine CondG.tt ?_
      (conv => whnf); repeat ((first | with_reducible refine CondG.tt ?_ | with_reducible refine CondG.ff ?_); conv => whnf)
      refine LoadNG.at (vs := x.cells) hxl (.tl (.tl .all)) ?_
      (conv => whnf); repeat ((first | with_reducible refine CondG.tt ?_ | with_reducible refine CondG.ff ?_); conv => whnf)
      refine LoadNG.at (vs := y.cells) hyl (.tl .all) ?_
      (conv => whnf); repeat ((first | with_reducible refine CondG.tt ?_ | with_reducible refine CondG.ff ?_); conv => whnf)
      refine DoesG.eqv 8 leafK (by kernel_rfl) (by decide) (by kernel_rfl) (by kernel_rfl) (LeafD.wt hx) (LeafD.wt hy) ?_
      (conv => whnf); repeat ((first | with_reducible refine CondG.tt ?_ | with_reducible refine CondG.ff ?_); conv => whnf)
      refine CondG.split (fun h2 => ?_) (fun h2 => ?_)
      · have hne : x.bytes ≠ y.bytes := fun e => by
          have e2 : x = y := bytes_inj hx hy hmx hmy hwx hwy e
          rw [e2] at h2
          simp at h2
        (conv => whnf); repeat ((first | with_reducible refine CondG.tt ?_ | with_reducible refine CondG.ff ?_); conv => whnf)
        have hQ := shown_top K (0 :: y.bytes) q.reverse l.length at' (by omega) hcy.2.1
        have hQs : q.length = (sides l.length at').length := by have := hQ.1; rwa [List.length_reverse] at this
        have hbx := LeafD.bytes_len x hx
        have hby := LeafD.bytes_len y hy
        refine ⟨b78, 0, 2, 2, rfl, by omega, ?_⟩
        (conv => whnf); repeat ((first | with_reducible refine CondG.tt ?_ | with_reducible refine CondG.ff ?_); conv => whnf)
        refine LoadG.at (v := w) (.here (by rw [ei]; exact hw)) ?_
        (conv => whnf); repeat ((first | with_reducible refine CondG.tt ?_ | with_reducible refine CondG.ff ?_); conv => whnf)
        refine LenG.rd hqr ?_
        (conv => whnf); repeat ((first | with_reducible refine CondG.tt ?_ | with_reducible refine CondG.ff ?_); conv => whnf)
        refine LenG.sl hrp ?_
        (conv => whnf); repeat ((first | with_reducible refine CondG.tt ?_ | with_reducible refine CondG.ff ?_); conv => whnf)
        refine CondG.ndec (fun h => absurd (by rw [hQs, hPs]) h) (fun _ => ?_)
        (conv => whnf); repeat ((first | with_reducible refine CondG.tt ?_ | with_reducible refine CondG.ff ?_); conv => whnf)
        refine LenG.rd hl ?_
        (conv => whnf); repeat ((first | with_reducible refine CondG.tt ?_ | with_reducible refine CondG.ff ?_); conv => whnf)
        refine LoadNG.at (vs := x.cells) hxl (.tl (.tl .all)) ?_
        (conv => whnf); repeat ((first | with_reducible refine CondG.tt ?_ | with_reducible refine CondG.ff ?_); conv => whnf)
        refine CallG.pure (form_of _ x hx hmx hwx) ?_
        rintro fx _ ⟨hfx, rfl⟩
        (conv => whnf); repeat ((first | with_reducible refine CondG.tt ?_ | with_reducible refine CondG.ff ?_); conv => whnf)
        refine CallG.pure (texts_spec K hk _ (.right hC _) (.right hB _) l.length at' fx rp x.bytes P0 (by omega) (by omega) hal (.left (own_rd hfx (by rw [bvs_len, Nat.mul_one])) F) (by omega) (bytes_lt hto1) (.left (.tl (.tl (.tl (.tl (own_rd hrp hP0l))))) F) hpd hPs) ?_
        rintro tx _ ⟨ts1, hts1, rfl⟩
        (conv => whnf); repeat ((first | with_reducible refine CondG.tt ?_ | with_reducible refine CondG.ff ?_); conv => whnf)
        refine DrawG.mk 10 (own 1 tx ts1.length (fsts ts1) :: (textsL ts1 ++ (own 1 fx x.bytes.length (bvs x.bytes) :: cel b78 33 [rp, pv] :: cel b13 32 y.cells :: cel b12 32 x.cells :: own 32 rp P0.length (digsC P0) :: cel b8 25 (bvs root) :: []))) [] (Ent.refl _) ?_
        (conv => whnf); repeat ((first | with_reducible refine CondG.tt ?_ | with_reducible refine CondG.ff ?_); conv => whnf)
        refine .take 0 ?_
        (conv => whnf); repeat ((first | with_reducible refine CondG.tt ?_ | with_reducible refine CondG.ff ?_); conv => whnf)
        refine ⟨rfl, ?_⟩
        (conv => whnf); repeat ((first | with_reducible refine CondG.tt ?_ | with_reducible refine CondG.ff ?_); conv => whnf)
        refine .take 1 ?_
        (conv => whnf); repeat ((first | with_reducible refine CondG.tt ?_ | with_reducible refine CondG.ff ?_); conv => whnf)
        refine ⟨rfl, ?_⟩
        (conv => whnf); repeat ((first | with_reducible refine CondG.tt ?_ | with_reducible refine CondG.ff ?_); conv => whnf)
        refine LenG.rd hl ?_
        (conv => whnf); repeat ((first | with_reducible refine CondG.tt ?_ | with_reducible refine CondG.ff ?_); conv => whnf)
        refine .take 2 ?_
        (conv => whnf); repeat ((first | with_reducible refine CondG.tt ?_ | with_reducible refine CondG.ff ?_); conv => whnf)
        refine ⟨rfl, ?_⟩
        (conv => whnf); repeat ((first | with_reducible refine CondG.tt ?_ | with_reducible refine CondG.ff ?_); conv => whnf)
        refine .take 3 ?_
        (conv => whnf); repeat ((first | with_reducible refine CondG.tt ?_ | with_reducible refine CondG.ff ?_); conv => whnf)
        refine ⟨rfl, ?_⟩
        (conv => whnf); repeat ((first | with_reducible refine CondG.tt ?_ | with_reducible refine CondG.ff ?_); conv => whnf)
        refine LoadNG.at (vs := y.cells) hyl (.tl (.right (.tl (.tl .all)) _)) ?_
        (conv => whnf); repeat ((first | with_reducible refine CondG.tt ?_ | with_reducible refine CondG.ff ?_); conv => whnf)
        refine .take 5 ?_
        (conv => whnf); repeat ((first | with_reducible refine CondG.tt ?_ | with_reducible refine CondG.ff ?_); conv => whnf)
        refine ⟨rfl, ?_⟩
        (conv => whnf); repeat ((first | with_reducible refine CondG.tt ?_ | with_reducible refine CondG.ff ?_); conv => whnf)
        refine .take 6 ?_
        (conv => whnf); repeat ((first | with_reducible refine CondG.tt ?_ | with_reducible refine CondG.ff ?_); conv => whnf)
        refine ⟨rfl, ?_⟩
        (conv => whnf); repeat ((first | with_reducible refine CondG.tt ?_ | with_reducible refine CondG.ff ?_); conv => whnf)
        refine .take 7 ?_
        (conv => whnf); repeat ((first | with_reducible refine CondG.tt ?_ | with_reducible refine CondG.ff ?_); conv => whnf)
        refine ⟨rfl, ?_⟩
        (conv => whnf); repeat ((first | with_reducible refine CondG.tt ?_ | with_reducible refine CondG.ff ?_); conv => whnf)
        refine ⟨b78, 0, 2, 2, rfl, by omega, ?_⟩
        (conv => whnf); repeat ((first | with_reducible refine CondG.tt ?_ | with_reducible refine CondG.ff ?_); conv => whnf)
        refine .take 8 ?_
        (conv => whnf); repeat ((first | with_reducible refine CondG.tt ?_ | with_reducible refine CondG.ff ?_); conv => whnf)
        refine ⟨rfl, ?_⟩
        (conv => whnf); repeat ((first | with_reducible refine CondG.tt ?_ | with_reducible refine CondG.ff ?_); conv => whnf)
        refine LoadG.at (v := w) (.tl (.right (.tl (.here (by rw [ei]; exact hw))) _)) ?_
        (conv => whnf); repeat ((first | with_reducible refine CondG.tt ?_ | with_reducible refine CondG.ff ?_); conv => whnf)
        refine .all ?_
        (conv => whnf); repeat ((first | with_reducible refine CondG.tt ?_ | with_reducible refine CondG.ff ?_); conv => whnf)
        refine ⟨by decide, ?_⟩
        (conv => whnf); repeat ((first | with_reducible refine CondG.tt ?_ | with_reducible refine CondG.ff ?_); conv => whnf)
        refine CallG.pure (form_of _ y hy hmy hwy) ?_
        rintro fy _ ⟨hfy, rfl⟩
        (conv => whnf); repeat ((first | with_reducible refine CondG.tt ?_ | with_reducible refine CondG.ff ?_); conv => whnf)
        refine .all ?_
        (conv => whnf); repeat ((first | with_reducible refine CondG.tt ?_ | with_reducible refine CondG.ff ?_); conv => whnf)
        refine ⟨by decide, ?_⟩
        (conv => whnf); repeat ((first | with_reducible refine CondG.tt ?_ | with_reducible refine CondG.ff ?_); conv => whnf)
        refine CallG.pure (texts_spec K hk _ (.right (.right hC _) _) (.right (.right hB _) _) l.length at' fy w y.bytes q (by omega) (by omega) hal (.left (.left (own_rd hfy (by rw [bvs_len, Nat.mul_one])) []) _) (by omega) (bytes_lt hto2) (by
          have h := RdS.right hqr (own 1 fy y.bytes.length (bvs y.bytes) :: own 1 tx ts1.length (fsts ts1) :: (textsL ts1 ++ [own 1 fx x.bytes.length (bvs x.bytes)]))
          simpa [List.append_assoc] using h) hqd hQs) ?_
        rintro ty _ ⟨ts2, hts2, rfl⟩
        (conv => whnf); repeat ((first | with_reducible refine CondG.tt ?_ | with_reducible refine CondG.ff ?_); conv => whnf)
        refine .all ?_
        (conv => whnf); repeat ((first | with_reducible refine CondG.tt ?_ | with_reducible refine CondG.ff ?_); conv => whnf)
        refine ⟨by decide, ?_⟩
        (conv => whnf); repeat ((first | with_reducible refine CondG.tt ?_ | with_reducible refine CondG.ff ?_); conv => whnf)
        refine ⟨rfl, ?_⟩
        (conv => whnf); repeat ((first | with_reducible refine CondG.tt ?_ | with_reducible refine CondG.ff ?_); conv => whnf)
        refine ⟨rfl, ?_⟩
        (conv => whnf); repeat ((first | with_reducible refine CondG.tt ?_ | with_reducible refine CondG.ff ?_); conv => whnf)
        have hl1 := hts1.len
        have hl2 := hts2.len
        rw [walkL_len, List.length_zip, hPs, Nat.min_self] at hl1
        rw [walkL_len, List.length_zip, hQs, Nat.min_self] at hl2
        refine DoesG.ent (Ent.perm List.perm_middle) ?_
        refine app_own partsT 44 (m := ts2.length) (ys := fsts ts2) (.tl (own_rd hts2.lv (by simp [fsts]))) (by simp [fsts]) (fun u hu => by
          obtain ⟨t, ht, rfl⟩ := List.mem_map.1 hu
          exact (hts2.each t ht).one) (by simp only [maxLen]; omega) (by omega) fun v' hv' hvl' _ => ?_
        have hz1 : ∀ z ∈ (sides l.length at').zip P0, DigOk z.2 := fun z hz => hpd _ (List.of_mem_zip (a := z.1) (b := z.2) hz).2
        have hz2 : ∀ z ∈ (sides l.length at').zip q, DigOk z.2 := fun z hz => hqd _ (List.of_mem_zip (a := z.1) (b := z.2) hz).2
        have hb1 : ∀ b ∈ 0 :: x.bytes, b < 256 := fun b hb => by
          rcases List.mem_cons.1 hb with rfl | hb
          · decide
          · exact bytes_lt hto1 b hb
        have hb2 : ∀ b ∈ 0 :: y.bytes, b < 256 := fun b hb => by
          rcases List.mem_cons.1 hb with rfl | hb
          · decide
          · exact bytes_lt hto2 b hb
        (conv => whnf); repeat ((first | with_reducible refine CondG.tt ?_ | with_reducible refine CondG.ff ?_); conv => whnf)
        refine CallG.pure (clash_spec K hk _ (.right hC _) (.right hB _) v' _ (rdT_two (l1 := walkL K (0 :: x.bytes) ((sides l.length at').zip P0)) (l2 := walkL K (0 :: y.bytes) ((sides l.length at').zip q)) (own_rd hv' hvl') hts1.txt hts2.txt (fun j t ht => by
            have h := RdS.right (texts_rd (M := own 1 fx x.bytes.length (bvs x.bytes) :: [cel b78 33 [rp, pv], cel b13 32 y.cells, cel b12 32 x.cells, own 32 rp P0.length (digsC P0), cel b8 25 (bvs root)] ++ F) ht (hts1.each t (List.mem_of_getElem? ht))) (own 1 v' (ts1.length + ts2.length) (fsts ts1 ++ fsts ts2) :: own 1 ty ts2.length (fsts ts2) :: (textsL ts2 ++ [own 1 fy y.bytes.length (bvs y.bytes)]))
            simpa [List.append_assoc] using h) (fun j t ht => by
            have h := RdS.right (texts_rd (M := own 1 fy y.bytes.length (bvs y.bytes) :: (textsL ts1 ++ own 1 fx x.bytes.length (bvs x.bytes) :: [cel b78 33 [rp, pv], cel b13 32 y.cells, cel b12 32 x.cells, own 32 rp P0.length (digsC P0), cel b8 25 (bvs root)] ++ F)) ht (hts2.each t (List.mem_of_getElem? ht))) (own 1 v' (ts1.length + ts2.length) (fsts ts1 ++ fsts ts2) :: own 1 ty ts2.length (fsts ts2) :: [])
            simpa [List.append_assoc] using h)) (by simp only [List.length_append, walkL_len, List.length_zip]; omega) (fun u hu => by
            rcases List.mem_append.1 hu with hu | hu
            · have := walkL_ok K (N := 4096) (by decide) _ _ ⟨by simp; omega, hb1⟩ hz1 u hu
              exact ⟨by omega, this.2⟩
            · have := walkL_ok K (N := 4096) (by decide) _ _ ⟨by simp; omega, hb2⟩ hz2 u hu
              exact ⟨by omega, this.2⟩)
          (one_clash K (by omega) (fun d hd => (hpd d hd).len) (fun d hd => (hqd d hd).len) hcx.2.1 hcx.2.2 hcy.2.1 hcy.2.2 hne)) ?_
        rintro _ _ ⟨rfl, rfl⟩
        (conv => whnf); repeat ((first | with_reducible refine CondG.tt ?_ | with_reducible refine CondG.ff ?_); conv => whnf)
        refine CondG.ff ?_
        (conv => whnf); repeat ((first | with_reducible refine CondG.tt ?_ | with_reducible refine CondG.ff ?_); conv => whnf)
        refine ArithG.i64 (by omega) ?_
        (conv => whnf); repeat ((first | with_reducible refine CondG.tt ?_ | with_reducible refine CondG.ff ?_); conv => whnf)
        refine ⟨2 - (i + 1), _, [cel b78 33 [rp, pv], cel b13 32 y.cells, cel b12 32 x.cells, own 32 rp P0.length (digsC P0), cel b8 25 (bvs root)], by omega, ?_, ?_, i + 1, by omega, rfl, rfl, rfl⟩
        · exact ⟨rfl, rfl, rfl, rfl, rfl, rfl, rfl, rfl, trivial⟩
        · have h := (Ent.perm (List.perm_append_comm (l₁ := own 1 v' (ts1.length + ts2.length) (fsts ts1 ++ fsts ts2) :: own 1 ty ts2.length (fsts ts2) :: (textsL ts2 ++ (own 1 fy y.bytes.length (bvs y.bytes) :: (textsL ts1 ++ [own 1 fx x.bytes.length (bvs x.bytes)])))) (l₂ := [cel b78 33 [rp, pv], cel b13 32 y.cells, cel b12 32 x.cells, own 32 rp P0.length (digsC P0), cel b8 25 (bvs root)]))).trans (Ent.dropL _ _)
          simpa [List.append_assoc] using h
      · (conv => whnf); repeat ((first | with_reducible refine CondG.tt ?_ | with_reducible refine CondG.ff ?_); conv => whnf)
        refine ArithG.i64 (by omega) ?_
        (conv => whnf); repeat ((first | with_reducible refine CondG.tt ?_ | with_reducible refine CondG.ff ?_); conv => whnf)
        refine ⟨2 - (i + 1), _, [cel b78 33 [rp, pv], cel b13 32 y.cells, cel b12 32 x.cells, own 32 rp P0.length (digsC P0), cel b8 25 (bvs root)], by omega, ?_, Ent.refl _, i + 1, by omega, rfl, rfl, rfl⟩
        exact ⟨rfl, rfl, rfl, rfl, rfl, rfl, rfl, rfl, trivial⟩
    · rw [if_neg hcy]
      (conv => whnf); repeat ((first | with_reducible refine CondG.tt ?_ | with_reducible refine CondG.ff ?_); conv => whnf)
      refine CondG.tt ?_
      (conv => whnf); repeat ((first | with_reducible refine CondG.tt ?_ | with_reducible refine CondG.ff ?_); conv => whnf)
      refine CondG.ff ?_
      (conv => whnf); repeat ((first | with_reducible refine CondG.tt ?_ | with_reducible refine CondG.ff ?_); conv => whnf)
      refine CondG.ff ?_
      (conv => whnf); repeat ((first | with_reducible refine CondG.tt ?_ | with_reducible refine CondG.ff ?_); conv => whnf)
      refine ArithG.i64 (by omega) ?_
      (conv => whnf); repeat ((first | with_reducible refine CondG.tt ?_ | with_reducible refine CondG.ff ?_); conv => whnf)
      refine ⟨2 - (i + 1), _, [cel b78 33 [rp, pv], cel b13 32 y.cells, cel b12 32 x.cells, own 32 rp P0.length (digsC P0), cel b8 25 (bvs root)], by omega, ?_, Ent.refl _, i + 1, by omega, rfl, rfl, rfl⟩
      exact ⟨rfl, rfl, rfl, rfl, rfl, rfl, rfl, rfl, trivial⟩
  · (conv => whnf); repeat ((first | with_reducible refine CondG.tt ?_ | with_reducible refine CondG.ff ?_); conv => whnf)
    exact ret_here rfl
end Go.Proofs.YthdpknlnpeaiiaaDoor
