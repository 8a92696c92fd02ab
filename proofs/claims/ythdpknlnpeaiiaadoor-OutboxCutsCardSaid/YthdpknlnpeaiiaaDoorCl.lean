/-
  OutboxCuts: a book that was cut and given leaves again is as one that was given them alone.
-/
import Derived.Test.YthdpknlnpeaiiaaDoorCu
import Derived.Test.YthdpknlnpeaiiaaDoorZKc
namespace Go.Proofs.YthdpknlnpeaiiaaDoor
open Go Go.Sl
theorem known_p (F : List HP) : SpecF Tryd.prog 11 [] F [] (fun v L => v = .bool true ∧ L = []) := (known_spec F).turn fun _ L h => ⟨[], ⟨h, rfl⟩, Ent.nil L⟩
theorem rawsT : ElT Tryd.prog 62 67 26 72 := .of (by kernel_rfl)
theorem take_snoc {rs : List RawD} {i : Nat} (h : i < rs.length) : rawsC (rs.take i) ++ rs[i].cells = rawsC (rs.take (i + 1)) := by
  rw [List.take_succ_eq_append_getElem h, rawsC, rawsC, List.flatMap_append, List.flatMap_singleton]
theorem cuts_spec (K : List W32) (hk : K.length = 64) (F : List HP) (hK : CelN F 4 0 (wvs K)) (vr vm : Value) (rs ms : List RawD) (hrs : ∀ r ∈ rs, r.wf) (hms : ∀ r ∈ ms, r.wf) (hvr : RdS F vr rs.length (rawsC rs)) (hvm : RdS F vm ms.length (rawsC ms))
    (n : Int) (hn1 : -9223372036854775808 ≤ n) (hn2 : n ≤ 9223372036854775807) : SpecF Tryd.prog 5 [vr, .int .i64 n, vm] F [] (fun v _ => v = .bool true) := by
  refine fun5.spec rfl ?_
  (conv => whnf); repeat ((first | with_reducible refine CondG.tt ?_ | with_reducible refine CondG.ff ?_); conv => whnf)
  refine CallG.pure (few_spec _ vr rs hrs hvr) ?_
  rintro lv _ ⟨hl, rfl⟩
  (conv => whnf); repeat ((first | with_reducible refine CondG.tt ?_ | with_reducible refine CondG.ff ?_); conv => whnf)
  refine CallG.pure (few_spec _ vm ms hms hvm) ?_
  rintro mv _ ⟨hm, rfl⟩
  have hll : (fewR rs).length ≤ 200 := by rw [fewR, List.length_take]; omega
  have hml : (fewR ms).length ≤ 200 := by rw [fewR, List.length_take]; omega
  have hlw : ∀ r ∈ fewR rs, r.wf := fun r h => hrs r (List.mem_of_mem_take h)
  have hmw : ∀ r ∈ fewR ms, r.wf := fun r h => hms r (List.mem_of_mem_take h)
  generalize fewR rs = l at *
  generalize fewR ms = m at *
  clear hvr hvm hrs hms
  replace hl : RdS F lv l.length (rawsC l) := hl
  replace hm : RdS F mv m.length (rawsC m) := hm
  (conv => whnf); repeat ((first | with_reducible refine CondG.tt ?_ | with_reducible refine CondG.ff ?_); conv => whnf)
  refine CallG.pure (booked_spec _ lv l hlw (by omega) hl) ?_
  rintro _ _ ⟨b1, rfl, rfl⟩
  (conv => whnf); repeat ((first | with_reducible refine CondG.tt ?_ | with_reducible refine CondG.ff ?_); conv => whnf)
  refine LenG.rd hl ?_
  (conv => whnf); repeat ((first | with_reducible refine CondG.tt ?_ | with_reducible refine CondG.ff ?_); conv => whnf)
  refine ArithG.i64' ((l.length + 1 : Nat) : Int) (by omega) (by omega) ?_
  (conv => whnf); repeat ((first | with_reducible refine CondG.tt ?_ | with_reducible refine CondG.ff ?_); conv => whnf)
  refine CallG.pure (pick_spec _ n (l.length + 1) hn1 hn2 (by omega)) ?_
  rintro _ _ ⟨rfl, rfl⟩
  have hk1 : pickN n (l.length + 1) < l.length + 1 := pickN_lt n (by omega)
  generalize pickN n (l.length + 1) = k at *
  (conv => whnf); repeat ((first | with_reducible refine CondG.tt ?_ | with_reducible refine CondG.ff ?_); conv => whnf)
  refine LoopG.mk (fun mm e L => ∃ i sv, i ≤ k ∧ mm = k - i ∧ SlV sv i ∧ e = [(7, lv), (8, mv), (9, .pointer (some ⟨b1, 0, none⟩)), (10, .int .i64 k), (11, sv), (12, .int .i64 i)] ∧ L = [own 26 sv i (rawsC (l.take i)), bookP 60 b1 (lvs l)]) k
    [(7, lv), (8, mv), (9, .pointer (some ⟨b1, 0, none⟩)), (10, .int .i64 k), (11, .slice none 0 0), (12, .int .i64 0)] [own 26 (.slice none 0 0) 0 [], bookP 60 b1 (lvs l)] ⟨rfl, rfl, rfl, rfl, rfl, rfl, trivial⟩ (fun w G hs => Sat.own_nil hs) ⟨0, .slice none 0 0, by omega, rfl, .inl ⟨rfl, rfl⟩, rfl, rfl⟩ ?_
  rintro mm e L ⟨i, sv, hi, rfl, hsv, rfl, rfl⟩
  (conv => whnf); repeat ((first | with_reducible refine CondG.tt ?_ | with_reducible refine CondG.ff ?_); conv => whnf)
  refine CondG.dec (fun h1 => ?_) (fun h1 => ?_)
  · have hi' : i < l.length := by omega
    have hw := hlw l[i] (List.getElem_mem hi')
    have hwl := RawD.cells_len hw
    (conv => whnf); repeat ((first | with_reducible refine CondG.tt ?_ | with_reducible refine CondG.ff ?_); conv => whnf)
    refine IdxG.rd hl (by omega) fun c o hc => ?_
    (conv => whnf); repeat ((first | with_reducible refine CondG.tt ?_ | with_reducible refine CondG.ff ?_); conv => whnf)
    refine LoadNG.atF (vs := l[i].cells) hwl (hc.part (by rw [hwl, Int.toNat_natCast]; exact rawsC_get hlw hi')) ?_
    (conv => whnf); repeat ((first | with_reducible refine CondG.tt ?_ | with_reducible refine CondG.ff ?_); conv => whnf)
    refine BuildG.of (cs := l[i].cells) (by simp [fillL, Value.cells, hwl]) ?_
    (conv => whnf); repeat ((first | with_reducible refine CondG.tt ?_ | with_reducible refine CondG.ff ?_); conv => whnf)
    intro bb
    (conv => whnf); repeat ((first | with_reducible refine CondG.tt ?_ | with_reducible refine CondG.ff ?_); conv => whnf)
    refine DoesG.ent (Ent.front 1 rfl) ?_
    refine app_own rawsT 62 (m := 1) (ys := l[i].cells) (.mk _ _ _ _ _ (by decide) (.tl (.left .all _))) (by rw [hwl]) (RawD.cells_one _) (by simp only [maxLen]; omega) (by omega) fun sv' hsv' hlen hnil => ?_
    rw [take_snoc hi']
    (conv => whnf); repeat ((first | with_reducible refine CondG.tt ?_ | with_reducible refine CondG.ff ?_); conv => whnf)
    refine ArithG.i64 (by omega) ?_
    (conv => whnf); repeat ((first | with_reducible refine CondG.tt ?_ | with_reducible refine CondG.ff ?_); conv => whnf)
    refine ⟨k - (i + 1), _, [own 26 sv' (i + 1) (rawsC (l.take (i + 1))), bookP 60 b1 (lvs l)], by omega, ?_, Ent.sel (T := []) (A := [_, _, _]) [0, 2] rfl, i + 1, sv', by omega, rfl, hsv', rfl, rfl⟩
    exact ⟨rfl, rfl, rfl, rfl, rfl, rfl, trivial⟩
  obtain rfl : i = k := by omega
  (conv => whnf); repeat ((first | with_reducible refine CondG.tt ?_ | with_reducible refine CondG.ff ?_); conv => whnf)
  refine LoopG.mk (fun mm e L => ∃ j sv, j ≤ m.length ∧ mm = m.length - j ∧ SlV sv (i + j) ∧ e = [(7, lv), (8, mv), (9, .pointer (some ⟨b1, 0, none⟩)), (10, .int .i64 i), (11, sv), (13, .int .i64 j)] ∧ L = [own 26 sv (i + j) (rawsC (l.take i ++ m.take j)), bookP 60 b1 (lvs l)]) m.length
    [(7, lv), (8, mv), (9, .pointer (some ⟨b1, 0, none⟩)), (10, .int .i64 i), (11, sv), (13, .int .i64 0)] _ ⟨rfl, rfl, rfl, rfl, rfl, rfl, trivial⟩ (Ent.refl _) ⟨0, sv, by omega, rfl, hsv, rfl, by simp⟩ ?_
  clear hsv sv
  rintro mm e L ⟨j, sv, hj, rfl, hsv, rfl, rfl⟩
  (conv => whnf); repeat ((first | with_reducible refine CondG.tt ?_ | with_reducible refine CondG.ff ?_); conv => whnf)
  refine LenG.rd hm ?_
  (conv => whnf); repeat ((first | with_reducible refine CondG.tt ?_ | with_reducible refine CondG.ff ?_); conv => whnf)
  refine CondG.dec (fun h2 => ?_) (fun h2 => ?_)
  · have hj' : j < m.length := by omega
    have hw := hmw m[j] (List.getElem_mem hj')
    have hwl := RawD.cells_len hw
    (conv => whnf); repeat ((first | with_reducible refine CondG.tt ?_ | with_reducible refine CondG.ff ?_); conv => whnf)
    refine IdxG.rd hm (by omega) fun c o hc => ?_
    (conv => whnf); repeat ((first | with_reducible refine CondG.tt ?_ | with_reducible refine CondG.ff ?_); conv => whnf)
    refine LoadNG.atF (vs := m[j].cells) hwl (hc.part (by rw [hwl, Int.toNat_natCast]; exact rawsC_get hmw hj')) ?_
    (conv => whnf); repeat ((first | with_reducible refine CondG.tt ?_ | with_reducible refine CondG.ff ?_); conv => whnf)
    refine BuildG.of (cs := m[j].cells) (by simp [fillL, Value.cells, hwl]) ?_
    (conv => whnf); repeat ((first | with_reducible refine CondG.tt ?_ | with_reducible refine CondG.ff ?_); conv => whnf)
    intro bb
    (conv => whnf); repeat ((first | with_reducible refine CondG.tt ?_ | with_reducible refine CondG.ff ?_); conv => whnf)
    refine DoesG.ent (Ent.front 1 rfl) ?_
    refine app_own rawsT 62 (m := 1) (ys := m[j].cells) (.mk _ _ _ _ _ (by decide) (.tl (.left .all _))) (by rw [hwl]) (RawD.cells_one _) (by simp only [maxLen]; omega) (by omega) fun sv' hsv' hlen hnil => ?_
    have ec : rawsC (l.take i ++ m.take j) ++ m[j].cells = rawsC (l.take i ++ m.take (j + 1)) := by
      rw [List.take_succ_eq_append_getElem hj', ← List.append_assoc, rawsC, rawsC, List.flatMap_append (ys := [m[j]]), List.flatMap_singleton]
    rw [ec]
    (conv => whnf); repeat ((first | with_reducible refine CondG.tt ?_ | with_reducible refine CondG.ff ?_); conv => whnf)
    refine ArithG.i64 (by omega) ?_
    (conv => whnf); repeat ((first | with_reducible refine CondG.tt ?_ | with_reducible refine CondG.ff ?_); conv => whnf)
    refine ⟨m.length - (j + 1), _, [own 26 sv' (i + (j + 1)) (rawsC (l.take i ++ m.take (j + 1))), bookP 60 b1 (lvs l)], by omega, ?_, Ent.sel (T := []) (A := [_, _, _]) [0, 2] rfl, j + 1, sv', by omega, rfl, hsv', rfl, rfl⟩
    exact ⟨rfl, rfl, rfl, rfl, rfl, rfl, trivial⟩
  obtain rfl : j = m.length := by omega
  rw [List.take_length] at *
  have hw0 : ∀ r ∈ l.take i ++ m, r.wf := fun r h => by
    rcases List.mem_append.1 h with h | h
    · exact hlw r (List.mem_of_mem_take h)
    · exact hmw r h
  have hlen0 : (l.take i ++ m).length = i + m.length := by rw [List.length_append, List.length_take]; omega
  have hrd : RdS (own 26 sv (i + m.length) (rawsC (l.take i ++ m)) :: ([bookP 60 b1 (lvs l)] ++ F)) sv (l.take i ++ m).length (rawsC (l.take i ++ m)) := by
    rw [hlen0]
    exact own_rd hsv (by rw [rawsC_len hw0, hlen0])
  (conv => whnf); repeat ((first | with_reducible refine CondG.tt ?_ | with_reducible refine CondG.ff ?_); conv => whnf)
  refine CallG.pure (booked_spec _ sv (l.take i ++ m) hw0 (by omega) hrd) ?_
  rintro _ _ ⟨b2, rfl, rfl⟩
  (conv => whnf); repeat ((first | with_reducible refine CondG.tt ?_ | with_reducible refine CondG.ff ?_); conv => whnf)
  refine CallG.pure (known_p _) ?_
  rintro _ _ ⟨rfl, rfl⟩
  (conv => whnf); repeat ((first | with_reducible refine CondG.tt ?_ | with_reducible refine CondG.ff ?_); conv => whnf)
  refine CondG.ff ?_
  (conv => whnf); repeat ((first | with_reducible refine CondG.tt ?_ | with_reducible refine CondG.ff ?_); conv => whnf)
  refine LenG.rd hl ?_
  (conv => whnf); repeat ((first | with_reducible refine CondG.tt ?_ | with_reducible refine CondG.ff ?_); conv => whnf)
  refine ArithG.i64' ((l.length + 1 : Nat) : Int) (by omega) (by omega) ?_
  (conv => whnf); repeat ((first | with_reducible refine CondG.tt ?_ | with_reducible refine CondG.ff ?_); conv => whnf)
  have hll2 := lvs_len l
  refine CallG.of (rest := [bookP 60 b2 (lvs (l.take i ++ m)), own 26 sv (i + m.length) (rawsC (l.take i ++ m))]) (bcut_no _ b1 ((l.length + 1 : Nat) : Int) (lvs l) (.inr (by rw [hll2]; omega))) (Ent.sel (T := []) (A := [_, _, _]) [2, 0, 1] rfl) ?_
  rintro _ _ ⟨rfl, rfl⟩
  (conv => whnf); repeat ((first | with_reducible refine CondG.tt ?_ | with_reducible refine CondG.ff ?_); conv => whnf)
  refine CondG.ff ?_
  (conv => whnf); repeat ((first | with_reducible refine CondG.tt ?_ | with_reducible refine CondG.ff ?_); conv => whnf)
  refine CallG.of (rest := [bookP 60 b2 (lvs (l.take i ++ m)), own 26 sv (i + m.length) (rawsC (l.take i ++ m))]) (bcut_no _ b1 (-1) (lvs l) (.inl (by decide))) (Ent.refl _) ?_
  rintro _ _ ⟨rfl, rfl⟩
  (conv => whnf); repeat ((first | with_reducible refine CondG.tt ?_ | with_reducible refine CondG.ff ?_); conv => whnf)
  refine CondG.ff ?_
  (conv => whnf); repeat ((first | with_reducible refine CondG.tt ?_ | with_reducible refine CondG.ff ?_); conv => whnf)
  refine CallG.of (rest := [bookP 60 b2 (lvs (l.take i ++ m)), own 26 sv (i + m.length) (rawsC (l.take i ++ m))]) (bcutP _ b1 i (lvs l) (by omega) (by omega)) (Ent.refl _) ?_
  rintro _ _ ⟨rfl, rfl⟩
  rw [lvs_take]
  (conv => whnf); repeat ((first | with_reducible refine CondG.tt ?_ | with_reducible refine CondG.ff ?_); conv => whnf)
  refine CondG.ff ?_
  (conv => whnf); repeat ((first | with_reducible refine CondG.tt ?_ | with_reducible refine CondG.ff ?_); conv => whnf)
  have hll3 := lvs_len (l.take i)
  rw [List.length_take, Nat.min_eq_left (by omega)] at hll3
  refine CallG.of (rest := [bookP 60 b2 (lvs (l.take i ++ m)), own 26 sv (i + m.length) (rawsC (l.take i ++ m))]) (lenP _ b1 (lvs (l.take i))) (Ent.refl _) ?_
  rintro _ _ ⟨rfl, rfl⟩
  rw [hll3]
  (conv => whnf); repeat ((first | with_reducible refine CondG.tt ?_ | with_reducible refine CondG.ff ?_); conv => whnf)
  refine CondG.ndec (fun h => absurd rfl h) (fun _ => ?_)
  (conv => whnf); repeat ((first | with_reducible refine CondG.tt ?_ | with_reducible refine CondG.ff ?_); conv => whnf)
  refine LoopG.mk (fun mm e L => ∃ j, j ≤ m.length ∧ mm = m.length - j ∧ e = [(8, mv), (9, .pointer (some ⟨b1, 0, none⟩)), (10, .int .i64 i), (11, sv), (14, .pointer (some ⟨b2, 0, none⟩)), (15, .int .i64 j)] ∧
      L = [bookP 60 b1 (lvs (l.take i ++ m.take j)), bookP 60 b2 (lvs (l.take i ++ m)), own 26 sv (i + m.length) (rawsC (l.take i ++ m))]) m.length
    [(8, mv), (9, .pointer (some ⟨b1, 0, none⟩)), (10, .int .i64 i), (11, sv), (14, .pointer (some ⟨b2, 0, none⟩)), (15, .int .i64 0)] _ ⟨rfl, rfl, rfl, rfl, rfl, rfl, trivial⟩ (Ent.refl _) ⟨0, by omega, rfl, rfl, by simp⟩ ?_
  rintro mm e L ⟨j, hj, rfl, rfl, rfl⟩
  (conv => whnf); repeat ((first | with_reducible refine CondG.tt ?_ | with_reducible refine CondG.ff ?_); conv => whnf)
  refine LenG.rd hm ?_
  (conv => whnf); repeat ((first | with_reducible refine CondG.tt ?_ | with_reducible refine CondG.ff ?_); conv => whnf)
  refine CondG.dec (fun h3 => ?_) (fun h3 => ?_)
  · have hj' : j < m.length := by omega
    have hw := hmw m[j] (List.getElem_mem hj')
    have hwl := RawD.cells_len hw
    (conv => whnf); repeat ((first | with_reducible refine CondG.tt ?_ | with_reducible refine CondG.ff ?_); conv => whnf)
    refine IdxG.rd hm (by omega) fun c o hc => ?_
    (conv => whnf); repeat ((first | with_reducible refine CondG.tt ?_ | with_reducible refine CondG.ff ?_); conv => whnf)
    refine LoadNG.atF (vs := m[j].cells) hwl (hc.part (by rw [hwl, Int.toNat_natCast]; exact rawsC_get hmw hj')) ?_
    (conv => whnf); repeat ((first | with_reducible refine CondG.tt ?_ | with_reducible refine CondG.ff ?_); conv => whnf)
    refine ArithG.i64' ((i + j : Nat) : Int) (by omega) (by omega) ?_
    (conv => whnf); repeat ((first | with_reducible refine CondG.tt ?_ | with_reducible refine CondG.ff ?_); conv => whnf)
    refine CallG.pure (leaf_spec _ m[j] hw (i + j)) ?_
    rintro _ _ ⟨rfl, rfl⟩
    (conv => whnf); repeat ((first | with_reducible refine CondG.tt ?_ | with_reducible refine CondG.ff ?_); conv => whnf)
    have hlj : (l.take i ++ m.take j).length = i + j := by rw [List.length_append, List.length_take, List.length_take]; omega
    have hlj2 := lvs_len (l.take i ++ m.take j)
    refine CallG.of (rest := [bookP 60 b2 (lvs (l.take i ++ m)), own 26 sv (i + m.length) (rawsC (l.take i ++ m))]) (putP _ b1 (leafD m[j] (i + j)) (leafD_wf hw _) (leafD_may (by omega)) (lvs (l.take i ++ m.take j)) (by rw [hlj2, hlj]; rfl) (by omega)) (Ent.refl _) ?_
    rintro _ _ ⟨rfl, rfl⟩
    have ep : lvs (l.take i ++ m.take j) ++ [leafD m[j] (i + j)] = lvs (l.take i ++ m.take (j + 1)) := by
      rw [List.take_succ_eq_append_getElem hj', ← List.append_assoc, lvs_app, hlj]
    rw [ep]
    (conv => whnf); repeat ((first | with_reducible refine CondG.tt ?_ | with_reducible refine CondG.ff ?_); conv => whnf)
    refine CondG.ff ?_
    (conv => whnf); repeat ((first | with_reducible refine CondG.tt ?_ | with_reducible refine CondG.ff ?_); conv => whnf)
    refine ArithG.i64 (by omega) ?_
    (conv => whnf); repeat ((first | with_reducible refine CondG.tt ?_ | with_reducible refine CondG.ff ?_); conv => whnf)
    refine ⟨m.length - (j + 1), _, _, by omega, ?_, Ent.refl _, j + 1, by omega, rfl, rfl, rfl⟩
    exact ⟨rfl, rfl, rfl, rfl, rfl, rfl, trivial⟩
  obtain rfl : j = m.length := by omega
  rw [List.take_length] at *
  generalize hz : l.take i ++ m = z at *
  have hzl : z.length = i + m.length := hlen0
  have hz4 : z.length ≤ 400 := by omega
  rw [← hzl] at hsv ⊢
  have hvl := lvs_len z
  have hvt := lvs_to hw0
  have hbl : (bytesL (lvs z)).length = z.length := by simp [bytesL, hvl]
  (conv => whnf); repeat ((first | with_reducible refine CondG.tt ?_ | with_reducible refine CondG.ff ?_); conv => whnf)
  refine LoopG.mk (fun mm e L => ∃ j, j ≤ z.length + 1 ∧ mm = z.length + 1 - j ∧ e = [(9, .pointer (some ⟨b1, 0, none⟩)), (11, sv), (14, .pointer (some ⟨b2, 0, none⟩)), (16, .int .i64 j)] ∧
      L = [bookP 60 b1 (lvs z), bookP 60 b2 (lvs z), own 26 sv z.length (rawsC z)]) (z.length + 1)
    [(9, .pointer (some ⟨b1, 0, none⟩)), (11, sv), (14, .pointer (some ⟨b2, 0, none⟩)), (16, .int .i64 0)] _ ⟨rfl, rfl, rfl, rfl, trivial⟩ (Ent.refl _) ⟨0, by omega, rfl, rfl, rfl⟩ ?_
  rintro mm e L ⟨j, hj, rfl, rfl, rfl⟩
  (conv => whnf); repeat ((first | with_reducible refine CondG.tt ?_ | with_reducible refine CondG.ff ?_); conv => whnf)
  refine LenG.sl hsv ?_
  (conv => whnf); repeat ((first | with_reducible refine CondG.tt ?_ | with_reducible refine CondG.ff ?_); conv => whnf)
  refine CondG.dec (fun h4 => ?_) (fun h4 => ?_)
  · have hj' : j ≤ z.length := by omega
    (conv => whnf); repeat ((first | with_reducible refine CondG.tt ?_ | with_reducible refine CondG.ff ?_); conv => whnf)
    refine CallG.of (rest := [bookP 60 b2 (lvs z), own 26 sv z.length (rawsC z)]) (brootP K hk _ (.right hK _) b1 j (lvs z) (by omega) (by omega) hvt) (Ent.refl _) ?_
    rintro _ _ ⟨rfl, rfl⟩
    have hd := rootD_len K ((bytesL (lvs z)).take j)
    (conv => whnf); repeat ((first | with_reducible refine CondG.tt ?_ | with_reducible refine CondG.ff ?_); conv => whnf)
    intro b17
    (conv => whnf); repeat ((first | with_reducible refine CondG.tt ?_ | with_reducible refine CondG.ff ?_); conv => whnf)
    refine StoreG.at (by rw [bvs_len, hd]) (Upd.whole (by rw [bvs_len, hd]; rfl) (bvs_one _)) ?_
    (conv => whnf); repeat ((first | with_reducible refine CondG.tt ?_ | with_reducible refine CondG.ff ?_); conv => whnf)
    refine CallG.of (rest := [cel b17 25 (bvs (rootD K ((bytesL (lvs z)).take j))), bookP 60 b1 (lvs z), own 26 sv z.length (rawsC z)]) (brootP K hk _ (.right hK _) b2 j (lvs z) (by omega) (by omega) hvt) (Ent.sel (T := []) (A := [_, _, _, _]) [2, 0, 1, 3] rfl) ?_
    rintro _ _ ⟨rfl, rfl⟩
    (conv => whnf); repeat ((first | with_reducible refine CondG.tt ?_ | with_reducible refine CondG.ff ?_); conv => whnf)
    intro b19
    (conv => whnf); repeat ((first | with_reducible refine CondG.tt ?_ | with_reducible refine CondG.ff ?_); conv => whnf)
    refine StoreG.at (by rw [bvs_len, hd]) (Upd.whole (by rw [bvs_len, hd]; rfl) (bvs_one _)) ?_
    (conv => whnf); repeat ((first | with_reducible refine CondG.tt ?_ | with_reducible refine CondG.ff ?_); conv => whnf)
    refine CondG.ff ?_
    (conv => whnf); repeat ((first | with_reducible refine CondG.tt ?_ | with_reducible refine CondG.ff ?_); conv => whnf)
    refine CondG.ff ?_
    (conv => whnf); repeat ((first | with_reducible refine CondG.tt ?_ | with_reducible refine CondG.ff ?_); conv => whnf)
    refine LoadNG.at (vs := bvs (rootD K ((bytesL (lvs z)).take j))) (by rw [bvs_len, hd]) (.tl (.tl .all)) ?_
    (conv => whnf); repeat ((first | with_reducible refine CondG.tt ?_ | with_reducible refine CondG.ff ?_); conv => whnf)
    refine LoadNG.at (vs := bvs (rootD K ((bytesL (lvs z)).take j))) (by rw [bvs_len, hd]) .all ?_
    (conv => whnf); repeat ((first | with_reducible refine CondG.tt ?_ | with_reducible refine CondG.ff ?_); conv => whnf)
    refine DoesG.eqv 8 (List.replicate 32 (.int .u8)) (by kernel_rfl) (by decide) (by kernel_rfl) (by kernel_rfl) (wt_bvs hd) (wt_bvs hd) ?_
    (conv => whnf); repeat ((first | with_reducible refine CondG.tt ?_ | with_reducible refine CondG.ff ?_); conv => whnf)
    refine CondG.split (fun h => absurd h (by simp)) (fun _ => ?_)
    (conv => whnf); repeat ((first | with_reducible refine CondG.tt ?_ | with_reducible refine CondG.ff ?_); conv => whnf)
    refine LenG.sl hsv ?_
    (conv => whnf); repeat ((first | with_reducible refine CondG.tt ?_ | with_reducible refine CondG.ff ?_); conv => whnf)
    refine CondG.dec (fun h5 => ?_) (fun h5 => ?_)
    · have hj2 : j < z.length := by omega
      have hj3 : j < (lvs z).length := by omega
      have hwx := lvs_wf hw0 (lvs z)[j] (List.getElem_mem hj3)
      have hwxl := LeafD.cells_len hwx
      (conv => whnf); repeat ((first | with_reducible refine CondG.tt ?_ | with_reducible refine CondG.ff ?_); conv => whnf)
      refine CallG.of (rest := [cel b19 25 (bvs (rootD K ((bytesL (lvs z)).take j))), bookP 60 b2 (lvs z), cel b17 25 (bvs (rootD K ((bytesL (lvs z)).take j))), own 26 sv z.length (rawsC z)]) (bleafP _ b1 j (lvs z) hj3) (Ent.sel (T := []) (A := [_, _, _, _, _]) [3, 0, 1, 2, 4] rfl) ?_
      rintro _ _ ⟨rfl, rfl⟩
      (conv => whnf); repeat ((first | with_reducible refine CondG.tt ?_ | with_reducible refine CondG.ff ?_); conv => whnf)
      intro b21
      (conv => whnf); repeat ((first | with_reducible refine CondG.tt ?_ | with_reducible refine CondG.ff ?_); conv => whnf)
      refine StoreG.at hwxl (Upd.whole (by rw [hwxl]; rfl) (LeafD.cells_one _)) ?_
      (conv => whnf); repeat ((first | with_reducible refine CondG.tt ?_ | with_reducible refine CondG.ff ?_); conv => whnf)
      refine CallG.of (rest := [cel b21 32 (lvs z)[j].cells, bookP 60 b1 (lvs z), cel b19 25 (bvs (rootD K ((bytesL (lvs z)).take j))), cel b17 25 (bvs (rootD K ((bytesL (lvs z)).take j))), own 26 sv z.length (rawsC z)]) (bleafP _ b2 j (lvs z) hj3) (Ent.sel (T := []) (A := [_, _, _, _, _, _]) [3, 0, 1, 2, 4, 5] rfl) ?_
      rintro _ _ ⟨rfl, rfl⟩
      (conv => whnf); repeat ((first | with_reducible refine CondG.tt ?_ | with_reducible refine CondG.ff ?_); conv => whnf)
      intro b23
      (conv => whnf); repeat ((first | with_reducible refine CondG.tt ?_ | with_reducible refine CondG.ff ?_); conv => whnf)
      refine StoreG.at hwxl (Upd.whole (by rw [hwxl]; rfl) (LeafD.cells_one _)) ?_
      (conv => whnf); repeat ((first | with_reducible refine CondG.tt ?_ | with_reducible refine CondG.ff ?_); conv => whnf)
      refine LenG.sl hsv ?_
      (conv => whnf); repeat ((first | with_reducible refine CondG.tt ?_ | with_reducible refine CondG.ff ?_); conv => whnf)
      refine CallG.of (rest := [cel b23 32 (lvs z)[j].cells, bookP 60 b2 (lvs z), cel b21 32 (lvs z)[j].cells, own 26 sv z.length (rawsC z)]) (bpathP K hk _ (.right hK _) b1 j z.length (lvs z) hj2 (by omega) (by omega) hvt) (Ent.sel (T := []) (A := [_, _, _, _, _, _, _]) [3, 0, 1, 2, 6] rfl) ?_
      rintro _ _ ⟨p1, hp1, rfl, rfl⟩
      have et : (bytesL (lvs z)).take z.length = bytesL (lvs z) := List.take_of_length_le (by omega)
      rw [et] at hp1 ⊢
      have hdo : digsOk (pathD K (bytesL (lvs z)) j) := pathD_each K _ _ _ (Nat.le_refl _)
      have hdl := digs_len hdo
      (conv => whnf); repeat ((first | with_reducible refine CondG.tt ?_ | with_reducible refine CondG.ff ?_); conv => whnf)
      refine LenG.sl hsv ?_
      (conv => whnf); repeat ((first | with_reducible refine CondG.tt ?_ | with_reducible refine CondG.ff ?_); conv => whnf)
      refine CallG.of (rest := [own 32 p1 (pathD K (bytesL (lvs z)) j).length (digsC (pathD K (bytesL (lvs z)) j)), bookP 60 b1 (lvs z), cel b23 32 (lvs z)[j].cells, cel b21 32 (lvs z)[j].cells, own 26 sv z.length (rawsC z)]) (bpathP K hk _ (.right hK _) b2 j z.length (lvs z) hj2 (by omega) (by omega) hvt) (Ent.sel (T := []) (A := [_, _, _, _, _, _]) [3, 0, 1, 2, 4, 5] rfl) ?_
      rintro _ _ ⟨p2, hp2, rfl, rfl⟩
      rw [et] at hp2 ⊢
      (conv => whnf); repeat ((first | with_reducible refine CondG.tt ?_ | with_reducible refine CondG.ff ?_); conv => whnf)
      refine CondG.ff ?_
      (conv => whnf); repeat ((first | with_reducible refine CondG.tt ?_ | with_reducible refine CondG.ff ?_); conv => whnf)
      refine CondG.ff ?_
      (conv => whnf); repeat ((first | with_reducible refine CondG.tt ?_ | with_reducible refine CondG.ff ?_); conv => whnf)
      refine CondG.ff ?_
      (conv => whnf); repeat ((first | with_reducible refine CondG.tt ?_ | with_reducible refine CondG.ff ?_); conv => whnf)
      refine CondG.ff ?_
      (conv => whnf); repeat ((first | with_reducible refine CondG.tt ?_ | with_reducible refine CondG.ff ?_); conv => whnf)
      refine LoadNG.at (vs := (lvs z)[j].cells) hwxl (.tl (.tl (.tl (.tl (.tl .all))))) ?_
      (conv => whnf); repeat ((first | with_reducible refine CondG.tt ?_ | with_reducible refine CondG.ff ?_); conv => whnf)
      refine LoadNG.at (vs := (lvs z)[j].cells) hwxl (.tl (.tl (.tl (.tl .all)))) ?_
      (conv => whnf); repeat ((first | with_reducible refine CondG.tt ?_ | with_reducible refine CondG.ff ?_); conv => whnf)
      refine DoesG.eqv 8 leafK (by kernel_rfl) (by decide) (by kernel_rfl) (by kernel_rfl) (LeafD.wt hwx) (LeafD.wt hwx) ?_
      (conv => whnf); repeat ((first | with_reducible refine CondG.tt ?_ | with_reducible refine CondG.ff ?_); conv => whnf)
      refine CondG.split (fun h => absurd h (by simp)) (fun _ => ?_)
      (conv => whnf); repeat ((first | with_reducible refine CondG.tt ?_ | with_reducible refine CondG.ff ?_); conv => whnf)
      refine CallG.pure (samePath_spec _ p1 p2 _ _ (.left (.tl (.tl (own_rd hp1 hdl))) F) (.left (own_rd hp2 hdl) F) hdo hdo (by have := pathD_len K _ (bytesL (lvs z)) j (Nat.le_refl _); omega)) ?_
      rintro _ _ ⟨rfl, rfl⟩
      (conv => whnf); repeat ((first | with_reducible refine CondG.tt ?_ | with_reducible refine CondG.ff ?_); conv => whnf)
      refine CondG.split (fun h => absurd h (by simp)) (fun _ => ?_)
      (conv => whnf); repeat ((first | with_reducible refine CondG.tt ?_ | with_reducible refine CondG.ff ?_); conv => whnf)
      refine ArithG.i64 (by omega) ?_
      (conv => whnf); repeat ((first | with_reducible refine CondG.tt ?_ | with_reducible refine CondG.ff ?_); conv => whnf)
      refine ⟨z.length + 1 - (j + 1), _, [bookP 60 b1 (lvs z), bookP 60 b2 (lvs z), own 26 sv z.length (rawsC z)], by omega, ?_, Ent.sel (T := []) (A := [_, _, _, _, _, _, _]) [3, 1, 6] rfl, j + 1, by omega, rfl, rfl, rfl⟩
      exact ⟨rfl, rfl, rfl, rfl, trivial⟩
    · (conv => whnf); repeat ((first | with_reducible refine CondG.tt ?_ | with_reducible refine CondG.ff ?_); conv => whnf)
      refine ArithG.i64 (by omega) ?_
      (conv => whnf); repeat ((first | with_reducible refine CondG.tt ?_ | with_reducible refine CondG.ff ?_); conv => whnf)
      refine ⟨z.length + 1 - (j + 1), _, [bookP 60 b1 (lvs z), bookP 60 b2 (lvs z), own 26 sv z.length (rawsC z)], by omega, ?_, Ent.sel (T := []) (A := [_, _, _, _, _]) [3, 1, 4] rfl, j + 1, by omega, rfl, rfl, rfl⟩
      exact ⟨rfl, rfl, rfl, rfl, trivial⟩
  (conv => whnf); repeat ((first | with_reducible refine CondG.tt ?_ | with_reducible refine CondG.ff ?_); conv => whnf)
  refine CallG.of (rest := [bookP 60 b2 (lvs z), own 26 sv z.length (rawsC z)]) (lenP _ b1 (lvs z)) (Ent.refl _) ?_
  rintro _ _ ⟨rfl, rfl⟩
  (conv => whnf); repeat ((first | with_reducible refine CondG.tt ?_ | with_reducible refine CondG.ff ?_); conv => whnf)
  refine LenG.sl hsv ?_
  (conv => whnf); repeat ((first | with_reducible refine CondG.tt ?_ | with_reducible refine CondG.ff ?_); conv => whnf)
  exact ret_here (by rw [hvl]; simp [retV])
end Go.Proofs.YthdpknlnpeaiiaaDoor
