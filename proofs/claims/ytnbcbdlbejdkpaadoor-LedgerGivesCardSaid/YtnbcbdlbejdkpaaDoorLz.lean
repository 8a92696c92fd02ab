/-
  A ledger's minting, burning, moving, allowing, pulling: contracts out of the resolved texts.
-/
import Derived.Test.YtnbcbdlbejdkpaaDoorLt
namespace Go.Proofs.YtnbcbdlbejdkpaaDoor
open Go Go.Sl
section
variable {find : ByteArray → List Nat × Int}
theorem set_sup {d : TokD} {ws : List Nat} (h : d.sup.length = 4) (hw : ws.length = 4) : d.cells.take 2 ++ uvs ws ++ d.cells.drop (2 + (uvs ws).length) = ({ d with sup := ws } : TokD).cells := by
  have e : d.cells = [.bool d.there, .bool d.paused] ++ (uvs d.sup ++ []) := by simp [TokD.cells]
  have h2 := splice (A := [.bool d.there, .bool d.paused]) (B := uvs d.sup) (B' := uvs ws) (C := []) (o := 2) (n := (uvs ws).length) rfl (by rw [uvs_len, uvs_len, h, hw])
  rw [e, h2]
  simp [TokD.cells]
theorem addR_ok {a b : List Nat} : (addR a b).1.length = 4 := by
  unfold addR
  split
  · rfl
  · rfl
theorem subR_ok {a b : List Nat} : (subR a b).1.length = 4 := by
  unfold subR
  split
  · rfl
  · rfl
theorem addL_ok (a b : List Nat) : wOk (addL a b) := w4_ok _
theorem subL_ok (a b : List Nat) : wOk (subL a b) := w4_ok _
theorem addR_no {a b : List Nat} (h : m256 ≤ nat4 a + nat4 b) : addR a b = (z4, 22) := by rw [addR, if_pos h]
theorem addR_yes {a b : List Nat} (h : ¬ m256 ≤ nat4 a + nat4 b) : addR a b = (addL a b, 0) := by rw [addR, if_neg h]
theorem subR_no {a b : List Nat} (h : nat4 a < nat4 b) : subR a b = (z4, 23) := by rw [subR, if_pos h]
theorem subR_yes {a b : List Nat} (h : ¬ nat4 a < nat4 b) : subR a b = (subL a b, 0) := by rw [subR, if_neg h]
theorem mint_at (F : List HP) (s : Nat) (src : Value) (V : View) (n : Nat) (t : Int) (to a : List Nat) (hto : to.length = 20) (ha : wOk a) (hs : SrcG Tryd.prog F src find) (ho : SrcOk find) (hn : n + 1 ≤ 1099511627776) :
    SpecF Tryd.prog 13 [.pointer (some ⟨s, 0, none⟩), .int .i64 t, .agg ⟨bvs to⟩, .agg ⟨uvs a⟩] F [stP 127 s src find V n] (fun r L => r = .int .i64 (mintL V t to a).1 ∧ L = [stP 127 s src find (mintL V t to a).2 (n + 2)]) := by
  have hok := runL_ok V t
  have hl1 : (runL V t).1.cells.length = 6 := TokD.cells_len hok.len
  have hal : (uvs a).length = 4 := by rw [uvs_len, ha.len]
  refine fun13.spec rfl ?_
  (conv => whnf); repeat ((first | with_reducible refine CondG.tt ?_ | with_reducible refine CondG.ff ?_); conv => whnf)
  intro b6
  (conv => whnf); repeat ((first | with_reducible refine CondG.tt ?_ | with_reducible refine CondG.ff ?_); conv => whnf)
  intro b7
  (conv => whnf); repeat ((first | with_reducible refine CondG.tt ?_ | with_reducible refine CondG.ff ?_); conv => whnf)
  refine CallG.of (pre := [stP 127 s src find V n]) (rest := [cel b7 25 (uvs a), cel b6 33 (bvs to)]) (running_at _ s src V n t (hs.left _) ho) (Ent.sel (T := []) (A := [_, _, _]) [2, 0, 1] rfl) ?_
  rintro _ _ ⟨rfl, rfl⟩
  (conv => whnf); repeat ((first | with_reducible refine CondG.tt ?_ | with_reducible refine CondG.ff ?_); conv => whnf)
  intro b9
  (conv => whnf); repeat ((first | with_reducible refine CondG.tt ?_ | with_reducible refine CondG.ff ?_); conv => whnf)
  refine StoreG.at hl1 (Upd.whole (by rw [hl1]; rfl) (TokD.cells_one _)) ?_
  (conv => whnf); repeat ((first | with_reducible refine CondG.tt ?_ | with_reducible refine CondG.ff ?_); conv => whnf)
  refine CondG.ndec (fun h1 => ?_) (fun h1 => ?_)
  · (conv => whnf); repeat ((first | with_reducible refine CondG.tt ?_ | with_reducible refine CondG.ff ?_); conv => whnf)
    refine ⟨_, (Ent.sel (T := []) (A := [_, _, _, _]) [1] rfl).trans (stP_more (m := n + 2) (by omega)), ?_, ?_⟩
    · rw [mintL, if_pos h1]; rfl
    · rw [mintL, if_pos h1]; rfl
  obtain ⟨m, rfl, hm⟩ := runL_nat h1
  have h1' : ¬ (runL V m).2 ≠ 0 := by rw [show (runL V m).2 = 0 from h1]; decide
  have hsl : (uvs (runL V m).1.sup).length = 4 := by rw [uvs_len, hok.len]
  (conv => whnf); repeat ((first | with_reducible refine CondG.tt ?_ | with_reducible refine CondG.ff ?_); conv => whnf)
  refine LoadNG.at (vs := uvs (runL V m).1.sup) hsl (.here (sup_at _)) ?_
  (conv => whnf); repeat ((first | with_reducible refine CondG.tt ?_ | with_reducible refine CondG.ff ?_); conv => whnf)
  refine LoadNG.at (vs := uvs a) hal (.tl (.tl .all)) ?_
  (conv => whnf); repeat ((first | with_reducible refine CondG.tt ?_ | with_reducible refine CondG.ff ?_); conv => whnf)
  refine CallG.pure (add_spec _ _ a hok ha) ?_
  rintro _ _ ⟨rfl, rfl⟩
  have hA : (uvs (addR (runL V m).1.sup a).1).length = 4 := by rw [uvs_len, addR_ok]
  (conv => whnf); repeat ((first | with_reducible refine CondG.tt ?_ | with_reducible refine CondG.ff ?_); conv => whnf)
  refine StoreG.at hA (Upd.hereN (by rw [hA, hl1]; decide) (uvs_one _) (set_sup hok.len addR_ok)) ?_
  (conv => whnf); repeat ((first | with_reducible refine CondG.tt ?_ | with_reducible refine CondG.ff ?_); conv => whnf)
  by_cases h2 : m256 ≤ nat4 (runL V m).1.sup + nat4 a
  · rw [addR_no h2]
    refine CondG.tt ?_
    (conv => whnf); repeat ((first | with_reducible refine CondG.tt ?_ | with_reducible refine CondG.ff ?_); conv => whnf)
    refine ⟨_, (Ent.sel (T := []) (A := [_, _, _, _]) [1] rfl).trans (stP_more (m := n + 2) (by omega)), ?_, ?_⟩
    · rw [mintL, if_neg h1', if_pos h2]; rfl
    · rw [mintL, if_neg h1', if_pos h2]; rfl
  rw [addR_yes h2]
  have hl2 : ({ (runL V m).1 with sup := addL (runL V m).1.sup a } : TokD).cells.length = 6 := TokD.cells_len rfl
  refine CondG.ff ?_
  (conv => whnf); repeat ((first | with_reducible refine CondG.tt ?_ | with_reducible refine CondG.ff ?_); conv => whnf)
  refine LoadNG.at (vs := bvs to) (by rw [bvs_len, hto]) (.tl (.tl (.tl .all))) ?_
  (conv => whnf); repeat ((first | with_reducible refine CondG.tt ?_ | with_reducible refine CondG.ff ?_); conv => whnf)
  refine CallG.pure (balanceKey_spec _ m hm to hto) ?_
  rintro _ _ ⟨rfl, rfl⟩
  (conv => whnf); repeat ((first | with_reducible refine CondG.tt ?_ | with_reducible refine CondG.ff ?_); conv => whnf)
  refine CallG.of (pre := [stP 127 s src find V n]) (rest := [cel b9 44 ({ (runL V m).1 with sup := addL (runL V m).1.sup a } : TokD).cells, cel b7 25 (uvs a), cel b6 33 (bvs to)]) (amount_spec _ s src V n (balKey m to) (hs.left _) ho (may_bal hto 0 (by decide))) (Ent.sel (T := []) (A := [_, _, _, _]) [1, 0, 2, 3] rfl) ?_
  rintro _ _ ⟨rfl, rfl⟩
  have hbk := amtR_ok (V (balKey m to))
  have hbl : (uvs (amtR (V (balKey m to))).1).length = 4 := by rw [uvs_len, hbk.len]
  have em : ((m : Nat) : Int).toNat = m := Int.toNat_natCast m
  (conv => whnf); repeat ((first | with_reducible refine CondG.tt ?_ | with_reducible refine CondG.ff ?_); conv => whnf)
  intro b12
  (conv => whnf); repeat ((first | with_reducible refine CondG.tt ?_ | with_reducible refine CondG.ff ?_); conv => whnf)
  refine StoreG.at hbl (Upd.whole (by rw [hbl]; rfl) (uvs_one _)) ?_
  (conv => whnf); repeat ((first | with_reducible refine CondG.tt ?_ | with_reducible refine CondG.ff ?_); conv => whnf)
  refine CondG.ndec (fun h3 => ?_) (fun h3 => ?_)
  · (conv => whnf); repeat ((first | with_reducible refine CondG.tt ?_ | with_reducible refine CondG.ff ?_); conv => whnf)
    refine ⟨_, (Ent.sel (T := []) (A := [_, _, _, _, _]) [1] rfl).trans (stP_more (m := n + 2) (by omega)), ?_, ?_⟩
    · rw [mintL, if_neg h1', if_neg h2, em, if_pos h3]; rfl
    · rw [mintL, if_neg h1', if_neg h2, em, if_pos h3]; rfl
  have h3' : ¬ (amtR (V (balKey m to))).2 ≠ 0 := by rw [show (amtR (V (balKey m to))).2 = 0 from h3]; decide
  (conv => whnf); repeat ((first | with_reducible refine CondG.tt ?_ | with_reducible refine CondG.ff ?_); conv => whnf)
  refine LoadNG.at (vs := uvs (amtR (V (balKey m to))).1) hbl .all ?_
  (conv => whnf); repeat ((first | with_reducible refine CondG.tt ?_ | with_reducible refine CondG.ff ?_); conv => whnf)
  refine LoadNG.at (vs := uvs a) hal (.tl (.tl (.tl .all))) ?_
  (conv => whnf); repeat ((first | with_reducible refine CondG.tt ?_ | with_reducible refine CondG.ff ?_); conv => whnf)
  refine CallG.pure (add_spec _ _ a hbk ha) ?_
  rintro _ _ ⟨rfl, rfl⟩
  have hB : (uvs (addR (amtR (V (balKey m to))).1 a).1).length = 4 := by rw [uvs_len, addR_ok]
  (conv => whnf); repeat ((first | with_reducible refine CondG.tt ?_ | with_reducible refine CondG.ff ?_); conv => whnf)
  refine StoreG.at hB (Upd.whole (by rw [hB, hbl]) (uvs_one _)) ?_
  (conv => whnf); repeat ((first | with_reducible refine CondG.tt ?_ | with_reducible refine CondG.ff ?_); conv => whnf)
  by_cases h4 : m256 ≤ nat4 (amtR (V (balKey m to))).1 + nat4 a
  · rw [addR_no h4]
    refine CondG.tt ?_
    (conv => whnf); repeat ((first | with_reducible refine CondG.tt ?_ | with_reducible refine CondG.ff ?_); conv => whnf)
    refine ⟨_, (Ent.sel (T := []) (A := [_, _, _, _, _]) [1] rfl).trans (stP_more (m := n + 2) (by omega)), ?_, ?_⟩
    · rw [mintL, if_neg h1', if_neg h2, em, if_neg h3', if_pos h4]; rfl
    · rw [mintL, if_neg h1', if_neg h2, em, if_neg h3', if_pos h4]; rfl
  rw [addR_yes h4]
  refine CondG.ff ?_
  (conv => whnf); repeat ((first | with_reducible refine CondG.tt ?_ | with_reducible refine CondG.ff ?_); conv => whnf)
  refine LoadNG.at (vs := uvs a) hal (.tl (.tl (.tl .all))) ?_
  (conv => whnf); repeat ((first | with_reducible refine CondG.tt ?_ | with_reducible refine CondG.ff ?_); conv => whnf)
  refine CallG.pure (isZero_spec _ a ha.len) ?_
  rintro _ _ ⟨rfl, rfl⟩
  (conv => whnf); repeat ((first | with_reducible refine CondG.tt ?_ | with_reducible refine CondG.ff ?_); conv => whnf)
  refine CondG.dec (fun h5 => ?_) (fun h5 => ?_)
  · have h5' : a = z4 := h5
    (conv => whnf); repeat ((first | with_reducible refine CondG.tt ?_ | with_reducible refine CondG.ff ?_); conv => whnf)
    refine ⟨_, (Ent.sel (T := []) (A := [_, _, _, _, _]) [1] rfl).trans (stP_more (m := n + 2) (by omega)), ?_, ?_⟩
    · rw [mintL, if_neg h1', if_neg h2, em, if_neg h3', if_neg h4, if_pos h5']; rfl
    · rw [mintL, if_neg h1', if_neg h2, em, if_neg h3', if_neg h4, if_pos h5']; rfl
  have h5' : ¬ a = z4 := h5
  (conv => whnf); repeat ((first | with_reducible refine CondG.tt ?_ | with_reducible refine CondG.ff ?_); conv => whnf)
  refine LoadNG.at (vs := ({ (runL V m).1 with sup := addL (runL V m).1.sup a } : TokD).cells) hl2 (.tl (.tl .all)) ?_
  (conv => whnf); repeat ((first | with_reducible refine CondG.tt ?_ | with_reducible refine CondG.ff ?_); conv => whnf)
  refine CallG.of (pre := [stP 127 s src find V n]) (rest := [cel b12 25 (uvs (addL (amtR (V (balKey m to))).1 a)), cel b9 44 ({ (runL V m).1 with sup := addL (runL V m).1.sup a } : TokD).cells, cel b7 25 (uvs a), cel b6 33 (bvs to)]) (layToken_at _ s src V n m hm { (runL V m).1 with sup := addL (runL V m).1.sup a } rfl (hs.left _) ho (by omega)) (Ent.sel (T := []) (A := [_, _, _, _, _]) [1, 0, 2, 3, 4] rfl) ?_
  rintro _ _ ⟨rfl, rfl⟩
  (conv => whnf); repeat ((first | with_reducible refine CondG.tt ?_ | with_reducible refine CondG.ff ?_); conv => whnf)
  refine CondG.ff ?_
  (conv => whnf); repeat ((first | with_reducible refine CondG.tt ?_ | with_reducible refine CondG.ff ?_); conv => whnf)
  refine LoadNG.at (vs := uvs (addL (amtR (V (balKey m to))).1 a)) rfl (.tl .all) ?_
  (conv => whnf); repeat ((first | with_reducible refine CondG.tt ?_ | with_reducible refine CondG.ff ?_); conv => whnf)
  refine CallG.of (pre := [stP 127 s src find (layTok V m { (runL V m).1 with sup := addL (runL V m).1.sup a }) (n + 1)]) (rest := [cel b12 25 (uvs (addL (amtR (V (balKey m to))).1 a)), cel b9 44 ({ (runL V m).1 with sup := addL (runL V m).1.sup a } : TokD).cells, cel b7 25 (uvs a), cel b6 33 (bvs to)]) (lay_at _ s src _ (n + 1) (balKey m to) _ rfl (hs.left _) ho (may_bal hto) hn) (Ent.refl _) ?_
  rintro _ _ ⟨rfl, rfl⟩
  (conv => whnf); repeat ((first | with_reducible refine CondG.tt ?_ | with_reducible refine CondG.ff ?_); conv => whnf)
  refine ⟨_, Ent.sel (T := []) (A := [_, _, _, _, _]) [0] rfl, ?_, ?_⟩
  · rw [mintL, if_neg h1', if_neg h2, em, if_neg h3', if_neg h4, if_neg h5']; rfl
  · rw [mintL, if_neg h1', if_neg h2, em, if_neg h3', if_neg h4, if_neg h5']; rfl
theorem burn_at (F : List HP) (s : Nat) (src : Value) (V : View) (n : Nat) (t : Int) (to a : List Nat) (hto : to.length = 20) (ha : wOk a) (hs : SrcG Tryd.prog F src find) (ho : SrcOk find) (hn : n + 1 ≤ 1099511627776) :
    SpecF Tryd.prog 20 [.pointer (some ⟨s, 0, none⟩), .int .i64 t, .agg ⟨bvs to⟩, .agg ⟨uvs a⟩] F [stP 127 s src find V n] (fun r L => r = .int .i64 (burnL V t to a).1 ∧ L = [stP 127 s src find (burnL V t to a).2 (n + 2)]) := by
  have hok := runL_ok V t
  have hl1 : (runL V t).1.cells.length = 6 := TokD.cells_len hok.len
  have hal : (uvs a).length = 4 := by rw [uvs_len, ha.len]
  refine fun20.spec rfl ?_
  (conv => whnf); repeat ((first | with_reducible refine CondG.tt ?_ | with_reducible refine CondG.ff ?_); conv => whnf)
  intro b6
  (conv => whnf); repeat ((first | with_reducible refine CondG.tt ?_ | with_reducible refine CondG.ff ?_); conv => whnf)
  intro b7
  (conv => whnf); repeat ((first | with_reducible refine CondG.tt ?_ | with_reducible refine CondG.ff ?_); conv => whnf)
  refine CallG.of (pre := [stP 127 s src find V n]) (rest := [cel b7 25 (uvs a), cel b6 33 (bvs to)]) (running_at _ s src V n t (hs.left _) ho) (Ent.sel (T := []) (A := [_, _, _]) [2, 0, 1] rfl) ?_
  rintro _ _ ⟨rfl, rfl⟩
  (conv => whnf); repeat ((first | with_reducible refine CondG.tt ?_ | with_reducible refine CondG.ff ?_); conv => whnf)
  intro b9
  (conv => whnf); repeat ((first | with_reducible refine CondG.tt ?_ | with_reducible refine CondG.ff ?_); conv => whnf)
  refine StoreG.at hl1 (Upd.whole (by rw [hl1]; rfl) (TokD.cells_one _)) ?_
  (conv => whnf); repeat ((first | with_reducible refine CondG.tt ?_ | with_reducible refine CondG.ff ?_); conv => whnf)
  refine CondG.ndec (fun h1 => ?_) (fun h1 => ?_)
  · (conv => whnf); repeat ((first | with_reducible refine CondG.tt ?_ | with_reducible refine CondG.ff ?_); conv => whnf)
    refine ⟨_, (Ent.sel (T := []) (A := [_, _, _, _]) [1] rfl).trans (stP_more (m := n + 2) (by omega)), ?_, ?_⟩
    · rw [burnL, if_pos h1]; rfl
    · rw [burnL, if_pos h1]; rfl
  obtain ⟨m, rfl, hm⟩ := runL_nat h1
  have h1' : ¬ (runL V m).2 ≠ 0 := by rw [show (runL V m).2 = 0 from h1]; decide
  have hsl : (uvs (runL V m).1.sup).length = 4 := by rw [uvs_len, hok.len]
  (conv => whnf); repeat ((first | with_reducible refine CondG.tt ?_ | with_reducible refine CondG.ff ?_); conv => whnf)
  refine LoadNG.at (vs := bvs to) (by rw [bvs_len, hto]) (.tl (.tl (.tl .all))) ?_
  (conv => whnf); repeat ((first | with_reducible refine CondG.tt ?_ | with_reducible refine CondG.ff ?_); conv => whnf)
  refine CallG.pure (balanceKey_spec _ m hm to hto) ?_
  rintro _ _ ⟨rfl, rfl⟩
  (conv => whnf); repeat ((first | with_reducible refine CondG.tt ?_ | with_reducible refine CondG.ff ?_); conv => whnf)
  refine CallG.of (pre := [stP 127 s src find V n]) (rest := [cel b9 44 (runL V m).1.cells, cel b7 25 (uvs a), cel b6 33 (bvs to)]) (amount_spec _ s src V n (balKey m to) (hs.left _) ho (may_bal hto 0 (by decide))) (Ent.sel (T := []) (A := [_, _, _, _]) [1, 0, 2, 3] rfl) ?_
  rintro _ _ ⟨rfl, rfl⟩
  have hbk := amtR_ok (V (balKey m to))
  have hbl : (uvs (amtR (V (balKey m to))).1).length = 4 := by rw [uvs_len, hbk.len]
  have em : ((m : Nat) : Int).toNat = m := Int.toNat_natCast m
  (conv => whnf); repeat ((first | with_reducible refine CondG.tt ?_ | with_reducible refine CondG.ff ?_); conv => whnf)
  intro b12
  (conv => whnf); repeat ((first | with_reducible refine CondG.tt ?_ | with_reducible refine CondG.ff ?_); conv => whnf)
  refine StoreG.at hbl (Upd.whole (by rw [hbl]; rfl) (uvs_one _)) ?_
  (conv => whnf); repeat ((first | with_reducible refine CondG.tt ?_ | with_reducible refine CondG.ff ?_); conv => whnf)
  refine CondG.ndec (fun h3 => ?_) (fun h3 => ?_)
  · (conv => whnf); repeat ((first | with_reducible refine CondG.tt ?_ | with_reducible refine CondG.ff ?_); conv => whnf)
    refine ⟨_, (Ent.sel (T := []) (A := [_, _, _, _, _]) [1] rfl).trans (stP_more (m := n + 2) (by omega)), ?_, ?_⟩
    · rw [burnL, if_neg h1', em, if_pos h3]; rfl
    · rw [burnL, if_neg h1', em, if_pos h3]; rfl
  have h3' : ¬ (amtR (V (balKey m to))).2 ≠ 0 := by rw [show (amtR (V (balKey m to))).2 = 0 from h3]; decide
  (conv => whnf); repeat ((first | with_reducible refine CondG.tt ?_ | with_reducible refine CondG.ff ?_); conv => whnf)
  refine LoadNG.at (vs := uvs (amtR (V (balKey m to))).1) hbl .all ?_
  (conv => whnf); repeat ((first | with_reducible refine CondG.tt ?_ | with_reducible refine CondG.ff ?_); conv => whnf)
  refine LoadNG.at (vs := uvs a) hal (.tl (.tl (.tl .all))) ?_
  (conv => whnf); repeat ((first | with_reducible refine CondG.tt ?_ | with_reducible refine CondG.ff ?_); conv => whnf)
  refine CallG.pure (sub_spec _ _ a hbk ha) ?_
  rintro _ _ ⟨rfl, rfl⟩
  have hB : (uvs (subR (amtR (V (balKey m to))).1 a).1).length = 4 := by rw [uvs_len, subR_ok]
  (conv => whnf); repeat ((first | with_reducible refine CondG.tt ?_ | with_reducible refine CondG.ff ?_); conv => whnf)
  refine StoreG.at hB (Upd.whole (by rw [hB, hbl]) (uvs_one _)) ?_
  (conv => whnf); repeat ((first | with_reducible refine CondG.tt ?_ | with_reducible refine CondG.ff ?_); conv => whnf)
  by_cases h4 : nat4 (amtR (V (balKey m to))).1 < nat4 a
  · rw [subR_no h4]
    refine CondG.tt ?_
    (conv => whnf); repeat ((first | with_reducible refine CondG.tt ?_ | with_reducible refine CondG.ff ?_); conv => whnf)
    refine ⟨_, (Ent.sel (T := []) (A := [_, _, _, _, _]) [1] rfl).trans (stP_more (m := n + 2) (by omega)), ?_, ?_⟩
    · rw [burnL, if_neg h1', em, if_neg h3', if_pos h4]; rfl
    · rw [burnL, if_neg h1', em, if_neg h3', if_pos h4]; rfl
  rw [subR_yes h4]
  refine CondG.ff ?_
  (conv => whnf); repeat ((first | with_reducible refine CondG.tt ?_ | with_reducible refine CondG.ff ?_); conv => whnf)
  refine LoadNG.at (vs := uvs (runL V m).1.sup) hsl (.tl (.tl (.here (sup_at _)))) ?_
  (conv => whnf); repeat ((first | with_reducible refine CondG.tt ?_ | with_reducible refine CondG.ff ?_); conv => whnf)
  refine LoadNG.at (vs := uvs a) hal (.tl (.tl (.tl .all))) ?_
  (conv => whnf); repeat ((first | with_reducible refine CondG.tt ?_ | with_reducible refine CondG.ff ?_); conv => whnf)
  refine CallG.pure (sub_spec _ _ a hok ha) ?_
  rintro _ _ ⟨rfl, rfl⟩
  have hA : (uvs (subR (runL V m).1.sup a).1).length = 4 := by rw [uvs_len, subR_ok]
  (conv => whnf); repeat ((first | with_reducible refine CondG.tt ?_ | with_reducible refine CondG.ff ?_); conv => whnf)
  refine StoreG.at hA (Upd.tl (Upd.tl (Upd.hereN (by rw [hA, hl1]; decide) (uvs_one _) (set_sup hok.len subR_ok)))) ?_
  (conv => whnf); repeat ((first | with_reducible refine CondG.tt ?_ | with_reducible refine CondG.ff ?_); conv => whnf)
  by_cases h2 : nat4 (runL V m).1.sup < nat4 a
  · rw [subR_no h2]
    refine CondG.tt ?_
    (conv => whnf); repeat ((first | with_reducible refine CondG.tt ?_ | with_reducible refine CondG.ff ?_); conv => whnf)
    refine ⟨_, (Ent.sel (T := []) (A := [_, _, _, _, _]) [1] rfl).trans (stP_more (m := n + 2) (by omega)), ?_, ?_⟩
    · rw [burnL, if_neg h1', em, if_neg h3', if_neg h4, if_pos h2]; rfl
    · rw [burnL, if_neg h1', em, if_neg h3', if_neg h4, if_pos h2]; rfl
  rw [subR_yes h2]
  have hl2 : ({ (runL V m).1 with sup := subL (runL V m).1.sup a } : TokD).cells.length = 6 := TokD.cells_len rfl
  refine CondG.ff ?_
  (conv => whnf); repeat ((first | with_reducible refine CondG.tt ?_ | with_reducible refine CondG.ff ?_); conv => whnf)
  refine LoadNG.at (vs := uvs a) hal (.tl (.tl (.tl .all))) ?_
  (conv => whnf); repeat ((first | with_reducible refine CondG.tt ?_ | with_reducible refine CondG.ff ?_); conv => whnf)
  refine CallG.pure (isZero_spec _ a ha.len) ?_
  rintro _ _ ⟨rfl, rfl⟩
  (conv => whnf); repeat ((first | with_reducible refine CondG.tt ?_ | with_reducible refine CondG.ff ?_); conv => whnf)
  refine CondG.dec (fun h5 => ?_) (fun h5 => ?_)
  · have h5' : a = z4 := h5
    (conv => whnf); repeat ((first | with_reducible refine CondG.tt ?_ | with_reducible refine CondG.ff ?_); conv => whnf)
    refine ⟨_, (Ent.sel (T := []) (A := [_, _, _, _, _]) [1] rfl).trans (stP_more (m := n + 2) (by omega)), ?_, ?_⟩
    · rw [burnL, if_neg h1', em, if_neg h3', if_neg h4, if_neg h2, if_pos h5']; rfl
    · rw [burnL, if_neg h1', em, if_neg h3', if_neg h4, if_neg h2, if_pos h5']; rfl
  have h5' : ¬ a = z4 := h5
  (conv => whnf); repeat ((first | with_reducible refine CondG.tt ?_ | with_reducible refine CondG.ff ?_); conv => whnf)
  refine LoadNG.at (vs := ({ (runL V m).1 with sup := subL (runL V m).1.sup a } : TokD).cells) hl2 (.tl (.tl .all)) ?_
  (conv => whnf); repeat ((first | with_reducible refine CondG.tt ?_ | with_reducible refine CondG.ff ?_); conv => whnf)
  refine CallG.of (pre := [stP 127 s src find V n]) (rest := [cel b12 25 (uvs (subL (amtR (V (balKey m to))).1 a)), cel b9 44 ({ (runL V m).1 with sup := subL (runL V m).1.sup a } : TokD).cells, cel b7 25 (uvs a), cel b6 33 (bvs to)]) (layToken_at _ s src V n m hm { (runL V m).1 with sup := subL (runL V m).1.sup a } rfl (hs.left _) ho (by omega)) (Ent.sel (T := []) (A := [_, _, _, _, _]) [1, 0, 2, 3, 4] rfl) ?_
  rintro _ _ ⟨rfl, rfl⟩
  (conv => whnf); repeat ((first | with_reducible refine CondG.tt ?_ | with_reducible refine CondG.ff ?_); conv => whnf)
  refine CondG.ff ?_
  (conv => whnf); repeat ((first | with_reducible refine CondG.tt ?_ | with_reducible refine CondG.ff ?_); conv => whnf)
  refine LoadNG.at (vs := uvs (subL (amtR (V (balKey m to))).1 a)) rfl (.tl .all) ?_
  (conv => whnf); repeat ((first | with_reducible refine CondG.tt ?_ | with_reducible refine CondG.ff ?_); conv => whnf)
  refine CallG.of (pre := [stP 127 s src find (layTok V m { (runL V m).1 with sup := subL (runL V m).1.sup a }) (n + 1)]) (rest := [cel b12 25 (uvs (subL (amtR (V (balKey m to))).1 a)), cel b9 44 ({ (runL V m).1 with sup := subL (runL V m).1.sup a } : TokD).cells, cel b7 25 (uvs a), cel b6 33 (bvs to)]) (lay_at _ s src _ (n + 1) (balKey m to) _ rfl (hs.left _) ho (may_bal hto) hn) (Ent.refl _) ?_
  rintro _ _ ⟨rfl, rfl⟩
  (conv => whnf); repeat ((first | with_reducible refine CondG.tt ?_ | with_reducible refine CondG.ff ?_); conv => whnf)
  refine ⟨_, Ent.sel (T := []) (A := [_, _, _, _, _]) [0] rfl, ?_, ?_⟩
  · rw [burnL, if_neg h1', em, if_neg h3', if_neg h4, if_neg h2, if_neg h5']; rfl
  · rw [burnL, if_neg h1', em, if_neg h3', if_neg h4, if_neg h2, if_neg h5']; rfl
theorem funds_at (F : List HP) (s : Nat) (src : Value) (V : View) (n : Nat) (m : Nat) (hm : m < 64) (fr to a : List Nat) (hfr : fr.length = 20) (hto : to.length = 20) (ha : wOk a) (hs : SrcG Tryd.prog F src find) (ho : SrcOk find) :
    SpecF Tryd.prog 54 [.pointer (some ⟨s, 0, none⟩), .int .i64 m, .agg ⟨bvs fr⟩, .agg ⟨bvs to⟩, .agg ⟨uvs a⟩] F [stP 127 s src find V n] (fun r L => r = .tuple #[.agg ⟨uvs (fundsL V m fr to a).less⟩, .agg ⟨uvs (fundsL V m fr to a).more⟩, .int .i64 (fundsL V m fr to a).e] ∧ L = [stP 127 s src find V n]) := by
  have hal : (uvs a).length = 4 := by rw [uvs_len, ha.len]
  have hfk := amtR_ok (V (balKey m fr))
  have htk := amtR_ok (V (balKey m to))
  have hfl : (uvs (amtR (V (balKey m fr))).1).length = 4 := by rw [uvs_len, hfk.len]
  have htl : (uvs (amtR (V (balKey m to))).1).length = 4 := by rw [uvs_len, htk.len]
  refine fun54.spec rfl ?_
  (conv => whnf); repeat ((first | with_reducible refine CondG.tt ?_ | with_reducible refine CondG.ff ?_); conv => whnf)
  intro b7
  (conv => whnf); repeat ((first | with_reducible refine CondG.tt ?_ | with_reducible refine CondG.ff ?_); conv => whnf)
  intro b8
  (conv => whnf); repeat ((first | with_reducible refine CondG.tt ?_ | with_reducible refine CondG.ff ?_); conv => whnf)
  intro b9
  (conv => whnf); repeat ((first | with_reducible refine CondG.tt ?_ | with_reducible refine CondG.ff ?_); conv => whnf)
  intro b10
  (conv => whnf); repeat ((first | with_reducible refine CondG.tt ?_ | with_reducible refine CondG.ff ?_); conv => whnf)
  intro b11
  (conv => whnf); repeat ((first | with_reducible refine CondG.tt ?_ | with_reducible refine CondG.ff ?_); conv => whnf)
  refine LoadNG.at (vs := bvs fr) (by rw [bvs_len, hfr]) (.tl (.tl (.tl (.tl .all)))) ?_
  (conv => whnf); repeat ((first | with_reducible refine CondG.tt ?_ | with_reducible refine CondG.ff ?_); conv => whnf)
  refine CallG.pure (balanceKey_spec _ m hm fr hfr) ?_
  rintro _ _ ⟨rfl, rfl⟩
  (conv => whnf); repeat ((first | with_reducible refine CondG.tt ?_ | with_reducible refine CondG.ff ?_); conv => whnf)
  refine CallG.of (pre := [stP 127 s src find V n]) (rest := [cel b11 25 (uvs z4), cel b10 25 (uvs z4), cel b9 25 (uvs a), cel b8 33 (bvs to), cel b7 33 (bvs fr)]) (amount_spec _ s src V n (balKey m fr) (hs.left _) ho (may_bal hfr 0 (by decide))) (Ent.sel (T := []) (A := [_, _, _, _, _, _]) [5, 0, 1, 2, 3, 4] rfl) ?_
  rintro _ _ ⟨rfl, rfl⟩
  (conv => whnf); repeat ((first | with_reducible refine CondG.tt ?_ | with_reducible refine CondG.ff ?_); conv => whnf)
  intro b13
  (conv => whnf); repeat ((first | with_reducible refine CondG.tt ?_ | with_reducible refine CondG.ff ?_); conv => whnf)
  refine StoreG.at hfl (Upd.whole (by rw [hfl]; rfl) (uvs_one _)) ?_
  (conv => whnf); repeat ((first | with_reducible refine CondG.tt ?_ | with_reducible refine CondG.ff ?_); conv => whnf)
  refine CondG.ndec (fun h1 => ?_) (fun h1 => ?_)
  · (conv => whnf); repeat ((first | with_reducible refine CondG.tt ?_ | with_reducible refine CondG.ff ?_); conv => whnf)
    refine DrawG.mk 6 [] [cel b13 25 (uvs (amtR (V (balKey m fr))).1), stP 127 s src find V n, cel b11 25 (uvs z4), cel b10 25 (uvs z4), cel b9 25 (uvs a), cel b8 33 (bvs to), cel b7 33 (bvs fr)] (by rw [List.append_nil]; exact Ent.refl _) ?_
    (conv => whnf); repeat ((first | with_reducible refine CondG.tt ?_ | with_reducible refine CondG.ff ?_); conv => whnf)
    refine .take 2 ?_
    (conv => whnf); repeat ((first | with_reducible refine CondG.tt ?_ | with_reducible refine CondG.ff ?_); conv => whnf)
    refine ⟨rfl, ?_⟩
    (conv => whnf); repeat ((first | with_reducible refine CondG.tt ?_ | with_reducible refine CondG.ff ?_); conv => whnf)
    refine .all ?_
    (conv => whnf); repeat ((first | with_reducible refine CondG.tt ?_ | with_reducible refine CondG.ff ?_); conv => whnf)
    refine ⟨by decide, ?_, ?_⟩
    (conv => whnf); repeat ((first | with_reducible refine CondG.tt ?_ | with_reducible refine CondG.ff ?_); conv => whnf)
    refine LoadNG.at (vs := uvs z4) rfl (.tl (.tl (.tl .all))) ?_
    (conv => whnf); repeat ((first | with_reducible refine CondG.tt ?_ | with_reducible refine CondG.ff ?_); conv => whnf)
    refine .all ?_
    (conv => whnf); repeat ((first | with_reducible refine CondG.tt ?_ | with_reducible refine CondG.ff ?_); conv => whnf)
    refine ⟨by decide, ?_, ?_⟩
    (conv => whnf); repeat ((first | with_reducible refine CondG.tt ?_ | with_reducible refine CondG.ff ?_); conv => whnf)
    refine LoadNG.at (vs := uvs z4) rfl (.tl (.tl .all)) ?_
    (conv => whnf); repeat ((first | with_reducible refine CondG.tt ?_ | with_reducible refine CondG.ff ?_); conv => whnf)
    refine .all ?_
    (conv => whnf); repeat ((first | with_reducible refine CondG.tt ?_ | with_reducible refine CondG.ff ?_); conv => whnf)
    refine ⟨by decide, ?_⟩
    (conv => whnf); repeat ((first | with_reducible refine CondG.tt ?_ | with_reducible refine CondG.ff ?_); conv => whnf)
    refine StoreG.at rfl (Upd.tl (Upd.tl (Upd.tl (Upd.whole rfl (uvs_one (z4)))))) ?_
    (conv => whnf); repeat ((first | with_reducible refine CondG.tt ?_ | with_reducible refine CondG.ff ?_); conv => whnf)
    refine .all ?_
    (conv => whnf); repeat ((first | with_reducible refine CondG.tt ?_ | with_reducible refine CondG.ff ?_); conv => whnf)
    refine ⟨by decide, ?_⟩
    (conv => whnf); repeat ((first | with_reducible refine CondG.tt ?_ | with_reducible refine CondG.ff ?_); conv => whnf)
    refine StoreG.at rfl (Upd.tl (Upd.tl (Upd.whole rfl (uvs_one (z4))))) ?_
    (conv => whnf); repeat ((first | with_reducible refine CondG.tt ?_ | with_reducible refine CondG.ff ?_); conv => whnf)
    rotate_left
    (conv => whnf); repeat ((first | with_reducible refine CondG.tt ?_ | with_reducible refine CondG.ff ?_); conv => whnf)
    refine StoreG.at rfl (Upd.tl (Upd.tl (Upd.tl (Upd.whole rfl (uvs_one (z4)))))) ?_
    (conv => whnf); repeat ((first | with_reducible refine CondG.tt ?_ | with_reducible refine CondG.ff ?_); conv => whnf)
    refine .all ?_
    (conv => whnf); repeat ((first | with_reducible refine CondG.tt ?_ | with_reducible refine CondG.ff ?_); conv => whnf)
    refine ⟨by decide, ?_⟩
    (conv => whnf); repeat ((first | with_reducible refine CondG.tt ?_ | with_reducible refine CondG.ff ?_); conv => whnf)
    refine LoadNG.at (vs := uvs z4) rfl (.tl (.tl .all)) ?_
    (conv => whnf); repeat ((first | with_reducible refine CondG.tt ?_ | with_reducible refine CondG.ff ?_); conv => whnf)
    refine .all ?_
    (conv => whnf); repeat ((first | with_reducible refine CondG.tt ?_ | with_reducible refine CondG.ff ?_); conv => whnf)
    refine ⟨by decide, ?_⟩
    (conv => whnf); repeat ((first | with_reducible refine CondG.tt ?_ | with_reducible refine CondG.ff ?_); conv => whnf)
    refine StoreG.at rfl (Upd.tl (Upd.tl (Upd.whole rfl (uvs_one (z4))))) ?_
    (conv => whnf); repeat ((first | with_reducible refine CondG.tt ?_ | with_reducible refine CondG.ff ?_); conv => whnf)
    rotate_left
    (conv => whnf); repeat ((first | with_reducible refine CondG.tt ?_ | with_reducible refine CondG.ff ?_); conv => whnf)
    refine LoadNG.at (vs := uvs z4) rfl (.tl (.tl .all)) ?_
    (conv => whnf); repeat ((first | with_reducible refine CondG.tt ?_ | with_reducible refine CondG.ff ?_); conv => whnf)
    refine .all ?_
    (conv => whnf); repeat ((first | with_reducible refine CondG.tt ?_ | with_reducible refine CondG.ff ?_); conv => whnf)
    refine ⟨by decide, ?_⟩
    (conv => whnf); repeat ((first | with_reducible refine CondG.tt ?_ | with_reducible refine CondG.ff ?_); conv => whnf)
    refine LoadNG.at (vs := uvs z4) rfl (.tl (.tl (.tl .all))) ?_
    (conv => whnf); repeat ((first | with_reducible refine CondG.tt ?_ | with_reducible refine CondG.ff ?_); conv => whnf)
    refine .all ?_
    (conv => whnf); repeat ((first | with_reducible refine CondG.tt ?_ | with_reducible refine CondG.ff ?_); conv => whnf)
    refine ⟨by decide, ?_⟩
    (conv => whnf); repeat ((first | with_reducible refine CondG.tt ?_ | with_reducible refine CondG.ff ?_); conv => whnf)
    refine StoreG.at rfl (Upd.tl (Upd.tl (Upd.tl (Upd.whole rfl (uvs_one (z4)))))) ?_
    (conv => whnf); repeat ((first | with_reducible refine CondG.tt ?_ | with_reducible refine CondG.ff ?_); conv => whnf)
    refine .all ?_
    (conv => whnf); repeat ((first | with_reducible refine CondG.tt ?_ | with_reducible refine CondG.ff ?_); conv => whnf)
    refine ⟨by decide, ?_⟩
    (conv => whnf); repeat ((first | with_reducible refine CondG.tt ?_ | with_reducible refine CondG.ff ?_); conv => whnf)
    refine StoreG.at rfl (Upd.tl (Upd.tl (Upd.whole rfl (uvs_one (z4))))) ?_
    (conv => whnf); repeat ((first | with_reducible refine CondG.tt ?_ | with_reducible refine CondG.ff ?_); conv => whnf)
    all_goals
      refine .take 5 ?_
      (conv => whnf); repeat ((first | with_reducible refine CondG.tt ?_ | with_reducible refine CondG.ff ?_); conv => whnf)
      refine ⟨rfl, ?_⟩
      (conv => whnf); repeat ((first | with_reducible refine CondG.tt ?_ | with_reducible refine CondG.ff ?_); conv => whnf)
      refine ⟨rfl, ?_⟩
      (conv => whnf); repeat ((first | with_reducible refine CondG.tt ?_ | with_reducible refine CondG.ff ?_); conv => whnf)
      refine LoadNG.at (vs := uvs z4) rfl (.tl (.tl (.tl .all))) ?_
      (conv => whnf); repeat ((first | with_reducible refine CondG.tt ?_ | with_reducible refine CondG.ff ?_); conv => whnf)
      refine LoadNG.at (vs := uvs z4) rfl (.tl (.tl .all)) ?_
      (conv => whnf); repeat ((first | with_reducible refine CondG.tt ?_ | with_reducible refine CondG.ff ?_); conv => whnf)
      refine ⟨_, Ent.sel (T := []) (A := [_, _, _, _, _, _, _]) [1] rfl, ?_, rfl⟩
      rw [fundsL, if_pos h1]
      rfl
  have h1' : ¬ (amtR (V (balKey m fr))).2 ≠ 0 := by rw [show (amtR (V (balKey m fr))).2 = 0 from h1]; decide
  (conv => whnf); repeat ((first | with_reducible refine CondG.tt ?_ | with_reducible refine CondG.ff ?_); conv => whnf)
  refine LoadNG.at (vs := uvs (amtR (V (balKey m fr))).1) hfl .all ?_
  (conv => whnf); repeat ((first | with_reducible refine CondG.tt ?_ | with_reducible refine CondG.ff ?_); conv => whnf)
  refine LoadNG.at (vs := uvs a) hal (.tl (.tl (.tl (.tl .all)))) ?_
  (conv => whnf); repeat ((first | with_reducible refine CondG.tt ?_ | with_reducible refine CondG.ff ?_); conv => whnf)
  refine CallG.pure (sub_spec _ _ a hfk ha) ?_
  rintro _ _ ⟨rfl, rfl⟩
  have hB : (uvs (subR (amtR (V (balKey m fr))).1 a).1).length = 4 := by rw [uvs_len, subR_ok]
  (conv => whnf); repeat ((first | with_reducible refine CondG.tt ?_ | with_reducible refine CondG.ff ?_); conv => whnf)
  refine StoreG.at hB (Upd.tl (Upd.tl (Upd.tl (Upd.whole (by rw [hB]; rfl) (uvs_one _))))) ?_
  (conv => whnf); repeat ((first | with_reducible refine CondG.tt ?_ | with_reducible refine CondG.ff ?_); conv => whnf)
  by_cases h2 : nat4 (amtR (V (balKey m fr))).1 < nat4 a
  · rw [subR_no h2]
    refine CondG.tt ?_
    (conv => whnf); repeat ((first | with_reducible refine CondG.tt ?_ | with_reducible refine CondG.ff ?_); conv => whnf)
    refine DrawG.mk 5 [] [cel b13 25 (uvs (amtR (V (balKey m fr))).1), stP 127 s src find V n, cel b11 25 (uvs z4), cel b10 25 (uvs z4), cel b9 25 (uvs a), cel b8 33 (bvs to), cel b7 33 (bvs fr)] (by rw [List.append_nil]; exact Ent.refl _) ?_
    (conv => whnf); repeat ((first | with_reducible refine CondG.tt ?_ | with_reducible refine CondG.ff ?_); conv => whnf)
    refine .take 0 ?_
    (conv => whnf); repeat ((first | with_reducible refine CondG.tt ?_ | with_reducible refine CondG.ff ?_); conv => whnf)
    refine ⟨rfl, ?_⟩
    (conv => whnf); repeat ((first | with_reducible refine CondG.tt ?_ | with_reducible refine CondG.ff ?_); conv => whnf)
    refine BuildG.of rfl ?_
    (conv => whnf); repeat ((first | with_reducible refine CondG.tt ?_ | with_reducible refine CondG.ff ?_); conv => whnf)
    refine .all ?_
    (conv => whnf); repeat ((first | with_reducible refine CondG.tt ?_ | with_reducible refine CondG.ff ?_); conv => whnf)
    refine ⟨by decide, ?_, ?_⟩
    (conv => whnf); repeat ((first | with_reducible refine CondG.tt ?_ | with_reducible refine CondG.ff ?_); conv => whnf)
    refine LoadNG.at (vs := uvs z4) rfl (.tl (.tl .all)) ?_
    (conv => whnf); repeat ((first | with_reducible refine CondG.tt ?_ | with_reducible refine CondG.ff ?_); conv => whnf)
    refine .all ?_
    (conv => whnf); repeat ((first | with_reducible refine CondG.tt ?_ | with_reducible refine CondG.ff ?_); conv => whnf)
    refine ⟨by decide, ?_⟩
    (conv => whnf); repeat ((first | with_reducible refine CondG.tt ?_ | with_reducible refine CondG.ff ?_); conv => whnf)
    refine StoreG.at rfl (Upd.tl (Upd.tl (Upd.tl (Upd.whole rfl (uvs_one (z4)))))) ?_
    (conv => whnf); repeat ((first | with_reducible refine CondG.tt ?_ | with_reducible refine CondG.ff ?_); conv => whnf)
    refine .all ?_
    (conv => whnf); repeat ((first | with_reducible refine CondG.tt ?_ | with_reducible refine CondG.ff ?_); conv => whnf)
    refine ⟨by decide, ?_⟩
    (conv => whnf); repeat ((first | with_reducible refine CondG.tt ?_ | with_reducible refine CondG.ff ?_); conv => whnf)
    refine StoreG.at rfl (Upd.tl (Upd.tl (Upd.whole rfl (uvs_one (z4))))) ?_
    (conv => whnf); repeat ((first | with_reducible refine CondG.tt ?_ | with_reducible refine CondG.ff ?_); conv => whnf)
    rotate_left
    (conv => whnf); repeat ((first | with_reducible refine CondG.tt ?_ | with_reducible refine CondG.ff ?_); conv => whnf)
    refine StoreG.at rfl (Upd.tl (Upd.tl (Upd.tl (Upd.whole rfl (uvs_one (z4)))))) ?_
    (conv => whnf); repeat ((first | with_reducible refine CondG.tt ?_ | with_reducible refine CondG.ff ?_); conv => whnf)
    refine .all ?_
    (conv => whnf); repeat ((first | with_reducible refine CondG.tt ?_ | with_reducible refine CondG.ff ?_); conv => whnf)
    refine ⟨by decide, ?_⟩
    (conv => whnf); repeat ((first | with_reducible refine CondG.tt ?_ | with_reducible refine CondG.ff ?_); conv => whnf)
    refine LoadNG.at (vs := uvs z4) rfl (.tl (.tl .all)) ?_
    (conv => whnf); repeat ((first | with_reducible refine CondG.tt ?_ | with_reducible refine CondG.ff ?_); conv => whnf)
    refine .all ?_
    (conv => whnf); repeat ((first | with_reducible refine CondG.tt ?_ | with_reducible refine CondG.ff ?_); conv => whnf)
    refine ⟨by decide, ?_⟩
    (conv => whnf); repeat ((first | with_reducible refine CondG.tt ?_ | with_reducible refine CondG.ff ?_); conv => whnf)
    refine StoreG.at rfl (Upd.tl (Upd.tl (Upd.whole rfl (uvs_one (z4))))) ?_
    (conv => whnf); repeat ((first | with_reducible refine CondG.tt ?_ | with_reducible refine CondG.ff ?_); conv => whnf)
    all_goals
      refine .take 4 ?_
      (conv => whnf); repeat ((first | with_reducible refine CondG.tt ?_ | with_reducible refine CondG.ff ?_); conv => whnf)
      refine ⟨rfl, ?_⟩
      (conv => whnf); repeat ((first | with_reducible refine CondG.tt ?_ | with_reducible refine CondG.ff ?_); conv => whnf)
      refine ⟨rfl, ?_⟩
      (conv => whnf); repeat ((first | with_reducible refine CondG.tt ?_ | with_reducible refine CondG.ff ?_); conv => whnf)
      refine LoadNG.at (vs := uvs z4) rfl (.tl (.tl (.tl .all))) ?_
      (conv => whnf); repeat ((first | with_reducible refine CondG.tt ?_ | with_reducible refine CondG.ff ?_); conv => whnf)
      refine LoadNG.at (vs := uvs z4) rfl (.tl (.tl .all)) ?_
      (conv => whnf); repeat ((first | with_reducible refine CondG.tt ?_ | with_reducible refine CondG.ff ?_); conv => whnf)
      refine ⟨_, Ent.sel (T := []) (A := [_, _, _, _, _, _, _]) [1] rfl, ?_, rfl⟩
      rw [fundsL, if_neg h1', if_pos h2]
      rfl
  rw [subR_yes h2]
  refine CondG.ff ?_
  (conv => whnf); repeat ((first | with_reducible refine CondG.tt ?_ | with_reducible refine CondG.ff ?_); conv => whnf)
  refine LoadNG.at (vs := bvs to) (by rw [bvs_len, hto]) (.tl (.tl (.tl (.tl (.tl .all))))) ?_
  (conv => whnf); repeat ((first | with_reducible refine CondG.tt ?_ | with_reducible refine CondG.ff ?_); conv => whnf)
  refine CallG.pure (balanceKey_spec _ m hm to hto) ?_
  rintro _ _ ⟨rfl, rfl⟩
  (conv => whnf); repeat ((first | with_reducible refine CondG.tt ?_ | with_reducible refine CondG.ff ?_); conv => whnf)
  refine CallG.of (pre := [stP 127 s src find V n]) (rest := [cel b13 25 (uvs (amtR (V (balKey m fr))).1), cel b11 25 (uvs z4), cel b10 25 (uvs (subL (amtR (V (balKey m fr))).1 a)), cel b9 25 (uvs a), cel b8 33 (bvs to), cel b7 33 (bvs fr)]) (amount_spec _ s src V n (balKey m to) (hs.left _) ho (may_bal hto 0 (by decide))) (Ent.sel (T := []) (A := [_, _, _, _, _, _, _]) [1, 0, 2, 3, 4, 5, 6] rfl) ?_
  rintro _ _ ⟨rfl, rfl⟩
  (conv => whnf); repeat ((first | with_reducible refine CondG.tt ?_ | with_reducible refine CondG.ff ?_); conv => whnf)
  intro b14
  (conv => whnf); repeat ((first | with_reducible refine CondG.tt ?_ | with_reducible refine CondG.ff ?_); conv => whnf)
  refine StoreG.at htl (Upd.whole (by rw [htl]; rfl) (uvs_one _)) ?_
  (conv => whnf); repeat ((first | with_reducible refine CondG.tt ?_ | with_reducible refine CondG.ff ?_); conv => whnf)
  have fin9 : (amtR (V (balKey m to))).2 ≠ 0 ∨ fr = to → fundsL V m fr to a = ⟨subL (amtR (V (balKey m fr))).1 a, (amtR (V (balKey m to))).1, (amtR (V (balKey m to))).2⟩ := fun h => by rw [fundsL, if_neg h1', if_neg h2, if_pos h]
  have hsb : (uvs (subL (amtR (V (balKey m fr))).1 a)).length = 4 := rfl
  refine CondG.ndec (fun h3 => ?_) (fun h3 => ?_)
  · rw [fin9 (.inl h3)]
    (conv => whnf); repeat ((first | with_reducible refine CondG.tt ?_ | with_reducible refine CondG.ff ?_); conv => whnf)
    refine DrawG.mk 6 [] [cel b14 25 (uvs (amtR (V (balKey m to))).1), stP 127 s src find V n, cel b13 25 (uvs (amtR (V (balKey m fr))).1), cel b11 25 (uvs z4), cel b10 25 (uvs (subL (amtR (V (balKey m fr))).1 a)), cel b9 25 (uvs a), cel b8 33 (bvs to), cel b7 33 (bvs fr)] (by rw [List.append_nil]; exact Ent.refl _) ?_
    (conv => whnf); repeat ((first | with_reducible refine CondG.tt ?_ | with_reducible refine CondG.ff ?_); conv => whnf)
    refine .take 2 ?_
    (conv => whnf); repeat ((first | with_reducible refine CondG.tt ?_ | with_reducible refine CondG.ff ?_); conv => whnf)
    refine ⟨rfl, ?_⟩
    (conv => whnf); repeat ((first | with_reducible refine CondG.tt ?_ | with_reducible refine CondG.ff ?_); conv => whnf)
    refine .all ?_
    (conv => whnf); repeat ((first | with_reducible refine CondG.tt ?_ | with_reducible refine CondG.ff ?_); conv => whnf)
    refine ⟨by decide, ?_, ?_⟩
    (conv => whnf); repeat ((first | with_reducible refine CondG.tt ?_ | with_reducible refine CondG.ff ?_); conv => whnf)
    refine LoadNG.at (vs := uvs (subL (amtR (V (balKey m fr))).1 a)) rfl (.tl (.tl (.tl (.tl .all)))) ?_
    (conv => whnf); repeat ((first | with_reducible refine CondG.tt ?_ | with_reducible refine CondG.ff ?_); conv => whnf)
    refine .all ?_
    (conv => whnf); repeat ((first | with_reducible refine CondG.tt ?_ | with_reducible refine CondG.ff ?_); conv => whnf)
    refine ⟨by decide, ?_, ?_⟩
    (conv => whnf); repeat ((first | with_reducible refine CondG.tt ?_ | with_reducible refine CondG.ff ?_); conv => whnf)
    refine LoadNG.at (vs := uvs (amtR (V (balKey m to))).1) htl .all ?_
    (conv => whnf); repeat ((first | with_reducible refine CondG.tt ?_ | with_reducible refine CondG.ff ?_); conv => whnf)
    refine .all ?_
    (conv => whnf); repeat ((first | with_reducible refine CondG.tt ?_ | with_reducible refine CondG.ff ?_); conv => whnf)
    refine ⟨by decide, ?_⟩
    (conv => whnf); repeat ((first | with_reducible refine CondG.tt ?_ | with_reducible refine CondG.ff ?_); conv => whnf)
    refine StoreG.at rfl (Upd.tl (Upd.tl (Upd.tl (Upd.tl (Upd.whole rfl (uvs_one ((subL (amtR (V (balKey m fr))).1 a)))))))) ?_
    (conv => whnf); repeat ((first | with_reducible refine CondG.tt ?_ | with_reducible refine CondG.ff ?_); conv => whnf)
    refine .all ?_
    (conv => whnf); repeat ((first | with_reducible refine CondG.tt ?_ | with_reducible refine CondG.ff ?_); conv => whnf)
    refine ⟨by decide, ?_⟩
    (conv => whnf); repeat ((first | with_reducible refine CondG.tt ?_ | with_reducible refine CondG.ff ?_); conv => whnf)
    refine StoreG.at htl (Upd.tl (Upd.tl (Upd.tl (Upd.whole (by rw [htl]; rfl) (uvs_one ((amtR (V (balKey m to))).1)))))) ?_
    (conv => whnf); repeat ((first | with_reducible refine CondG.tt ?_ | with_reducible refine CondG.ff ?_); conv => whnf)
    rotate_left
    (conv => whnf); repeat ((first | with_reducible refine CondG.tt ?_ | with_reducible refine CondG.ff ?_); conv => whnf)
    refine StoreG.at rfl (Upd.tl (Upd.tl (Upd.tl (Upd.tl (Upd.whole rfl (uvs_one ((subL (amtR (V (balKey m fr))).1 a)))))))) ?_
    (conv => whnf); repeat ((first | with_reducible refine CondG.tt ?_ | with_reducible refine CondG.ff ?_); conv => whnf)
    refine .all ?_
    (conv => whnf); repeat ((first | with_reducible refine CondG.tt ?_ | with_reducible refine CondG.ff ?_); conv => whnf)
    refine ⟨by decide, ?_⟩
    (conv => whnf); repeat ((first | with_reducible refine CondG.tt ?_ | with_reducible refine CondG.ff ?_); conv => whnf)
    refine LoadNG.at (vs := uvs (amtR (V (balKey m to))).1) htl .all ?_
    (conv => whnf); repeat ((first | with_reducible refine CondG.tt ?_ | with_reducible refine CondG.ff ?_); conv => whnf)
    refine .all ?_
    (conv => whnf); repeat ((first | with_reducible refine CondG.tt ?_ | with_reducible refine CondG.ff ?_); conv => whnf)
    refine ⟨by decide, ?_⟩
    (conv => whnf); repeat ((first | with_reducible refine CondG.tt ?_ | with_reducible refine CondG.ff ?_); conv => whnf)
    refine StoreG.at htl (Upd.tl (Upd.tl (Upd.tl (Upd.whole (by rw [htl]; rfl) (uvs_one ((amtR (V (balKey m to))).1)))))) ?_
    (conv => whnf); repeat ((first | with_reducible refine CondG.tt ?_ | with_reducible refine CondG.ff ?_); conv => whnf)
    rotate_left
    (conv => whnf); repeat ((first | with_reducible refine CondG.tt ?_ | with_reducible refine CondG.ff ?_); conv => whnf)
    refine LoadNG.at (vs := uvs (amtR (V (balKey m to))).1) htl .all ?_
    (conv => whnf); repeat ((first | with_reducible refine CondG.tt ?_ | with_reducible refine CondG.ff ?_); conv => whnf)
    refine .all ?_
    (conv => whnf); repeat ((first | with_reducible refine CondG.tt ?_ | with_reducible refine CondG.ff ?_); conv => whnf)
    refine ⟨by decide, ?_⟩
    (conv => whnf); repeat ((first | with_reducible refine CondG.tt ?_ | with_reducible refine CondG.ff ?_); conv => whnf)
    refine LoadNG.at (vs := uvs (subL (amtR (V (balKey m fr))).1 a)) rfl (.tl (.tl (.tl (.tl .all)))) ?_
    (conv => whnf); repeat ((first | with_reducible refine CondG.tt ?_ | with_reducible refine CondG.ff ?_); conv => whnf)
    refine .all ?_
    (conv => whnf); repeat ((first | with_reducible refine CondG.tt ?_ | with_reducible refine CondG.ff ?_); conv => whnf)
    refine ⟨by decide, ?_⟩
    (conv => whnf); repeat ((first | with_reducible refine CondG.tt ?_ | with_reducible refine CondG.ff ?_); conv => whnf)
    refine StoreG.at rfl (Upd.tl (Upd.tl (Upd.tl (Upd.tl (Upd.whole rfl (uvs_one ((subL (amtR (V (balKey m fr))).1 a)))))))) ?_
    (conv => whnf); repeat ((first | with_reducible refine CondG.tt ?_ | with_reducible refine CondG.ff ?_); conv => whnf)
    refine .all ?_
    (conv => whnf); repeat ((first | with_reducible refine CondG.tt ?_ | with_reducible refine CondG.ff ?_); conv => whnf)
    refine ⟨by decide, ?_⟩
    (conv => whnf); repeat ((first | with_reducible refine CondG.tt ?_ | with_reducible refine CondG.ff ?_); conv => whnf)
    refine StoreG.at htl (Upd.tl (Upd.tl (Upd.tl (Upd.whole (by rw [htl]; rfl) (uvs_one ((amtR (V (balKey m to))).1)))))) ?_
    (conv => whnf); repeat ((first | with_reducible refine CondG.tt ?_ | with_reducible refine CondG.ff ?_); conv => whnf)
    all_goals
      refine .take 5 ?_
      (conv => whnf); repeat ((first | with_reducible refine CondG.tt ?_ | with_reducible refine CondG.ff ?_); conv => whnf)
      refine ⟨rfl, ?_⟩
      (conv => whnf); repeat ((first | with_reducible refine CondG.tt ?_ | with_reducible refine CondG.ff ?_); conv => whnf)
      refine ⟨rfl, ?_⟩
      (conv => whnf); repeat ((first | with_reducible refine CondG.tt ?_ | with_reducible refine CondG.ff ?_); conv => whnf)
      refine LoadNG.at (vs := uvs (subL (amtR (V (balKey m fr))).1 a)) rfl (.tl (.tl (.tl (.tl .all)))) ?_
      (conv => whnf); repeat ((first | with_reducible refine CondG.tt ?_ | with_reducible refine CondG.ff ?_); conv => whnf)
      refine LoadNG.at (vs := uvs (amtR (V (balKey m to))).1) htl (.tl (.tl (.tl .all))) ?_
      (conv => whnf); repeat ((first | with_reducible refine CondG.tt ?_ | with_reducible refine CondG.ff ?_); conv => whnf)
      exact ⟨_, Ent.sel (T := []) (A := [_, _, _, _, _, _, _, _]) [1] rfl, rfl, rfl⟩
  (conv => whnf); repeat ((first | with_reducible refine CondG.tt ?_ | with_reducible refine CondG.ff ?_); conv => whnf)
  refine LoadNG.at (vs := bvs fr) (by rw [bvs_len, hfr]) (.tl (.tl (.tl (.tl (.tl (.tl (.tl .all))))))) ?_
  (conv => whnf); repeat ((first | with_reducible refine CondG.tt ?_ | with_reducible refine CondG.ff ?_); conv => whnf)
  refine LoadNG.at (vs := bvs to) (by rw [bvs_len, hto]) (.tl (.tl (.tl (.tl (.tl (.tl .all)))))) ?_
  (conv => whnf); repeat ((first | with_reducible refine CondG.tt ?_ | with_reducible refine CondG.ff ?_); conv => whnf)
  refine DoesG.eqv 8 (List.replicate 20 (.int .u8)) (by kernel_rfl) (by decide) (by kernel_rfl) (by kernel_rfl) (wt_bvs hfr) (wt_bvs hto) ?_
  (conv => whnf); repeat ((first | with_reducible refine CondG.tt ?_ | with_reducible refine CondG.ff ?_); conv => whnf)
  refine CondG.split (fun h4 => ?_) (fun h4 => ?_)
  · simp only [decide_eq_true_eq] at h4
    rw [fin9 (.inr (bvs_inj.1 h4))]
    (conv => whnf); repeat ((first | with_reducible refine CondG.tt ?_ | with_reducible refine CondG.ff ?_); conv => whnf)
    refine DrawG.mk 6 [] [cel b14 25 (uvs (amtR (V (balKey m to))).1), stP 127 s src find V n, cel b13 25 (uvs (amtR (V (balKey m fr))).1), cel b11 25 (uvs z4), cel b10 25 (uvs (subL (amtR (V (balKey m fr))).1 a)), cel b9 25 (uvs a), cel b8 33 (bvs to), cel b7 33 (bvs fr)] (by rw [List.append_nil]; exact Ent.refl _) ?_
    (conv => whnf); repeat ((first | with_reducible refine CondG.tt ?_ | with_reducible refine CondG.ff ?_); conv => whnf)
    refine .take 2 ?_
    (conv => whnf); repeat ((first | with_reducible refine CondG.tt ?_ | with_reducible refine CondG.ff ?_); conv => whnf)
    refine ⟨rfl, ?_⟩
    (conv => whnf); repeat ((first | with_reducible refine CondG.tt ?_ | with_reducible refine CondG.ff ?_); conv => whnf)
    refine .all ?_
    (conv => whnf); repeat ((first | with_reducible refine CondG.tt ?_ | with_reducible refine CondG.ff ?_); conv => whnf)
    refine ⟨by decide, ?_, ?_⟩
    (conv => whnf); repeat ((first | with_reducible refine CondG.tt ?_ | with_reducible refine CondG.ff ?_); conv => whnf)
    refine LoadNG.at (vs := uvs (subL (amtR (V (balKey m fr))).1 a)) rfl (.tl (.tl (.tl (.tl .all)))) ?_
    (conv => whnf); repeat ((first | with_reducible refine CondG.tt ?_ | with_reducible refine CondG.ff ?_); conv => whnf)
    refine .all ?_
    (conv => whnf); repeat ((first | with_reducible refine CondG.tt ?_ | with_reducible refine CondG.ff ?_); conv => whnf)
    refine ⟨by decide, ?_, ?_⟩
    (conv => whnf); repeat ((first | with_reducible refine CondG.tt ?_ | with_reducible refine CondG.ff ?_); conv => whnf)
    refine LoadNG.at (vs := uvs (amtR (V (balKey m to))).1) htl .all ?_
    (conv => whnf); repeat ((first | with_reducible refine CondG.tt ?_ | with_reducible refine CondG.ff ?_); conv => whnf)
    refine .all ?_
    (conv => whnf); repeat ((first | with_reducible refine CondG.tt ?_ | with_reducible refine CondG.ff ?_); conv => whnf)
    refine ⟨by decide, ?_⟩
    (conv => whnf); repeat ((first | with_reducible refine CondG.tt ?_ | with_reducible refine CondG.ff ?_); conv => whnf)
    refine StoreG.at rfl (Upd.tl (Upd.tl (Upd.tl (Upd.tl (Upd.whole rfl (uvs_one ((subL (amtR (V (balKey m fr))).1 a)))))))) ?_
    (conv => whnf); repeat ((first | with_reducible refine CondG.tt ?_ | with_reducible refine CondG.ff ?_); conv => whnf)
    refine .all ?_
    (conv => whnf); repeat ((first | with_reducible refine CondG.tt ?_ | with_reducible refine CondG.ff ?_); conv => whnf)
    refine ⟨by decide, ?_⟩
    (conv => whnf); repeat ((first | with_reducible refine CondG.tt ?_ | with_reducible refine CondG.ff ?_); conv => whnf)
    refine StoreG.at htl (Upd.tl (Upd.tl (Upd.tl (Upd.whole (by rw [htl]; rfl) (uvs_one ((amtR (V (balKey m to))).1)))))) ?_
    (conv => whnf); repeat ((first | with_reducible refine CondG.tt ?_ | with_reducible refine CondG.ff ?_); conv => whnf)
    rotate_left
    (conv => whnf); repeat ((first | with_reducible refine CondG.tt ?_ | with_reducible refine CondG.ff ?_); conv => whnf)
    refine StoreG.at rfl (Upd.tl (Upd.tl (Upd.tl (Upd.tl (Upd.whole rfl (uvs_one ((subL (amtR (V (balKey m fr))).1 a)))))))) ?_
    (conv => whnf); repeat ((first | with_reducible refine CondG.tt ?_ | with_reducible refine CondG.ff ?_); conv => whnf)
    refine .all ?_
    (conv => whnf); repeat ((first | with_reducible refine CondG.tt ?_ | with_reducible refine CondG.ff ?_); conv => whnf)
    refine ⟨by decide, ?_⟩
    (conv => whnf); repeat ((first | with_reducible refine CondG.tt ?_ | with_reducible refine CondG.ff ?_); conv => whnf)
    refine LoadNG.at (vs := uvs (amtR (V (balKey m to))).1) htl .all ?_
    (conv => whnf); repeat ((first | with_reducible refine CondG.tt ?_ | with_reducible refine CondG.ff ?_); conv => whnf)
    refine .all ?_
    (conv => whnf); repeat ((first | with_reducible refine CondG.tt ?_ | with_reducible refine CondG.ff ?_); conv => whnf)
    refine ⟨by decide, ?_⟩
    (conv => whnf); repeat ((first | with_reducible refine CondG.tt ?_ | with_reducible refine CondG.ff ?_); conv => whnf)
    refine StoreG.at htl (Upd.tl (Upd.tl (Upd.tl (Upd.whole (by rw [htl]; rfl) (uvs_one ((amtR (V (balKey m to))).1)))))) ?_
    (conv => whnf); repeat ((first | with_reducible refine CondG.tt ?_ | with_reducible refine CondG.ff ?_); conv => whnf)
    rotate_left
    (conv => whnf); repeat ((first | with_reducible refine CondG.tt ?_ | with_reducible refine CondG.ff ?_); conv => whnf)
    refine LoadNG.at (vs := uvs (amtR (V (balKey m to))).1) htl .all ?_
    (conv => whnf); repeat ((first | with_reducible refine CondG.tt ?_ | with_reducible refine CondG.ff ?_); conv => whnf)
    refine .all ?_
    (conv => whnf); repeat ((first | with_reducible refine CondG.tt ?_ | with_reducible refine CondG.ff ?_); conv => whnf)
    refine ⟨by decide, ?_⟩
    (conv => whnf); repeat ((first | with_reducible refine CondG.tt ?_ | with_reducible refine CondG.ff ?_); conv => whnf)
    refine LoadNG.at (vs := uvs (subL (amtR (V (balKey m fr))).1 a)) rfl (.tl (.tl (.tl (.tl .all)))) ?_
    (conv => whnf); repeat ((first | with_reducible refine CondG.tt ?_ | with_reducible refine CondG.ff ?_); conv => whnf)
    refine .all ?_
    (conv => whnf); repeat ((first | with_reducible refine CondG.tt ?_ | with_reducible refine CondG.ff ?_); conv => whnf)
    refine ⟨by decide, ?_⟩
    (conv => whnf); repeat ((first | with_reducible refine CondG.tt ?_ | with_reducible refine CondG.ff ?_); conv => whnf)
    refine StoreG.at rfl (Upd.tl (Upd.tl (Upd.tl (Upd.tl (Upd.whole rfl (uvs_one ((subL (amtR (V (balKey m fr))).1 a)))))))) ?_
    (conv => whnf); repeat ((first | with_reducible refine CondG.tt ?_ | with_reducible refine CondG.ff ?_); conv => whnf)
    refine .all ?_
    (conv => whnf); repeat ((first | with_reducible refine CondG.tt ?_ | with_reducible refine CondG.ff ?_); conv => whnf)
    refine ⟨by decide, ?_⟩
    (conv => whnf); repeat ((first | with_reducible refine CondG.tt ?_ | with_reducible refine CondG.ff ?_); conv => whnf)
    refine StoreG.at htl (Upd.tl (Upd.tl (Upd.tl (Upd.whole (by rw [htl]; rfl) (uvs_one ((amtR (V (balKey m to))).1)))))) ?_
    (conv => whnf); repeat ((first | with_reducible refine CondG.tt ?_ | with_reducible refine CondG.ff ?_); conv => whnf)
    all_goals
      refine .take 5 ?_
      (conv => whnf); repeat ((first | with_reducible refine CondG.tt ?_ | with_reducible refine CondG.ff ?_); conv => whnf)
      refine ⟨rfl, ?_⟩
      (conv => whnf); repeat ((first | with_reducible refine CondG.tt ?_ | with_reducible refine CondG.ff ?_); conv => whnf)
      refine ⟨rfl, ?_⟩
      (conv => whnf); repeat ((first | with_reducible refine CondG.tt ?_ | with_reducible refine CondG.ff ?_); conv => whnf)
      refine LoadNG.at (vs := uvs (subL (amtR (V (balKey m fr))).1 a)) rfl (.tl (.tl (.tl (.tl .all)))) ?_
      (conv => whnf); repeat ((first | with_reducible refine CondG.tt ?_ | with_reducible refine CondG.ff ?_); conv => whnf)
      refine LoadNG.at (vs := uvs (amtR (V (balKey m to))).1) htl (.tl (.tl (.tl .all))) ?_
      (conv => whnf); repeat ((first | with_reducible refine CondG.tt ?_ | with_reducible refine CondG.ff ?_); conv => whnf)
      exact ⟨_, Ent.sel (T := []) (A := [_, _, _, _, _, _, _, _]) [1] rfl, rfl, rfl⟩
  simp only [decide_eq_false_iff_not] at h4
  have h34 : ¬ ((amtR (V (balKey m to))).2 ≠ 0 ∨ fr = to) := fun h => by
    rcases h with h | h
    · exact h h3
    · exact h4 (by rw [h])
  (conv => whnf); repeat ((first | with_reducible refine CondG.tt ?_ | with_reducible refine CondG.ff ?_); conv => whnf)
  refine LoadNG.at (vs := uvs (amtR (V (balKey m to))).1) htl .all ?_
  (conv => whnf); repeat ((first | with_reducible refine CondG.tt ?_ | with_reducible refine CondG.ff ?_); conv => whnf)
  refine LoadNG.at (vs := uvs a) hal (.tl (.tl (.tl (.tl (.tl .all))))) ?_
  (conv => whnf); repeat ((first | with_reducible refine CondG.tt ?_ | with_reducible refine CondG.ff ?_); conv => whnf)
  refine CallG.pure (add_spec _ _ a htk ha) ?_
  rintro _ _ ⟨rfl, rfl⟩
  have hC : (uvs (addR (amtR (V (balKey m to))).1 a).1).length = 4 := by rw [uvs_len, addR_ok]
  (conv => whnf); repeat ((first | with_reducible refine CondG.tt ?_ | with_reducible refine CondG.ff ?_); conv => whnf)
  refine StoreG.at hC (Upd.tl (Upd.tl (Upd.tl (Upd.whole (by rw [hC]; rfl) (uvs_one _))))) ?_
  (conv => whnf); repeat ((first | with_reducible refine CondG.tt ?_ | with_reducible refine CondG.ff ?_); conv => whnf)
  by_cases h5 : m256 ≤ nat4 (amtR (V (balKey m to))).1 + nat4 a
  · rw [addR_no h5]
    refine CondG.tt ?_
    (conv => whnf); repeat ((first | with_reducible refine CondG.tt ?_ | with_reducible refine CondG.ff ?_); conv => whnf)
    refine LoadNG.at (vs := uvs (subL (amtR (V (balKey m fr))).1 a)) rfl (.tl (.tl (.tl (.tl .all)))) ?_
    (conv => whnf); repeat ((first | with_reducible refine CondG.tt ?_ | with_reducible refine CondG.ff ?_); conv => whnf)
    refine BuildG.of rfl ?_
    (conv => whnf); repeat ((first | with_reducible refine CondG.tt ?_ | with_reducible refine CondG.ff ?_); conv => whnf)
    refine StoreG.at rfl (Upd.tl (Upd.tl (Upd.tl (Upd.tl (Upd.whole rfl (uvs_one (subL (amtR (V (balKey m fr))).1 a))))))) ?_
    (conv => whnf); repeat ((first | with_reducible refine CondG.tt ?_ | with_reducible refine CondG.ff ?_); conv => whnf)
    refine StoreG.at rfl (Upd.tl (Upd.tl (Upd.tl (Upd.whole rfl (uvs_one z4))))) ?_
    (conv => whnf); repeat ((first | with_reducible refine CondG.tt ?_ | with_reducible refine CondG.ff ?_); conv => whnf)
    refine LoadNG.at (vs := uvs (subL (amtR (V (balKey m fr))).1 a)) rfl (.tl (.tl (.tl (.tl .all)))) ?_
    (conv => whnf); repeat ((first | with_reducible refine CondG.tt ?_ | with_reducible refine CondG.ff ?_); conv => whnf)
    refine LoadNG.at (vs := uvs z4) rfl (.tl (.tl (.tl .all))) ?_
    (conv => whnf); repeat ((first | with_reducible refine CondG.tt ?_ | with_reducible refine CondG.ff ?_); conv => whnf)
    refine ⟨_, Ent.sel (T := []) (A := [_, _, _, _, _, _, _, _]) [1] rfl, ?_, rfl⟩
    rw [fundsL, if_neg h1', if_neg h2, if_neg h34, if_pos h5]
    rfl
  rw [addR_yes h5]
  refine CondG.ff ?_
  (conv => whnf); repeat ((first | with_reducible refine CondG.tt ?_ | with_reducible refine CondG.ff ?_); conv => whnf)
  refine DrawG.mk 5 [] [cel b14 25 (uvs (amtR (V (balKey m to))).1), stP 127 s src find V n, cel b13 25 (uvs (amtR (V (balKey m fr))).1), cel b11 25 (uvs (addL (amtR (V (balKey m to))).1 a)), cel b10 25 (uvs (subL (amtR (V (balKey m fr))).1 a)), cel b9 25 (uvs a), cel b8 33 (bvs to), cel b7 33 (bvs fr)] (by rw [List.append_nil]; exact Ent.refl _) ?_
  (conv => whnf); repeat ((first | with_reducible refine CondG.tt ?_ | with_reducible refine CondG.ff ?_); conv => whnf)
  refine .all ?_
  (conv => whnf); repeat ((first | with_reducible refine CondG.tt ?_ | with_reducible refine CondG.ff ?_); conv => whnf)
  refine ⟨by decide, ?_, ?_⟩
  (conv => whnf); repeat ((first | with_reducible refine CondG.tt ?_ | with_reducible refine CondG.ff ?_); conv => whnf)
  refine LoadNG.at (vs := uvs (subL (amtR (V (balKey m fr))).1 a)) rfl (.tl (.tl (.tl (.tl .all)))) ?_
  (conv => whnf); repeat ((first | with_reducible refine CondG.tt ?_ | with_reducible refine CondG.ff ?_); conv => whnf)
  refine .all ?_
  (conv => whnf); repeat ((first | with_reducible refine CondG.tt ?_ | with_reducible refine CondG.ff ?_); conv => whnf)
  refine ⟨by decide, ?_, ?_⟩
  (conv => whnf); repeat ((first | with_reducible refine CondG.tt ?_ | with_reducible refine CondG.ff ?_); conv => whnf)
  refine LoadNG.at (vs := uvs (addL (amtR (V (balKey m to))).1 a)) rfl (.tl (.tl (.tl .all))) ?_
  (conv => whnf); repeat ((first | with_reducible refine CondG.tt ?_ | with_reducible refine CondG.ff ?_); conv => whnf)
  refine .all ?_
  (conv => whnf); repeat ((first | with_reducible refine CondG.tt ?_ | with_reducible refine CondG.ff ?_); conv => whnf)
  refine ⟨by decide, ?_⟩
  (conv => whnf); repeat ((first | with_reducible refine CondG.tt ?_ | with_reducible refine CondG.ff ?_); conv => whnf)
  refine StoreG.at rfl (Upd.tl (Upd.tl (Upd.tl (Upd.tl (Upd.whole rfl (uvs_one ((subL (amtR (V (balKey m fr))).1 a)))))))) ?_
  (conv => whnf); repeat ((first | with_reducible refine CondG.tt ?_ | with_reducible refine CondG.ff ?_); conv => whnf)
  refine .all ?_
  (conv => whnf); repeat ((first | with_reducible refine CondG.tt ?_ | with_reducible refine CondG.ff ?_); conv => whnf)
  refine ⟨by decide, ?_⟩
  (conv => whnf); repeat ((first | with_reducible refine CondG.tt ?_ | with_reducible refine CondG.ff ?_); conv => whnf)
  refine StoreG.at rfl (Upd.tl (Upd.tl (Upd.tl (Upd.whole rfl (uvs_one ((addL (amtR (V (balKey m to))).1 a))))))) ?_
  (conv => whnf); repeat ((first | with_reducible refine CondG.tt ?_ | with_reducible refine CondG.ff ?_); conv => whnf)
  rotate_left
  (conv => whnf); repeat ((first | with_reducible refine CondG.tt ?_ | with_reducible refine CondG.ff ?_); conv => whnf)
  refine StoreG.at rfl (Upd.tl (Upd.tl (Upd.tl (Upd.tl (Upd.whole rfl (uvs_one ((subL (amtR (V (balKey m fr))).1 a)))))))) ?_
  (conv => whnf); repeat ((first | with_reducible refine CondG.tt ?_ | with_reducible refine CondG.ff ?_); conv => whnf)
  refine .all ?_
  (conv => whnf); repeat ((first | with_reducible refine CondG.tt ?_ | with_reducible refine CondG.ff ?_); conv => whnf)
  refine ⟨by decide, ?_⟩
  (conv => whnf); repeat ((first | with_reducible refine CondG.tt ?_ | with_reducible refine CondG.ff ?_); conv => whnf)
  refine LoadNG.at (vs := uvs (addL (amtR (V (balKey m to))).1 a)) rfl (.tl (.tl (.tl .all))) ?_
  (conv => whnf); repeat ((first | with_reducible refine CondG.tt ?_ | with_reducible refine CondG.ff ?_); conv => whnf)
  refine .all ?_
  (conv => whnf); repeat ((first | with_reducible refine CondG.tt ?_ | with_reducible refine CondG.ff ?_); conv => whnf)
  refine ⟨by decide, ?_⟩
  (conv => whnf); repeat ((first | with_reducible refine CondG.tt ?_ | with_reducible refine CondG.ff ?_); conv => whnf)
  refine StoreG.at rfl (Upd.tl (Upd.tl (Upd.tl (Upd.whole rfl (uvs_one ((addL (amtR (V (balKey m to))).1 a))))))) ?_
  (conv => whnf); repeat ((first | with_reducible refine CondG.tt ?_ | with_reducible refine CondG.ff ?_); conv => whnf)
  rotate_left
  (conv => whnf); repeat ((first | with_reducible refine CondG.tt ?_ | with_reducible refine CondG.ff ?_); conv => whnf)
  refine LoadNG.at (vs := uvs (addL (amtR (V (balKey m to))).1 a)) rfl (.tl (.tl (.tl .all))) ?_
  (conv => whnf); repeat ((first | with_reducible refine CondG.tt ?_ | with_reducible refine CondG.ff ?_); conv => whnf)
  refine .all ?_
  (conv => whnf); repeat ((first | with_reducible refine CondG.tt ?_ | with_reducible refine CondG.ff ?_); conv => whnf)
  refine ⟨by decide, ?_⟩
  (conv => whnf); repeat ((first | with_reducible refine CondG.tt ?_ | with_reducible refine CondG.ff ?_); conv => whnf)
  refine LoadNG.at (vs := uvs (subL (amtR (V (balKey m fr))).1 a)) rfl (.tl (.tl (.tl (.tl .all)))) ?_
  (conv => whnf); repeat ((first | with_reducible refine CondG.tt ?_ | with_reducible refine CondG.ff ?_); conv => whnf)
  refine .all ?_
  (conv => whnf); repeat ((first | with_reducible refine CondG.tt ?_ | with_reducible refine CondG.ff ?_); conv => whnf)
  refine ⟨by decide, ?_⟩
  (conv => whnf); repeat ((first | with_reducible refine CondG.tt ?_ | with_reducible refine CondG.ff ?_); conv => whnf)
  refine StoreG.at rfl (Upd.tl (Upd.tl (Upd.tl (Upd.tl (Upd.whole rfl (uvs_one ((subL (amtR (V (balKey m fr))).1 a)))))))) ?_
  (conv => whnf); repeat ((first | with_reducible refine CondG.tt ?_ | with_reducible refine CondG.ff ?_); conv => whnf)
  refine .all ?_
  (conv => whnf); repeat ((first | with_reducible refine CondG.tt ?_ | with_reducible refine CondG.ff ?_); conv => whnf)
  refine ⟨by decide, ?_⟩
  (conv => whnf); repeat ((first | with_reducible refine CondG.tt ?_ | with_reducible refine CondG.ff ?_); conv => whnf)
  refine StoreG.at rfl (Upd.tl (Upd.tl (Upd.tl (Upd.whole rfl (uvs_one ((addL (amtR (V (balKey m to))).1 a))))))) ?_
  (conv => whnf); repeat ((first | with_reducible refine CondG.tt ?_ | with_reducible refine CondG.ff ?_); conv => whnf)
  all_goals
    refine .take 4 ?_
    (conv => whnf); repeat ((first | with_reducible refine CondG.tt ?_ | with_reducible refine CondG.ff ?_); conv => whnf)
    refine ⟨rfl, ?_⟩
    (conv => whnf); repeat ((first | with_reducible refine CondG.tt ?_ | with_reducible refine CondG.ff ?_); conv => whnf)
    refine ⟨rfl, ?_⟩
    (conv => whnf); repeat ((first | with_reducible refine CondG.tt ?_ | with_reducible refine CondG.ff ?_); conv => whnf)
    refine LoadNG.at (vs := uvs (subL (amtR (V (balKey m fr))).1 a)) rfl (.tl (.tl (.tl (.tl .all)))) ?_
    (conv => whnf); repeat ((first | with_reducible refine CondG.tt ?_ | with_reducible refine CondG.ff ?_); conv => whnf)
    refine LoadNG.at (vs := uvs (addL (amtR (V (balKey m to))).1 a)) rfl (.tl (.tl (.tl .all))) ?_
    (conv => whnf); repeat ((first | with_reducible refine CondG.tt ?_ | with_reducible refine CondG.ff ?_); conv => whnf)
    refine ⟨_, Ent.sel (T := []) (A := [_, _, _, _, _, _, _, _]) [1] rfl, ?_, rfl⟩
    rw [fundsL, if_neg h1', if_neg h2, if_neg h34, if_neg h5]
    rfl
theorem turn_at (F : List HP) (s : Nat) (src : Value) (V : View) (n : Nat) (m : Nat) (hm : m < 64) (fr to a less more : List Nat) (hfr : fr.length = 20) (hto : to.length = 20) (ha : a.length = 4) (hl : less.length = 4) (hr : more.length = 4) (hs : SrcG Tryd.prog F src find) (ho : SrcOk find) (hn : n + 1 ≤ 1099511627776) :
    SpecF Tryd.prog 55 [.pointer (some ⟨s, 0, none⟩), .int .i64 m, .agg ⟨bvs fr⟩, .agg ⟨bvs to⟩, .agg ⟨uvs a⟩, .agg ⟨uvs less⟩, .agg ⟨uvs more⟩] F [stP 127 s src find V n] (fun r L => r = .int .i64 0 ∧ L = [stP 127 s src find (turnL V m fr to a less more) (n + 2)]) := by
  have hal : (uvs a).length = 4 := by rw [uvs_len, ha]
  have hll : (uvs less).length = 4 := by rw [uvs_len, hl]
  have hrl : (uvs more).length = 4 := by rw [uvs_len, hr]
  refine fun55.spec rfl ?_
  (conv => whnf); repeat ((first | with_reducible refine CondG.tt ?_ | with_reducible refine CondG.ff ?_); conv => whnf)
  intro b9
  (conv => whnf); repeat ((first | with_reducible refine CondG.tt ?_ | with_reducible refine CondG.ff ?_); conv => whnf)
  intro b10
  (conv => whnf); repeat ((first | with_reducible refine CondG.tt ?_ | with_reducible refine CondG.ff ?_); conv => whnf)
  intro b11
  (conv => whnf); repeat ((first | with_reducible refine CondG.tt ?_ | with_reducible refine CondG.ff ?_); conv => whnf)
  intro b12
  (conv => whnf); repeat ((first | with_reducible refine CondG.tt ?_ | with_reducible refine CondG.ff ?_); conv => whnf)
  intro b13
  (conv => whnf); repeat ((first | with_reducible refine CondG.tt ?_ | with_reducible refine CondG.ff ?_); conv => whnf)
  refine LoadNG.at (vs := bvs fr) (by rw [bvs_len, hfr]) (.tl (.tl (.tl (.tl .all)))) ?_
  (conv => whnf); repeat ((first | with_reducible refine CondG.tt ?_ | with_reducible refine CondG.ff ?_); conv => whnf)
  refine LoadNG.at (vs := bvs to) (by rw [bvs_len, hto]) (.tl (.tl (.tl .all))) ?_
  (conv => whnf); repeat ((first | with_reducible refine CondG.tt ?_ | with_reducible refine CondG.ff ?_); conv => whnf)
  refine DoesG.eqv 8 (List.replicate 20 (.int .u8)) (by kernel_rfl) (by decide) (by kernel_rfl) (by kernel_rfl) (wt_bvs hfr) (wt_bvs hto) ?_
  (conv => whnf); repeat ((first | with_reducible refine CondG.tt ?_ | with_reducible refine CondG.ff ?_); conv => whnf)
  refine CondG.split (fun h1 => ?_) (fun h1 => ?_)
  · simp only [decide_eq_true_eq] at h1
    have h1 := bvs_inj.1 h1
    (conv => whnf); repeat ((first | with_reducible refine CondG.tt ?_ | with_reducible refine CondG.ff ?_); conv => whnf)
    refine ⟨_, (Ent.sel (T := []) (A := [_, _, _, _, _, _]) [5] rfl).trans (stP_more (m := n + 2) (by omega)), rfl, ?_⟩
    rw [turnL, if_pos (.inl h1)]
    rfl
  simp only [decide_eq_false_iff_not] at h1
  have h1 : ¬ fr = to := fun e => h1 (by rw [e])
  (conv => whnf); repeat ((first | with_reducible refine CondG.tt ?_ | with_reducible refine CondG.ff ?_); conv => whnf)
  refine LoadNG.at (vs := uvs a) hal (.tl (.tl .all)) ?_
  (conv => whnf); repeat ((first | with_reducible refine CondG.tt ?_ | with_reducible refine CondG.ff ?_); conv => whnf)
  refine CallG.pure (isZero_spec _ a ha) ?_
  rintro _ _ ⟨rfl, rfl⟩
  (conv => whnf); repeat ((first | with_reducible refine CondG.tt ?_ | with_reducible refine CondG.ff ?_); conv => whnf)
  refine CondG.dec (fun h2 => ?_) (fun h2 => ?_)
  · have h2 : a = z4 := h2
    (conv => whnf); repeat ((first | with_reducible refine CondG.tt ?_ | with_reducible refine CondG.ff ?_); conv => whnf)
    refine ⟨_, (Ent.sel (T := []) (A := [_, _, _, _, _, _]) [5] rfl).trans (stP_more (m := n + 2) (by omega)), rfl, ?_⟩
    rw [turnL, if_pos (.inr h2)]
    rfl
  have h2 : ¬ a = z4 := h2
  (conv => whnf); repeat ((first | with_reducible refine CondG.tt ?_ | with_reducible refine CondG.ff ?_); conv => whnf)
  refine DrawG.mk 7 [cel b13 25 (uvs more), cel b12 25 (uvs less), cel b11 25 (uvs a), cel b10 33 (bvs to), cel b9 33 (bvs fr)] [stP 127 s src find V n] (Ent.sel (T := []) (A := [_, _, _, _, _, _]) [5, 0, 1, 2, 3, 4] rfl) ?_
  (conv => whnf); repeat ((first | with_reducible refine CondG.tt ?_ | with_reducible refine CondG.ff ?_); conv => whnf)
  refine .take 0 ?_
  (conv => whnf); repeat ((first | with_reducible refine CondG.tt ?_ | with_reducible refine CondG.ff ?_); conv => whnf)
  refine ⟨rfl, ?_⟩
  (conv => whnf); repeat ((first | with_reducible refine CondG.tt ?_ | with_reducible refine CondG.ff ?_); conv => whnf)
  refine .take 1 ?_
  (conv => whnf); repeat ((first | with_reducible refine CondG.tt ?_ | with_reducible refine CondG.ff ?_); conv => whnf)
  refine ⟨rfl, ?_⟩
  (conv => whnf); repeat ((first | with_reducible refine CondG.tt ?_ | with_reducible refine CondG.ff ?_); conv => whnf)
  refine .take 2 ?_
  (conv => whnf); repeat ((first | with_reducible refine CondG.tt ?_ | with_reducible refine CondG.ff ?_); conv => whnf)
  refine ⟨rfl, ?_⟩
  (conv => whnf); repeat ((first | with_reducible refine CondG.tt ?_ | with_reducible refine CondG.ff ?_); conv => whnf)
  refine LoadNG.at (vs := bvs fr) (by rw [bvs_len, hfr]) (.tl (.tl (.tl (.tl .all)))) ?_
  (conv => whnf); repeat ((first | with_reducible refine CondG.tt ?_ | with_reducible refine CondG.ff ?_); conv => whnf)
  refine .take 4 ?_
  (conv => whnf); repeat ((first | with_reducible refine CondG.tt ?_ | with_reducible refine CondG.ff ?_); conv => whnf)
  refine ⟨rfl, ?_⟩
  (conv => whnf); repeat ((first | with_reducible refine CondG.tt ?_ | with_reducible refine CondG.ff ?_); conv => whnf)
  refine LoadNG.at (vs := uvs less) hll (.tl .all) ?_
  (conv => whnf); repeat ((first | with_reducible refine CondG.tt ?_ | with_reducible refine CondG.ff ?_); conv => whnf)
  refine .all ?_
  (conv => whnf); repeat ((first | with_reducible refine CondG.tt ?_ | with_reducible refine CondG.ff ?_); conv => whnf)
  refine ⟨by decide, ?_⟩
  (conv => whnf); repeat ((first | with_reducible refine CondG.tt ?_ | with_reducible refine CondG.ff ?_); conv => whnf)
  refine CallG.pure (balanceKey_spec _ m hm fr hfr) ?_
  rintro _ _ ⟨rfl, rfl⟩
  (conv => whnf); repeat ((first | with_reducible refine CondG.tt ?_ | with_reducible refine CondG.ff ?_); conv => whnf)
  refine .all ?_
  (conv => whnf); repeat ((first | with_reducible refine CondG.tt ?_ | with_reducible refine CondG.ff ?_); conv => whnf)
  refine ⟨by decide, ?_⟩
  (conv => whnf); repeat ((first | with_reducible refine CondG.tt ?_ | with_reducible refine CondG.ff ?_); conv => whnf)
  refine CallG.of (pre := [stP 127 s src find V (n)]) (rest := []) (lay_at _ s src _ (n) (balKey m fr) less hl ((hs.left _).left _) ho (may_bal hfr) (by omega)) (Ent.refl _) ?_
  rintro _ _ ⟨rfl, rfl⟩
  (conv => whnf); repeat ((first | with_reducible refine CondG.tt ?_ | with_reducible refine CondG.ff ?_); conv => whnf)
  refine .take 6 ?_
  (conv => whnf); repeat ((first | with_reducible refine CondG.tt ?_ | with_reducible refine CondG.ff ?_); conv => whnf)
  refine ⟨rfl, ?_⟩
  (conv => whnf); repeat ((first | with_reducible refine CondG.tt ?_ | with_reducible refine CondG.ff ?_); conv => whnf)
  refine ⟨rfl, ?_⟩
  (conv => whnf); repeat ((first | with_reducible refine CondG.tt ?_ | with_reducible refine CondG.ff ?_); conv => whnf)
  refine CondG.ff ?_
  (conv => whnf); repeat ((first | with_reducible refine CondG.tt ?_ | with_reducible refine CondG.ff ?_); conv => whnf)
  refine DrawG.mk 7 [cel b13 25 (uvs more), cel b12 25 (uvs less), cel b11 25 (uvs a), cel b10 33 (bvs to), cel b9 33 (bvs fr)] [stP 127 s src find (layA V (balKey m fr) less) (n + 1)] (Ent.sel (T := []) (A := [_, _, _, _, _, _]) [0, 1, 2, 3, 4, 5] rfl) ?_
  (conv => whnf); repeat ((first | with_reducible refine CondG.tt ?_ | with_reducible refine CondG.ff ?_); conv => whnf)
  refine .take 0 ?_
  (conv => whnf); repeat ((first | with_reducible refine CondG.tt ?_ | with_reducible refine CondG.ff ?_); conv => whnf)
  refine ⟨rfl, ?_⟩
  (conv => whnf); repeat ((first | with_reducible refine CondG.tt ?_ | with_reducible refine CondG.ff ?_); conv => whnf)
  refine .take 1 ?_
  (conv => whnf); repeat ((first | with_reducible refine CondG.tt ?_ | with_reducible refine CondG.ff ?_); conv => whnf)
  refine ⟨rfl, ?_⟩
  (conv => whnf); repeat ((first | with_reducible refine CondG.tt ?_ | with_reducible refine CondG.ff ?_); conv => whnf)
  refine .take 2 ?_
  (conv => whnf); repeat ((first | with_reducible refine CondG.tt ?_ | with_reducible refine CondG.ff ?_); conv => whnf)
  refine ⟨rfl, ?_⟩
  (conv => whnf); repeat ((first | with_reducible refine CondG.tt ?_ | with_reducible refine CondG.ff ?_); conv => whnf)
  refine LoadNG.at (vs := bvs to) (by rw [bvs_len, hto]) (.tl (.tl (.tl .all))) ?_
  (conv => whnf); repeat ((first | with_reducible refine CondG.tt ?_ | with_reducible refine CondG.ff ?_); conv => whnf)
  refine .take 4 ?_
  (conv => whnf); repeat ((first | with_reducible refine CondG.tt ?_ | with_reducible refine CondG.ff ?_); conv => whnf)
  refine ⟨rfl, ?_⟩
  (conv => whnf); repeat ((first | with_reducible refine CondG.tt ?_ | with_reducible refine CondG.ff ?_); conv => whnf)
  refine LoadNG.at (vs := uvs more) hrl .all ?_
  (conv => whnf); repeat ((first | with_reducible refine CondG.tt ?_ | with_reducible refine CondG.ff ?_); conv => whnf)
  refine .all ?_
  (conv => whnf); repeat ((first | with_reducible refine CondG.tt ?_ | with_reducible refine CondG.ff ?_); conv => whnf)
  refine ⟨by decide, ?_⟩
  (conv => whnf); repeat ((first | with_reducible refine CondG.tt ?_ | with_reducible refine CondG.ff ?_); conv => whnf)
  refine CallG.pure (balanceKey_spec _ m hm to hto) ?_
  rintro _ _ ⟨rfl, rfl⟩
  (conv => whnf); repeat ((first | with_reducible refine CondG.tt ?_ | with_reducible refine CondG.ff ?_); conv => whnf)
  refine .all ?_
  (conv => whnf); repeat ((first | with_reducible refine CondG.tt ?_ | with_reducible refine CondG.ff ?_); conv => whnf)
  refine ⟨by decide, ?_⟩
  (conv => whnf); repeat ((first | with_reducible refine CondG.tt ?_ | with_reducible refine CondG.ff ?_); conv => whnf)
  refine CallG.of (pre := [stP 127 s src find (layA V (balKey m fr) less) ((n + 1))]) (rest := []) (lay_at _ s src _ ((n + 1)) (balKey m to) more hr ((hs.left _).left _) ho (may_bal hto) (by omega)) (Ent.refl _) ?_
  rintro _ _ ⟨rfl, rfl⟩
  (conv => whnf); repeat ((first | with_reducible refine CondG.tt ?_ | with_reducible refine CondG.ff ?_); conv => whnf)
  refine .take 6 ?_
  (conv => whnf); repeat ((first | with_reducible refine CondG.tt ?_ | with_reducible refine CondG.ff ?_); conv => whnf)
  refine ⟨rfl, ?_⟩
  (conv => whnf); repeat ((first | with_reducible refine CondG.tt ?_ | with_reducible refine CondG.ff ?_); conv => whnf)
  refine ⟨rfl, ?_⟩
  (conv => whnf); repeat ((first | with_reducible refine CondG.tt ?_ | with_reducible refine CondG.ff ?_); conv => whnf)
  refine ⟨_, Ent.sel (T := []) (A := [_, _, _, _, _, _]) [0] rfl, rfl, ?_⟩
  rw [turnL, if_neg (fun h => h.elim h1 h2)]
  rfl
theorem move_at (F : List HP) (s : Nat) (src : Value) (V : View) (n : Nat) (t : Int) (fr to a : List Nat) (hfr : fr.length = 20) (hto : to.length = 20) (ha : wOk a) (hs : SrcG Tryd.prog F src find) (ho : SrcOk find) (hn : n + 1 ≤ 1099511627776) :
    SpecF Tryd.prog 14 [.pointer (some ⟨s, 0, none⟩), .int .i64 t, .agg ⟨bvs fr⟩, .agg ⟨bvs to⟩, .agg ⟨uvs a⟩] F [stP 127 s src find V n] (fun r L => r = .int .i64 (moveL V t fr to a).1 ∧ L = [stP 127 s src find (moveL V t fr to a).2 (n + 2)]) := by
  have hok := runL_ok V t
  have hl1 : (runL V t).1.cells.length = 6 := TokD.cells_len hok.len
  have hal : (uvs a).length = 4 := by rw [uvs_len, ha.len]
  refine fun14.spec rfl ?_
  (conv => whnf); repeat ((first | with_reducible refine CondG.tt ?_ | with_reducible refine CondG.ff ?_); conv => whnf)
  intro b7
  (conv => whnf); repeat ((first | with_reducible refine CondG.tt ?_ | with_reducible refine CondG.ff ?_); conv => whnf)
  intro b8
  (conv => whnf); repeat ((first | with_reducible refine CondG.tt ?_ | with_reducible refine CondG.ff ?_); conv => whnf)
  intro b9
  (conv => whnf); repeat ((first | with_reducible refine CondG.tt ?_ | with_reducible refine CondG.ff ?_); conv => whnf)
  refine CallG.of (pre := [stP 127 s src find V n]) (rest := [cel b9 25 (uvs a), cel b8 33 (bvs to), cel b7 33 (bvs fr)]) (running_at _ s src V n t (hs.left _) ho) (Ent.sel (T := []) (A := [_, _, _, _]) [3, 0, 1, 2] rfl) ?_
  rintro _ _ ⟨rfl, rfl⟩
  (conv => whnf); repeat ((first | with_reducible refine CondG.tt ?_ | with_reducible refine CondG.ff ?_); conv => whnf)
  intro b11
  (conv => whnf); repeat ((first | with_reducible refine CondG.tt ?_ | with_reducible refine CondG.ff ?_); conv => whnf)
  refine StoreG.at hl1 (Upd.whole (by rw [hl1]; rfl) (TokD.cells_one _)) ?_
  (conv => whnf); repeat ((first | with_reducible refine CondG.tt ?_ | with_reducible refine CondG.ff ?_); conv => whnf)
  refine CondG.ndec (fun h1 => ?_) (fun h1 => ?_)
  · (conv => whnf); repeat ((first | with_reducible refine CondG.tt ?_ | with_reducible refine CondG.ff ?_); conv => whnf)
    refine ⟨_, (Ent.sel (T := []) (A := [_, _, _, _, _]) [1] rfl).trans (stP_more (m := n + 2) (by omega)), ?_, ?_⟩
    · rw [moveL, if_pos h1]; rfl
    · rw [moveL, if_pos h1]; rfl
  obtain ⟨m, rfl, hm⟩ := runL_nat h1
  have h1' : ¬ (runL V m).2 ≠ 0 := by rw [show (runL V m).2 = 0 from h1]; decide
  have em : ((m : Nat) : Int).toNat = m := Int.toNat_natCast m
  have hfo := fundsL_ok V m fr to a
  have hfl : (uvs (fundsL V m fr to a).less).length = 4 := by rw [uvs_len, hfo.1.len]
  have hfm : (uvs (fundsL V m fr to a).more).length = 4 := by rw [uvs_len, hfo.2.len]
  (conv => whnf); repeat ((first | with_reducible refine CondG.tt ?_ | with_reducible refine CondG.ff ?_); conv => whnf)
  refine LoadNG.at (vs := bvs fr) (by rw [bvs_len, hfr]) (.tl (.tl (.tl (.tl .all)))) ?_
  (conv => whnf); repeat ((first | with_reducible refine CondG.tt ?_ | with_reducible refine CondG.ff ?_); conv => whnf)
  refine LoadNG.at (vs := bvs to) (by rw [bvs_len, hto]) (.tl (.tl (.tl .all))) ?_
  (conv => whnf); repeat ((first | with_reducible refine CondG.tt ?_ | with_reducible refine CondG.ff ?_); conv => whnf)
  refine LoadNG.at (vs := uvs a) hal (.tl (.tl .all)) ?_
  (conv => whnf); repeat ((first | with_reducible refine CondG.tt ?_ | with_reducible refine CondG.ff ?_); conv => whnf)
  refine CallG.of (pre := [stP 127 s src find V n]) (rest := [cel b11 44 (runL V m).1.cells, cel b9 25 (uvs a), cel b8 33 (bvs to), cel b7 33 (bvs fr)]) (funds_at _ s src V n m hm fr to a hfr hto ha (hs.left _) ho) (Ent.sel (T := []) (A := [_, _, _, _, _]) [1, 0, 2, 3, 4] rfl) ?_
  rintro _ _ ⟨rfl, rfl⟩
  (conv => whnf); repeat ((first | with_reducible refine CondG.tt ?_ | with_reducible refine CondG.ff ?_); conv => whnf)
  intro b13
  (conv => whnf); repeat ((first | with_reducible refine CondG.tt ?_ | with_reducible refine CondG.ff ?_); conv => whnf)
  intro b14
  (conv => whnf); repeat ((first | with_reducible refine CondG.tt ?_ | with_reducible refine CondG.ff ?_); conv => whnf)
  refine StoreG.at hfl (Upd.tl (Upd.whole (by rw [hfl]; rfl) (uvs_one _))) ?_
  (conv => whnf); repeat ((first | with_reducible refine CondG.tt ?_ | with_reducible refine CondG.ff ?_); conv => whnf)
  refine StoreG.at hfm (Upd.whole (by rw [hfm]; rfl) (uvs_one _)) ?_
  (conv => whnf); repeat ((first | with_reducible refine CondG.tt ?_ | with_reducible refine CondG.ff ?_); conv => whnf)
  refine CondG.ndec (fun h2 => ?_) (fun h2 => ?_)
  · (conv => whnf); repeat ((first | with_reducible refine CondG.tt ?_ | with_reducible refine CondG.ff ?_); conv => whnf)
    refine ⟨_, (Ent.sel (T := []) (A := [_, _, _, _, _, _, _]) [2] rfl).trans (stP_more (m := n + 2) (by omega)), ?_, ?_⟩
    · rw [moveL, if_neg h1', em, if_pos h2]; rfl
    · rw [moveL, if_neg h1', em, if_pos h2]; rfl
  have h2' : ¬ (fundsL V m fr to a).e ≠ 0 := by rw [show (fundsL V m fr to a).e = 0 from h2]; decide
  (conv => whnf); repeat ((first | with_reducible refine CondG.tt ?_ | with_reducible refine CondG.ff ?_); conv => whnf)
  refine LoadNG.at (vs := bvs fr) (by rw [bvs_len, hfr]) (.tl (.tl (.tl (.tl (.tl (.tl .all)))))) ?_
  (conv => whnf); repeat ((first | with_reducible refine CondG.tt ?_ | with_reducible refine CondG.ff ?_); conv => whnf)
  refine LoadNG.at (vs := bvs to) (by rw [bvs_len, hto]) (.tl (.tl (.tl (.tl (.tl .all))))) ?_
  (conv => whnf); repeat ((first | with_reducible refine CondG.tt ?_ | with_reducible refine CondG.ff ?_); conv => whnf)
  refine LoadNG.at (vs := uvs a) hal (.tl (.tl (.tl (.tl .all)))) ?_
  (conv => whnf); repeat ((first | with_reducible refine CondG.tt ?_ | with_reducible refine CondG.ff ?_); conv => whnf)
  refine LoadNG.at (vs := uvs (fundsL V m fr to a).less) hfl (.tl .all) ?_
  (conv => whnf); repeat ((first | with_reducible refine CondG.tt ?_ | with_reducible refine CondG.ff ?_); conv => whnf)
  refine LoadNG.at (vs := uvs (fundsL V m fr to a).more) hfm .all ?_
  (conv => whnf); repeat ((first | with_reducible refine CondG.tt ?_ | with_reducible refine CondG.ff ?_); conv => whnf)
  refine CallG.of (pre := [stP 127 s src find V n]) (rest := [cel b14 25 (uvs (fundsL V m fr to a).more), cel b13 25 (uvs (fundsL V m fr to a).less), cel b11 44 (runL V m).1.cells, cel b9 25 (uvs a), cel b8 33 (bvs to), cel b7 33 (bvs fr)]) (turn_at _ s src V n m hm fr to a _ _ hfr hto ha.len hfo.1.len hfo.2.len (hs.left _) ho hn) (Ent.sel (T := []) (A := [_, _, _, _, _, _, _]) [2, 0, 1, 3, 4, 5, 6] rfl) ?_
  rintro _ _ ⟨rfl, rfl⟩
  (conv => whnf); repeat ((first | with_reducible refine CondG.tt ?_ | with_reducible refine CondG.ff ?_); conv => whnf)
  refine ⟨_, Ent.sel (T := []) (A := [_, _, _, _, _, _, _]) [0] rfl, ?_, ?_⟩
  · rw [moveL, if_neg h1', em, if_neg h2']; rfl
  · rw [moveL, if_neg h1', em, if_neg h2']; rfl
theorem allow_at (F : List HP) (s : Nat) (src : Value) (V : View) (n : Nat) (t : Int) (ow sp a : List Nat) (how : ow.length = 20) (hsp : sp.length = 20) (ha : wOk a) (hs : SrcG Tryd.prog F src find) (ho : SrcOk find) (hn : n + 1 ≤ 1099511627776) :
    SpecF Tryd.prog 18 [.pointer (some ⟨s, 0, none⟩), .int .i64 t, .agg ⟨bvs ow⟩, .agg ⟨bvs sp⟩, .agg ⟨uvs a⟩] F [stP 127 s src find V n] (fun r L => r = .int .i64 (allowL V t ow sp a).1 ∧ L = [stP 127 s src find (allowL V t ow sp a).2 (n + 2)]) := by
  have hok := thereL_ok V t
  have hl1 : (thereL V t).1.cells.length = 6 := TokD.cells_len hok.len
  have hal : (uvs a).length = 4 := by rw [uvs_len, ha.len]
  refine fun18.spec rfl ?_
  (conv => whnf); repeat ((first | with_reducible refine CondG.tt ?_ | with_reducible refine CondG.ff ?_); conv => whnf)
  intro b7
  (conv => whnf); repeat ((first | with_reducible refine CondG.tt ?_ | with_reducible refine CondG.ff ?_); conv => whnf)
  intro b8
  (conv => whnf); repeat ((first | with_reducible refine CondG.tt ?_ | with_reducible refine CondG.ff ?_); conv => whnf)
  intro b9
  (conv => whnf); repeat ((first | with_reducible refine CondG.tt ?_ | with_reducible refine CondG.ff ?_); conv => whnf)
  refine CallG.of (pre := [stP 127 s src find V n]) (rest := [cel b9 25 (uvs a), cel b8 33 (bvs sp), cel b7 33 (bvs ow)]) (there_at _ s src V n t (hs.left _) ho) (Ent.sel (T := []) (A := [_, _, _, _]) [3, 0, 1, 2] rfl) ?_
  rintro _ _ ⟨rfl, rfl⟩
  (conv => whnf); repeat ((first | with_reducible refine CondG.tt ?_ | with_reducible refine CondG.ff ?_); conv => whnf)
  intro b11
  (conv => whnf); repeat ((first | with_reducible refine CondG.tt ?_ | with_reducible refine CondG.ff ?_); conv => whnf)
  refine StoreG.at hl1 (Upd.whole (by rw [hl1]; rfl) (TokD.cells_one _)) ?_
  (conv => whnf); repeat ((first | with_reducible refine CondG.tt ?_ | with_reducible refine CondG.ff ?_); conv => whnf)
  refine CondG.ndec (fun h1 => ?_) (fun h1 => ?_)
  · (conv => whnf); repeat ((first | with_reducible refine CondG.tt ?_ | with_reducible refine CondG.ff ?_); conv => whnf)
    refine ⟨_, (Ent.sel (T := []) (A := [_, _, _, _, _]) [1] rfl).trans (stP_more (m := n + 2) (by omega)), ?_, ?_⟩
    · rw [allowL, if_pos h1]; rfl
    · rw [allowL, if_pos h1]; rfl
  obtain ⟨m, rfl, hm⟩ := thereL_nat h1
  have h1' : ¬ (thereL V m).2 ≠ 0 := by rw [show (thereL V m).2 = 0 from h1]; decide
  have em : ((m : Nat) : Int).toNat = m := Int.toNat_natCast m
  (conv => whnf); repeat ((first | with_reducible refine CondG.tt ?_ | with_reducible refine CondG.ff ?_); conv => whnf)
  refine DrawG.mk 8 [cel b11 44 (thereL V m).1.cells, cel b9 25 (uvs a), cel b8 33 (bvs sp), cel b7 33 (bvs ow)] [stP 127 s src find V n] (Ent.sel (T := []) (A := [_, _, _, _, _]) [1, 0, 2, 3, 4] rfl) ?_
  (conv => whnf); repeat ((first | with_reducible refine CondG.tt ?_ | with_reducible refine CondG.ff ?_); conv => whnf)
  refine .take 0 ?_
  (conv => whnf); repeat ((first | with_reducible refine CondG.tt ?_ | with_reducible refine CondG.ff ?_); conv => whnf)
  refine ⟨rfl, ?_⟩
  (conv => whnf); repeat ((first | with_reducible refine CondG.tt ?_ | with_reducible refine CondG.ff ?_); conv => whnf)
  refine .take 1 ?_
  (conv => whnf); repeat ((first | with_reducible refine CondG.tt ?_ | with_reducible refine CondG.ff ?_); conv => whnf)
  refine ⟨rfl, ?_⟩
  (conv => whnf); repeat ((first | with_reducible refine CondG.tt ?_ | with_reducible refine CondG.ff ?_); conv => whnf)
  refine .take 2 ?_
  (conv => whnf); repeat ((first | with_reducible refine CondG.tt ?_ | with_reducible refine CondG.ff ?_); conv => whnf)
  refine ⟨rfl, ?_⟩
  (conv => whnf); repeat ((first | with_reducible refine CondG.tt ?_ | with_reducible refine CondG.ff ?_); conv => whnf)
  refine LoadNG.at (vs := bvs ow) (by rw [bvs_len, how]) (.tl (.tl (.tl .all))) ?_
  (conv => whnf); repeat ((first | with_reducible refine CondG.tt ?_ | with_reducible refine CondG.ff ?_); conv => whnf)
  refine .take 3 ?_
  (conv => whnf); repeat ((first | with_reducible refine CondG.tt ?_ | with_reducible refine CondG.ff ?_); conv => whnf)
  refine ⟨rfl, ?_⟩
  (conv => whnf); repeat ((first | with_reducible refine CondG.tt ?_ | with_reducible refine CondG.ff ?_); conv => whnf)
  refine LoadNG.at (vs := bvs sp) (by rw [bvs_len, hsp]) (.tl (.tl .all)) ?_
  (conv => whnf); repeat ((first | with_reducible refine CondG.tt ?_ | with_reducible refine CondG.ff ?_); conv => whnf)
  refine .take 5 ?_
  (conv => whnf); repeat ((first | with_reducible refine CondG.tt ?_ | with_reducible refine CondG.ff ?_); conv => whnf)
  refine ⟨rfl, ?_⟩
  (conv => whnf); repeat ((first | with_reducible refine CondG.tt ?_ | with_reducible refine CondG.ff ?_); conv => whnf)
  refine LoadNG.at (vs := uvs a) hal (.tl .all) ?_
  (conv => whnf); repeat ((first | with_reducible refine CondG.tt ?_ | with_reducible refine CondG.ff ?_); conv => whnf)
  refine .all ?_
  (conv => whnf); repeat ((first | with_reducible refine CondG.tt ?_ | with_reducible refine CondG.ff ?_); conv => whnf)
  refine ⟨by decide, ?_⟩
  (conv => whnf); repeat ((first | with_reducible refine CondG.tt ?_ | with_reducible refine CondG.ff ?_); conv => whnf)
  refine CallG.pure (allowanceKey_spec _ m hm ow sp how hsp) ?_
  rintro _ _ ⟨rfl, rfl⟩
  (conv => whnf); repeat ((first | with_reducible refine CondG.tt ?_ | with_reducible refine CondG.ff ?_); conv => whnf)
  refine .all ?_
  (conv => whnf); repeat ((first | with_reducible refine CondG.tt ?_ | with_reducible refine CondG.ff ?_); conv => whnf)
  refine ⟨by decide, ?_⟩
  (conv => whnf); repeat ((first | with_reducible refine CondG.tt ?_ | with_reducible refine CondG.ff ?_); conv => whnf)
  refine CallG.of (pre := [stP 127 s src find V n]) (rest := []) (lay_at _ s src V n (allKey m ow sp) a ha.len ((hs.left _).left _) ho (may_all how hsp) (by omega)) (Ent.refl _) ?_
  rintro _ _ ⟨rfl, rfl⟩
  (conv => whnf); repeat ((first | with_reducible refine CondG.tt ?_ | with_reducible refine CondG.ff ?_); conv => whnf)
  refine .take 7 ?_
  (conv => whnf); repeat ((first | with_reducible refine CondG.tt ?_ | with_reducible refine CondG.ff ?_); conv => whnf)
  refine ⟨rfl, ?_⟩
  (conv => whnf); repeat ((first | with_reducible refine CondG.tt ?_ | with_reducible refine CondG.ff ?_); conv => whnf)
  refine ⟨rfl, ?_⟩
  (conv => whnf); repeat ((first | with_reducible refine CondG.tt ?_ | with_reducible refine CondG.ff ?_); conv => whnf)
  refine ⟨_, (Ent.sel (T := []) (A := [_, _, _, _, _]) [0] rfl).trans (stP_more (m := n + 2) (by omega)), ?_, ?_⟩
  · rw [allowL, if_neg h1', em]; rfl
  · rw [allowL, if_neg h1', em]; rfl
theorem pull_at (F : List HP) (s : Nat) (src : Value) (V : View) (n : Nat) (t : Int) (sp fr to a : List Nat) (hsp : sp.length = 20) (hfr : fr.length = 20) (hto : to.length = 20) (ha : wOk a) (hs : SrcG Tryd.prog F src find) (ho : SrcOk find) (hn : n + 2 ≤ 1099511627776) :
    SpecF Tryd.prog 17 [.pointer (some ⟨s, 0, none⟩), .int .i64 t, .agg ⟨bvs sp⟩, .agg ⟨bvs fr⟩, .agg ⟨bvs to⟩, .agg ⟨uvs a⟩] F [stP 127 s src find V n] (fun r L => r = .int .i64 (pullL V t sp fr to a).1 ∧ L = [stP 127 s src find (pullL V t sp fr to a).2 (n + 3)]) := by
  have hok := runL_ok V t
  have hl1 : (runL V t).1.cells.length = 6 := TokD.cells_len hok.len
  have hal : (uvs a).length = 4 := by rw [uvs_len, ha.len]
  refine fun17.spec rfl ?_
  (conv => whnf); repeat ((first | with_reducible refine CondG.tt ?_ | with_reducible refine CondG.ff ?_); conv => whnf)
  intro b8
  (conv => whnf); repeat ((first | with_reducible refine CondG.tt ?_ | with_reducible refine CondG.ff ?_); conv => whnf)
  intro b9
  (conv => whnf); repeat ((first | with_reducible refine CondG.tt ?_ | with_reducible refine CondG.ff ?_); conv => whnf)
  intro b10
  (conv => whnf); repeat ((first | with_reducible refine CondG.tt ?_ | with_reducible refine CondG.ff ?_); conv => whnf)
  intro b11
  (conv => whnf); repeat ((first | with_reducible refine CondG.tt ?_ | with_reducible refine CondG.ff ?_); conv => whnf)
  refine CallG.of (pre := [stP 127 s src find V n]) (rest := [cel b11 25 (uvs a), cel b10 33 (bvs to), cel b9 33 (bvs fr), cel b8 33 (bvs sp)]) (running_at _ s src V n t (hs.left _) ho) (Ent.sel (T := []) (A := [_, _, _, _, _]) [4, 0, 1, 2, 3] rfl) ?_
  rintro _ _ ⟨rfl, rfl⟩
  (conv => whnf); repeat ((first | with_reducible refine CondG.tt ?_ | with_reducible refine CondG.ff ?_); conv => whnf)
  intro b13
  (conv => whnf); repeat ((first | with_reducible refine CondG.tt ?_ | with_reducible refine CondG.ff ?_); conv => whnf)
  refine StoreG.at hl1 (Upd.whole (by rw [hl1]; rfl) (TokD.cells_one _)) ?_
  (conv => whnf); repeat ((first | with_reducible refine CondG.tt ?_ | with_reducible refine CondG.ff ?_); conv => whnf)
  refine CondG.ndec (fun h1 => ?_) (fun h1 => ?_)
  · (conv => whnf); repeat ((first | with_reducible refine CondG.tt ?_ | with_reducible refine CondG.ff ?_); conv => whnf)
    refine ⟨_, (Ent.sel (T := []) (A := [_, _, _, _, _, _]) [1] rfl).trans (stP_more (m := n + 3) (by omega)), ?_, ?_⟩
    · rw [pullL, if_pos h1]; rfl
    · rw [pullL, if_pos h1]; rfl
  obtain ⟨m, rfl, hm⟩ := runL_nat h1
  have h1' : ¬ (runL V m).2 ≠ 0 := by rw [show (runL V m).2 = 0 from h1]; decide
  have em : ((m : Nat) : Int).toNat = m := Int.toNat_natCast m
  have hfo := fundsL_ok V m fr to a
  have hfl : (uvs (fundsL V m fr to a).less).length = 4 := by rw [uvs_len, hfo.1.len]
  have hfm : (uvs (fundsL V m fr to a).more).length = 4 := by rw [uvs_len, hfo.2.len]
  have hmk := amtR_ok (V (allKey m fr sp))
  have hml : (uvs (amtR (V (allKey m fr sp))).1).length = 4 := by rw [uvs_len, hmk.len]
  (conv => whnf); repeat ((first | with_reducible refine CondG.tt ?_ | with_reducible refine CondG.ff ?_); conv => whnf)
  refine LoadNG.at (vs := bvs fr) (by rw [bvs_len, hfr]) (.tl (.tl (.tl (.tl .all)))) ?_
  (conv => whnf); repeat ((first | with_reducible refine CondG.tt ?_ | with_reducible refine CondG.ff ?_); conv => whnf)
  refine LoadNG.at (vs := bvs sp) (by rw [bvs_len, hsp]) (.tl (.tl (.tl (.tl (.tl .all))))) ?_
  (conv => whnf); repeat ((first | with_reducible refine CondG.tt ?_ | with_reducible refine CondG.ff ?_); conv => whnf)
  refine CallG.pure (allowanceKey_spec _ m hm fr sp hfr hsp) ?_
  rintro _ _ ⟨rfl, rfl⟩
  (conv => whnf); repeat ((first | with_reducible refine CondG.tt ?_ | with_reducible refine CondG.ff ?_); conv => whnf)
  refine CallG.of (pre := [stP 127 s src find V n]) (rest := [cel b13 44 (runL V m).1.cells, cel b11 25 (uvs a), cel b10 33 (bvs to), cel b9 33 (bvs fr), cel b8 33 (bvs sp)]) (amount_spec _ s src V n (allKey m fr sp) (hs.left _) ho (may_all hfr hsp 0 (by decide))) (Ent.sel (T := []) (A := [_, _, _, _, _, _]) [1, 0, 2, 3, 4, 5] rfl) ?_
  rintro _ _ ⟨rfl, rfl⟩
  (conv => whnf); repeat ((first | with_reducible refine CondG.tt ?_ | with_reducible refine CondG.ff ?_); conv => whnf)
  intro b16
  (conv => whnf); repeat ((first | with_reducible refine CondG.tt ?_ | with_reducible refine CondG.ff ?_); conv => whnf)
  refine StoreG.at hml (Upd.whole (by rw [hml]; rfl) (uvs_one _)) ?_
  (conv => whnf); repeat ((first | with_reducible refine CondG.tt ?_ | with_reducible refine CondG.ff ?_); conv => whnf)
  refine CondG.ndec (fun h2 => ?_) (fun h2 => ?_)
  · (conv => whnf); repeat ((first | with_reducible refine CondG.tt ?_ | with_reducible refine CondG.ff ?_); conv => whnf)
    refine ⟨_, (Ent.sel (T := []) (A := [_, _, _, _, _, _, _]) [1] rfl).trans (stP_more (m := n + 3) (by omega)), ?_, ?_⟩
    · rw [pullL, if_neg h1', em, if_pos h2]; rfl
    · rw [pullL, if_neg h1', em, if_pos h2]; rfl
  have h2' : ¬ (amtR (V (allKey m fr sp))).2 ≠ 0 := by rw [show (amtR (V (allKey m fr sp))).2 = 0 from h2]; decide
  (conv => whnf); repeat ((first | with_reducible refine CondG.tt ?_ | with_reducible refine CondG.ff ?_); conv => whnf)
  refine LoadNG.at (vs := uvs (amtR (V (allKey m fr sp))).1) hml .all ?_
  (conv => whnf); repeat ((first | with_reducible refine CondG.tt ?_ | with_reducible refine CondG.ff ?_); conv => whnf)
  refine LoadNG.at (vs := uvs a) hal (.tl (.tl (.tl .all))) ?_
  (conv => whnf); repeat ((first | with_reducible refine CondG.tt ?_ | with_reducible refine CondG.ff ?_); conv => whnf)
  refine CallG.pure (sub_spec _ _ a hmk ha) ?_
  rintro _ _ ⟨rfl, rfl⟩
  have hB : (uvs (subR (amtR (V (allKey m fr sp))).1 a).1).length = 4 := by rw [uvs_len, subR_ok]
  (conv => whnf); repeat ((first | with_reducible refine CondG.tt ?_ | with_reducible refine CondG.ff ?_); conv => whnf)
  refine StoreG.at hB (Upd.whole (by rw [hB, hml]) (uvs_one _)) ?_
  (conv => whnf); repeat ((first | with_reducible refine CondG.tt ?_ | with_reducible refine CondG.ff ?_); conv => whnf)
  by_cases h3 : nat4 (amtR (V (allKey m fr sp))).1 < nat4 a
  · rw [subR_no h3]
    refine CondG.tt ?_
    (conv => whnf); repeat ((first | with_reducible refine CondG.tt ?_ | with_reducible refine CondG.ff ?_); conv => whnf)
    refine ⟨_, (Ent.sel (T := []) (A := [_, _, _, _, _, _, _]) [1] rfl).trans (stP_more (m := n + 3) (by omega)), ?_, ?_⟩
    · rw [pullL, if_neg h1', em, if_neg h2', if_pos h3]; rfl
    · rw [pullL, if_neg h1', em, if_neg h2', if_pos h3]; rfl
  rw [subR_yes h3]
  refine CondG.ff ?_
  (conv => whnf); repeat ((first | with_reducible refine CondG.tt ?_ | with_reducible refine CondG.ff ?_); conv => whnf)
  refine LoadNG.at (vs := bvs fr) (by rw [bvs_len, hfr]) (.tl (.tl (.tl (.tl (.tl .all))))) ?_
  (conv => whnf); repeat ((first | with_reducible refine CondG.tt ?_ | with_reducible refine CondG.ff ?_); conv => whnf)
  refine LoadNG.at (vs := bvs to) (by rw [bvs_len, hto]) (.tl (.tl (.tl (.tl .all)))) ?_
  (conv => whnf); repeat ((first | with_reducible refine CondG.tt ?_ | with_reducible refine CondG.ff ?_); conv => whnf)
  refine LoadNG.at (vs := uvs a) hal (.tl (.tl (.tl .all))) ?_
  (conv => whnf); repeat ((first | with_reducible refine CondG.tt ?_ | with_reducible refine CondG.ff ?_); conv => whnf)
  refine CallG.of (pre := [stP 127 s src find V n]) (rest := [cel b16 25 (uvs (subL (amtR (V (allKey m fr sp))).1 a)), cel b13 44 (runL V m).1.cells, cel b11 25 (uvs a), cel b10 33 (bvs to), cel b9 33 (bvs fr), cel b8 33 (bvs sp)]) (funds_at _ s src V n m hm fr to a hfr hto ha (hs.left _) ho) (Ent.sel (T := []) (A := [_, _, _, _, _, _, _]) [1, 0, 2, 3, 4, 5, 6] rfl) ?_
  rintro _ _ ⟨rfl, rfl⟩
  (conv => whnf); repeat ((first | with_reducible refine CondG.tt ?_ | with_reducible refine CondG.ff ?_); conv => whnf)
  intro b18
  (conv => whnf); repeat ((first | with_reducible refine CondG.tt ?_ | with_reducible refine CondG.ff ?_); conv => whnf)
  intro b19
  (conv => whnf); repeat ((first | with_reducible refine CondG.tt ?_ | with_reducible refine CondG.ff ?_); conv => whnf)
  refine StoreG.at hfl (Upd.tl (Upd.whole (by rw [hfl]; rfl) (uvs_one _))) ?_
  (conv => whnf); repeat ((first | with_reducible refine CondG.tt ?_ | with_reducible refine CondG.ff ?_); conv => whnf)
  refine StoreG.at hfm (Upd.whole (by rw [hfm]; rfl) (uvs_one _)) ?_
  (conv => whnf); repeat ((first | with_reducible refine CondG.tt ?_ | with_reducible refine CondG.ff ?_); conv => whnf)
  refine CondG.ndec (fun h4 => ?_) (fun h4 => ?_)
  · (conv => whnf); repeat ((first | with_reducible refine CondG.tt ?_ | with_reducible refine CondG.ff ?_); conv => whnf)
    refine ⟨_, (Ent.sel (T := []) (A := [_, _, _, _, _, _, _, _, _]) [2] rfl).trans (stP_more (m := n + 3) (by omega)), ?_, ?_⟩
    · rw [pullL, if_neg h1', em, if_neg h2', if_neg h3, if_pos h4]; rfl
    · rw [pullL, if_neg h1', em, if_neg h2', if_neg h3, if_pos h4]; rfl
  have h4' : ¬ (fundsL V m fr to a).e ≠ 0 := by rw [show (fundsL V m fr to a).e = 0 from h4]; decide
  (conv => whnf); repeat ((first | with_reducible refine CondG.tt ?_ | with_reducible refine CondG.ff ?_); conv => whnf)
  refine LoadNG.at (vs := uvs a) hal (.tl (.tl (.tl (.tl (.tl .all))))) ?_
  (conv => whnf); repeat ((first | with_reducible refine CondG.tt ?_ | with_reducible refine CondG.ff ?_); conv => whnf)
  refine CallG.pure (isZero_spec _ a ha.len) ?_
  rintro _ _ ⟨rfl, rfl⟩
  (conv => whnf); repeat ((first | with_reducible refine CondG.tt ?_ | with_reducible refine CondG.ff ?_); conv => whnf)
  have finish : ∀ (V2 : View) (k : Nat), k ≤ n + 1 → pullL V m sp fr to a = (0, turnL V2 m fr to a (fundsL V m fr to a).less (fundsL V m fr to a).more) → True := fun _ _ _ _ => trivial
  refine CondG.ndec (fun h5 => ?_) (fun h5 => ?_)
  · have h5' : ¬ a = z4 := h5
    (conv => whnf); repeat ((first | with_reducible refine CondG.tt ?_ | with_reducible refine CondG.ff ?_); conv => whnf)
    refine LoadNG.at (vs := uvs (subL (amtR (V (allKey m fr sp))).1 a)) rfl (.tl (.tl (.tl .all))) ?_
    (conv => whnf); repeat ((first | with_reducible refine CondG.tt ?_ | with_reducible refine CondG.ff ?_); conv => whnf)
    refine CallG.of (pre := [stP 127 s src find V n]) (rest := [cel b19 25 (uvs (fundsL V m fr to a).more), cel b18 25 (uvs (fundsL V m fr to a).less), cel b16 25 (uvs (subL (amtR (V (allKey m fr sp))).1 a)), cel b13 44 (runL V m).1.cells, cel b11 25 (uvs a), cel b10 33 (bvs to), cel b9 33 (bvs fr), cel b8 33 (bvs sp)]) (lay_at _ s src V n (allKey m fr sp) _ rfl (hs.left _) ho (may_all hfr hsp) (by omega)) (Ent.sel (T := []) (A := [_, _, _, _, _, _, _, _, _]) [2, 0, 1, 3, 4, 5, 6, 7, 8] rfl) ?_
    rintro _ _ ⟨rfl, rfl⟩
    (conv => whnf); repeat ((first | with_reducible refine CondG.tt ?_ | with_reducible refine CondG.ff ?_); conv => whnf)
    refine CondG.ff ?_
    (conv => whnf); repeat ((first | with_reducible refine CondG.tt ?_ | with_reducible refine CondG.ff ?_); conv => whnf)
    refine LoadNG.at (vs := bvs fr) (by rw [bvs_len, hfr]) (.tl (.tl (.tl (.tl (.tl (.tl (.tl .all))))))) ?_
    (conv => whnf); repeat ((first | with_reducible refine CondG.tt ?_ | with_reducible refine CondG.ff ?_); conv => whnf)
    refine LoadNG.at (vs := bvs to) (by rw [bvs_len, hto]) (.tl (.tl (.tl (.tl (.tl (.tl .all)))))) ?_
    (conv => whnf); repeat ((first | with_reducible refine CondG.tt ?_ | with_reducible refine CondG.ff ?_); conv => whnf)
    refine LoadNG.at (vs := uvs a) hal (.tl (.tl (.tl (.tl (.tl .all))))) ?_
    (conv => whnf); repeat ((first | with_reducible refine CondG.tt ?_ | with_reducible refine CondG.ff ?_); conv => whnf)
    refine LoadNG.at (vs := uvs (fundsL V m fr to a).less) hfl (.tl (.tl .all)) ?_
    (conv => whnf); repeat ((first | with_reducible refine CondG.tt ?_ | with_reducible refine CondG.ff ?_); conv => whnf)
    refine LoadNG.at (vs := uvs (fundsL V m fr to a).more) hfm (.tl .all) ?_
    (conv => whnf); repeat ((first | with_reducible refine CondG.tt ?_ | with_reducible refine CondG.ff ?_); conv => whnf)
    refine CallG.of (pre := [stP 127 s src find (layA V (allKey m fr sp) (subL (amtR (V (allKey m fr sp))).1 a)) (n + 1)]) (rest := [cel b19 25 (uvs (fundsL V m fr to a).more), cel b18 25 (uvs (fundsL V m fr to a).less), cel b16 25 (uvs (subL (amtR (V (allKey m fr sp))).1 a)), cel b13 44 (runL V m).1.cells, cel b11 25 (uvs a), cel b10 33 (bvs to), cel b9 33 (bvs fr), cel b8 33 (bvs sp)]) (turn_at _ s src _ (n + 1) m hm fr to a _ _ hfr hto ha.len hfo.1.len hfo.2.len (hs.left _) ho hn) (Ent.refl _) ?_
    rintro _ _ ⟨rfl, rfl⟩
    (conv => whnf); repeat ((first | with_reducible refine CondG.tt ?_ | with_reducible refine CondG.ff ?_); conv => whnf)
    refine ⟨_, Ent.sel (T := []) (A := [_, _, _, _, _, _, _, _, _]) [0] rfl, ?_, ?_⟩
    · rw [pullL, if_neg h1', em, if_neg h2', if_neg h3, if_neg h4', if_neg h5']; rfl
    · rw [pullL, if_neg h1', em, if_neg h2', if_neg h3, if_neg h4', if_neg h5']; rfl
  · have h5' : a = z4 := h5
    (conv => whnf); repeat ((first | with_reducible refine CondG.tt ?_ | with_reducible refine CondG.ff ?_); conv => whnf)
    refine LoadNG.at (vs := bvs fr) (by rw [bvs_len, hfr]) (.tl (.tl (.tl (.tl (.tl (.tl (.tl .all))))))) ?_
    (conv => whnf); repeat ((first | with_reducible refine CondG.tt ?_ | with_reducible refine CondG.ff ?_); conv => whnf)
    refine LoadNG.at (vs := bvs to) (by rw [bvs_len, hto]) (.tl (.tl (.tl (.tl (.tl (.tl .all)))))) ?_
    (conv => whnf); repeat ((first | with_reducible refine CondG.tt ?_ | with_reducible refine CondG.ff ?_); conv => whnf)
    refine LoadNG.at (vs := uvs a) hal (.tl (.tl (.tl (.tl (.tl .all))))) ?_
    (conv => whnf); repeat ((first | with_reducible refine CondG.tt ?_ | with_reducible refine CondG.ff ?_); conv => whnf)
    refine LoadNG.at (vs := uvs (fundsL V m fr to a).less) hfl (.tl .all) ?_
    (conv => whnf); repeat ((first | with_reducible refine CondG.tt ?_ | with_reducible refine CondG.ff ?_); conv => whnf)
    refine LoadNG.at (vs := uvs (fundsL V m fr to a).more) hfm .all ?_
    (conv => whnf); repeat ((first | with_reducible refine CondG.tt ?_ | with_reducible refine CondG.ff ?_); conv => whnf)
    refine CallG.of (pre := [stP 127 s src find V n]) (rest := [cel b19 25 (uvs (fundsL V m fr to a).more), cel b18 25 (uvs (fundsL V m fr to a).less), cel b16 25 (uvs (subL (amtR (V (allKey m fr sp))).1 a)), cel b13 44 (runL V m).1.cells, cel b11 25 (uvs a), cel b10 33 (bvs to), cel b9 33 (bvs fr), cel b8 33 (bvs sp)]) (turn_at _ s src V n m hm fr to a _ _ hfr hto ha.len hfo.1.len hfo.2.len (hs.left _) ho (by omega)) (Ent.sel (T := []) (A := [_, _, _, _, _, _, _, _, _]) [2, 0, 1, 3, 4, 5, 6, 7, 8] rfl) ?_
    rintro _ _ ⟨rfl, rfl⟩
    (conv => whnf); repeat ((first | with_reducible refine CondG.tt ?_ | with_reducible refine CondG.ff ?_); conv => whnf)
    refine ⟨_, (Ent.sel (T := []) (A := [_, _, _, _, _, _, _, _, _]) [0] rfl).trans (stP_more (m := n + 3) (by omega)), ?_, ?_⟩
    · rw [pullL, if_neg h1', em, if_neg h2', if_neg h3, if_neg h4', if_pos h5']; rfl
    · rw [pullL, if_neg h1', em, if_neg h2', if_neg h3, if_neg h4', if_pos h5']; rfl
end
end Go.Proofs.YtnbcbdlbejdkpaaDoor
