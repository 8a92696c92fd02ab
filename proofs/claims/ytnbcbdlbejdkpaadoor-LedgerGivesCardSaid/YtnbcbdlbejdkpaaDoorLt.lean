/-
  A ledger's tokens: asked, there, running; registered, paused, resumed; balances, allowances: contracts out of the resolved texts.
-/
import Derived.Test.YtnbcbdlbejdkpaaDoorLy
namespace Go.Proofs.YtnbcbdlbejdkpaaDoor
open Go Go.Sl
section
variable {find : ByteArray → List Nat × Int}
theorem sup_at (d : TokD) : (d.cells.drop 2).take (uvs d.sup).length = uvs d.sup := by simp [TokD.cells]
theorem z4_len : z4.length = 4 := rfl
theorem zTok_cells : zTok.cells.length = 6 := rfl
theorem bad_first {b : Nat} : (!decide ((b : Int) = 1) && !decide ((b : Int) = 3)) = decide (¬ (b = 1 ∨ b = 3)) := by
  by_cases h1 : b = 1
  · subst h1; rfl
  · by_cases h3 : b = 3
    · subst h3; rfl
    · have e1 : ¬ (b : Int) = 1 := by omega
      have e3 : ¬ (b : Int) = 3 := by omega
      simp [h1, h3, e1, e3]
theorem token_at (F : List HP) (s : Nat) (src : Value) (V : View) (n : Nat) (t : Int) (hs : SrcG Tryd.prog F src find) (ho : SrcOk find) :
    SpecF Tryd.prog 21 [.pointer (some ⟨s, 0, none⟩), .int .i64 t] F [stP 127 s src find V n] (fun r L => r = .tuple #[.agg ⟨(tokenL V t).1.cells⟩, .int .i64 (tokenL V t).2] ∧ L = [stP 127 s src find V n]) := by
  refine fun21.spec rfl ?_
  (conv => whnf); repeat ((first | with_reducible refine CondG.tt ?_ | with_reducible refine CondG.ff ?_); conv => whnf)
  intro b4
  (conv => whnf); repeat ((first | with_reducible refine CondG.tt ?_ | with_reducible refine CondG.ff ?_); conv => whnf)
  refine CallG.pure (begun_spec _ s t) ?_
  rintro _ _ ⟨rfl, rfl⟩
  (conv => whnf); repeat ((first | with_reducible refine CondG.tt ?_ | with_reducible refine CondG.ff ?_); conv => whnf)
  refine CondG.ndec (fun h1 => ?_) (fun h1 => ?_)
  · (conv => whnf); repeat ((first | with_reducible refine CondG.tt ?_ | with_reducible refine CondG.ff ?_); conv => whnf)
    refine BuildG.of rfl ?_
    (conv => whnf); repeat ((first | with_reducible refine CondG.tt ?_ | with_reducible refine CondG.ff ?_); conv => whnf)
    refine StoreG.at rfl (Upd.whole rfl (TokD.cells_one zTok)) ?_
    (conv => whnf); repeat ((first | with_reducible refine CondG.tt ?_ | with_reducible refine CondG.ff ?_); conv => whnf)
    refine LoadNG.at (vs := zTok.cells) rfl .all ?_
    (conv => whnf); repeat ((first | with_reducible refine CondG.tt ?_ | with_reducible refine CondG.ff ?_); conv => whnf)
    refine ⟨_, Ent.sel (T := []) (A := [_, _]) [1] rfl, ?_, rfl⟩
    rw [tokenL, if_pos h1]
    rfl
  obtain ⟨m, rfl, hm⟩ := begE_nat h1
  have et : tokenL V (m : Int) = tokR (V (tokKey m)) := by rw [tokenL, if_neg (by rw [h1]; decide), Int.toNat_natCast]
  rw [et]
  (conv => whnf); repeat ((first | with_reducible refine CondG.tt ?_ | with_reducible refine CondG.ff ?_); conv => whnf)
  refine CallG.pure (tokenKey_spec _ m hm) ?_
  rintro _ _ ⟨rfl, rfl⟩
  (conv => whnf); repeat ((first | with_reducible refine CondG.tt ?_ | with_reducible refine CondG.ff ?_); conv => whnf)
  refine CallG.of (pre := [stP 127 s src find V n]) (rest := [cel b4 44 zTok.cells]) (get_at _ s src V n (tokKey m) (hs.left _) ho (may_tok m 0 (by decide))) (Ent.perm (List.Perm.swap _ _ _)) ?_
  rintro _ _ ⟨x, hx, hl, rfl, rfl⟩
  (conv => whnf); repeat ((first | with_reducible refine CondG.tt ?_ | with_reducible refine CondG.ff ?_); conv => whnf)
  refine CondG.ff ?_
  (conv => whnf); repeat ((first | with_reducible refine CondG.tt ?_ | with_reducible refine CondG.ff ?_); conv => whnf)
  refine LenG.sl hx ?_
  (conv => whnf); repeat ((first | with_reducible refine CondG.tt ?_ | with_reducible refine CondG.ff ?_); conv => whnf)
  refine CondG.dec (fun h => ?_) (fun h => ?_)
  · have e : V (tokKey m) = [] := List.eq_nil_of_length_eq_zero (by omega)
    (conv => whnf); repeat ((first | with_reducible refine CondG.tt ?_ | with_reducible refine CondG.ff ?_); conv => whnf)
    refine BuildG.of rfl ?_
    (conv => whnf); repeat ((first | with_reducible refine CondG.tt ?_ | with_reducible refine CondG.ff ?_); conv => whnf)
    refine StoreG.at rfl (Upd.tl (Upd.tl (Upd.whole rfl (TokD.cells_one zTok)))) ?_
    (conv => whnf); repeat ((first | with_reducible refine CondG.tt ?_ | with_reducible refine CondG.ff ?_); conv => whnf)
    refine LoadNG.at (vs := zTok.cells) rfl (.tl (.tl .all)) ?_
    (conv => whnf); repeat ((first | with_reducible refine CondG.tt ?_ | with_reducible refine CondG.ff ?_); conv => whnf)
    refine ⟨_, Ent.sel (T := []) (A := [_, _, _]) [1] rfl, ?_, rfl⟩
    rw [e]
    rfl
  have hrd : RdS (own 1 x (V (tokKey m)).length (bvs (V (tokKey m))) :: ([stP 127 s src find V n, cel b4 44 zTok.cells] ++ F)) x (V (tokKey m)).length (bvs (V (tokKey m))) := own_rd hx (by rw [bvs_len, Nat.mul_one])
  generalize hV : V (tokKey m) = bs at *
  obtain ⟨b, r, rfl⟩ : ∃ b r, bs = b :: r := by
    cases bs with
    | nil => exact absurd rfl h
    | cons b r => exact ⟨b, r, rfl⟩
  (conv => whnf); repeat ((first | with_reducible refine CondG.tt ?_ | with_reducible refine CondG.ff ?_); conv => whnf)
  refine SlcG.rd hrd fun a cap hva hcap => ?_
  (conv => whnf); repeat ((first | with_reducible refine CondG.tt ?_ | with_reducible refine CondG.ff ?_); conv => whnf)
  have hlen : (b :: r).length = r.length + 1 := rfl
  refine SideG.of (by omega) ?_
  (conv => whnf); repeat ((first | with_reducible refine CondG.tt ?_ | with_reducible refine CondG.ff ?_); conv => whnf)
  refine SliceG.rd (by rw [← hva]; exact hrd) (by show 1 ≤ _; omega) (by omega) (by omega) (by omega) fun v1 hv1 _ => ?_
  have e1 : (((b :: r).length : Nat) : Int).toNat - (1 : Int).toNat = r.length := by show _ - 1 = _; omega
  have e2 : ((bvs (b :: r)).drop ((1 : Int).toNat * 1)).take (((((b :: r).length : Nat) : Int).toNat - (1 : Int).toNat) * 1) = bvs r := by
    rw [e1]
    show ((bvs (b :: r)).drop 1).take _ = _
    show (bvs r).take _ = _
    rw [List.take_of_length_le (by rw [bvs_len]; omega)]
  rw [e2, e1] at hv1
  have bad : ∀ (hb : ¬ (r.length = 32 ∧ (b = 1 ∨ b = 3))), tokR (b :: r) = (zTok, 75) := fun hb => by rw [tokR, if_neg hb]
  by_cases h32 : r.length = 32
  · have hwl := wordsN_len r
    have hwu : (uvs (wordsN r)).length = 4 := by rw [uvs_len, hwl]
    (conv => whnf); repeat ((first | with_reducible refine CondG.tt ?_ | with_reducible refine CondG.ff ?_); conv => whnf)
    refine CallG.pure (wread_spec _ v1 r h32 (by rw [← h32]; exact hv1)) ?_
    rintro _ _ ⟨rfl, rfl⟩
    rw [ivs_words]
    (conv => whnf); repeat ((first | with_reducible refine CondG.tt ?_ | with_reducible refine CondG.ff ?_); conv => whnf)
    intro b9
    (conv => whnf); repeat ((first | with_reducible refine CondG.tt ?_ | with_reducible refine CondG.ff ?_); conv => whnf)
    refine StoreG.at hwu (Upd.whole (by rw [hwu]; rfl) (uvs_one _)) ?_
    (conv => whnf); repeat ((first | with_reducible refine CondG.tt ?_ | with_reducible refine CondG.ff ?_); conv => whnf)
    refine CondG.ff ?_
    (conv => whnf); repeat ((first | with_reducible refine CondG.tt ?_ | with_reducible refine CondG.ff ?_); conv => whnf)
    have hrd2 := RdS.tl (p := cel b9 25 (uvs (wordsN r))) hrd
    refine IdxG.rd hrd2 (by omega) fun c o hc => ?_
    (conv => whnf); repeat ((first | with_reducible refine CondG.tt ?_ | with_reducible refine CondG.ff ?_); conv => whnf)
    refine LoadG.atG (v := bv b) (hc.one (i := 0) rfl) ?_
    (conv => whnf); repeat ((first | with_reducible refine CondG.tt ?_ | with_reducible refine CondG.ff ?_); conv => whnf)
    have zero : ¬ (b = 1 ∨ b = 3) → tokR (b :: r) = (zTok, 75) := fun hb => bad fun hh => hb hh.2
    have right : (b = 1 ∨ b = 3) → tokR (b :: r) = (⟨true, decide (b = 3), wordsN r⟩, 0) := fun hb => by rw [tokR, if_pos ⟨h32, hb⟩]
    refine CondG.ndec (fun hb1 => ?_) (fun hb1 => ?_)
    (conv => whnf); repeat ((first | with_reducible refine CondG.tt ?_ | with_reducible refine CondG.ff ?_); conv => whnf)
    refine IdxG.rd hrd2 (by omega) fun c2 o2 hc2 => ?_
    (conv => whnf); repeat ((first | with_reducible refine CondG.tt ?_ | with_reducible refine CondG.ff ?_); conv => whnf)
    refine LoadG.atG (v := bv b) (hc2.one (i := 0) rfl) ?_
    (conv => whnf); repeat ((first | with_reducible refine CondG.tt ?_ | with_reducible refine CondG.ff ?_); conv => whnf)
    refine CondG.ndec (fun hb3 => ?_) (fun hb3 => ?_)
    · (conv => whnf); repeat ((first | with_reducible refine CondG.tt ?_ | with_reducible refine CondG.ff ?_); conv => whnf)
      refine BuildG.of rfl ?_
      (conv => whnf); repeat ((first | with_reducible refine CondG.tt ?_ | with_reducible refine CondG.ff ?_); conv => whnf)
      refine StoreG.at rfl (Upd.tl (Upd.tl (Upd.tl (Upd.whole rfl (TokD.cells_one zTok))))) ?_
      (conv => whnf); repeat ((first | with_reducible refine CondG.tt ?_ | with_reducible refine CondG.ff ?_); conv => whnf)
      refine LoadNG.at (vs := zTok.cells) rfl (.tl (.tl (.tl .all))) ?_
      (conv => whnf); repeat ((first | with_reducible refine CondG.tt ?_ | with_reducible refine CondG.ff ?_); conv => whnf)
      refine ⟨_, Ent.sel (T := []) (A := [_, _, _, _]) [2] rfl, ?_, rfl⟩
      rw [zero (by omega)]
      rfl
    rw [right (by omega)]
    rotate_left
    rw [right (by omega)]
    all_goals
      (conv => whnf); repeat ((first | with_reducible refine CondG.tt ?_ | with_reducible refine CondG.ff ?_); conv => whnf)
      refine DrawG.mk 6 [cel b9 25 (uvs (wordsN r)), own 1 x (b :: r).length (bvs (b :: r)), stP 127 s src find V n, cel b4 44 zTok.cells] [] (Ent.refl _) ?_
      (conv => whnf); repeat ((first | with_reducible refine CondG.tt ?_ | with_reducible refine CondG.ff ?_); conv => whnf)
      refine .take 0 ?_
      (conv => whnf); repeat ((first | with_reducible refine CondG.tt ?_ | with_reducible refine CondG.ff ?_); conv => whnf)
      refine ⟨rfl, ?_⟩
      (conv => whnf); repeat ((first | with_reducible refine CondG.tt ?_ | with_reducible refine CondG.ff ?_); conv => whnf)
      refine .take 1 ?_
      (conv => whnf); repeat ((first | with_reducible refine CondG.tt ?_ | with_reducible refine CondG.ff ?_); conv => whnf)
      refine ⟨rfl, ?_⟩
      (conv => whnf); repeat ((first | with_reducible refine CondG.tt ?_ | with_reducible refine CondG.ff ?_); conv => whnf)
      refine IdxG.rd hrd2 (by omega) fun c2 o2 hc2 => ?_
      (conv => whnf); repeat ((first | with_reducible refine CondG.tt ?_ | with_reducible refine CondG.ff ?_); conv => whnf)
      refine .take 2 ?_
      (conv => whnf); repeat ((first | with_reducible refine CondG.tt ?_ | with_reducible refine CondG.ff ?_); conv => whnf)
      refine ⟨rfl, ?_⟩
      (conv => whnf); repeat ((first | with_reducible refine CondG.tt ?_ | with_reducible refine CondG.ff ?_); conv => whnf)
      refine LoadG.atG (v := bv b) (hc2.one (i := 0) rfl) ?_
      (conv => whnf); repeat ((first | with_reducible refine CondG.tt ?_ | with_reducible refine CondG.ff ?_); conv => whnf)
      refine .take 3 ?_
      (conv => whnf); repeat ((first | with_reducible refine CondG.tt ?_ | with_reducible refine CondG.ff ?_); conv => whnf)
      refine ⟨rfl, ?_⟩
      (conv => whnf); repeat ((first | with_reducible refine CondG.tt ?_ | with_reducible refine CondG.ff ?_); conv => whnf)
      refine .take 4 ?_
      (conv => whnf); repeat ((first | with_reducible refine CondG.tt ?_ | with_reducible refine CondG.ff ?_); conv => whnf)
      refine ⟨rfl, ?_⟩
      (conv => whnf); repeat ((first | with_reducible refine CondG.tt ?_ | with_reducible refine CondG.ff ?_); conv => whnf)
      refine LoadNG.at (vs := uvs (wordsN r)) hwu .all ?_
      (conv => whnf); repeat ((first | with_reducible refine CondG.tt ?_ | with_reducible refine CondG.ff ?_); conv => whnf)
      refine .take 5 ?_
      (conv => whnf); repeat ((first | with_reducible refine CondG.tt ?_ | with_reducible refine CondG.ff ?_); conv => whnf)
      refine ⟨rfl, ?_⟩
      (conv => whnf); repeat ((first | with_reducible refine CondG.tt ?_ | with_reducible refine CondG.ff ?_); conv => whnf)
      have ed : decide (((b : Nat) : Int) = 3) = decide (b = 3) := by
        by_cases h3 : b = 3
        · subst h3; rfl
        · have : ¬ (b : Int) = 3 := by omega
          simp [h3, this]
      rw [ed]
      refine BuildG.of (cs := (TokD.mk true (decide (b = 3)) (wordsN r)).cells) (by simp [fillL, Value.cells, hwu, TokD.cells]) ?_
      (conv => whnf); repeat ((first | with_reducible refine CondG.tt ?_ | with_reducible refine CondG.ff ?_); conv => whnf)
      refine .all ?_
      (conv => whnf); repeat ((first | with_reducible refine CondG.tt ?_ | with_reducible refine CondG.ff ?_); conv => whnf)
      refine ⟨by decide, ?_⟩
      (conv => whnf); repeat ((first | with_reducible refine CondG.tt ?_ | with_reducible refine CondG.ff ?_); conv => whnf)
      refine ⟨rfl, ?_⟩
      (conv => whnf); repeat ((first | with_reducible refine CondG.tt ?_ | with_reducible refine CondG.ff ?_); conv => whnf)
      refine StoreG.at (TokD.cells_len hwl) (Upd.tl (Upd.tl (Upd.tl (Upd.whole (by rw [TokD.cells_len hwl]; rfl) (TokD.cells_one _))))) ?_
      (conv => whnf); repeat ((first | with_reducible refine CondG.tt ?_ | with_reducible refine CondG.ff ?_); conv => whnf)
      refine .all ?_
      (conv => whnf); repeat ((first | with_reducible refine CondG.tt ?_ | with_reducible refine CondG.ff ?_); conv => whnf)
      refine ⟨by decide, ?_⟩
      (conv => whnf); repeat ((first | with_reducible refine CondG.tt ?_ | with_reducible refine CondG.ff ?_); conv => whnf)
      refine ⟨rfl, ?_⟩
      (conv => whnf); repeat ((first | with_reducible refine CondG.tt ?_ | with_reducible refine CondG.ff ?_); conv => whnf)
      refine LoadNG.at (vs := (TokD.mk true (decide (b = 3)) (wordsN r)).cells) (TokD.cells_len hwl) (.tl (.tl (.tl .all))) ?_
      (conv => whnf); repeat ((first | with_reducible refine CondG.tt ?_ | with_reducible refine CondG.ff ?_); conv => whnf)
      exact ⟨_, Ent.sel (T := []) (A := [_, _, _, _]) [2] rfl, rfl, rfl⟩
  · (conv => whnf); repeat ((first | with_reducible refine CondG.tt ?_ | with_reducible refine CondG.ff ?_); conv => whnf)
    refine CallG.pure (wread_no _ v1 r h32 hv1) ?_
    rintro _ _ ⟨rfl, rfl⟩
    (conv => whnf); repeat ((first | with_reducible refine CondG.tt ?_ | with_reducible refine CondG.ff ?_); conv => whnf)
    intro b9
    (conv => whnf); repeat ((first | with_reducible refine CondG.tt ?_ | with_reducible refine CondG.ff ?_); conv => whnf)
    refine StoreG.at rfl (Upd.whole rfl (uvs_one z4)) ?_
    (conv => whnf); repeat ((first | with_reducible refine CondG.tt ?_ | with_reducible refine CondG.ff ?_); conv => whnf)
    refine CondG.tt ?_
    (conv => whnf); repeat ((first | with_reducible refine CondG.tt ?_ | with_reducible refine CondG.ff ?_); conv => whnf)
    refine BuildG.of rfl ?_
    (conv => whnf); repeat ((first | with_reducible refine CondG.tt ?_ | with_reducible refine CondG.ff ?_); conv => whnf)
    refine StoreG.at rfl (Upd.tl (Upd.tl (Upd.tl (Upd.whole rfl (TokD.cells_one zTok))))) ?_
    (conv => whnf); repeat ((first | with_reducible refine CondG.tt ?_ | with_reducible refine CondG.ff ?_); conv => whnf)
    refine LoadNG.at (vs := zTok.cells) rfl (.tl (.tl (.tl .all))) ?_
    (conv => whnf); repeat ((first | with_reducible refine CondG.tt ?_ | with_reducible refine CondG.ff ?_); conv => whnf)
    refine ⟨_, Ent.sel (T := []) (A := [_, _, _, _]) [2] rfl, ?_, rfl⟩
    rw [bad (fun hb => h32 hb.1)]
    rfl
theorem there_at (F : List HP) (s : Nat) (src : Value) (V : View) (n : Nat) (t : Int) (hs : SrcG Tryd.prog F src find) (ho : SrcOk find) :
    SpecF Tryd.prog 61 [.pointer (some ⟨s, 0, none⟩), .int .i64 t] F [stP 127 s src find V n] (fun r L => r = .tuple #[.agg ⟨(thereL V t).1.cells⟩, .int .i64 (thereL V t).2] ∧ L = [stP 127 s src find V n]) := by
  have hok := (tokenL_ok V t).len
  have hl1 : (tokenL V t).1.cells.length = 6 := TokD.cells_len hok
  refine fun61.spec rfl ?_
  (conv => whnf); repeat ((first | with_reducible refine CondG.tt ?_ | with_reducible refine CondG.ff ?_); conv => whnf)
  intro b4
  (conv => whnf); repeat ((first | with_reducible refine CondG.tt ?_ | with_reducible refine CondG.ff ?_); conv => whnf)
  refine CallG.of (pre := [stP 127 s src find V n]) (rest := [cel b4 44 zTok.cells]) (token_at _ s src V n t (hs.left _) ho) (Ent.perm (List.Perm.swap _ _ _)) ?_
  rintro _ _ ⟨rfl, rfl⟩
  (conv => whnf); repeat ((first | with_reducible refine CondG.tt ?_ | with_reducible refine CondG.ff ?_); conv => whnf)
  intro b6
  (conv => whnf); repeat ((first | with_reducible refine CondG.tt ?_ | with_reducible refine CondG.ff ?_); conv => whnf)
  refine StoreG.at hl1 (Upd.whole (by rw [hl1]; rfl) (TokD.cells_one _)) ?_
  (conv => whnf); repeat ((first | with_reducible refine CondG.tt ?_ | with_reducible refine CondG.ff ?_); conv => whnf)
  refine CondG.ndec (fun h1 => ?_) (fun h1 => ?_)
  · (conv => whnf); repeat ((first | with_reducible refine CondG.tt ?_ | with_reducible refine CondG.ff ?_); conv => whnf)
    refine BuildG.of rfl ?_
    (conv => whnf); repeat ((first | with_reducible refine CondG.tt ?_ | with_reducible refine CondG.ff ?_); conv => whnf)
    refine StoreG.at rfl (Upd.tl (Upd.tl (Upd.whole rfl (TokD.cells_one zTok)))) ?_
    (conv => whnf); repeat ((first | with_reducible refine CondG.tt ?_ | with_reducible refine CondG.ff ?_); conv => whnf)
    refine LoadNG.at (vs := zTok.cells) rfl (.tl (.tl .all)) ?_
    (conv => whnf); repeat ((first | with_reducible refine CondG.tt ?_ | with_reducible refine CondG.ff ?_); conv => whnf)
    refine ⟨_, Ent.sel (T := []) (A := [_, _, _]) [1] rfl, ?_, rfl⟩
    rw [thereL, if_pos h1]
    rfl
  (conv => whnf); repeat ((first | with_reducible refine CondG.tt ?_ | with_reducible refine CondG.ff ?_); conv => whnf)
  refine LoadNG.at (vs := (tokenL V t).1.cells) hl1 .all ?_
  (conv => whnf); repeat ((first | with_reducible refine CondG.tt ?_ | with_reducible refine CondG.ff ?_); conv => whnf)
  refine BuildG.of (cs := zTok.cells) rfl ?_
  (conv => whnf); repeat ((first | with_reducible refine CondG.tt ?_ | with_reducible refine CondG.ff ?_); conv => whnf)
  refine DoesG.eqv 8 tokK (by kernel_rfl) (by decide) (by kernel_rfl) (by kernel_rfl) (TokD.wt hok) (TokD.wt z4_len) ?_
  (conv => whnf); repeat ((first | with_reducible refine CondG.tt ?_ | with_reducible refine CondG.ff ?_); conv => whnf)
  refine CondG.split (fun h2 => ?_) (fun h2 => ?_)
  · simp only [decide_eq_true_eq] at h2
    have hz := TokD.cells_inj.1 h2
    (conv => whnf); repeat ((first | with_reducible refine CondG.tt ?_ | with_reducible refine CondG.ff ?_); conv => whnf)
    refine LoadNG.at (vs := (tokenL V t).1.cells) hl1 .all ?_
    (conv => whnf); repeat ((first | with_reducible refine CondG.tt ?_ | with_reducible refine CondG.ff ?_); conv => whnf)
    refine StoreG.at hl1 (Upd.tl (Upd.tl (Upd.whole (by rw [hl1]; rfl) (TokD.cells_one _)))) ?_
    (conv => whnf); repeat ((first | with_reducible refine CondG.tt ?_ | with_reducible refine CondG.ff ?_); conv => whnf)
    refine LoadNG.at (vs := (tokenL V t).1.cells) hl1 (.tl (.tl .all)) ?_
    (conv => whnf); repeat ((first | with_reducible refine CondG.tt ?_ | with_reducible refine CondG.ff ?_); conv => whnf)
    refine ⟨_, Ent.sel (T := []) (A := [_, _, _]) [1] rfl, ?_, rfl⟩
    have h1' : (tokenL V t).2 = 0 := h1
    rw [thereL, if_neg (by rw [h1']; decide), if_pos hz, hz]
    rfl
  · simp only [decide_eq_false_iff_not] at h2
    have hz : ¬ (tokenL V t).1 = zTok := fun e => h2 (by rw [e])
    have h1' : (tokenL V t).2 = 0 := h1
    (conv => whnf); repeat ((first | with_reducible refine CondG.tt ?_ | with_reducible refine CondG.ff ?_); conv => whnf)
    refine LoadNG.at (vs := (tokenL V t).1.cells) hl1 .all ?_
    (conv => whnf); repeat ((first | with_reducible refine CondG.tt ?_ | with_reducible refine CondG.ff ?_); conv => whnf)
    refine StoreG.at hl1 (Upd.tl (Upd.tl (Upd.whole (by rw [hl1]; rfl) (TokD.cells_one _)))) ?_
    (conv => whnf); repeat ((first | with_reducible refine CondG.tt ?_ | with_reducible refine CondG.ff ?_); conv => whnf)
    refine LoadNG.at (vs := (tokenL V t).1.cells) hl1 (.tl (.tl .all)) ?_
    (conv => whnf); repeat ((first | with_reducible refine CondG.tt ?_ | with_reducible refine CondG.ff ?_); conv => whnf)
    refine ⟨_, Ent.sel (T := []) (A := [_, _, _]) [1] rfl, ?_, rfl⟩
    rw [thereL, if_neg (by rw [h1']; decide), if_neg hz]
    rw [show tokenL V t = ((tokenL V t).1, (0 : Int)) from by rw [← h1']]
    rfl
theorem running_at (F : List HP) (s : Nat) (src : Value) (V : View) (n : Nat) (t : Int) (hs : SrcG Tryd.prog F src find) (ho : SrcOk find) :
    SpecF Tryd.prog 48 [.pointer (some ⟨s, 0, none⟩), .int .i64 t] F [stP 127 s src find V n] (fun r L => r = .tuple #[.agg ⟨(runL V t).1.cells⟩, .int .i64 (runL V t).2] ∧ L = [stP 127 s src find V n]) := by
  have hok := (thereL_ok V t).len
  have hl1 : (thereL V t).1.cells.length = 6 := TokD.cells_len hok
  refine fun48.spec rfl ?_
  (conv => whnf); repeat ((first | with_reducible refine CondG.tt ?_ | with_reducible refine CondG.ff ?_); conv => whnf)
  intro b4
  (conv => whnf); repeat ((first | with_reducible refine CondG.tt ?_ | with_reducible refine CondG.ff ?_); conv => whnf)
  refine CallG.of (pre := [stP 127 s src find V n]) (rest := [cel b4 44 zTok.cells]) (there_at _ s src V n t (hs.left _) ho) (Ent.perm (List.Perm.swap _ _ _)) ?_
  rintro _ _ ⟨rfl, rfl⟩
  (conv => whnf); repeat ((first | with_reducible refine CondG.tt ?_ | with_reducible refine CondG.ff ?_); conv => whnf)
  intro b6
  (conv => whnf); repeat ((first | with_reducible refine CondG.tt ?_ | with_reducible refine CondG.ff ?_); conv => whnf)
  refine StoreG.at hl1 (Upd.whole (by rw [hl1]; rfl) (TokD.cells_one _)) ?_
  (conv => whnf); repeat ((first | with_reducible refine CondG.tt ?_ | with_reducible refine CondG.ff ?_); conv => whnf)
  have other : ¬ ((thereL V t).2 = 0 ∧ (thereL V t).1.paused = true) → runL V t = thereL V t := fun h => by rw [runL, if_neg h]
  refine CondG.dec (fun h1 => ?_) (fun h1 => ?_)
  · (conv => whnf); repeat ((first | with_reducible refine CondG.tt ?_ | with_reducible refine CondG.ff ?_); conv => whnf)
    refine LoadG.at (v := .bool (thereL V t).1.paused) (.here rfl) ?_
    (conv => whnf); repeat ((first | with_reducible refine CondG.tt ?_ | with_reducible refine CondG.ff ?_); conv => whnf)
    refine CondG.split (fun h2 => ?_) (fun h2 => ?_)
    · (conv => whnf); repeat ((first | with_reducible refine CondG.tt ?_ | with_reducible refine CondG.ff ?_); conv => whnf)
      refine BuildG.of rfl ?_
      (conv => whnf); repeat ((first | with_reducible refine CondG.tt ?_ | with_reducible refine CondG.ff ?_); conv => whnf)
      refine StoreG.at rfl (Upd.tl (Upd.tl (Upd.whole rfl (TokD.cells_one zTok)))) ?_
      (conv => whnf); repeat ((first | with_reducible refine CondG.tt ?_ | with_reducible refine CondG.ff ?_); conv => whnf)
      refine LoadNG.at (vs := zTok.cells) rfl (.tl (.tl .all)) ?_
      (conv => whnf); repeat ((first | with_reducible refine CondG.tt ?_ | with_reducible refine CondG.ff ?_); conv => whnf)
      refine ⟨_, Ent.sel (T := []) (A := [_, _, _]) [1] rfl, ?_, rfl⟩
      rw [runL, if_pos ⟨h1, h2⟩]
      rfl
    · rw [other (fun hh => by rw [h2] at hh; exact absurd hh.2 (by decide))]
      (conv => whnf); repeat ((first | with_reducible refine CondG.tt ?_ | with_reducible refine CondG.ff ?_); conv => whnf)
      refine LoadNG.at (vs := (thereL V t).1.cells) hl1 .all ?_
      (conv => whnf); repeat ((first | with_reducible refine CondG.tt ?_ | with_reducible refine CondG.ff ?_); conv => whnf)
      refine StoreG.at hl1 (Upd.tl (Upd.tl (Upd.whole (by rw [hl1]; rfl) (TokD.cells_one _)))) ?_
      (conv => whnf); repeat ((first | with_reducible refine CondG.tt ?_ | with_reducible refine CondG.ff ?_); conv => whnf)
      refine LoadNG.at (vs := (thereL V t).1.cells) hl1 (.tl (.tl .all)) ?_
      (conv => whnf); repeat ((first | with_reducible refine CondG.tt ?_ | with_reducible refine CondG.ff ?_); conv => whnf)
      exact ⟨_, Ent.sel (T := []) (A := [_, _, _]) [1] rfl, rfl, rfl⟩
  · rw [other (fun hh => h1 hh.1)]
    (conv => whnf); repeat ((first | with_reducible refine CondG.tt ?_ | with_reducible refine CondG.ff ?_); conv => whnf)
    refine LoadNG.at (vs := (thereL V t).1.cells) hl1 .all ?_
    (conv => whnf); repeat ((first | with_reducible refine CondG.tt ?_ | with_reducible refine CondG.ff ?_); conv => whnf)
    refine StoreG.at hl1 (Upd.tl (Upd.tl (Upd.whole (by rw [hl1]; rfl) (TokD.cells_one _)))) ?_
    (conv => whnf); repeat ((first | with_reducible refine CondG.tt ?_ | with_reducible refine CondG.ff ?_); conv => whnf)
    refine LoadNG.at (vs := (thereL V t).1.cells) hl1 (.tl (.tl .all)) ?_
    (conv => whnf); repeat ((first | with_reducible refine CondG.tt ?_ | with_reducible refine CondG.ff ?_); conv => whnf)
    exact ⟨_, Ent.sel (T := []) (A := [_, _, _]) [1] rfl, rfl, rfl⟩
theorem register_at (F : List HP) (s : Nat) (src : Value) (V : View) (n : Nat) (t : Int) (hs : SrcG Tryd.prog F src find) (ho : SrcOk find) (hn : n ≤ 1099511627776) :
    SpecF Tryd.prog 12 [.pointer (some ⟨s, 0, none⟩), .int .i64 t] F [stP 127 s src find V n] (fun r L => r = .int .i64 (registerL V t).1 ∧ L = [stP 127 s src find (registerL V t).2 (n + 2)]) := by
  have hok := (tokenL_ok V t).len
  have hl1 : (tokenL V t).1.cells.length = 6 := TokD.cells_len hok
  refine fun12.spec rfl ?_
  (conv => whnf); repeat ((first | with_reducible refine CondG.tt ?_ | with_reducible refine CondG.ff ?_); conv => whnf)
  refine CallG.of (pre := [stP 127 s src find V n]) (rest := []) (token_at _ s src V n t (hs.left _) ho) (Ent.refl _) ?_
  rintro _ _ ⟨rfl, rfl⟩
  (conv => whnf); repeat ((first | with_reducible refine CondG.tt ?_ | with_reducible refine CondG.ff ?_); conv => whnf)
  intro b5
  (conv => whnf); repeat ((first | with_reducible refine CondG.tt ?_ | with_reducible refine CondG.ff ?_); conv => whnf)
  refine StoreG.at hl1 (Upd.whole (by rw [hl1]; rfl) (TokD.cells_one _)) ?_
  (conv => whnf); repeat ((first | with_reducible refine CondG.tt ?_ | with_reducible refine CondG.ff ?_); conv => whnf)
  refine CondG.ndec (fun h1 => ?_) (fun h1 => ?_)
  · (conv => whnf); repeat ((first | with_reducible refine CondG.tt ?_ | with_reducible refine CondG.ff ?_); conv => whnf)
    refine ⟨_, (Ent.sel (T := []) (A := [_, _]) [1] rfl).trans (stP_more (m := n + 2) (by omega)), ?_, ?_⟩
    · rw [registerL, if_pos h1]; rfl
    · rw [registerL, if_pos h1]; rfl
  obtain ⟨m, rfl, hm⟩ := tokenL_nat h1
  (conv => whnf); repeat ((first | with_reducible refine CondG.tt ?_ | with_reducible refine CondG.ff ?_); conv => whnf)
  refine LoadG.at (v := .bool (tokenL V m).1.there) (.here rfl) ?_
  (conv => whnf); repeat ((first | with_reducible refine CondG.tt ?_ | with_reducible refine CondG.ff ?_); conv => whnf)
  refine CondG.split (fun h2 => ?_) (fun h2 => ?_)
  · (conv => whnf); repeat ((first | with_reducible refine CondG.tt ?_ | with_reducible refine CondG.ff ?_); conv => whnf)
    refine ⟨_, (Ent.sel (T := []) (A := [_, _]) [1] rfl).trans (stP_more (m := n + 2) (by omega)), ?_, ?_⟩
    · rw [registerL, if_neg (by rw [h1]; decide), if_pos h2]; rfl
    · rw [registerL, if_neg (by rw [h1]; decide), if_pos h2]; rfl
  · (conv => whnf); repeat ((first | with_reducible refine CondG.tt ?_ | with_reducible refine CondG.ff ?_); conv => whnf)
    refine BuildG.of (cs := zTok.cells) rfl ?_
    (conv => whnf); repeat ((first | with_reducible refine CondG.tt ?_ | with_reducible refine CondG.ff ?_); conv => whnf)
    refine CallG.of (pre := [stP 127 s src find V n]) (rest := [cel b5 44 (tokenL V m).1.cells]) (layToken_at _ s src V n m hm zTok z4_len (hs.left _) ho hn) (Ent.perm (List.Perm.swap _ _ _)) ?_
    rintro _ _ ⟨rfl, rfl⟩
    (conv => whnf); repeat ((first | with_reducible refine CondG.tt ?_ | with_reducible refine CondG.ff ?_); conv => whnf)
    refine ⟨_, (Ent.sel (T := []) (A := [_, _]) [0] rfl).trans (stP_more (m := n + 2) (by omega)), ?_, ?_⟩
    · rw [registerL, if_neg (by rw [h1]; decide), if_neg (by rw [h2]; decide)]; rfl
    · rw [registerL, if_neg (by rw [h1]; decide), if_neg (by rw [h2]; decide)]; rfl
theorem pause_at (F : List HP) (s : Nat) (src : Value) (V : View) (n : Nat) (t : Int) (hs : SrcG Tryd.prog F src find) (ho : SrcOk find) (hn : n ≤ 1099511627776) :
    SpecF Tryd.prog 64 [.pointer (some ⟨s, 0, none⟩), .int .i64 t] F [stP 127 s src find V n] (fun r L => r = .int .i64 (pauseL V t).1 ∧ L = [stP 127 s src find (pauseL V t).2 (n + 2)]) := by
  have hok := (runL_ok V t).len
  have hl1 : (runL V t).1.cells.length = 6 := TokD.cells_len hok
  refine fun64.spec rfl ?_
  (conv => whnf); repeat ((first | with_reducible refine CondG.tt ?_ | with_reducible refine CondG.ff ?_); conv => whnf)
  refine CallG.of (pre := [stP 127 s src find V n]) (rest := []) (running_at _ s src V n t (hs.left _) ho) (Ent.refl _) ?_
  rintro _ _ ⟨rfl, rfl⟩
  (conv => whnf); repeat ((first | with_reducible refine CondG.tt ?_ | with_reducible refine CondG.ff ?_); conv => whnf)
  intro b5
  (conv => whnf); repeat ((first | with_reducible refine CondG.tt ?_ | with_reducible refine CondG.ff ?_); conv => whnf)
  refine StoreG.at hl1 (Upd.whole (by rw [hl1]; rfl) (TokD.cells_one _)) ?_
  (conv => whnf); repeat ((first | with_reducible refine CondG.tt ?_ | with_reducible refine CondG.ff ?_); conv => whnf)
  refine CondG.ndec (fun h1 => ?_) (fun h1 => ?_)
  · (conv => whnf); repeat ((first | with_reducible refine CondG.tt ?_ | with_reducible refine CondG.ff ?_); conv => whnf)
    refine ⟨_, (Ent.sel (T := []) (A := [_, _]) [1] rfl).trans (stP_more (m := n + 2) (by omega)), ?_, ?_⟩
    · rw [pauseL, if_pos h1]; rfl
    · rw [pauseL, if_pos h1]; rfl
  obtain ⟨m, rfl, hm⟩ := runL_nat h1
  (conv => whnf); repeat ((first | with_reducible refine CondG.tt ?_ | with_reducible refine CondG.ff ?_); conv => whnf)
  refine StoreG.at (cs := [.bool true]) rfl (Upd.here (by rw [hl1]; decide) rfl) ?_
  have e : (runL V m).1.cells.set 1 (.bool true) = ({ (runL V m).1 with paused := true } : TokD).cells := rfl
  have hl2 : ({ (runL V m).1 with paused := true } : TokD).cells.length = 6 := TokD.cells_len hok
  (conv => whnf); repeat ((first | with_reducible refine CondG.tt ?_ | with_reducible refine CondG.ff ?_); conv => whnf)
  refine LoadNG.at (vs := ({ (runL V m).1 with paused := true } : TokD).cells) hl2 .all ?_
  (conv => whnf); repeat ((first | with_reducible refine CondG.tt ?_ | with_reducible refine CondG.ff ?_); conv => whnf)
  refine CallG.of (pre := [stP 127 s src find V n]) (rest := [cel b5 44 ({ (runL V m).1 with paused := true } : TokD).cells]) (layToken_at _ s src V n m hm { (runL V m).1 with paused := true } hok (hs.left _) ho hn) (Ent.perm (List.Perm.swap _ _ _)) ?_
  rintro _ _ ⟨rfl, rfl⟩
  (conv => whnf); repeat ((first | with_reducible refine CondG.tt ?_ | with_reducible refine CondG.ff ?_); conv => whnf)
  refine ⟨_, (Ent.sel (T := []) (A := [_, _]) [0] rfl).trans (stP_more (m := n + 2) (by omega)), ?_, ?_⟩
  · rw [pauseL, if_neg (by rw [h1]; decide)]; rfl
  · rw [pauseL, if_neg (by rw [h1]; decide)]; rfl
theorem resume_at (F : List HP) (s : Nat) (src : Value) (V : View) (n : Nat) (t : Int) (hs : SrcG Tryd.prog F src find) (ho : SrcOk find) (hn : n ≤ 1099511627776) :
    SpecF Tryd.prog 65 [.pointer (some ⟨s, 0, none⟩), .int .i64 t] F [stP 127 s src find V n] (fun r L => r = .int .i64 (resumeL V t).1 ∧ L = [stP 127 s src find (resumeL V t).2 (n + 2)]) := by
  have hok := (thereL_ok V t).len
  have hl1 : (thereL V t).1.cells.length = 6 := TokD.cells_len hok
  refine fun65.spec rfl ?_
  (conv => whnf); repeat ((first | with_reducible refine CondG.tt ?_ | with_reducible refine CondG.ff ?_); conv => whnf)
  refine CallG.of (pre := [stP 127 s src find V n]) (rest := []) (there_at _ s src V n t (hs.left _) ho) (Ent.refl _) ?_
  rintro _ _ ⟨rfl, rfl⟩
  (conv => whnf); repeat ((first | with_reducible refine CondG.tt ?_ | with_reducible refine CondG.ff ?_); conv => whnf)
  intro b5
  (conv => whnf); repeat ((first | with_reducible refine CondG.tt ?_ | with_reducible refine CondG.ff ?_); conv => whnf)
  refine StoreG.at hl1 (Upd.whole (by rw [hl1]; rfl) (TokD.cells_one _)) ?_
  (conv => whnf); repeat ((first | with_reducible refine CondG.tt ?_ | with_reducible refine CondG.ff ?_); conv => whnf)
  refine CondG.ndec (fun h1 => ?_) (fun h1 => ?_)
  · (conv => whnf); repeat ((first | with_reducible refine CondG.tt ?_ | with_reducible refine CondG.ff ?_); conv => whnf)
    refine ⟨_, (Ent.sel (T := []) (A := [_, _]) [1] rfl).trans (stP_more (m := n + 2) (by omega)), ?_, ?_⟩
    · rw [resumeL, if_pos h1]; rfl
    · rw [resumeL, if_pos h1]; rfl
  obtain ⟨m, rfl, hm⟩ := thereL_nat h1
  (conv => whnf); repeat ((first | with_reducible refine CondG.tt ?_ | with_reducible refine CondG.ff ?_); conv => whnf)
  refine LoadG.at (v := .bool (thereL V m).1.paused) (.here rfl) ?_
  (conv => whnf); repeat ((first | with_reducible refine CondG.tt ?_ | with_reducible refine CondG.ff ?_); conv => whnf)
  refine CondG.split (fun h2 => ?_) (fun h2 => ?_)
  · have h2' : (thereL V m).1.paused = false := by simpa using h2
    (conv => whnf); repeat ((first | with_reducible refine CondG.tt ?_ | with_reducible refine CondG.ff ?_); conv => whnf)
    refine ⟨_, (Ent.sel (T := []) (A := [_, _]) [1] rfl).trans (stP_more (m := n + 2) (by omega)), ?_, ?_⟩
    · rw [resumeL, if_neg (by rw [h1]; decide), if_pos h2']; rfl
    · rw [resumeL, if_neg (by rw [h1]; decide), if_pos h2']; rfl
  have h2' : ¬ (thereL V m).1.paused = false := by simpa using h2
  (conv => whnf); repeat ((first | with_reducible refine CondG.tt ?_ | with_reducible refine CondG.ff ?_); conv => whnf)
  refine StoreG.at (cs := [.bool false]) rfl (Upd.here (by rw [hl1]; decide) rfl) ?_
  have hl2 : ({ (thereL V m).1 with paused := false } : TokD).cells.length = 6 := TokD.cells_len hok
  (conv => whnf); repeat ((first | with_reducible refine CondG.tt ?_ | with_reducible refine CondG.ff ?_); conv => whnf)
  refine LoadNG.at (vs := ({ (thereL V m).1 with paused := false } : TokD).cells) hl2 .all ?_
  (conv => whnf); repeat ((first | with_reducible refine CondG.tt ?_ | with_reducible refine CondG.ff ?_); conv => whnf)
  refine CallG.of (pre := [stP 127 s src find V n]) (rest := [cel b5 44 ({ (thereL V m).1 with paused := false } : TokD).cells]) (layToken_at _ s src V n m hm { (thereL V m).1 with paused := false } hok (hs.left _) ho hn) (Ent.perm (List.Perm.swap _ _ _)) ?_
  rintro _ _ ⟨rfl, rfl⟩
  (conv => whnf); repeat ((first | with_reducible refine CondG.tt ?_ | with_reducible refine CondG.ff ?_); conv => whnf)
  refine ⟨_, (Ent.sel (T := []) (A := [_, _]) [0] rfl).trans (stP_more (m := n + 2) (by omega)), ?_, ?_⟩
  · rw [resumeL, if_neg (by rw [h1]; decide), if_neg h2']; rfl
  · rw [resumeL, if_neg (by rw [h1]; decide), if_neg h2']; rfl
theorem balance_at (F : List HP) (s : Nat) (src : Value) (V : View) (n : Nat) (t : Int) (a : List Nat) (ha : a.length = 20) (hs : SrcG Tryd.prog F src find) (ho : SrcOk find) :
    SpecF Tryd.prog 16 [.pointer (some ⟨s, 0, none⟩), .int .i64 t, .agg ⟨bvs a⟩] F [stP 127 s src find V n] (fun r L => r = .tuple #[.agg ⟨uvs (balL V t a).1⟩, .int .i64 (balL V t a).2] ∧ L = [stP 127 s src find V n]) := by
  refine fun16.spec rfl ?_
  (conv => whnf); repeat ((first | with_reducible refine CondG.tt ?_ | with_reducible refine CondG.ff ?_); conv => whnf)
  intro b5
  (conv => whnf); repeat ((first | with_reducible refine CondG.tt ?_ | with_reducible refine CondG.ff ?_); conv => whnf)
  intro b6
  (conv => whnf); repeat ((first | with_reducible refine CondG.tt ?_ | with_reducible refine CondG.ff ?_); conv => whnf)
  refine CallG.pure (begun_spec _ s t) ?_
  rintro _ _ ⟨rfl, rfl⟩
  (conv => whnf); repeat ((first | with_reducible refine CondG.tt ?_ | with_reducible refine CondG.ff ?_); conv => whnf)
  refine CondG.ndec (fun h1 => ?_) (fun h1 => ?_)
  · (conv => whnf); repeat ((first | with_reducible refine CondG.tt ?_ | with_reducible refine CondG.ff ?_); conv => whnf)
    refine BuildG.of rfl ?_
    (conv => whnf); repeat ((first | with_reducible refine CondG.tt ?_ | with_reducible refine CondG.ff ?_); conv => whnf)
    refine StoreG.at rfl (Upd.whole rfl (uvs_one z4)) ?_
    (conv => whnf); repeat ((first | with_reducible refine CondG.tt ?_ | with_reducible refine CondG.ff ?_); conv => whnf)
    refine LoadNG.at (vs := uvs z4) rfl .all ?_
    (conv => whnf); repeat ((first | with_reducible refine CondG.tt ?_ | with_reducible refine CondG.ff ?_); conv => whnf)
    refine ⟨_, Ent.sel (T := []) (A := [_, _, _]) [2] rfl, ?_, rfl⟩
    rw [balL, if_pos h1]
    rfl
  obtain ⟨m, rfl, hm⟩ := begE_nat h1
  have hok := amtR_ok (V (balKey m a))
  have hl1 : (uvs (amtR (V (balKey m a))).1).length = 4 := by rw [uvs_len, hok.len]
  (conv => whnf); repeat ((first | with_reducible refine CondG.tt ?_ | with_reducible refine CondG.ff ?_); conv => whnf)
  refine LoadNG.at (vs := bvs a) (by rw [bvs_len, ha]) (.tl .all) ?_
  (conv => whnf); repeat ((first | with_reducible refine CondG.tt ?_ | with_reducible refine CondG.ff ?_); conv => whnf)
  refine CallG.pure (balanceKey_spec _ m hm a ha) ?_
  rintro _ _ ⟨rfl, rfl⟩
  (conv => whnf); repeat ((first | with_reducible refine CondG.tt ?_ | with_reducible refine CondG.ff ?_); conv => whnf)
  refine CallG.of (pre := [stP 127 s src find V n]) (rest := [cel b6 25 (uvs z4), cel b5 33 (bvs a)]) (amount_spec _ s src V n (balKey m a) (hs.left _) ho (may_bal ha 0 (by decide))) (Ent.sel (T := []) (A := [_, _, _]) [2, 0, 1] rfl) ?_
  rintro _ _ ⟨rfl, rfl⟩
  (conv => whnf); repeat ((first | with_reducible refine CondG.tt ?_ | with_reducible refine CondG.ff ?_); conv => whnf)
  refine StoreG.at hl1 (Upd.tl (Upd.whole (by rw [hl1]; rfl) (uvs_one _))) ?_
  (conv => whnf); repeat ((first | with_reducible refine CondG.tt ?_ | with_reducible refine CondG.ff ?_); conv => whnf)
  refine LoadNG.at (vs := uvs (amtR (V (balKey m a))).1) hl1 (.tl .all) ?_
  (conv => whnf); repeat ((first | with_reducible refine CondG.tt ?_ | with_reducible refine CondG.ff ?_); conv => whnf)
  refine ⟨_, Ent.sel (T := []) (A := [_, _, _]) [0] rfl, ?_, rfl⟩
  rw [balL, if_neg (by rw [h1]; decide)]
  rfl
theorem allowed_at (F : List HP) (s : Nat) (src : Value) (V : View) (n : Nat) (t : Int) (o p : List Nat) (hol : o.length = 20) (hpl : p.length = 20) (hs : SrcG Tryd.prog F src find) (ho : SrcOk find) :
    SpecF Tryd.prog 19 [.pointer (some ⟨s, 0, none⟩), .int .i64 t, .agg ⟨bvs o⟩, .agg ⟨bvs p⟩] F [stP 127 s src find V n] (fun r L => r = .tuple #[.agg ⟨uvs (allowedL V t o p).1⟩, .int .i64 (allowedL V t o p).2] ∧ L = [stP 127 s src find V n]) := by
  refine fun19.spec rfl ?_
  (conv => whnf); repeat ((first | with_reducible refine CondG.tt ?_ | with_reducible refine CondG.ff ?_); conv => whnf)
  intro b6
  (conv => whnf); repeat ((first | with_reducible refine CondG.tt ?_ | with_reducible refine CondG.ff ?_); conv => whnf)
  intro b7
  (conv => whnf); repeat ((first | with_reducible refine CondG.tt ?_ | with_reducible refine CondG.ff ?_); conv => whnf)
  intro b8
  (conv => whnf); repeat ((first | with_reducible refine CondG.tt ?_ | with_reducible refine CondG.ff ?_); conv => whnf)
  refine CallG.pure (begun_spec _ s t) ?_
  rintro _ _ ⟨rfl, rfl⟩
  (conv => whnf); repeat ((first | with_reducible refine CondG.tt ?_ | with_reducible refine CondG.ff ?_); conv => whnf)
  refine CondG.ndec (fun h1 => ?_) (fun h1 => ?_)
  · (conv => whnf); repeat ((first | with_reducible refine CondG.tt ?_ | with_reducible refine CondG.ff ?_); conv => whnf)
    refine BuildG.of rfl ?_
    (conv => whnf); repeat ((first | with_reducible refine CondG.tt ?_ | with_reducible refine CondG.ff ?_); conv => whnf)
    refine StoreG.at rfl (Upd.whole rfl (uvs_one z4)) ?_
    (conv => whnf); repeat ((first | with_reducible refine CondG.tt ?_ | with_reducible refine CondG.ff ?_); conv => whnf)
    refine LoadNG.at (vs := uvs z4) rfl .all ?_
    (conv => whnf); repeat ((first | with_reducible refine CondG.tt ?_ | with_reducible refine CondG.ff ?_); conv => whnf)
    refine ⟨_, Ent.sel (T := []) (A := [_, _, _, _]) [3] rfl, ?_, rfl⟩
    rw [allowedL, if_pos h1]
    rfl
  obtain ⟨m, rfl, hm⟩ := begE_nat h1
  have hok := amtR_ok (V (allKey m o p))
  have hl1 : (uvs (amtR (V (allKey m o p))).1).length = 4 := by rw [uvs_len, hok.len]
  (conv => whnf); repeat ((first | with_reducible refine CondG.tt ?_ | with_reducible refine CondG.ff ?_); conv => whnf)
  refine LoadNG.at (vs := bvs o) (by rw [bvs_len, hol]) (.tl (.tl .all)) ?_
  (conv => whnf); repeat ((first | with_reducible refine CondG.tt ?_ | with_reducible refine CondG.ff ?_); conv => whnf)
  refine LoadNG.at (vs := bvs p) (by rw [bvs_len, hpl]) (.tl .all) ?_
  (conv => whnf); repeat ((first | with_reducible refine CondG.tt ?_ | with_reducible refine CondG.ff ?_); conv => whnf)
  refine CallG.pure (allowanceKey_spec _ m hm o p hol hpl) ?_
  rintro _ _ ⟨rfl, rfl⟩
  (conv => whnf); repeat ((first | with_reducible refine CondG.tt ?_ | with_reducible refine CondG.ff ?_); conv => whnf)
  refine CallG.of (pre := [stP 127 s src find V n]) (rest := [cel b8 25 (uvs z4), cel b7 33 (bvs p), cel b6 33 (bvs o)]) (amount_spec _ s src V n (allKey m o p) (hs.left _) ho (may_all hol hpl 0 (by decide))) (Ent.sel (T := []) (A := [_, _, _, _]) [3, 0, 1, 2] rfl) ?_
  rintro _ _ ⟨rfl, rfl⟩
  (conv => whnf); repeat ((first | with_reducible refine CondG.tt ?_ | with_reducible refine CondG.ff ?_); conv => whnf)
  refine StoreG.at hl1 (Upd.tl (Upd.whole (by rw [hl1]; rfl) (uvs_one _))) ?_
  (conv => whnf); repeat ((first | with_reducible refine CondG.tt ?_ | with_reducible refine CondG.ff ?_); conv => whnf)
  refine LoadNG.at (vs := uvs (amtR (V (allKey m o p))).1) hl1 (.tl .all) ?_
  (conv => whnf); repeat ((first | with_reducible refine CondG.tt ?_ | with_reducible refine CondG.ff ?_); conv => whnf)
  refine ⟨_, Ent.sel (T := []) (A := [_, _, _, _]) [0] rfl, ?_, rfl⟩
  rw [allowedL, if_neg (by rw [h1]; decide)]
  rfl
end
end Go.Proofs.YtnbcbdlbejdkpaaDoor
