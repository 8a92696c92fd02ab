/-
  The ticket law's own trial: a ticket is opened, found, cancelled; the law of the names.
-/
import Derived.Test.YthdpknlnpeaiiaaDoorTf
namespace Go.Proofs.YthdpknlnpeaiiaaDoor
open Go Go.Sl
def k0 : TicketD := ⟨0, 7, List.replicate 20 0, 3, List.replicate 20 0, [256, 0, 0, 0]⟩
def k1 : TicketD := { k0 with num := 1 }
theorem k0_wf : k0.wf := ⟨rfl, rfl, rfl⟩
theorem k0_may : k0.may := by decide
theorem tick_ext : ∀ {a b : TicketD}, a.num = b.num → a.ent = b.ent → a.snd = b.snd → a.tok = b.tok → a.to = b.to → a.amt = b.amt → a = b
  | ⟨_, _, _, _, _, _⟩, ⟨_, _, _, _, _, _⟩, rfl, rfl, rfl, rfl, rfl, rfl => rfl
theorem k0_of : tkOf 1 k0.value = k1 := tick_ext rfl (by decide +kernel) (by decide +kernel) (by decide +kernel) (by decide +kernel) (by decide +kernel)
theorem k0_back : findR 1 k0.value = (k1, 0) := by
  unfold findR
  rw [if_neg (by decide +kernel), if_pos ⟨by decide +kernel, by rw [k0_of]; decide +kernel⟩, k0_of]
theorem tkey1 : tkey 1 ≠ ntK := by decide +kernel
theorem tabOk : SrcOk (tabFind []) where
  ok k h := by unfold tabFind; rw [if_neg (by omega)]
  len k := tabFind_len (by simp) k
theorem lv_nil (hb nb : Nat) (a b : Value) (k : ByteArray) : lv (tabFind []) (StC.mk [] [] [] [] hb nb a b) k = [] := by
  show (tabFind [] k).1 = []
  unfold tabFind
  split <;> rfl
theorem tknown_spec (F : List HP) : SpecF Tryd.prog 41 [] F [] (fun v _ => v = .bool true) := by
  refine fun41.spec rfl ?_
  (conv => whnf); repeat ((first | with_reducible refine CondG.tt ?_ | with_reducible refine CondG.ff ?_); conv => whnf)
  refine CallG.pure (fresh_nil _) ?_
  rintro _ _ ⟨s, t, vb, q, ob, hb, nb, rfl, rfl⟩
  rw [List.append_nil]
  (conv => whnf); repeat ((first | with_reducible refine CondG.tt ?_ | with_reducible refine CondG.ff ?_); conv => whnf)
  refine BuildG.of rfl ?_
  (conv => whnf); repeat ((first | with_reducible refine CondG.tt ?_ | with_reducible refine CondG.ff ?_); conv => whnf)
  refine BuildG.of (cs := k0.cells) rfl ?_
  (conv => whnf); repeat ((first | with_reducible refine CondG.tt ?_ | with_reducible refine CondG.ff ?_); conv => whnf)
  intro b2
  (conv => whnf); repeat ((first | with_reducible refine CondG.tt ?_ | with_reducible refine CondG.ff ?_); conv => whnf)
  refine StoreG.at rfl (Upd.whole rfl (TicketD.cells_one k0)) ?_
  (conv => whnf); repeat ((first | with_reducible refine CondG.tt ?_ | with_reducible refine CondG.ff ?_); conv => whnf)
  refine LoadNG.at (vs := k0.cells) rfl .all ?_
  (conv => whnf); repeat ((first | with_reducible refine CondG.tt ?_ | with_reducible refine CondG.ff ?_); conv => whnf)
  have hsrc : ∀ M : List HP, SrcG Tryd.prog ((emptyL 144 182 t vb q ob ++ M) ++ F) (.iface 86 (.pointer (some ⟨t, 0, none⟩))) (tabFind []) := fun M =>
    tab_src _ t vb [] (.left (.left (.here rfl) M) F) (.left (.left (.tl .here) M) F) (by simp)
  have hw0 : (StC.mk [] [] [] [] hb nb (.slice none 0 0) (.slice none 0 0)).wf := ⟨by simp, by simp, by simp⟩
  have hlv := lv_nil hb nb (.slice none 0 0) (.slice none 0 0)
  refine CallG.of (rest := emptyL 144 182 t vb q ob ++ [cel b2 96 k0.cells]) (open_ok _ s _ _ k0 (hsrc _) tabOk hw0 k0_wf (by simp)) (Ent.perm ?_) ?_
  · rw [← List.append_assoc]
    exact (List.perm_append_comm (l₁ := [cel b2 96 k0.cells]))
  rw [hlv]
  rintro _ _ (⟨h, _⟩ | ⟨_, _, h, _⟩ | ⟨_, _, _, h, _⟩ | ⟨_, _, _, _, _, c1, c2, c3, hc1, hc2, hc3, rfl, rfl⟩)
  · exact absurd h (by simp [k0_may]; rfl)
  · exact absurd rfl h
  · exact absurd h (by decide)
  have e0 : ((madeR []).1 + 1).toNat = 1 := rfl
  rw [e0] at hc2 hc3
  have e1 : lv (tabFind []) c3 (tkey 1) = k0.value := by
    rw [hc3.lv, if_neg tkey1, hc2.lv, if_pos rfl]
  have f1 : findA (tabFind []) c3 1 = (k1, 0) := by
    unfold findA
    rw [if_neg (by decide), show (1 : Int).toNat = 1 from rfl, e1, k0_back]
  have k1_wf : k1.wf := ⟨rfl, rfl, rfl⟩
  (conv => whnf); repeat ((first | with_reducible refine CondG.tt ?_ | with_reducible refine CondG.ff ?_); conv => whnf)
  refine CallG.of (rest := emptyL 144 182 t vb q ob ++ [cel b2 96 k0.cells]) (tfind_all _ s _ c3 1 (hsrc _) tabOk hc3.wf) (Ent.refl _) ?_
  rw [f1]
  rintro _ _ ⟨c4, hc4, rfl, rfl⟩
  (conv => whnf); repeat ((first | with_reducible refine CondG.tt ?_ | with_reducible refine CondG.ff ?_); conv => whnf)
  intro b5
  (conv => whnf); repeat ((first | with_reducible refine CondG.tt ?_ | with_reducible refine CondG.ff ?_); conv => whnf)
  refine StoreG.at rfl (Upd.whole rfl (TicketD.cells_one k1)) ?_
  (conv => whnf); repeat ((first | with_reducible refine CondG.tt ?_ | with_reducible refine CondG.ff ?_); conv => whnf)
  refine BuildG.of rfl ?_
  (conv => whnf); repeat ((first | with_reducible refine CondG.tt ?_ | with_reducible refine CondG.ff ?_); conv => whnf)
  have f2 : findA (tabFind []) c4 1 = (k1, 0) := by
    unfold findA
    rw [if_neg (by decide), show (1 : Int).toNat = 1 from rfl, hc4.lv, e1, k0_back]
  have n3 : c3.steps.length = 2 := by rw [hc3.steps, hc2.steps, hc1.steps]; rfl
  refine CallG.of (rest := emptyL 144 182 t vb q ob ++ [cel b2 96 k0.cells, cel b5 96 k1.cells]) (cancel_ok _ s _ c4 1 (List.replicate 20 0) rfl (hsrc _) tabOk hc4.wf (by rw [hc4.steps, n3]; decide)) (Ent.perm ?_) ?_
  · exact permR (A := c4.pieces 139 s (.iface 86 (.pointer (some ⟨t, 0, none⟩)))) (E := emptyL 144 182 t vb q ob) (R := [cel b2 96 k0.cells])
  rw [f2]
  rintro _ _ (⟨h, _⟩ | ⟨_, h, _⟩ | ⟨_, _, _, c5, c6, hc5, hc6, rfl, rfl⟩)
  · exact absurd rfl h
  · exact absurd rfl h
  (conv => whnf); repeat ((first | with_reducible refine CondG.tt ?_ | with_reducible refine CondG.ff ?_); conv => whnf)
  intro b7
  (conv => whnf); repeat ((first | with_reducible refine CondG.tt ?_ | with_reducible refine CondG.ff ?_); conv => whnf)
  refine StoreG.at rfl (Upd.whole rfl (TicketD.cells_one k1)) ?_
  (conv => whnf); repeat ((first | with_reducible refine CondG.tt ?_ | with_reducible refine CondG.ff ?_); conv => whnf)
  have e6 : lv (tabFind []) c6 (tkey 1) = [] := by rw [hc6.lv]; exact if_pos rfl
  have f3 : findA (tabFind []) c6 1 = (zeroT', 90) := by
    unfold findA
    rw [if_neg (by decide), show (1 : Int).toNat = 1 from rfl, e6]
    rfl
  refine CallG.of (rest := emptyL 144 182 t vb q ob ++ [cel b2 96 k0.cells, cel b5 96 k1.cells, cel b7 96 k1.cells]) (tfind_all _ s _ c6 1 (hsrc _) tabOk hc6.wf) (Ent.perm ?_) ?_
  · exact permR (A := c6.pieces 139 s (.iface 86 (.pointer (some ⟨t, 0, none⟩)))) (E := emptyL 144 182 t vb q ob) (R := [cel b2 96 k0.cells, cel b5 96 k1.cells])
  rw [f3]
  rintro _ _ ⟨c7, hc7, rfl, rfl⟩
  (conv => whnf); repeat ((first | with_reducible refine CondG.tt ?_ | with_reducible refine CondG.ff ?_); conv => whnf)
  intro b9
  (conv => whnf); repeat ((first | with_reducible refine CondG.tt ?_ | with_reducible refine CondG.ff ?_); conv => whnf)
  refine StoreG.at rfl (Upd.whole rfl (TicketD.cells_one zeroT')) ?_
  (conv => whnf); repeat ((first | with_reducible refine CondG.tt ?_ | with_reducible refine CondG.ff ?_); conv => whnf)
  have front : Ent (cel b9 96 zeroT'.cells :: (c7.pieces 139 s (.iface 86 (.pointer (some ⟨t, 0, none⟩))) ++ (emptyL 144 182 t vb q ob ++ [cel b2 96 k0.cells, cel b5 96 k1.cells, cel b7 96 k1.cells])))
      (cel b2 96 k0.cells :: cel b5 96 k1.cells :: cel b7 96 k1.cells :: cel b9 96 zeroT'.cells :: (c7.pieces 139 s (.iface 86 (.pointer (some ⟨t, 0, none⟩))) ++ emptyL 144 182 t vb q ob)) := by
    refine Ent.perm ?_
    have := List.perm_append_comm (l₁ := cel b9 96 zeroT'.cells :: (c7.pieces 139 s (.iface 86 (.pointer (some ⟨t, 0, none⟩))) ++ emptyL 144 182 t vb q ob)) (l₂ := [cel b2 96 k0.cells, cel b5 96 k1.cells, cel b7 96 k1.cells])
    simpa only [List.append_assoc, List.cons_append, List.nil_append] using this
  refine StoreG.ent front ?_
  refine StoreG.at rfl (Upd.here (by decide) rfl) ?_
  (conv => whnf); repeat ((first | with_reducible refine CondG.tt ?_ | with_reducible refine CondG.ff ?_); conv => whnf)
  refine CondG.tt ?_
  (conv => whnf); repeat ((first | with_reducible refine CondG.tt ?_ | with_reducible refine CondG.ff ?_); conv => whnf)
  refine CondG.tt ?_
  (conv => whnf); repeat ((first | with_reducible refine CondG.tt ?_ | with_reducible refine CondG.ff ?_); conv => whnf)
  refine CondG.tt ?_
  (conv => whnf); repeat ((first | with_reducible refine CondG.tt ?_ | with_reducible refine CondG.ff ?_); conv => whnf)
  refine LoadNG.at (vs := k1.cells) rfl (.tl .all) ?_
  (conv => whnf); repeat ((first | with_reducible refine CondG.tt ?_ | with_reducible refine CondG.ff ?_); conv => whnf)
  refine LoadNG.at (vs := k1.cells) rfl (.here rfl) ?_
  (conv => whnf); repeat ((first | with_reducible refine CondG.tt ?_ | with_reducible refine CondG.ff ?_); conv => whnf)
  refine DoesG.eqv 8 tickK (by kernel_rfl) (by decide) (by kernel_rfl) (by kernel_rfl) (TicketD.wt k1_wf) (TicketD.wt k1_wf) ?_
  (conv => whnf); repeat ((first | with_reducible refine CondG.tt ?_ | with_reducible refine CondG.ff ?_); conv => whnf)
  refine CondG.split (fun _ => ?_) (fun h => absurd h (by simp))
  (conv => whnf); repeat ((first | with_reducible refine CondG.tt ?_ | with_reducible refine CondG.ff ?_); conv => whnf)
  refine CondG.tt ?_
  (conv => whnf); repeat ((first | with_reducible refine CondG.tt ?_ | with_reducible refine CondG.ff ?_); conv => whnf)
  refine LoadNG.at (vs := k1.cells) rfl (.tl (.tl .all)) ?_
  (conv => whnf); repeat ((first | with_reducible refine CondG.tt ?_ | with_reducible refine CondG.ff ?_); conv => whnf)
  refine LoadNG.at (vs := k1.cells) rfl (.here rfl) ?_
  (conv => whnf); repeat ((first | with_reducible refine CondG.tt ?_ | with_reducible refine CondG.ff ?_); conv => whnf)
  refine DoesG.eqv 8 tickK (by kernel_rfl) (by decide) (by kernel_rfl) (by kernel_rfl) (TicketD.wt k1_wf) (TicketD.wt k1_wf) ?_
  (conv => whnf); repeat ((first | with_reducible refine CondG.tt ?_ | with_reducible refine CondG.ff ?_); conv => whnf)
  refine CondG.split (fun _ => ?_) (fun h => absurd h (by simp))
  (conv => whnf); repeat ((first | with_reducible refine CondG.tt ?_ | with_reducible refine CondG.ff ?_); conv => whnf)
  exact ret_here rfl
theorem tnames_spec (F : List HP) : SpecF Tryd.prog 9 [] F [] (fun v _ => v = .bool true) := by
  refine fun9.spec rfl ?_
  (conv => whnf); repeat ((first | with_reducible refine CondG.tt ?_ | with_reducible refine CondG.ff ?_); conv => whnf)
  refine CallG.pure (tknown_spec _) ?_
  rintro _ _ rfl
  (conv => whnf); repeat ((first | with_reducible refine CondG.tt ?_ | with_reducible refine CondG.ff ?_); conv => whnf)
  exact ret_here rfl
end Go.Proofs.YthdpknlnpeaiiaaDoor
