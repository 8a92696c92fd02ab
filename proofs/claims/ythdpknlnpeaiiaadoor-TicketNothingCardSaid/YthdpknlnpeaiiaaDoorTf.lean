/-
  Tickets in a state over a source that knows of all keys: contracts out of the resolved texts.
-/
import Derived.Test.YthdpknlnpeaiiaaDoorTo
import Derived.Test.YthdpknlnpeaiiaaDoorZLv
namespace Go.Proofs.YthdpknlnpeaiiaaDoor
open Go Go.Sl
section
variable {find : ByteArray → List Nat × Int}
theorem get_ok (F : List HP) (s : Nat) (src : Value) (c : StC) (key : ByteArray) (hs : SrcG Tryd.prog F src find) (ho : SrcOk find) (hw : c.wf) (hk : mayI key 0 = 0) :
    SpecF Tryd.prog 73 [.pointer (some ⟨s, 0, none⟩), .string key] F (c.pieces 139 s src) (fun r L => ∃ c' x, Same find c c' ∧ SlV x (lv find c key).length ∧ (lv find c key).length ≤ 4096 ∧ r = .tuple #[x, .int .i64 0] ∧ L = own 1 x (lv find c key).length (bvs (lv find c key)) :: c'.pieces 139 s src) := by
  intro w hw'
  refine (get_spec F s src c key find hs (fun k => by have := ho.len k; omega) hw w hw').mono ?_
  rintro e w' ⟨v, L, rfl, hR, hx, hs'⟩
  refine ⟨v, L, rfl, ?_, hx, hs'⟩
  rcases hR with ⟨h1, _⟩ | ⟨_, h2, _⟩ | ⟨_, _, c', x, hc', hx, rfl, rfl⟩
  · exact absurd hk h1
  · exact absurd (ho.ask hk) h2
  · have ht := hc'.tells hw
    have h4 := (StC.rd (T := 0) (s := 0) (src := .nilIface) (key := key) (hc'.wf hw)).2.2
    rw [ht] at hx h4 ⊢
    exact ⟨c', x, hc'.same hw, hx, h4, rfl, rfl⟩
theorem put_ok (F : List HP) (s : Nat) (src : Value) (c : StC) (key : ByteArray) (v : Value) (bs : List Nat) (hs : SrcG Tryd.prog F src find) (ho : SrcOk find) (hw : c.wf) (hk : mayI key bs.length = 0)
    (hv : SlV v bs.length) (hr : RdS F v bs.length (bvs bs)) (hst : c.steps.length ≤ 1099511627776) :
    SpecF Tryd.prog 35 [.pointer (some ⟨s, 0, none⟩), .string key, v] F (c.pieces 139 s src) (fun r L => ∃ c', Laid find c key bs c' ∧ r = .int .i64 0 ∧ L = c'.pieces 139 s src) := by
  obtain ⟨hb, hk0⟩ := mayI_le hk
  intro w hw'
  refine (put_spec_s F s src c key v bs find hs (fun k => by have := ho.len k; omega) hw hv hr (by omega) hst w hw').mono ?_
  rintro e w' ⟨v, L, rfl, hR, hx, hs'⟩
  refine ⟨v, L, rfl, ?_, hx, hs'⟩
  rcases hR with ⟨h1, _⟩ | ⟨_, h2, _⟩ | ⟨_, _, c', x, sv, hc', hx, rfl, rfl⟩
  · exact absurd hk h1
  · exact absurd (ho.ask hk0) h2
  · exact ⟨_, hc'.laid hw hx hb, rfl, rfl⟩
theorem made_ok (F : List HP) (s : Nat) (src : Value) (c : StC) (hs : SrcG Tryd.prog F src find) (ho : SrcOk find) (hw : c.wf) :
    SpecF Tryd.prog 44 [.pointer (some ⟨s, 0, none⟩)] F (c.pieces 139 s src) (fun r L => ∃ c', Same find c c' ∧ r = .tuple #[.int .i64 (madeR (lv find c ntK)).1, .int .i64 (madeR (lv find c ntK)).2] ∧ L = c'.pieces 139 s src) := by
  refine fun44.spec rfl ?_
  (conv => whnf); repeat ((first | with_reducible refine CondG.tt ?_ | with_reducible refine CondG.ff ?_); conv => whnf)
  refine CallG.of (rest := []) (get_ok _ s src c ntK (hs.left []) ho hw (by decide)) (by rw [List.append_nil]; exact Ent.refl _) ?_
  rintro _ _ ⟨c', x, hc', hx, hlen, rfl, rfl⟩
  (conv => whnf); repeat ((first | with_reducible refine CondG.tt ?_ | with_reducible refine CondG.ff ?_); conv => whnf)
  refine CondG.ff ?_
  (conv => whnf); repeat ((first | with_reducible refine CondG.tt ?_ | with_reducible refine CondG.ff ?_); conv => whnf)
  refine LenG.sl hx ?_
  (conv => whnf); repeat ((first | with_reducible refine CondG.tt ?_ | with_reducible refine CondG.ff ?_); conv => whnf)
  refine CondG.dec (fun h1 => ?_) (fun h1 => ?_)
  · have e : lv find c ntK = [] := List.eq_nil_of_length_eq_zero (by omega)
    (conv => whnf); repeat ((first | with_reducible refine CondG.tt ?_ | with_reducible refine CondG.ff ?_); conv => whnf)
    rw [List.append_nil]
    refine ⟨_, Ent.drop _, c', hc', ?_, rfl⟩
    rw [e]
    rfl
  (conv => whnf); repeat ((first | with_reducible refine CondG.tt ?_ | with_reducible refine CondG.ff ?_); conv => whnf)
  have hne : lv find c ntK ≠ [] := fun e => h1 (by rw [e]; rfl)
  have hrd : RdS ((own 1 x (lv find c ntK).length (bvs (lv find c ntK)) :: c'.pieces 139 s src) ++ []) x (lv find c ntK).length (bvs (lv find c ntK)) := .left (own_rd hx (by simp [bvs])) _
  refine CallG.pure (number_spec_t _ x (lv find c ntK) (by omega) (hrd.left F)) ?_
  rintro _ _ ⟨rfl, rfl⟩
  (conv => whnf); repeat ((first | with_reducible refine CondG.tt ?_ | with_reducible refine CondG.ff ?_); conv => whnf)
  refine LenG.sl hx ?_
  (conv => whnf); repeat ((first | with_reducible refine CondG.tt ?_ | with_reducible refine CondG.ff ?_); conv => whnf)
  have fin : ∀ (p : Prop) [Decidable p], True := fun _ _ => trivial
  refine CondG.ndec (fun h2 => ?_) (fun h2 => ?_)
  · (conv => whnf); repeat ((first | with_reducible refine CondG.tt ?_ | with_reducible refine CondG.ff ?_); conv => whnf)
    rw [List.append_nil]
    refine ⟨_, Ent.drop _, c', hc', ?_, rfl⟩
    unfold madeR
    rw [if_neg hne, if_pos (.inl (by omega))]
    rfl
  (conv => whnf); repeat ((first | with_reducible refine CondG.tt ?_ | with_reducible refine CondG.ff ?_); conv => whnf)
  refine CondG.dec (fun h3 => ?_) (fun h3 => ?_)
  · (conv => whnf); repeat ((first | with_reducible refine CondG.tt ?_ | with_reducible refine CondG.ff ?_); conv => whnf)
    rw [List.append_nil]
    refine ⟨_, Ent.drop _, c', hc', ?_, rfl⟩
    unfold madeR
    rw [if_neg hne, if_pos (.inr (.inl h3))]
    rfl
  (conv => whnf); repeat ((first | with_reducible refine CondG.tt ?_ | with_reducible refine CondG.ff ?_); conv => whnf)
  refine CondG.dec (fun h4 => ?_) (fun h4 => ?_)
  · (conv => whnf); repeat ((first | with_reducible refine CondG.tt ?_ | with_reducible refine CondG.ff ?_); conv => whnf)
    rw [List.append_nil]
    refine ⟨_, Ent.drop _, c', hc', ?_, rfl⟩
    unfold madeR
    rw [if_neg hne, if_pos (.inr (.inr h4))]
    rfl
  (conv => whnf); repeat ((first | with_reducible refine CondG.tt ?_ | with_reducible refine CondG.ff ?_); conv => whnf)
  rw [List.append_nil]
  refine ⟨_, Ent.drop _, c', hc', ?_, rfl⟩
  unfold madeR
  rw [if_neg hne, if_neg (by omega)]
  rfl
theorem tfind_ok (F : List HP) (s : Nat) (src : Value) (c : StC) (n : Int) (hs : SrcG Tryd.prog F src find) (ho : SrcOk find) (hw : c.wf) :
    SpecF Tryd.prog 43 [.pointer (some ⟨s, 0, none⟩), .int .i64 n] F (c.pieces 139 s src) (fun r L =>
      ((n < 1 ∨ 1099511627776 < n) ∧ r = .tuple #[.agg ⟨zeroT'.cells⟩, .int .i64 90] ∧ L = c.pieces 139 s src) ∨
      ((1 ≤ n ∧ n ≤ 1099511627776) ∧ ∃ c', Same find c c' ∧ r = .tuple #[.agg ⟨(findR n (lv find c (tkey n.toNat))).1.cells⟩, .int .i64 (findR n (lv find c (tkey n.toNat))).2] ∧ L = c'.pieces 139 s src)) := by
  refine fun43.spec rfl ?_
  (conv => whnf); repeat ((first | with_reducible refine CondG.tt ?_ | with_reducible refine CondG.ff ?_); conv => whnf)
  intro b4
  (conv => whnf); repeat ((first | with_reducible refine CondG.tt ?_ | with_reducible refine CondG.ff ?_); conv => whnf)
  refine CondG.dec (fun h1 => ?_) (fun h1 => ?_)
  · (conv => whnf); repeat ((first | with_reducible refine CondG.tt ?_ | with_reducible refine CondG.ff ?_); conv => whnf)
    refine BuildG.of rfl ?_
    (conv => whnf); repeat ((first | with_reducible refine CondG.tt ?_ | with_reducible refine CondG.ff ?_); conv => whnf)
    refine StoreG.at rfl (Upd.whole rfl (TicketD.cells_one zeroT')) ?_
    (conv => whnf); repeat ((first | with_reducible refine CondG.tt ?_ | with_reducible refine CondG.ff ?_); conv => whnf)
    refine LoadNG.at (vs := zeroT'.cells) rfl .all ?_
    (conv => whnf); repeat ((first | with_reducible refine CondG.tt ?_ | with_reducible refine CondG.ff ?_); conv => whnf)
    exact ⟨_, Ent.drop _, .inl ⟨.inl h1, rfl, rfl⟩⟩
  (conv => whnf); repeat ((first | with_reducible refine CondG.tt ?_ | with_reducible refine CondG.ff ?_); conv => whnf)
  refine CondG.dec (fun h2 => ?_) (fun h2 => ?_)
  · (conv => whnf); repeat ((first | with_reducible refine CondG.tt ?_ | with_reducible refine CondG.ff ?_); conv => whnf)
    refine BuildG.of rfl ?_
    (conv => whnf); repeat ((first | with_reducible refine CondG.tt ?_ | with_reducible refine CondG.ff ?_); conv => whnf)
    refine StoreG.at rfl (Upd.whole rfl (TicketD.cells_one zeroT')) ?_
    (conv => whnf); repeat ((first | with_reducible refine CondG.tt ?_ | with_reducible refine CondG.ff ?_); conv => whnf)
    refine LoadNG.at (vs := zeroT'.cells) rfl .all ?_
    (conv => whnf); repeat ((first | with_reducible refine CondG.tt ?_ | with_reducible refine CondG.ff ?_); conv => whnf)
    exact ⟨_, Ent.drop _, .inl ⟨.inr h2, rfl, rfl⟩⟩
  obtain ⟨m, rfl⟩ : ∃ m : Nat, n = m := ⟨n.toNat, (Int.toNat_of_nonneg (by omega)).symm⟩
  (conv => whnf); repeat ((first | with_reducible refine CondG.tt ?_ | with_reducible refine CondG.ff ?_); conv => whnf)
  refine CallG.pure (key_spec _ m (by omega)) ?_
  rintro _ _ ⟨rfl, rfl⟩
  (conv => whnf); repeat ((first | with_reducible refine CondG.tt ?_ | with_reducible refine CondG.ff ?_); conv => whnf)
  refine CallG.of (rest := [cel b4 96 zeroT'.cells]) (get_ok _ s src c (tkey m) (hs.left _) ho hw (mayI_ok (by rw [tkey_size]; decide) (by rw [tkey_size]; decide) (by decide))) (Ent.perm (List.perm_append_comm (l₁ := [cel b4 96 zeroT'.cells]))) ?_
  rintro _ _ ⟨c', x, hc', hx, hlen, rfl, rfl⟩
  have ee : (m : Int).toNat = m := Int.toNat_natCast m
  simp only [ee]
  (conv => whnf); repeat ((first | with_reducible refine CondG.tt ?_ | with_reducible refine CondG.ff ?_); conv => whnf)
  refine CondG.ff ?_
  (conv => whnf); repeat ((first | with_reducible refine CondG.tt ?_ | with_reducible refine CondG.ff ?_); conv => whnf)
  refine LenG.sl hx ?_
  (conv => whnf); repeat ((first | with_reducible refine CondG.tt ?_ | with_reducible refine CondG.ff ?_); conv => whnf)
  have hm1 : 1 ≤ (m : Int) ∧ (m : Int) ≤ 1099511627776 := by omega
  refine CondG.dec (fun h3 => ?_) (fun h3 => ?_)
  · have e : lv find c (tkey m) = [] := List.eq_nil_of_length_eq_zero (by omega)
    (conv => whnf); repeat ((first | with_reducible refine CondG.tt ?_ | with_reducible refine CondG.ff ?_); conv => whnf)
    refine BuildG.of rfl ?_
    (conv => whnf); repeat ((first | with_reducible refine CondG.tt ?_ | with_reducible refine CondG.ff ?_); conv => whnf)
    refine StoreG.ent Ent.last ?_
    refine StoreG.at rfl (Upd.whole rfl (TicketD.cells_one zeroT')) ?_
    (conv => whnf); repeat ((first | with_reducible refine CondG.tt ?_ | with_reducible refine CondG.ff ?_); conv => whnf)
    refine LoadNG.at (vs := zeroT'.cells) rfl .all ?_
    (conv => whnf); repeat ((first | with_reducible refine CondG.tt ?_ | with_reducible refine CondG.ff ?_); conv => whnf)
    refine ⟨_, (Ent.drop _).trans (Ent.drop _), .inr ⟨hm1, c', hc', ?_, rfl⟩⟩
    rw [e]
    rfl
  have hne : lv find c (tkey m) ≠ [] := fun e => h3 (by rw [e]; rfl)
  (conv => whnf); repeat ((first | with_reducible refine CondG.tt ?_ | with_reducible refine CondG.ff ?_); conv => whnf)
  refine CallG.pure (ticketOf_spec _ m x (lv find c (tkey m)) (by omega) (.left (.left (own_rd hx (by simp [bvs])) _) F)) ?_
  rintro _ _ ⟨rfl, (⟨h81, rfl⟩ | ⟨h81, rfl⟩)⟩
  · have e : findR m (lv find c (tkey m)) = (zeroT', 75) := by unfold findR; rw [if_neg hne, if_neg (fun h => h81 h.1)]
    (conv => whnf); repeat ((first | with_reducible refine CondG.tt ?_ | with_reducible refine CondG.ff ?_); conv => whnf)
    intro b8
    (conv => whnf); repeat ((first | with_reducible refine CondG.tt ?_ | with_reducible refine CondG.ff ?_); conv => whnf)
    refine StoreG.at rfl (Upd.whole rfl (TicketD.cells_one zeroT')) ?_
    (conv => whnf); repeat ((first | with_reducible refine CondG.tt ?_ | with_reducible refine CondG.ff ?_); conv => whnf)
    refine CondG.tt ?_
    (conv => whnf); repeat ((first | with_reducible refine CondG.tt ?_ | with_reducible refine CondG.ff ?_); conv => whnf)
    refine BuildG.of rfl ?_
    (conv => whnf); repeat ((first | with_reducible refine CondG.tt ?_ | with_reducible refine CondG.ff ?_); conv => whnf)
    refine StoreG.ent (Ent.perm (List.perm_append_comm (l₁ := cel b8 96 zeroT'.cells :: own 1 x (lv find c (tkey m)).length (bvs (lv find c (tkey m))) :: c'.pieces 139 s src) (l₂ := [cel b4 96 zeroT'.cells]))) ?_
    refine StoreG.at rfl (Upd.whole rfl (TicketD.cells_one zeroT')) ?_
    (conv => whnf); repeat ((first | with_reducible refine CondG.tt ?_ | with_reducible refine CondG.ff ?_); conv => whnf)
    refine LoadNG.at (vs := zeroT'.cells) rfl .all ?_
    (conv => whnf); repeat ((first | with_reducible refine CondG.tt ?_ | with_reducible refine CondG.ff ?_); conv => whnf)
    refine ⟨_, (Ent.drop _).trans ((Ent.drop _).trans (Ent.drop _)), .inr ⟨hm1, c', hc', ?_, rfl⟩⟩
    rw [e]
    rfl
  have wt := tkOf_wf (n := m) h81
  (conv => whnf); repeat ((first | with_reducible refine CondG.tt ?_ | with_reducible refine CondG.ff ?_); conv => whnf)
  intro b8
  (conv => whnf); repeat ((first | with_reducible refine CondG.tt ?_ | with_reducible refine CondG.ff ?_); conv => whnf)
  refine StoreG.at (TicketD.cells_len wt) (Upd.whole (by rw [TicketD.cells_len wt]; rfl) (TicketD.cells_one _)) ?_
  (conv => whnf); repeat ((first | with_reducible refine CondG.tt ?_ | with_reducible refine CondG.ff ?_); conv => whnf)
  refine CondG.ndec (fun h4 => ?_) (fun h4 => ?_)
  · have e : findR m (lv find c (tkey m)) = (zeroT', 75) := by unfold findR; rw [if_neg hne, if_neg (fun h => h4 h.2)]
    (conv => whnf); repeat ((first | with_reducible refine CondG.tt ?_ | with_reducible refine CondG.ff ?_); conv => whnf)
    refine BuildG.of rfl ?_
    (conv => whnf); repeat ((first | with_reducible refine CondG.tt ?_ | with_reducible refine CondG.ff ?_); conv => whnf)
    refine StoreG.ent (Ent.perm (List.perm_append_comm (l₁ := cel b8 96 (tkOf m (lv find c (tkey m))).cells :: own 1 x (lv find c (tkey m)).length (bvs (lv find c (tkey m))) :: c'.pieces 139 s src) (l₂ := [cel b4 96 zeroT'.cells]))) ?_
    refine StoreG.at rfl (Upd.whole rfl (TicketD.cells_one zeroT')) ?_
    (conv => whnf); repeat ((first | with_reducible refine CondG.tt ?_ | with_reducible refine CondG.ff ?_); conv => whnf)
    refine LoadNG.at (vs := zeroT'.cells) rfl .all ?_
    (conv => whnf); repeat ((first | with_reducible refine CondG.tt ?_ | with_reducible refine CondG.ff ?_); conv => whnf)
    refine ⟨_, (Ent.drop _).trans ((Ent.drop _).trans (Ent.drop _)), .inr ⟨hm1, c', hc', ?_, rfl⟩⟩
    rw [e]
    rfl
  have e : findR m (lv find c (tkey m)) = (tkOf m (lv find c (tkey m)), 0) := by unfold findR; rw [if_neg hne, if_pos ⟨h81, h4⟩]
  (conv => whnf); repeat ((first | with_reducible refine CondG.tt ?_ | with_reducible refine CondG.ff ?_); conv => whnf)
  refine LoadNG.at (vs := (tkOf m (lv find c (tkey m))).cells) (TicketD.cells_len wt) .all ?_
  (conv => whnf); repeat ((first | with_reducible refine CondG.tt ?_ | with_reducible refine CondG.ff ?_); conv => whnf)
  refine StoreG.ent (Ent.perm (List.perm_append_comm (l₁ := cel b8 96 (tkOf m (lv find c (tkey m))).cells :: own 1 x (lv find c (tkey m)).length (bvs (lv find c (tkey m))) :: c'.pieces 139 s src) (l₂ := [cel b4 96 zeroT'.cells]))) ?_
  refine StoreG.at (TicketD.cells_len wt) (Upd.whole (by rw [TicketD.cells_len wt]; rfl) (TicketD.cells_one _)) ?_
  (conv => whnf); repeat ((first | with_reducible refine CondG.tt ?_ | with_reducible refine CondG.ff ?_); conv => whnf)
  refine LoadNG.at (vs := (tkOf m (lv find c (tkey m))).cells) (TicketD.cells_len wt) .all ?_
  (conv => whnf); repeat ((first | with_reducible refine CondG.tt ?_ | with_reducible refine CondG.ff ?_); conv => whnf)
  refine ⟨_, (Ent.drop _).trans ((Ent.drop _).trans (Ent.drop _)), .inr ⟨hm1, c', hc', ?_, rfl⟩⟩
  rw [e]
  rfl
theorem open_ok (F : List HP) (s : Nat) (src : Value) (c : StC) (t : TicketD) (hs : SrcG Tryd.prog F src find) (ho : SrcOk find) (hw : c.wf) (ht : t.wf) (hst : c.steps.length ≤ 549755813888) :
    SpecF Tryd.prog 42 [.pointer (some ⟨s, 0, none⟩), .agg ⟨t.cells⟩] F (c.pieces 139 s src) (fun r L =>
      ((t.num ≠ 0 ∨ ¬ t.may) ∧ r = .tuple #[.int .i64 0, .int .i64 93] ∧ L = c.pieces 139 s src) ∨
      (t.num = 0 ∧ t.may ∧ (madeR (lv find c ntK)).2 ≠ 0 ∧ ∃ c', Same find c c' ∧ r = .tuple #[.int .i64 0, .int .i64 (madeR (lv find c ntK)).2] ∧ L = c'.pieces 139 s src) ∨
      (t.num = 0 ∧ t.may ∧ (madeR (lv find c ntK)).2 = 0 ∧ 1099511627776 ≤ (madeR (lv find c ntK)).1 ∧ ∃ c', Same find c c' ∧ r = .tuple #[.int .i64 0, .int .i64 92] ∧ L = c'.pieces 139 s src) ∨
      (t.num = 0 ∧ t.may ∧ (madeR (lv find c ntK)).2 = 0 ∧ 0 ≤ (madeR (lv find c ntK)).1 ∧ (madeR (lv find c ntK)).1 < 1099511627776 ∧ ∃ c1 c2 c3, Same find c c1 ∧ Laid find c1 (tkey ((madeR (lv find c ntK)).1 + 1).toNat) t.value c2 ∧ Laid find c2 ntK (be ((madeR (lv find c ntK)).1 + 1).toNat 8) c3 ∧
        r = .tuple #[.int .i64 ((madeR (lv find c ntK)).1 + 1), .int .i64 0] ∧ L = c3.pieces 139 s src)) := by
  refine fun42.spec rfl ?_
  (conv => whnf); repeat ((first | with_reducible refine CondG.tt ?_ | with_reducible refine CondG.ff ?_); conv => whnf)
  intro b3
  (conv => whnf); repeat ((first | with_reducible refine CondG.tt ?_ | with_reducible refine CondG.ff ?_); conv => whnf)
  refine LoadG.at (v := .int .i64 t.num) (.here rfl) ?_
  (conv => whnf); repeat ((first | with_reducible refine CondG.tt ?_ | with_reducible refine CondG.ff ?_); conv => whnf)
  refine CondG.ndec (fun h1 => ?_) (fun h1 => ?_)
  · (conv => whnf); repeat ((first | with_reducible refine CondG.tt ?_ | with_reducible refine CondG.ff ?_); conv => whnf)
    exact ⟨_, Ent.drop _, .inl ⟨.inl h1, rfl, rfl⟩⟩
  (conv => whnf); repeat ((first | with_reducible refine CondG.tt ?_ | with_reducible refine CondG.ff ?_); conv => whnf)
  refine LoadNG.at (vs := t.cells) (TicketD.cells_len ht) .all ?_
  (conv => whnf); repeat ((first | with_reducible refine CondG.tt ?_ | with_reducible refine CondG.ff ?_); conv => whnf)
  refine CallG.pure (tmay_spec _ t ht) ?_
  rintro _ _ ⟨rfl, rfl⟩
  (conv => whnf); repeat ((first | with_reducible refine CondG.tt ?_ | with_reducible refine CondG.ff ?_); conv => whnf)
  refine CondG.ndec (fun h2 => ?_) (fun h2 => ?_)
  · (conv => whnf); repeat ((first | with_reducible refine CondG.tt ?_ | with_reducible refine CondG.ff ?_); conv => whnf)
    exact ⟨_, Ent.drop _, .inl ⟨.inr h2, rfl, rfl⟩⟩
  (conv => whnf); repeat ((first | with_reducible refine CondG.tt ?_ | with_reducible refine CondG.ff ?_); conv => whnf)
  refine CallG.of (rest := [cel b3 96 t.cells]) (made_ok _ s src c (hs.left _) ho hw) (Ent.perm (List.perm_append_comm (l₁ := [cel b3 96 t.cells]))) ?_
  rintro _ _ ⟨c1, hc1, rfl, rfl⟩
  (conv => whnf); repeat ((first | with_reducible refine CondG.tt ?_ | with_reducible refine CondG.ff ?_); conv => whnf)
  refine CondG.ndec (fun h3 => ?_) (fun h3 => ?_)
  · (conv => whnf); repeat ((first | with_reducible refine CondG.tt ?_ | with_reducible refine CondG.ff ?_); conv => whnf)
    exact ⟨_, Ent.dropL _ [cel b3 96 t.cells], .inr (.inl ⟨h1, h2, h3, c1, hc1, rfl, rfl⟩)⟩
  (conv => whnf); repeat ((first | with_reducible refine CondG.tt ?_ | with_reducible refine CondG.ff ?_); conv => whnf)
  refine CondG.dec (fun h4 => ?_) (fun h4 => ?_)
  · (conv => whnf); repeat ((first | with_reducible refine CondG.tt ?_ | with_reducible refine CondG.ff ?_); conv => whnf)
    exact ⟨_, Ent.dropL _ [cel b3 96 t.cells], .inr (.inr (.inl ⟨h1, h2, h3, h4, c1, hc1, rfl, rfl⟩))⟩
  have h0 : 0 ≤ (madeR (lv find c ntK)).1 := by
    unfold madeR at h3 h4 ⊢
    split
    · exact Int.le_refl 0
    · split
      · exact Int.le_refl 0
      · rename_i h5
        show (0 : Int) ≤ numF _
        omega
  generalize hn : (madeR (lv find c ntK)).1 = n at *
  obtain ⟨m, rfl⟩ : ∃ m : Nat, n = m := ⟨n.toNat, (Int.toNat_of_nonneg h0).symm⟩
  have em : ((m : Int) + 1).toNat = m + 1 := by omega
  have em2 : ((m : Int) + 1) = ((m + 1 : Nat) : Int) := rfl
  simp only [em]
  (conv => whnf); repeat ((first | with_reducible refine CondG.tt ?_ | with_reducible refine CondG.ff ?_); conv => whnf)
  refine ArithG.i64 (by omega) ?_
  rw [em2]
  (conv => whnf); repeat ((first | with_reducible refine CondG.tt ?_ | with_reducible refine CondG.ff ?_); conv => whnf)
  refine DrawG.mk 7 [cel b3 96 t.cells] (c1.pieces 139 s src) (Ent.refl _) ?_
  (conv => whnf); repeat ((first | with_reducible refine CondG.tt ?_ | with_reducible refine CondG.ff ?_); conv => whnf)
  refine .take 0 ?_
  (conv => whnf); repeat ((first | with_reducible refine CondG.tt ?_ | with_reducible refine CondG.ff ?_); conv => whnf)
  refine ⟨rfl, ?_⟩
  (conv => whnf); repeat ((first | with_reducible refine CondG.tt ?_ | with_reducible refine CondG.ff ?_); conv => whnf)
  refine .take 1 ?_
  (conv => whnf); repeat ((first | with_reducible refine CondG.tt ?_ | with_reducible refine CondG.ff ?_); conv => whnf)
  refine ⟨rfl, ?_⟩
  (conv => whnf); repeat ((first | with_reducible refine CondG.tt ?_ | with_reducible refine CondG.ff ?_); conv => whnf)
  refine .take 3 ?_
  (conv => whnf); repeat ((first | with_reducible refine CondG.tt ?_ | with_reducible refine CondG.ff ?_); conv => whnf)
  refine ⟨rfl, ?_⟩
  (conv => whnf); repeat ((first | with_reducible refine CondG.tt ?_ | with_reducible refine CondG.ff ?_); conv => whnf)
  refine LoadNG.at (vs := t.cells) (TicketD.cells_len ht) .all ?_
  (conv => whnf); repeat ((first | with_reducible refine CondG.tt ?_ | with_reducible refine CondG.ff ?_); conv => whnf)
  refine .all ?_
  (conv => whnf); repeat ((first | with_reducible refine CondG.tt ?_ | with_reducible refine CondG.ff ?_); conv => whnf)
  refine ⟨by decide, ?_⟩
  (conv => whnf); repeat ((first | with_reducible refine CondG.tt ?_ | with_reducible refine CondG.ff ?_); conv => whnf)
  refine CallG.pure (key_spec _ (m + 1) (by omega)) ?_
  rintro _ _ ⟨rfl, rfl⟩
  (conv => whnf); repeat ((first | with_reducible refine CondG.tt ?_ | with_reducible refine CondG.ff ?_); conv => whnf)
  refine .all ?_
  (conv => whnf); repeat ((first | with_reducible refine CondG.tt ?_ | with_reducible refine CondG.ff ?_); conv => whnf)
  refine ⟨by decide, ?_⟩
  (conv => whnf); repeat ((first | with_reducible refine CondG.tt ?_ | with_reducible refine CondG.ff ?_); conv => whnf)
  have hen := h2.1
  have htk := h2.2.1
  refine CallG.pure (tvalue_spec _ t ht (by omega) (by omega)) ?_
  rintro r1 _ ⟨hr1, rfl⟩
  (conv => whnf); repeat ((first | with_reducible refine CondG.tt ?_ | with_reducible refine CondG.ff ?_); conv => whnf)
  refine .all ?_
  (conv => whnf); repeat ((first | with_reducible refine CondG.tt ?_ | with_reducible refine CondG.ff ?_); conv => whnf)
  refine ⟨by decide, ?_⟩
  (conv => whnf); repeat ((first | with_reducible refine CondG.tt ?_ | with_reducible refine CondG.ff ?_); conv => whnf)
  have hvl := TicketD.value_len ht
  refine CallG.of (pre := c1.pieces 139 s src) (rest := [own 1 r1 t.value.length (bvs t.value)]) (put_ok _ s src c1 (tkey (m + 1)) r1 t.value (SrcG.left (SrcG.left hs _) _) ho hc1.wf (mayI_ok (by rw [tkey_size]; decide) (by rw [tkey_size]; decide) (by omega)) hr1 (.left (own_rd hr1 (by simp [bvs])) _) (by rw [hc1.steps]; omega)) (Ent.perm (List.perm_append_comm (l₁ := [own 1 r1 t.value.length (bvs t.value)]))) ?_
  rintro _ _ ⟨c2, hc2, rfl, rfl⟩
  (conv => whnf); repeat ((first | with_reducible refine CondG.tt ?_ | with_reducible refine CondG.ff ?_); conv => whnf)
  refine .take 6 ?_
  (conv => whnf); repeat ((first | with_reducible refine CondG.tt ?_ | with_reducible refine CondG.ff ?_); conv => whnf)
  refine ⟨rfl, ?_⟩
  (conv => whnf); repeat ((first | with_reducible refine CondG.tt ?_ | with_reducible refine CondG.ff ?_); conv => whnf)
  refine ⟨rfl, ?_⟩
  (conv => whnf); repeat ((first | with_reducible refine CondG.tt ?_ | with_reducible refine CondG.ff ?_); conv => whnf)
  refine CondG.ff ?_
  (conv => whnf); repeat ((first | with_reducible refine CondG.tt ?_ | with_reducible refine CondG.ff ?_); conv => whnf)
  refine CallG.pure (eight_spec _ (m + 1) (by omega)) ?_
  rintro r2 _ ⟨hr2, _, rfl⟩
  (conv => whnf); repeat ((first | with_reducible refine CondG.tt ?_ | with_reducible refine CondG.ff ?_); conv => whnf)
  refine CallG.of (pre := c2.pieces 139 s src) (rest := [own 1 r2 8 (bvs (be (m + 1) 8)), own 1 r1 t.value.length (bvs t.value), cel b3 96 t.cells]) (put_ok _ s src c2 ntK r2 (be (m + 1) 8) (hs.left _) ho hc2.wf (mayI_ok (by decide) (by decide) (by rw [be_len]; decide)) (by rw [be_len]; exact hr2) (by rw [be_len]; exact .left (own_rd hr2 (by simp [bvs, be_len])) _) (by rw [hc2.steps, hc1.steps]; omega)) ?_ ?_
  · refine Ent.perm ?_
    simp only [List.append_assoc, List.cons_append, List.nil_append]
    refine (List.Perm.trans ?_ (List.perm_middle (a := own 1 r2 8 (bvs (be (m + 1) 8)))).symm)
    exact List.Perm.refl _
  rintro _ _ ⟨c3, hc3, rfl, rfl⟩
  (conv => whnf); repeat ((first | with_reducible refine CondG.tt ?_ | with_reducible refine CondG.ff ?_); conv => whnf)
  exact ⟨_, Ent.dropL _ _, .inr (.inr (.inr ⟨h1, h2, h3, h0, by omega, c1, c2, c3, hc1, hc2, hc3, rfl, rfl⟩))⟩
theorem tfind_all (F : List HP) (s : Nat) (src : Value) (c : StC) (n : Int) (hs : SrcG Tryd.prog F src find) (ho : SrcOk find) (hw : c.wf) :
    SpecF Tryd.prog 43 [.pointer (some ⟨s, 0, none⟩), .int .i64 n] F (c.pieces 139 s src) (fun r L => ∃ c', Same find c c' ∧ r = .tuple #[.agg ⟨(findA find c n).1.cells⟩, .int .i64 (findA find c n).2] ∧ L = c'.pieces 139 s src) := by
  intro w hw'
  refine (tfind_ok F s src c n hs ho hw w hw').mono ?_
  rintro e w' ⟨v, L, rfl, hR, hx, hs'⟩
  refine ⟨v, L, rfl, ?_, hx, hs'⟩
  rcases hR with ⟨h1, rfl, rfl⟩ | ⟨h1, c', hc', rfl, rfl⟩
  · have e : findA find c n = (zeroT', 90) := by unfold findA; rw [if_pos h1]
    rw [e]
    exact ⟨c, Same.refl hw, rfl, rfl⟩
  · have e : findA find c n = findR n (lv find c (tkey n.toNat)) := by unfold findA; rw [if_neg (by omega)]
    rw [e]
    exact ⟨c', hc', rfl, rfl⟩
theorem cancel_ok (F : List HP) (s : Nat) (src : Value) (c : StC) (n : Int) (a : List Nat) (ha : a.length = 20) (hs : SrcG Tryd.prog F src find) (ho : SrcOk find) (hw : c.wf) (hst : c.steps.length ≤ 549755813888) :
    SpecF Tryd.prog 46 [.pointer (some ⟨s, 0, none⟩), .int .i64 n, .agg ⟨bvs a⟩] F (c.pieces 139 s src) (fun r L =>
      ((findA find c n).2 ≠ 0 ∧ ∃ c', Same find c c' ∧ r = .tuple #[.agg ⟨zeroT'.cells⟩, .int .i64 (findA find c n).2] ∧ L = c'.pieces 139 s src) ∨
      ((findA find c n).2 = 0 ∧ (findA find c n).1.snd ≠ a ∧ ∃ c', Same find c c' ∧ r = .tuple #[.agg ⟨zeroT'.cells⟩, .int .i64 91] ∧ L = c'.pieces 139 s src) ∨
      ((findA find c n).2 = 0 ∧ (findA find c n).1.snd = a ∧ 1 ≤ n ∧ ∃ c1 c2, Same find c c1 ∧ Laid find c1 (tkey n.toNat) [] c2 ∧ r = .tuple #[.agg ⟨(findA find c n).1.cells⟩, .int .i64 0] ∧ L = c2.pieces 139 s src)) := by
  have wt := findA_wf find c n
  refine fun46.spec rfl ?_
  (conv => whnf); repeat ((first | with_reducible refine CondG.tt ?_ | with_reducible refine CondG.ff ?_); conv => whnf)
  intro b5
  (conv => whnf); repeat ((first | with_reducible refine CondG.tt ?_ | with_reducible refine CondG.ff ?_); conv => whnf)
  intro b6
  (conv => whnf); repeat ((first | with_reducible refine CondG.tt ?_ | with_reducible refine CondG.ff ?_); conv => whnf)
  refine CallG.of (rest := [cel b6 96 zeroT'.cells, cel b5 27 (bvs a)]) (tfind_all _ s src c n (hs.left _) ho hw) (Ent.perm (List.perm_append_comm (l₁ := [cel b6 96 zeroT'.cells, cel b5 27 (bvs a)]))) ?_
  rintro _ _ ⟨c1, hc1, rfl, rfl⟩
  (conv => whnf); repeat ((first | with_reducible refine CondG.tt ?_ | with_reducible refine CondG.ff ?_); conv => whnf)
  intro b8
  (conv => whnf); repeat ((first | with_reducible refine CondG.tt ?_ | with_reducible refine CondG.ff ?_); conv => whnf)
  refine StoreG.at (TicketD.cells_len wt) (Upd.whole (by rw [TicketD.cells_len wt]; rfl) (TicketD.cells_one _)) ?_
  (conv => whnf); repeat ((first | with_reducible refine CondG.tt ?_ | with_reducible refine CondG.ff ?_); conv => whnf)
  have front : ∀ x : List Value, Ent (cel b8 96 x :: (c1.pieces 139 s src ++ [cel b6 96 zeroT'.cells, cel b5 27 (bvs a)])) (cel b6 96 zeroT'.cells :: cel b5 27 (bvs a) :: cel b8 96 x :: c1.pieces 139 s src) := fun x =>
    Ent.perm (List.perm_append_comm (l₁ := cel b8 96 x :: c1.pieces 139 s src) (l₂ := [cel b6 96 zeroT'.cells, cel b5 27 (bvs a)]))
  refine CondG.ndec (fun h1 => ?_) (fun h1 => ?_)
  · (conv => whnf); repeat ((first | with_reducible refine CondG.tt ?_ | with_reducible refine CondG.ff ?_); conv => whnf)
    refine BuildG.of rfl ?_
    (conv => whnf); repeat ((first | with_reducible refine CondG.tt ?_ | with_reducible refine CondG.ff ?_); conv => whnf)
    refine StoreG.ent (front _) ?_
    refine StoreG.at rfl (Upd.whole rfl (TicketD.cells_one zeroT')) ?_
    (conv => whnf); repeat ((first | with_reducible refine CondG.tt ?_ | with_reducible refine CondG.ff ?_); conv => whnf)
    refine LoadNG.at (vs := zeroT'.cells) rfl .all ?_
    (conv => whnf); repeat ((first | with_reducible refine CondG.tt ?_ | with_reducible refine CondG.ff ?_); conv => whnf)
    exact ⟨_, (Ent.drop _).trans ((Ent.drop _).trans (Ent.drop _)), .inl ⟨h1, c1, hc1, rfl, rfl⟩⟩
  (conv => whnf); repeat ((first | with_reducible refine CondG.tt ?_ | with_reducible refine CondG.ff ?_); conv => whnf)
  have hl2 : (findA find c n).1.snd.length = 20 := wt.snd
  refine LoadNG.at (vs := bvs (findA find c n).1.snd) (by rw [bvs_len, hl2]) (CelN.here (TicketD.snd_at _)) ?_
  (conv => whnf); repeat ((first | with_reducible refine CondG.tt ?_ | with_reducible refine CondG.ff ?_); conv => whnf)
  refine LoadNG.ent (front _) ?_
  refine LoadNG.at (vs := bvs a) (by rw [bvs_len, ha]) (.tl .all) ?_
  (conv => whnf); repeat ((first | with_reducible refine CondG.tt ?_ | with_reducible refine CondG.ff ?_); conv => whnf)
  refine DoesG.eqv 8 (List.replicate 20 (.int .u8)) (by kernel_rfl) (by decide) (by kernel_rfl) (by kernel_rfl) (wt_bvs hl2) (wt_bvs ha) ?_
  (conv => whnf); repeat ((first | with_reducible refine CondG.tt ?_ | with_reducible refine CondG.ff ?_); conv => whnf)
  refine CondG.split (fun h2 => ?_) (fun h2 => ?_)
  · have h2' : (findA find c n).1.snd ≠ a := fun e => by rw [e] at h2; simp at h2
    (conv => whnf); repeat ((first | with_reducible refine CondG.tt ?_ | with_reducible refine CondG.ff ?_); conv => whnf)
    refine BuildG.of rfl ?_
    (conv => whnf); repeat ((first | with_reducible refine CondG.tt ?_ | with_reducible refine CondG.ff ?_); conv => whnf)
    refine StoreG.ent (front _) ?_
    refine StoreG.at rfl (Upd.whole rfl (TicketD.cells_one zeroT')) ?_
    (conv => whnf); repeat ((first | with_reducible refine CondG.tt ?_ | with_reducible refine CondG.ff ?_); conv => whnf)
    refine LoadNG.at (vs := zeroT'.cells) rfl .all ?_
    (conv => whnf); repeat ((first | with_reducible refine CondG.tt ?_ | with_reducible refine CondG.ff ?_); conv => whnf)
    exact ⟨_, (Ent.drop _).trans ((Ent.drop _).trans (Ent.drop _)), .inr (.inl ⟨h1, h2', c1, hc1, rfl, rfl⟩)⟩
  have h2' : (findA find c n).1.snd = a := bvs_inj.1 (by simpa using h2)
  have hn1 : 1 ≤ n ∧ n ≤ 1099511627776 := by
    rcases Int.lt_or_le n 1 with h | h
    · unfold findA at h1; rw [if_pos (.inl h)] at h1; cases h1
    · rcases Int.lt_or_le 1099511627776 n with h' | h'
      · unfold findA at h1; rw [if_pos (.inr h')] at h1; cases h1
      · exact ⟨h, h'⟩
  obtain ⟨m, rfl⟩ : ∃ m : Nat, n = m := ⟨n.toNat, (Int.toNat_of_nonneg (by omega)).symm⟩
  have em : ((m : Int)).toNat = m := Int.toNat_natCast m
  (conv => whnf); repeat ((first | with_reducible refine CondG.tt ?_ | with_reducible refine CondG.ff ?_); conv => whnf)
  refine CallG.pure (key_spec _ m (by omega)) ?_
  rintro _ _ ⟨rfl, rfl⟩
  (conv => whnf); repeat ((first | with_reducible refine CondG.tt ?_ | with_reducible refine CondG.ff ?_); conv => whnf)
  refine CallG.of (pre := c1.pieces 139 s src) (rest := [cel b8 96 (findA find c m).1.cells, cel b6 96 zeroT'.cells, cel b5 27 (bvs a)]) (put_ok _ s src c1 (tkey m) (.slice none 0 0) [] (hs.left _) ho hc1.wf (mayI_ok (by rw [tkey_size]; decide) (by rw [tkey_size]; decide) (by simp)) (.inl ⟨rfl, rfl⟩) .nil (by rw [hc1.steps]; omega)) (Ent.perm ?_) ?_
  · exact (List.perm_middle (a := cel b8 96 (findA find c m).1.cells) (l₁ := c1.pieces 139 s src) (l₂ := [cel b6 96 zeroT'.cells, cel b5 27 (bvs a)])).symm
  rintro _ _ ⟨c2, hc2, rfl, rfl⟩
  (conv => whnf); repeat ((first | with_reducible refine CondG.tt ?_ | with_reducible refine CondG.ff ?_); conv => whnf)
  refine CondG.ff ?_
  (conv => whnf); repeat ((first | with_reducible refine CondG.tt ?_ | with_reducible refine CondG.ff ?_); conv => whnf)
  have front2 : Ent (c2.pieces 139 s src ++ [cel b8 96 (findA find c m).1.cells, cel b6 96 zeroT'.cells, cel b5 27 (bvs a)]) (cel b8 96 (findA find c m).1.cells :: cel b6 96 zeroT'.cells :: cel b5 27 (bvs a) :: c2.pieces 139 s src) :=
    Ent.perm (List.perm_append_comm (l₂ := [cel b8 96 (findA find c m).1.cells, cel b6 96 zeroT'.cells, cel b5 27 (bvs a)]))
  refine LoadNG.ent front2 ?_
  refine LoadNG.at (vs := (findA find c m).1.cells) (TicketD.cells_len wt) .all ?_
  (conv => whnf); repeat ((first | with_reducible refine CondG.tt ?_ | with_reducible refine CondG.ff ?_); conv => whnf)
  refine StoreG.ent front2 ?_
  refine StoreG.at (TicketD.cells_len wt) (Upd.tl (Upd.whole (by rw [TicketD.cells_len wt]; rfl) (TicketD.cells_one _))) ?_
  (conv => whnf); repeat ((first | with_reducible refine CondG.tt ?_ | with_reducible refine CondG.ff ?_); conv => whnf)
  refine LoadNG.at (vs := (findA find c m).1.cells) (TicketD.cells_len wt) (.tl .all) ?_
  (conv => whnf); repeat ((first | with_reducible refine CondG.tt ?_ | with_reducible refine CondG.ff ?_); conv => whnf)
  exact ⟨_, (Ent.drop _).trans ((Ent.drop _).trans (Ent.drop _)), .inr (.inr ⟨h1, h2', hn1.1, c1, c2, hc1, by rw [em]; exact hc2, rfl, rfl⟩)⟩
end
end Go.Proofs.YthdpknlnpeaiiaaDoor
