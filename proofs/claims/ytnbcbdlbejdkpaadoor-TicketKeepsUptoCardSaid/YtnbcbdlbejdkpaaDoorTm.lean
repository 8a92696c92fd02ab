import Derived.Test.YtnbcbdlbejdkpaaDoorGp
import Derived.Test.YtnbcbdlbejdkpaaDoorLz
import Derived.Test.YtnbcbdlbejdkpaaDoorZKp
import Derived.Test.YtnbcbdlbejdkpaaDoorZGn
import Derived.Test.YtnbcbdlbejdkpaaDoorZWh
import Derived.Test.YtnbcbdlbejdkpaaDoorZAp
namespace Go.Proofs.YtnbcbdlbejdkpaaDoor
open Go Go.Sl
theorem ticketOf_spec (F : List HP) (n : Int) (v : Value) (bs : List Nat) (hb : bs.length ≤ 1152921504606846976) (hv : RdS F v bs.length (bvs bs)) : SpecF Tryd.prog 104 [.int .i64 n, v] F [] (fun r L => L = [] ∧
      ((bs.length ≠ 81 ∧ r = .tuple #[.agg ⟨zeroT'.cells⟩, .bool false]) ∨ (bs.length = 81 ∧ r = .tuple #[.agg ⟨(tkOf n bs).cells⟩, .bool (decide (tkOf n bs).may)]))) := by
  obtain ⟨va, vc, hve⟩ := hv.len
  subst hve
  refine fun104.spec rfl ?_
  conv=>whnf
  intro b3
  conv=>whnf
  intro b4
  conv=>whnf
  refine LoadG.at (.tl (.here rfl)) ?_
  conv=>whnf
  refine LenG.lit ?_
  conv=>whnf
  refine CondG.ndec (fun h1 => ?_) (fun h1 => ?_)
  · conv=>whnf
    refine BuildG.of rfl ?_
    conv=>whnf
    refine StoreG.at rfl (Upd.whole rfl (TicketD.cells_one zeroT')) ?_
    conv=>whnf
    refine LoadNG.at (vs := zeroT'.cells) rfl .all ?_
    conv=>whnf
    exact ⟨[], Ent.nil _, rfl, .inl ⟨by omega, rfl⟩⟩
  have h81 : bs.length = 81 := by omega
  rw [h81] at hv
  conv=>whnf
  refine SideG.of (by kernel_rfl) ?_
  refine CallG.of (pre := [cel b3 91 [.slice va bs.length vc]]) (rest := [cel b4 82 zeroT'.cells]) (cut_spec _ F b3 8 81 _ bs (by decide) h81 (by rw [h81]; exact hv) (by decide)) (Ent.perm (List.Perm.swap _ _ _)) ?_
  rintro r1 _ ⟨hr1, v1, hv1, rfl⟩
  conv=>whnf
  refine CallG.pure (number_spec_t _ r1 (bs.take 8) (by simp; omega) (by rw [List.length_take, h81]; exact hr1.right _)) ?_
  rintro _ _ ⟨rfl, rfl⟩
  conv=>whnf
  refine BuildG.of (cs := (TicketD.mk n (numF (bs.take 8)) (List.replicate 20 0) 0 (List.replicate 20 0) (List.replicate 4 0)).cells) rfl ?_
  conv=>whnf
  intro b7
  conv=>whnf
  refine StoreG.at rfl (Upd.whole rfl (TicketD.cells_one _)) ?_
  conv=>whnf
  -- the sender
  refine SideG.of (by kernel_rfl) ?_
  refine CallG.of (pre := [cel b3 91 [v1]]) (rest := [cel b7 82 _, cel b4 82 zeroT'.cells]) (cut_spec _ F b3 20 73 _ (bs.drop 8) (by decide) (by simp [h81]) hv1 (by decide)) (Ent.perm (List.Perm.swap _ _ _)) ?_
  rintro r2 _ ⟨hr2, v2, hv2, rfl⟩
  conv=>whnf
  refine DoesG.arr (e := 5) (len := 20) (by kernel_rfl) (hr2.right _) (by decide) (by decide) fun c2 o2 hc2 => ?_
  conv=>whnf
  refine LoadNG.atG (vs := bvs ((bs.drop 8).take 20)) (by simp [bvs, h81]) hc2 ?_
  conv=>whnf
  have hl2 : ((bs.drop 8).take 20).length = 20 := by simp [h81]
  refine StoreG.at (by rw [bvs_len, hl2]) (Upd.tl (Upd.hereN (by rw [bvs_len, hl2, TicketD.cells_len ⟨rfl, rfl, rfl⟩]; decide) (bvs_one _) (TicketD.set_snd (t := TicketD.mk n (numF (bs.take 8)) (List.replicate 20 0) 0 (List.replicate 20 0) (List.replicate 4 0)) ⟨rfl, rfl, rfl⟩ hl2))) ?_
  conv=>whnf
  -- the token
  refine SideG.of (by kernel_rfl) ?_
  refine CallG.of (pre := [cel b3 91 [v2]]) (rest := [cel b7 82 _, cel b4 82 zeroT'.cells]) (cut_spec _ F b3 1 53 _ (List.drop 20 (bs.drop 8)) (by decide) (by simp [h81]) hv2 (by decide)) (Ent.refl _) ?_
  rintro r3 _ ⟨hr3, v3, hv3, rfl⟩
  conv=>whnf
  refine CallG.pure (number_spec_t _ r3 ((List.drop 20 (bs.drop 8)).take 1) (by simp; omega) (by rw [List.length_take, List.length_drop, List.length_drop, h81]; exact hr3.right _)) ?_
  rintro _ _ ⟨rfl, rfl⟩
  conv=>whnf
  have w1 : (TicketD.mk n (numF (bs.take 8)) ((bs.drop 8).take 20) 0 (List.replicate 20 0) (List.replicate 4 0)).wf := ⟨hl2, rfl, rfl⟩
  refine StoreG.at rfl (Upd.tl (Upd.here (by rw [TicketD.cells_len w1]; decide) rfl)) ?_
  rw [show 0 + 22 = 22 from rfl, TicketD.set_tok w1]
  conv=>whnf
  -- to whom
  refine SideG.of (by kernel_rfl) ?_
  refine CallG.of (pre := [cel b3 91 [v3]]) (rest := [cel b7 82 _, cel b4 82 zeroT'.cells]) (cut_spec _ F b3 20 52 _ (List.drop 1 (List.drop 20 (bs.drop 8))) (by decide) (by simp [h81]) hv3 (by decide)) (Ent.refl _) ?_
  rintro r4 _ ⟨hr4, v4, hv4, rfl⟩
  conv=>whnf
  refine DoesG.arr (e := 5) (len := 20) (by kernel_rfl) (hr4.right _) (by decide) (by decide) fun c4 o4 hc4 => ?_
  conv=>whnf
  have hl4 : ((List.drop 1 (List.drop 20 (bs.drop 8))).take 20).length = 20 := by simp [h81]
  refine LoadNG.atG (vs := bvs ((List.drop 1 (List.drop 20 (bs.drop 8))).take 20)) (by rw [bvs_len, hl4]) hc4 ?_
  conv=>whnf
  have w2 : (TicketD.mk n (numF (bs.take 8)) ((bs.drop 8).take 20) (numF ((List.drop 20 (bs.drop 8)).take 1)) (List.replicate 20 0) (List.replicate 4 0)).wf := ⟨hl2, rfl, rfl⟩
  refine StoreG.at (by rw [bvs_len, hl4]) (Upd.tl (Upd.hereN (by rw [bvs_len, hl4, TicketD.cells_len w2]; decide) (bvs_one _) (TicketD.set_to w2 hl4))) ?_
  conv=>whnf
  -- the amount
  refine SideG.of (by kernel_rfl) ?_
  refine CallG.of (pre := [cel b3 91 [v4]]) (rest := [cel b7 82 _, cel b4 82 zeroT'.cells]) (cut_spec _ F b3 32 32 _ (List.drop 20 (List.drop 1 (List.drop 20 (bs.drop 8)))) (by decide) (by simp [h81]) hv4 (by decide)) (Ent.refl _) ?_
  rintro r5 _ ⟨hr5, v5, hv5, rfl⟩
  conv=>whnf
  have hl5 : ((List.drop 20 (List.drop 1 (List.drop 20 (bs.drop 8)))).take 32).length = 32 := by simp [h81]
  refine CallG.pure (wread_spec _ r5 _ hl5 (hr5.right _)) ?_
  rintro _ _ ⟨rfl, rfl⟩
  rw [ivs_words]
  conv=>whnf
  intro b8
  conv=>whnf
  refine StoreG.at (by rw [uvs_len, wordsN_len]) (Upd.whole (by rw [uvs_len, wordsN_len]; rfl) (uvs_one _)) ?_
  conv=>whnf
  refine LoadNG.at (vs := uvs (wordsN ((List.drop 20 (List.drop 1 (List.drop 20 (bs.drop 8)))).take 32))) (by rw [uvs_len, wordsN_len]) .all ?_
  conv=>whnf
  have w3 : (TicketD.mk n (numF (bs.take 8)) ((bs.drop 8).take 20) (numF ((List.drop 20 (bs.drop 8)).take 1)) ((List.drop 1 (List.drop 20 (bs.drop 8))).take 20) (List.replicate 4 0)).wf := ⟨hl2, hl4, rfl⟩
  refine StoreG.at (by rw [uvs_len, wordsN_len]) (Upd.tl (Upd.tl (Upd.hereN (by rw [uvs_len, wordsN_len, TicketD.cells_len w3]; decide) (uvs_one _) (TicketD.set_amt w3 (wordsN_len _))))) ?_
  have et : (TicketD.mk n (numF (bs.take 8)) ((bs.drop 8).take 20) (numF ((List.drop 20 (bs.drop 8)).take 1)) ((List.drop 1 (List.drop 20 (bs.drop 8))).take 20) (wordsN ((List.drop 20 (List.drop 1 (List.drop 20 (bs.drop 8)))).take 32))) = tkOf n bs := by simp [tkOf, List.drop_drop]
  rw [et]
  have wt := tkOf_wf (n := n) h81
  conv=>whnf
  refine DrawG.mk 9 [cel b8 25 (uvs (wordsN ((List.drop 20 (List.drop 1 (List.drop 20 (bs.drop 8)))).take 32))), cel b3 91 [v5], cel b7 82 (tkOf n bs).cells] [cel b4 82 zeroT'.cells] (Ent.perm (List.perm_append_comm (l₁ := [_, _, _]) (l₂ := [cel b4 82 zeroT'.cells]))) ?_
  conv=>whnf
  refine .take 0 ?_
  conv=>whnf
  refine ⟨rfl, ?_⟩
  conv=>whnf
  refine LoadNG.at (vs := (tkOf n bs).cells) (TicketD.cells_len wt) (.tl (.tl .all)) ?_
  conv=>whnf
  refine .take 1 ?_
  conv=>whnf
  refine ⟨rfl, ?_⟩
  conv=>whnf
  refine .take 2 ?_
  conv=>whnf
  refine ⟨rfl, ?_⟩
  conv=>whnf
  refine .take 3 ?_
  conv=>whnf
  refine ⟨rfl, ?_⟩
  conv=>whnf
  refine .take 4 ?_
  conv=>whnf
  refine ⟨rfl, ?_⟩
  conv=>whnf
  refine CondG.tt ?_
  conv=>whnf
  refine LoadNG.at (vs := (tkOf n bs).cells) (TicketD.cells_len wt) (.tl (.tl .all)) ?_
  conv=>whnf
  refine .all ?_
  conv=>whnf
  refine ⟨by decide, ?_⟩
  (conv=>whnf); repeat ((with_reducible first | refine .tt ?_ | refine .ff ?_); conv=>whnf)
  refine CallG.pure (tmay_spec _ _ wt) ?_
  rintro _ _ ⟨rfl, rfl⟩
  conv=>whnf
  refine .take 6 ?_
  conv=>whnf
  refine ⟨rfl, ?_⟩
  (conv=>whnf); repeat ((with_reducible first | refine .tt ?_ | refine .ff ?_); conv=>whnf)
  refine .all ?_
  conv=>whnf
  refine ⟨by decide, ?_⟩
  conv=>whnf
  refine StoreG.at (TicketD.cells_len wt) (Upd.whole (by rw [TicketD.cells_len wt]; rfl) (TicketD.cells_one _)) ?_
  conv=>whnf
  refine .take 8 ?_
  conv=>whnf
  refine ⟨rfl, ?_⟩
  conv=>whnf
  refine ⟨rfl, ?_⟩
  conv=>whnf
  refine LoadNG.at (vs := (tkOf n bs).cells) (TicketD.cells_len wt) .all ?_
  conv=>whnf
  exact ⟨[], Ent.nil _, rfl, .inr ⟨h81, rfl⟩⟩
end Go.Proofs.YtnbcbdlbejdkpaaDoor
namespace Go.Proofs.YtnbcbdlbejdkpaaDoor
open Go Go.Sl
section
variable {find : ByteArray → List Nat × Int}
theorem made_ok (F : List HP) (s : Nat) (src : Value) (c : StC) (hs : SrcG Tryd.prog F src find) (ho : SrcOk find) (hw : c.wf) :
    SpecF Tryd.prog 82 [.pointer (some ⟨s, 0, none⟩)] F (c.pieces 127 s src) (fun r L => ∃ c', Same find c c' ∧ r = .tuple #[.int .i64 (madeR (lv find c ntK)).1, .int .i64 (madeR (lv find c ntK)).2] ∧ L = c'.pieces 127 s src) := by
  refine fun82.spec rfl ?_
  (conv=>whnf); repeat ((with_reducible first | refine .tt ?_ | refine .ff ?_); conv=>whnf)
  refine CallG.of (rest := []) (get_ok _ s src c ntK (hs.left []) ho hw (by decide)) (by rw [List.append_nil]; exact Ent.refl _) ?_
  rintro _ _ ⟨c', x, hc', hx, hlen, rfl, rfl⟩
  conv=>whnf
  refine CondG.ff ?_
  (conv=>whnf); repeat ((with_reducible first | refine .tt ?_ | refine .ff ?_); conv=>whnf)
  refine LenG.sl hx ?_
  (conv=>whnf); repeat ((with_reducible first | refine .tt ?_ | refine .ff ?_); conv=>whnf)
  refine CondG.dec (fun h1 => ?_) (fun h1 => ?_)
  · have e : lv find c ntK = [] := List.eq_nil_of_length_eq_zero (by omega)
    conv=>whnf
    rw [List.append_nil]
    refine ⟨_, Ent.drop _, c', hc', ?_, rfl⟩
    rw [e]
    rfl
  conv=>whnf
  have hne : lv find c ntK ≠ [] := fun e => h1 (by rw [e]; rfl)
  have hrd : RdS ((own 1 x (lv find c ntK).length (bvs (lv find c ntK)) :: c'.pieces 127 s src) ++ []) x (lv find c ntK).length (bvs (lv find c ntK)) := .left (own_rd hx (by simp [bvs])) _
  refine CallG.pure (number_spec_t _ x (lv find c ntK) (by omega) (hrd.left F)) ?_
  rintro _ _ ⟨rfl, rfl⟩
  conv=>whnf
  refine LenG.sl hx ?_
  conv=>whnf
  have fin : ∀ (p : Prop) [Decidable p], True := fun _ _ => trivial
  refine CondG.ndec (fun h2 => ?_) (fun h2 => ?_)
  · (conv=>whnf); repeat ((with_reducible first | refine .tt ?_ | refine .ff ?_); conv=>whnf)
    rw [List.append_nil]
    refine ⟨_, Ent.drop _, c', hc', ?_, rfl⟩
    unfold madeR
    rw [if_neg hne, if_pos (.inl (by omega))]
    rfl
  (conv=>whnf); repeat ((with_reducible first | refine .tt ?_ | refine .ff ?_); conv=>whnf)
  refine CondG.dec (fun h3 => ?_) (fun h3 => ?_)
  · (conv=>whnf); repeat ((with_reducible first | refine .tt ?_ | refine .ff ?_); conv=>whnf)
    rw [List.append_nil]
    refine ⟨_, Ent.drop _, c', hc', ?_, rfl⟩
    unfold madeR
    rw [if_neg hne, if_pos (.inr (.inl h3))]
    rfl
  (conv=>whnf); repeat ((with_reducible first | refine .tt ?_ | refine .ff ?_); conv=>whnf)
  refine CondG.dec (fun h4 => ?_) (fun h4 => ?_)
  · conv=>whnf
    rw [List.append_nil]
    refine ⟨_, Ent.drop _, c', hc', ?_, rfl⟩
    unfold madeR
    rw [if_neg hne, if_pos (.inr (.inr h4))]
    rfl
  conv=>whnf
  rw [List.append_nil]
  refine ⟨_, Ent.drop _, c', hc', ?_, rfl⟩
  unfold madeR
  rw [if_neg hne, if_neg (by omega)]
  rfl
theorem tfind_ok (F : List HP) (s : Nat) (src : Value) (c : StC) (n : Int) (hs : SrcG Tryd.prog F src find) (ho : SrcOk find) (hw : c.wf) :
    SpecF Tryd.prog 70 [.pointer (some ⟨s, 0, none⟩), .int .i64 n] F (c.pieces 127 s src) (fun r L =>
      ((n < 1 ∨ 1099511627776 < n) ∧ r = .tuple #[.agg ⟨zeroT'.cells⟩, .int .i64 90] ∧ L = c.pieces 127 s src) ∨
      ((1 ≤ n ∧ n ≤ 1099511627776) ∧ ∃ c', Same find c c' ∧ r = .tuple #[.agg ⟨(findR n (lv find c (tkey n.toNat))).1.cells⟩, .int .i64 (findR n (lv find c (tkey n.toNat))).2] ∧ L = c'.pieces 127 s src)) := by
  refine fun70.spec rfl ?_
  conv=>whnf
  intro b4
  (conv=>whnf); repeat ((with_reducible first | refine .tt ?_ | refine .ff ?_); conv=>whnf)
  refine CondG.dec (fun h1 => ?_) (fun h1 => ?_)
  · (conv=>whnf); repeat ((with_reducible first | refine .tt ?_ | refine .ff ?_); conv=>whnf)
    refine BuildG.of rfl ?_
    conv=>whnf
    refine StoreG.at rfl (Upd.whole rfl (TicketD.cells_one zeroT')) ?_
    conv=>whnf
    refine LoadNG.at (vs := zeroT'.cells) rfl .all ?_
    conv=>whnf
    exact ⟨_, Ent.drop _, .inl ⟨.inl h1, rfl, rfl⟩⟩
  (conv=>whnf); repeat ((with_reducible first | refine .tt ?_ | refine .ff ?_); conv=>whnf)
  refine CondG.dec (fun h2 => ?_) (fun h2 => ?_)
  · conv=>whnf
    refine BuildG.of rfl ?_
    conv=>whnf
    refine StoreG.at rfl (Upd.whole rfl (TicketD.cells_one zeroT')) ?_
    conv=>whnf
    refine LoadNG.at (vs := zeroT'.cells) rfl .all ?_
    conv=>whnf
    exact ⟨_, Ent.drop _, .inl ⟨.inr h2, rfl, rfl⟩⟩
  obtain ⟨m, rfl⟩ : ∃ m : Nat, n = m := ⟨n.toNat, (Int.toNat_of_nonneg (by omega)).symm⟩
  conv=>whnf
  refine CallG.pure (key_spec _ m (by omega)) ?_
  rintro _ _ ⟨rfl, rfl⟩
  conv=>whnf
  refine CallG.of (rest := [cel b4 82 zeroT'.cells]) (get_ok _ s src c (tkey m) (hs.left _) ho hw (mayI_ok (by rw [tkey_size]; decide) (by rw [tkey_size]; decide) (by decide))) (Ent.perm (List.perm_append_comm (l₁ := [cel b4 82 zeroT'.cells]))) ?_
  rintro _ _ ⟨c', x, hc', hx, hlen, rfl, rfl⟩
  have ee : (m : Int).toNat = m := Int.toNat_natCast m
  simp only [ee]
  conv=>whnf
  refine CondG.ff ?_
  conv=>whnf
  refine LenG.sl hx ?_
  conv=>whnf
  have hm1 : 1 ≤ (m : Int) ∧ (m : Int) ≤ 1099511627776 := by omega
  refine CondG.dec (fun h3 => ?_) (fun h3 => ?_)
  · have e : lv find c (tkey m) = [] := List.eq_nil_of_length_eq_zero (by omega)
    conv=>whnf
    refine BuildG.of rfl ?_
    conv=>whnf
    refine StoreG.ent Ent.last ?_
    refine StoreG.at rfl (Upd.whole rfl (TicketD.cells_one zeroT')) ?_
    conv=>whnf
    refine LoadNG.at (vs := zeroT'.cells) rfl .all ?_
    conv=>whnf
    refine ⟨_, (Ent.drop _).trans (Ent.drop _), .inr ⟨hm1, c', hc', ?_, rfl⟩⟩
    rw [e]
    rfl
  have hne : lv find c (tkey m) ≠ [] := fun e => h3 (by rw [e]; rfl)
  conv=>whnf
  refine CallG.pure (ticketOf_spec _ m x (lv find c (tkey m)) (by omega) (.left (.left (own_rd hx (by simp [bvs])) _) F)) ?_
  rintro _ _ ⟨rfl, (⟨h81, rfl⟩ | ⟨h81, rfl⟩)⟩
  · have e : findR m (lv find c (tkey m)) = (zeroT', 75) := by unfold findR; rw [if_neg hne, if_neg (fun h => h81 h.1)]
    conv=>whnf
    intro b8
    conv=>whnf
    refine StoreG.at rfl (Upd.whole rfl (TicketD.cells_one zeroT')) ?_
    conv=>whnf
    refine CondG.tt ?_
    conv=>whnf
    refine BuildG.of rfl ?_
    conv=>whnf
    refine StoreG.ent (Ent.perm (List.perm_append_comm (l₁ := cel b8 82 zeroT'.cells :: own 1 x (lv find c (tkey m)).length (bvs (lv find c (tkey m))) :: c'.pieces 127 s src) (l₂ := [cel b4 82 zeroT'.cells]))) ?_
    refine StoreG.at rfl (Upd.whole rfl (TicketD.cells_one zeroT')) ?_
    conv=>whnf
    refine LoadNG.at (vs := zeroT'.cells) rfl .all ?_
    conv=>whnf
    refine ⟨_, (Ent.drop _).trans ((Ent.drop _).trans (Ent.drop _)), .inr ⟨hm1, c', hc', ?_, rfl⟩⟩
    rw [e]
    rfl
  have wt := tkOf_wf (n := m) h81
  conv=>whnf
  intro b8
  conv=>whnf
  refine StoreG.at (TicketD.cells_len wt) (Upd.whole (by rw [TicketD.cells_len wt]; rfl) (TicketD.cells_one _)) ?_
  conv=>whnf
  refine CondG.ndec (fun h4 => ?_) (fun h4 => ?_)
  · have e : findR m (lv find c (tkey m)) = (zeroT', 75) := by unfold findR; rw [if_neg hne, if_neg (fun h => h4 h.2)]
    conv=>whnf
    refine BuildG.of rfl ?_
    conv=>whnf
    refine StoreG.ent (Ent.perm (List.perm_append_comm (l₁ := cel b8 82 (tkOf m (lv find c (tkey m))).cells :: own 1 x (lv find c (tkey m)).length (bvs (lv find c (tkey m))) :: c'.pieces 127 s src) (l₂ := [cel b4 82 zeroT'.cells]))) ?_
    refine StoreG.at rfl (Upd.whole rfl (TicketD.cells_one zeroT')) ?_
    conv=>whnf
    refine LoadNG.at (vs := zeroT'.cells) rfl .all ?_
    conv=>whnf
    refine ⟨_, (Ent.drop _).trans ((Ent.drop _).trans (Ent.drop _)), .inr ⟨hm1, c', hc', ?_, rfl⟩⟩
    rw [e]
    rfl
  have e : findR m (lv find c (tkey m)) = (tkOf m (lv find c (tkey m)), 0) := by unfold findR; rw [if_neg hne, if_pos ⟨h81, h4⟩]
  conv=>whnf
  refine LoadNG.at (vs := (tkOf m (lv find c (tkey m))).cells) (TicketD.cells_len wt) .all ?_
  conv=>whnf
  refine StoreG.ent (Ent.perm (List.perm_append_comm (l₁ := cel b8 82 (tkOf m (lv find c (tkey m))).cells :: own 1 x (lv find c (tkey m)).length (bvs (lv find c (tkey m))) :: c'.pieces 127 s src) (l₂ := [cel b4 82 zeroT'.cells]))) ?_
  refine StoreG.at (TicketD.cells_len wt) (Upd.whole (by rw [TicketD.cells_len wt]; rfl) (TicketD.cells_one _)) ?_
  conv=>whnf
  refine LoadNG.at (vs := (tkOf m (lv find c (tkey m))).cells) (TicketD.cells_len wt) .all ?_
  conv=>whnf
  refine ⟨_, (Ent.drop _).trans ((Ent.drop _).trans (Ent.drop _)), .inr ⟨hm1, c', hc', ?_, rfl⟩⟩
  rw [e]
  rfl
theorem open_ok (F : List HP) (s : Nat) (src : Value) (c : StC) (t : TicketD) (hs : SrcG Tryd.prog F src find) (ho : SrcOk find) (hw : c.wf) (ht : t.wf) (hst : c.steps.length ≤ 549755813888) :
    SpecF Tryd.prog 69 [.pointer (some ⟨s, 0, none⟩), .agg ⟨t.cells⟩] F (c.pieces 127 s src) (fun r L =>
      ((t.num ≠ 0 ∨ ¬ t.may) ∧ r = .tuple #[.int .i64 0, .int .i64 93] ∧ L = c.pieces 127 s src) ∨
      (t.num = 0 ∧ t.may ∧ (madeR (lv find c ntK)).2 ≠ 0 ∧ ∃ c', Same find c c' ∧ r = .tuple #[.int .i64 0, .int .i64 (madeR (lv find c ntK)).2] ∧ L = c'.pieces 127 s src) ∨
      (t.num = 0 ∧ t.may ∧ (madeR (lv find c ntK)).2 = 0 ∧ 1099511627776 ≤ (madeR (lv find c ntK)).1 ∧ ∃ c', Same find c c' ∧ r = .tuple #[.int .i64 0, .int .i64 92] ∧ L = c'.pieces 127 s src) ∨
      (t.num = 0 ∧ t.may ∧ (madeR (lv find c ntK)).2 = 0 ∧ 0 ≤ (madeR (lv find c ntK)).1 ∧ (madeR (lv find c ntK)).1 < 1099511627776 ∧ ∃ c1 c2 c3, Same find c c1 ∧ Laid find c1 (tkey ((madeR (lv find c ntK)).1 + 1).toNat) t.value c2 ∧ Laid find c2 ntK (be ((madeR (lv find c ntK)).1 + 1).toNat 8) c3 ∧
        r = .tuple #[.int .i64 ((madeR (lv find c ntK)).1 + 1), .int .i64 0] ∧ L = c3.pieces 127 s src)) := by
  refine fun69.spec rfl ?_
  conv=>whnf
  intro b3
  (conv=>whnf); repeat ((with_reducible first | refine .tt ?_ | refine .ff ?_); conv=>whnf)
  refine LoadG.at (v := .int .i64 t.num) (.here rfl) ?_
  conv=>whnf
  refine CondG.ndec (fun h1 => ?_) (fun h1 => ?_)
  · (conv=>whnf); repeat ((with_reducible first | refine .tt ?_ | refine .ff ?_); conv=>whnf)
    exact ⟨_, Ent.drop _, .inl ⟨.inl h1, rfl, rfl⟩⟩
  conv=>whnf
  refine LoadNG.at (vs := t.cells) (TicketD.cells_len ht) .all ?_
  (conv=>whnf); repeat ((with_reducible first | refine .tt ?_ | refine .ff ?_); conv=>whnf)
  refine CallG.pure (tmay_spec _ t ht) ?_
  rintro _ _ ⟨rfl, rfl⟩
  (conv=>whnf); repeat ((with_reducible first | refine .tt ?_ | refine .ff ?_); conv=>whnf)
  refine CondG.ndec (fun h2 => ?_) (fun h2 => ?_)
  · conv=>whnf
    exact ⟨_, Ent.drop _, .inl ⟨.inr h2, rfl, rfl⟩⟩
  conv=>whnf
  refine CallG.of (rest := [cel b3 82 t.cells]) (made_ok _ s src c (hs.left _) ho hw) (Ent.perm (List.perm_append_comm (l₁ := [cel b3 82 t.cells]))) ?_
  rintro _ _ ⟨c1, hc1, rfl, rfl⟩
  conv=>whnf
  refine CondG.ndec (fun h3 => ?_) (fun h3 => ?_)
  · conv=>whnf
    exact ⟨_, Ent.dropL _ [cel b3 82 t.cells], .inr (.inl ⟨h1, h2, h3, c1, hc1, rfl, rfl⟩)⟩
  conv=>whnf
  refine CondG.dec (fun h4 => ?_) (fun h4 => ?_)
  · conv=>whnf
    exact ⟨_, Ent.dropL _ [cel b3 82 t.cells], .inr (.inr (.inl ⟨h1, h2, h3, h4, c1, hc1, rfl, rfl⟩))⟩
  have h0 : 0 ≤ (madeR (lv find c ntK)).1 := by
    unfold madeR at h3 h4 ⊢
    split
    · exact Int.le_refl 0
    · split
      · exact Int.le_refl 0
      · rename_i h5
        show (0 : Int) ≤ numF _
        omega
  generalize hn : (madeR (lv find c ntK)).1 = n at *
  obtain ⟨m, rfl⟩ : ∃ m : Nat, n = m := ⟨n.toNat, (Int.toNat_of_nonneg h0).symm⟩
  have em : ((m : Int) + 1).toNat = m + 1 := by omega
  have em2 : ((m : Int) + 1) = ((m + 1 : Nat) : Int) := rfl
  simp only [em]
  conv=>whnf
  refine ArithG.i64 (by omega) ?_
  rw [em2]
  conv=>whnf
  refine DrawG.mk 7 [cel b3 82 t.cells] (c1.pieces 127 s src) (Ent.refl _) ?_
  conv=>whnf
  refine .take 0 ?_
  conv=>whnf
  refine ⟨rfl, ?_⟩
  conv=>whnf
  refine .take 1 ?_
  conv=>whnf
  refine ⟨rfl, ?_⟩
  conv=>whnf
  refine .take 3 ?_
  conv=>whnf
  refine ⟨rfl, ?_⟩
  conv=>whnf
  refine LoadNG.at (vs := t.cells) (TicketD.cells_len ht) .all ?_
  conv=>whnf
  refine .all ?_
  conv=>whnf
  refine ⟨by decide, ?_⟩
  conv=>whnf
  refine CallG.pure (key_spec _ (m + 1) (by omega)) ?_
  rintro _ _ ⟨rfl, rfl⟩
  conv=>whnf
  refine .all ?_
  conv=>whnf
  refine ⟨by decide, ?_⟩
  conv=>whnf
  have hen := h2.1
  have htk := h2.2.1
  refine CallG.pure (tvalue_spec _ t ht (by omega) (by omega)) ?_
  rintro r1 _ ⟨hr1, rfl⟩
  conv=>whnf
  refine .all ?_
  conv=>whnf
  refine ⟨by decide, ?_⟩
  conv=>whnf
  have hvl := TicketD.value_len ht
  refine CallG.of (pre := c1.pieces 127 s src) (rest := [own 1 r1 t.value.length (bvs t.value)]) (put_ok _ s src c1 (tkey (m + 1)) r1 t.value (SrcG.left (SrcG.left hs _) _) ho hc1.wf (mayI_ok (by rw [tkey_size]; decide) (by rw [tkey_size]; decide) (by omega)) hr1 (.left (own_rd hr1 (by simp [bvs])) _) (by rw [hc1.steps]; omega)) (Ent.perm (List.perm_append_comm (l₁ := [own 1 r1 t.value.length (bvs t.value)]))) ?_
  rintro _ _ ⟨c2, hc2, rfl, rfl⟩
  conv=>whnf
  refine .take 6 ?_
  conv=>whnf
  refine ⟨rfl, ?_⟩
  conv=>whnf
  refine ⟨rfl, ?_⟩
  conv=>whnf
  refine CondG.ff ?_
  conv=>whnf
  refine CallG.pure (eight_spec _ (m + 1) (by omega)) ?_
  rintro r2 _ ⟨hr2, _, rfl⟩
  conv=>whnf
  refine CallG.of (pre := c2.pieces 127 s src) (rest := [own 1 r2 8 (bvs (be (m + 1) 8)), own 1 r1 t.value.length (bvs t.value), cel b3 82 t.cells]) (put_ok _ s src c2 ntK r2 (be (m + 1) 8) (hs.left _) ho hc2.wf (mayI_ok (by decide) (by decide) (by rw [be_len]; decide)) (by rw [be_len]; exact hr2) (by rw [be_len]; exact .left (own_rd hr2 (by simp [bvs, be_len])) _) (by rw [hc2.steps, hc1.steps]; omega)) ?_ ?_
  · refine Ent.perm ?_
    simp only [List.append_assoc, List.cons_append, List.nil_append]
    refine (List.Perm.trans ?_ (List.perm_middle (a := own 1 r2 8 (bvs (be (m + 1) 8)))).symm)
    exact List.Perm.refl _
  rintro _ _ ⟨c3, hc3, rfl, rfl⟩
  conv=>whnf
  exact ⟨_, Ent.dropL _ _, .inr (.inr (.inr ⟨h1, h2, h3, h0, by omega, c1, c2, c3, hc1, hc2, hc3, rfl, rfl⟩))⟩
theorem tfind_all (F : List HP) (s : Nat) (src : Value) (c : StC) (n : Int) (hs : SrcG Tryd.prog F src find) (ho : SrcOk find) (hw : c.wf) :
    SpecF Tryd.prog 70 [.pointer (some ⟨s, 0, none⟩), .int .i64 n] F (c.pieces 127 s src) (fun r L => ∃ c', Same find c c' ∧ r = .tuple #[.agg ⟨(findA find c n).1.cells⟩, .int .i64 (findA find c n).2] ∧ L = c'.pieces 127 s src) := by
  intro w hw'
  refine (tfind_ok F s src c n hs ho hw w hw').mono ?_
  rintro e w' ⟨v, L, rfl, hR, hx, hs'⟩
  refine ⟨v, L, rfl, ?_, hx, hs'⟩
  rcases hR with ⟨h1, rfl, rfl⟩ | ⟨h1, c', hc', rfl, rfl⟩
  · have e : findA find c n = (zeroT', 90) := by unfold findA; rw [if_pos h1]
    rw [e]
    exact ⟨c, Same.refl hw, rfl, rfl⟩
  · have e : findA find c n = findR n (lv find c (tkey n.toNat)) := by unfold findA; rw [if_neg (by omega)]
    rw [e]
    exact ⟨c', hc', rfl, rfl⟩
theorem cancel_ok (F : List HP) (s : Nat) (src : Value) (c : StC) (n : Int) (a : List Nat) (ha : a.length = 20) (hs : SrcG Tryd.prog F src find) (ho : SrcOk find) (hw : c.wf) (hst : c.steps.length ≤ 549755813888) :
    SpecF Tryd.prog 71 [.pointer (some ⟨s, 0, none⟩), .int .i64 n, .agg ⟨bvs a⟩] F (c.pieces 127 s src) (fun r L =>
      ((findA find c n).2 ≠ 0 ∧ ∃ c', Same find c c' ∧ r = .tuple #[.agg ⟨zeroT'.cells⟩, .int .i64 (findA find c n).2] ∧ L = c'.pieces 127 s src) ∨
      ((findA find c n).2 = 0 ∧ (findA find c n).1.snd ≠ a ∧ ∃ c', Same find c c' ∧ r = .tuple #[.agg ⟨zeroT'.cells⟩, .int .i64 91] ∧ L = c'.pieces 127 s src) ∨
      ((findA find c n).2 = 0 ∧ (findA find c n).1.snd = a ∧ 1 ≤ n ∧ ∃ c1 c2, Same find c c1 ∧ Laid find c1 (tkey n.toNat) [] c2 ∧ r = .tuple #[.agg ⟨(findA find c n).1.cells⟩, .int .i64 0] ∧ L = c2.pieces 127 s src)) := by
  have wt := findA_wf find c n
  refine fun71.spec rfl ?_
  conv=>whnf
  intro b5
  conv=>whnf
  intro b6
  conv=>whnf
  refine CallG.of (rest := [cel b6 82 zeroT'.cells, cel b5 33 (bvs a)]) (tfind_all _ s src c n (hs.left _) ho hw) (Ent.perm (List.perm_append_comm (l₁ := [cel b6 82 zeroT'.cells, cel b5 33 (bvs a)]))) ?_
  rintro _ _ ⟨c1, hc1, rfl, rfl⟩
  conv=>whnf
  intro b8
  conv=>whnf
  refine StoreG.at (TicketD.cells_len wt) (Upd.whole (by rw [TicketD.cells_len wt]; rfl) (TicketD.cells_one _)) ?_
  conv=>whnf
  have front : ∀ x : List Value, Ent (cel b8 82 x :: (c1.pieces 127 s src ++ [cel b6 82 zeroT'.cells, cel b5 33 (bvs a)])) (cel b6 82 zeroT'.cells :: cel b5 33 (bvs a) :: cel b8 82 x :: c1.pieces 127 s src) := fun x =>
    Ent.perm (List.perm_append_comm (l₁ := cel b8 82 x :: c1.pieces 127 s src) (l₂ := [cel b6 82 zeroT'.cells, cel b5 33 (bvs a)]))
  refine CondG.ndec (fun h1 => ?_) (fun h1 => ?_)
  · conv=>whnf
    refine BuildG.of rfl ?_
    conv=>whnf
    refine StoreG.ent (front _) ?_
    refine StoreG.at rfl (Upd.whole rfl (TicketD.cells_one zeroT')) ?_
    conv=>whnf
    refine LoadNG.at (vs := zeroT'.cells) rfl .all ?_
    conv=>whnf
    exact ⟨_, (Ent.drop _).trans ((Ent.drop _).trans (Ent.drop _)), .inl ⟨h1, c1, hc1, rfl, rfl⟩⟩
  conv=>whnf
  have hl2 : (findA find c n).1.snd.length = 20 := wt.snd
  refine LoadNG.at (vs := bvs (findA find c n).1.snd) (by rw [bvs_len, hl2]) (CelN.here (TicketD.snd_at _)) ?_
  conv=>whnf
  refine LoadNG.ent (front _) ?_
  refine LoadNG.at (vs := bvs a) (by rw [bvs_len, ha]) (.tl .all) ?_
  conv=>whnf
  refine DoesG.eqv 8 (List.replicate 20 (.int .u8)) (by kernel_rfl) (by decide) (by kernel_rfl) (by kernel_rfl) (wt_bvs hl2) (wt_bvs ha) ?_
  conv=>whnf
  refine CondG.split (fun h2 => ?_) (fun h2 => ?_)
  · have h2' : (findA find c n).1.snd ≠ a := fun e => by rw [e] at h2; simp at h2
    conv=>whnf
    refine BuildG.of rfl ?_
    conv=>whnf
    refine StoreG.ent (front _) ?_
    refine StoreG.at rfl (Upd.whole rfl (TicketD.cells_one zeroT')) ?_
    conv=>whnf
    refine LoadNG.at (vs := zeroT'.cells) rfl .all ?_
    conv=>whnf
    exact ⟨_, (Ent.drop _).trans ((Ent.drop _).trans (Ent.drop _)), .inr (.inl ⟨h1, h2', c1, hc1, rfl, rfl⟩)⟩
  have h2' : (findA find c n).1.snd = a := bvs_inj.1 (by simpa using h2)
  have hn1 : 1 ≤ n ∧ n ≤ 1099511627776 := by
    rcases Int.lt_or_le n 1 with h | h
    · unfold findA at h1; rw [if_pos (.inl h)] at h1; cases h1
    · rcases Int.lt_or_le 1099511627776 n with h' | h'
      · unfold findA at h1; rw [if_pos (.inr h')] at h1; cases h1
      · exact ⟨h, h'⟩
  obtain ⟨m, rfl⟩ : ∃ m : Nat, n = m := ⟨n.toNat, (Int.toNat_of_nonneg (by omega)).symm⟩
  have em : ((m : Int)).toNat = m := Int.toNat_natCast m
  conv=>whnf
  refine CallG.pure (key_spec _ m (by omega)) ?_
  rintro _ _ ⟨rfl, rfl⟩
  conv=>whnf
  refine CallG.of (pre := c1.pieces 127 s src) (rest := [cel b8 82 (findA find c m).1.cells, cel b6 82 zeroT'.cells, cel b5 33 (bvs a)]) (put_ok _ s src c1 (tkey m) (.slice none 0 0) [] (hs.left _) ho hc1.wf (mayI_ok (by rw [tkey_size]; decide) (by rw [tkey_size]; decide) (by simp)) (.inl ⟨rfl, rfl⟩) .nil (by rw [hc1.steps]; omega)) (Ent.perm ?_) ?_
  · exact (List.perm_middle (a := cel b8 82 (findA find c m).1.cells) (l₁ := c1.pieces 127 s src) (l₂ := [cel b6 82 zeroT'.cells, cel b5 33 (bvs a)])).symm
  rintro _ _ ⟨c2, hc2, rfl, rfl⟩
  conv=>whnf
  refine CondG.ff ?_
  conv=>whnf
  have front2 : Ent (c2.pieces 127 s src ++ [cel b8 82 (findA find c m).1.cells, cel b6 82 zeroT'.cells, cel b5 33 (bvs a)]) (cel b8 82 (findA find c m).1.cells :: cel b6 82 zeroT'.cells :: cel b5 33 (bvs a) :: c2.pieces 127 s src) :=
    Ent.perm (List.perm_append_comm (l₂ := [cel b8 82 (findA find c m).1.cells, cel b6 82 zeroT'.cells, cel b5 33 (bvs a)]))
  refine LoadNG.ent front2 ?_
  refine LoadNG.at (vs := (findA find c m).1.cells) (TicketD.cells_len wt) .all ?_
  conv=>whnf
  refine StoreG.ent front2 ?_
  refine StoreG.at (TicketD.cells_len wt) (Upd.tl (Upd.whole (by rw [TicketD.cells_len wt]; rfl) (TicketD.cells_one _))) ?_
  conv=>whnf
  refine LoadNG.at (vs := (findA find c m).1.cells) (TicketD.cells_len wt) (.tl .all) ?_
  conv=>whnf
  exact ⟨_, (Ent.drop _).trans ((Ent.drop _).trans (Ent.drop _)), .inr (.inr ⟨h1, h2', hn1.1, c1, c2, hc1, by rw [em]; exact hc2, rfl, rfl⟩)⟩
end
end Go.Proofs.YtnbcbdlbejdkpaaDoor
namespace Go.Proofs.YtnbcbdlbejdkpaaDoor
open Go Go.Sl
def k0 : TicketD := ⟨0, 7, List.replicate 20 0, 3, List.replicate 20 0, [256, 0, 0, 0]⟩
def k1 : TicketD := { k0 with num := 1 }
theorem k0_wf : k0.wf := ⟨rfl, rfl, rfl⟩
theorem k0_may : k0.may := by decide
theorem tick_ext : ∀ {a b : TicketD}, a.num = b.num → a.ent = b.ent → a.snd = b.snd → a.tok = b.tok → a.to = b.to → a.amt = b.amt → a = b
  | ⟨_, _, _, _, _, _⟩, ⟨_, _, _, _, _, _⟩, rfl, rfl, rfl, rfl, rfl, rfl => rfl
theorem k0_of : tkOf 1 k0.value = k1 := tick_ext rfl (by decide +kernel) (by decide +kernel) (by decide +kernel) (by decide +kernel) (by decide +kernel)
theorem k0_back : findR 1 k0.value = (k1, 0) := by
  unfold findR
  rw [if_neg (by decide +kernel), if_pos ⟨by decide +kernel, by rw [k0_of]; decide +kernel⟩, k0_of]
theorem tkey1 : tkey 1 ≠ ntK := by decide +kernel
theorem tabOk : SrcOk (tabFind []) where
  ok k h := by unfold tabFind; rw [if_neg (by omega)]
  len k := tabFind_len (by simp) k
theorem lv_nil (hb nb : Nat) (a b : Value) (k : ByteArray) : lv (tabFind []) (StC.mk [] [] [] [] hb nb a b) k = [] := by
  show (tabFind [] k).1 = []
  unfold tabFind
  split <;> rfl
theorem tknown_spec (F : List HP) : SpecF Tryd.prog 33 [] F [] (fun v _ => v = .bool true) := by
  refine fun33.spec rfl ?_
  conv=>whnf
  refine CallG.pure (fresh_nil _) ?_
  rintro _ _ ⟨s, t, vb, q, ob, hb, nb, rfl, rfl⟩
  rw [List.append_nil]
  (conv=>whnf); repeat ((with_reducible first | refine .tt ?_ | refine .ff ?_); conv=>whnf)
  refine BuildG.of rfl ?_
  conv=>whnf
  refine BuildG.of (cs := k0.cells) rfl ?_
  conv=>whnf
  intro b2
  conv=>whnf
  refine StoreG.at rfl (Upd.whole rfl (TicketD.cells_one k0)) ?_
  conv=>whnf
  refine LoadNG.at (vs := k0.cells) rfl .all ?_
  conv=>whnf
  have hsrc : ∀ M : List HP, SrcG Tryd.prog ((emptyL 154 177 t vb q ob ++ M) ++ F) (.iface 87 (.pointer (some ⟨t, 0, none⟩))) (tabFind []) := fun M =>
    tab_src _ t vb [] (.left (.left (.here rfl) M) F) (.left (.left (.tl .here) M) F) (by simp)
  have hw0 : (StC.mk [] [] [] [] hb nb (.slice none 0 0) (.slice none 0 0)).wf := ⟨by simp, by simp, by simp⟩
  have hlv := lv_nil hb nb (.slice none 0 0) (.slice none 0 0)
  refine CallG.of (rest := emptyL 154 177 t vb q ob ++ [cel b2 82 k0.cells]) (open_ok _ s _ _ k0 (hsrc _) tabOk hw0 k0_wf (by simp)) (Ent.perm ?_) ?_
  · rw [← List.append_assoc]
    exact (List.perm_append_comm (l₁ := [cel b2 82 k0.cells]))
  rw [hlv]
  rintro _ _ (⟨h, _⟩ | ⟨_, _, h, _⟩ | ⟨_, _, _, h, _⟩ | ⟨_, _, _, _, _, c1, c2, c3, hc1, hc2, hc3, rfl, rfl⟩)
  · exact absurd h (by simp [k0_may]; rfl)
  · exact absurd rfl h
  · exact absurd h (by decide)
  have e0 : ((madeR []).1 + 1).toNat = 1 := rfl
  rw [e0] at hc2 hc3
  have e1 : lv (tabFind []) c3 (tkey 1) = k0.value := by
    rw [hc3.lv, if_neg tkey1, hc2.lv, if_pos rfl]
  have f1 : findA (tabFind []) c3 1 = (k1, 0) := by
    unfold findA
    rw [if_neg (by decide), show (1 : Int).toNat = 1 from rfl, e1, k0_back]
  have k1_wf : k1.wf := ⟨rfl, rfl, rfl⟩
  conv=>whnf
  refine CallG.of (rest := emptyL 154 177 t vb q ob ++ [cel b2 82 k0.cells]) (tfind_all _ s _ c3 1 (hsrc _) tabOk hc3.wf) (Ent.refl _) ?_
  rw [f1]
  rintro _ _ ⟨c4, hc4, rfl, rfl⟩
  conv=>whnf
  intro b5
  conv=>whnf
  refine StoreG.at rfl (Upd.whole rfl (TicketD.cells_one k1)) ?_
  conv=>whnf
  refine BuildG.of rfl ?_
  conv=>whnf
  have f2 : findA (tabFind []) c4 1 = (k1, 0) := by
    unfold findA
    rw [if_neg (by decide), show (1 : Int).toNat = 1 from rfl, hc4.lv, e1, k0_back]
  have n3 : c3.steps.length = 2 := by rw [hc3.steps, hc2.steps, hc1.steps]; rfl
  refine CallG.of (rest := emptyL 154 177 t vb q ob ++ [cel b2 82 k0.cells, cel b5 82 k1.cells]) (cancel_ok _ s _ c4 1 (List.replicate 20 0) rfl (hsrc _) tabOk hc4.wf (by rw [hc4.steps, n3]; decide)) (Ent.perm ?_) ?_
  · exact permR (A := c4.pieces 127 s (.iface 87 (.pointer (some ⟨t, 0, none⟩)))) (E := emptyL 154 177 t vb q ob) (R := [cel b2 82 k0.cells])
  rw [f2]
  rintro _ _ (⟨h, _⟩ | ⟨_, h, _⟩ | ⟨_, _, _, c5, c6, hc5, hc6, rfl, rfl⟩)
  · exact absurd rfl h
  · exact absurd rfl h
  conv=>whnf
  intro b7
  conv=>whnf
  refine StoreG.at rfl (Upd.whole rfl (TicketD.cells_one k1)) ?_
  conv=>whnf
  have e6 : lv (tabFind []) c6 (tkey 1) = [] := by rw [hc6.lv]; exact if_pos rfl
  have f3 : findA (tabFind []) c6 1 = (zeroT', 90) := by
    unfold findA
    rw [if_neg (by decide), show (1 : Int).toNat = 1 from rfl, e6]
    rfl
  refine CallG.of (rest := emptyL 154 177 t vb q ob ++ [cel b2 82 k0.cells, cel b5 82 k1.cells, cel b7 82 k1.cells]) (tfind_all _ s _ c6 1 (hsrc _) tabOk hc6.wf) (Ent.perm ?_) ?_
  · exact permR (A := c6.pieces 127 s (.iface 87 (.pointer (some ⟨t, 0, none⟩)))) (E := emptyL 154 177 t vb q ob) (R := [cel b2 82 k0.cells, cel b5 82 k1.cells])
  rw [f3]
  rintro _ _ ⟨c7, hc7, rfl, rfl⟩
  conv=>whnf
  intro b9
  conv=>whnf
  refine StoreG.at rfl (Upd.whole rfl (TicketD.cells_one zeroT')) ?_
  conv=>whnf
  have front : Ent (cel b9 82 zeroT'.cells :: (c7.pieces 127 s (.iface 87 (.pointer (some ⟨t, 0, none⟩))) ++ (emptyL 154 177 t vb q ob ++ [cel b2 82 k0.cells, cel b5 82 k1.cells, cel b7 82 k1.cells])))
      (cel b2 82 k0.cells :: cel b5 82 k1.cells :: cel b7 82 k1.cells :: cel b9 82 zeroT'.cells :: (c7.pieces 127 s (.iface 87 (.pointer (some ⟨t, 0, none⟩))) ++ emptyL 154 177 t vb q ob)) := by
    refine Ent.perm ?_
    have := List.perm_append_comm (l₁ := cel b9 82 zeroT'.cells :: (c7.pieces 127 s (.iface 87 (.pointer (some ⟨t, 0, none⟩))) ++ emptyL 154 177 t vb q ob)) (l₂ := [cel b2 82 k0.cells, cel b5 82 k1.cells, cel b7 82 k1.cells])
    simpa only [List.append_assoc, List.cons_append, List.nil_append] using this
  refine StoreG.ent front ?_
  refine StoreG.at rfl (Upd.here (by decide) rfl) ?_
  conv=>whnf
  refine CondG.tt ?_
  (conv=>whnf); repeat ((with_reducible first | refine .tt ?_ | refine .ff ?_); conv=>whnf)
  refine CondG.tt ?_
  (conv=>whnf); repeat ((with_reducible first | refine .tt ?_ | refine .ff ?_); conv=>whnf)
  refine CondG.tt ?_
  conv=>whnf
  refine LoadNG.at (vs := k1.cells) rfl (.tl .all) ?_
  (conv=>whnf); repeat ((with_reducible first | refine .tt ?_ | refine .ff ?_); conv=>whnf)
  refine LoadNG.at (vs := k1.cells) rfl (.here rfl) ?_
  (conv=>whnf); repeat ((with_reducible first | refine .tt ?_ | refine .ff ?_); conv=>whnf)
  refine DoesG.eqv 8 tickK (by kernel_rfl) (by decide) (by kernel_rfl) (by kernel_rfl) (TicketD.wt k1_wf) (TicketD.wt k1_wf) ?_
  (conv=>whnf); repeat ((with_reducible first | refine .tt ?_ | refine .ff ?_); conv=>whnf)
  refine CondG.split (fun _ => ?_) (fun h => absurd h (by simp))
  (conv=>whnf); repeat ((with_reducible first | refine .tt ?_ | refine .ff ?_); conv=>whnf)
  refine CondG.tt ?_
  conv=>whnf
  refine LoadNG.at (vs := k1.cells) rfl (.tl (.tl .all)) ?_
  (conv=>whnf); repeat ((with_reducible first | refine .tt ?_ | refine .ff ?_); conv=>whnf)
  refine LoadNG.at (vs := k1.cells) rfl (.here rfl) ?_
  (conv=>whnf); repeat ((with_reducible first | refine .tt ?_ | refine .ff ?_); conv=>whnf)
  refine DoesG.eqv 8 tickK (by kernel_rfl) (by decide) (by kernel_rfl) (by kernel_rfl) (TicketD.wt k1_wf) (TicketD.wt k1_wf) ?_
  (conv=>whnf); repeat ((with_reducible first | refine .tt ?_ | refine .ff ?_); conv=>whnf)
  refine CondG.split (fun _ => ?_) (fun h => absurd h (by simp))
  (conv=>whnf); repeat ((with_reducible first | refine .tt ?_ | refine .ff ?_); conv=>whnf)
  exact ret_here rfl
end Go.Proofs.YtnbcbdlbejdkpaaDoor
namespace Go.Proofs.YtnbcbdlbejdkpaaDoor
open Go Go.Sl
def findV (V : View) (n : Int) : TicketD × Int := if n < 1 ∨ 1099511627776 < n then (zeroT', 90) else findR n (V (tkey n.toNat))
theorem findV_wf (V : View) (n : Int) : (findV V n).1.wf := by
  unfold findV
  split
  · exact ⟨rfl, rfl, rfl⟩
  · exact findR_wf _ _
section
variable {find : ByteArray → List Nat × Int}
theorem findA_V {V : View} {k : Nat} {c : StC} (hc : At find V k c) (n : Int) : findA find c n = findV V n := by
  unfold findA findV
  rw [hc.lv]
theorem made_at (F : List HP) (s : Nat) (src : Value) (V : View) (n : Nat) (hs : SrcG Tryd.prog F src find) (ho : SrcOk find) :
    SpecF Tryd.prog 82 [.pointer (some ⟨s, 0, none⟩)] F [stP 127 s src find V n] (fun r L => r = .tuple #[.int .i64 (madeR (V ntK)).1, .int .i64 (madeR (V ntK)).2] ∧ L = [stP 127 s src find V n]) :=
  SpecF.unpack0 fun c hc => (made_ok F s src c hs ho hc.wf).turn fun v L ⟨c', hs', hv, hL⟩ => by
    rw [hc.lv ntK] at hv
    subst hL
    exact ⟨_, ⟨hv, rfl⟩, Ent.pack0 (ls := fun c => StC.pieces 127 s src c) (hc.same hs')⟩
theorem tfind_at (F : List HP) (s : Nat) (src : Value) (V : View) (n : Nat) (k : Int) (hs : SrcG Tryd.prog F src find) (ho : SrcOk find) :
    SpecF Tryd.prog 70 [.pointer (some ⟨s, 0, none⟩), .int .i64 k] F [stP 127 s src find V n] (fun r L => r = .tuple #[.agg ⟨(findV V k).1.cells⟩, .int .i64 (findV V k).2] ∧ L = [stP 127 s src find V n]) :=
  SpecF.unpack0 fun c hc => (tfind_all F s src c k hs ho hc.wf).turn fun v L ⟨c', hs', hv, hL⟩ => by
    rw [findA_V hc] at hv
    subst hL
    exact ⟨_, ⟨hv, rfl⟩, Ent.pack0 (ls := fun c => StC.pieces 127 s src c) (hc.same hs')⟩
theorem open_at (F : List HP) (s : Nat) (src : Value) (V : View) (n : Nat) (t : TicketD) (hs : SrcG Tryd.prog F src find) (ho : SrcOk find) (ht : t.wf) (hn0 : t.num = 0) (hm : t.may) (hn : n ≤ 549755813888) {k : Nat} (hk : k < 1099511627776) (hmk : madeR (V ntK) = ((k : Int), 0)) :
    SpecF Tryd.prog 69 [.pointer (some ⟨s, 0, none⟩), .agg ⟨t.cells⟩] F [stP 127 s src find V n] (fun r L => r = .tuple #[.int .i64 ((k + 1 : Nat) : Int), .int .i64 0] ∧ L = [stP 127 s src find (upd (upd V (tkey (k + 1)) t.value) ntK (be (k + 1) 8)) (n + 2)]) :=
  SpecF.unpack0 fun c hc => (open_ok F s src c t hs ho hc.wf ht (Nat.le_trans hc.steps hn)).turn fun v L h => by
    rw [hc.lv ntK, hmk] at h
    rcases h with ⟨h, _⟩ | ⟨_, _, h, _⟩ | ⟨_, _, _, h, _⟩ | ⟨_, _, _, _, _, c1, c2, c3, h1, h2, h3, hv, hL⟩
    · rcases h with h | h
      · exact absurd hn0 h
      · exact absurd hm h
    · exact absurd rfl h
    · exact absurd h (by show ¬ (1099511627776 ≤ (k : Int)); omega)
    · have e1 : ((k : Int) + 1).toNat = k + 1 := by omega
      have e2 : (k : Int) + 1 = ((k + 1 : Nat) : Int) := by omega
      rw [show ((k : Int), (0 : Int)).1 = (k : Int) from rfl] at h2 h3 hv
      rw [e1] at h2 h3
      rw [e2] at hv
      subst hL
      exact ⟨_, ⟨hv, rfl⟩, Ent.pack0 (ls := fun c => StC.pieces 127 s src c) (((hc.same h1).laid h2).laid h3)⟩
theorem cancel_at (F : List HP) (s : Nat) (src : Value) (V : View) (n : Nat) (k : Int) (a : List Nat) (ha : a.length = 20) (hs : SrcG Tryd.prog F src find) (ho : SrcOk find) (hn : n ≤ 549755813888) :
    SpecF Tryd.prog 71 [.pointer (some ⟨s, 0, none⟩), .int .i64 k, .agg ⟨bvs a⟩] F [stP 127 s src find V n] (fun r L =>
      ((findV V k).2 ≠ 0 ∧ r = .tuple #[.agg ⟨zeroT'.cells⟩, .int .i64 (findV V k).2] ∧ L = [stP 127 s src find V n]) ∨
      ((findV V k).2 = 0 ∧ (findV V k).1.snd ≠ a ∧ r = .tuple #[.agg ⟨zeroT'.cells⟩, .int .i64 91] ∧ L = [stP 127 s src find V n]) ∨
      ((findV V k).2 = 0 ∧ (findV V k).1.snd = a ∧ r = .tuple #[.agg ⟨(findV V k).1.cells⟩, .int .i64 0] ∧ L = [stP 127 s src find (upd V (tkey k.toNat) []) (n + 1)])) :=
  SpecF.unpack0 fun c hc => (cancel_ok F s src c k a ha hs ho hc.wf (Nat.le_trans hc.steps hn)).turn fun v L h => by
    rw [findA_V hc] at h
    rcases h with ⟨h1, c1, h2, hv, rfl⟩ | ⟨h1, h3, c1, h2, hv, rfl⟩ | ⟨h1, h3, _, c1, c2, h2, h4, hv, rfl⟩
    · exact ⟨_, .inl ⟨h1, hv, rfl⟩, Ent.pack0 (ls := fun c => StC.pieces 127 s src c) (hc.same h2)⟩
    · exact ⟨_, .inr (.inl ⟨h1, h3, hv, rfl⟩), Ent.pack0 (ls := fun c => StC.pieces 127 s src c) (hc.same h2)⟩
    · exact ⟨_, .inr (.inr ⟨h1, h3, hv, rfl⟩), Ent.pack0 (ls := fun c => StC.pieces 127 s src c) ((hc.same h2).laid h4)⟩
theorem retry_at (F : List HP) (s : Nat) (src : Value) (V : View) (n : Nat) (k : Int) (hs : SrcG Tryd.prog F src find) (ho : SrcOk find) (hn : n + 2 ≤ 549755813888) (ha : wOk (findV V k).1.amt) :
    SpecF Tryd.prog 105 [.pointer (some ⟨s, 0, none⟩), .int .i64 k] F [stP 127 s src find V n] (fun r L =>
      ((findV V k).2 ≠ 0 ∧ r = .int .i64 (findV V k).2 ∧ L = [stP 127 s src find V n]) ∨
      ((findV V k).2 = 0 ∧ ∃ e U, (e, U) = mintL V (findV V k).1.tok (findV V k).1.to (findV V k).1.amt ∧ ((e ≠ 0 ∧ r = .int .i64 e ∧ L = [stP 127 s src find U (n + 2)]) ∨ (e = 0 ∧ r = .int .i64 0 ∧ L = [stP 127 s src find (upd U (tkey k.toNat) []) (n + 3)])))) := by
  obtain ⟨t, ht⟩ : ∃ t, t = (findV V k).1 := ⟨_, rfl⟩
  have hw : t.wf := by rw [ht]; exact findV_wf V k
  rw [← ht] at ha ⊢
  have h47 : t.cells.length = 47 := TicketD.cells_len hw
  have h20 : (bvs t.to).length = 20 := by rw [bvs_len, hw.to]
  have h4 : (uvs t.amt).length = 4 := by rw [uvs_len, hw.amt]
  refine fun105.spec rfl ?_
  conv=>whnf
  refine CallG.of (pre := [stP 127 s src find V n]) (rest := []) (tfind_at _ s src V n k hs ho) (Ent.refl _) ?_
  rintro _ _ ⟨rfl, rfl⟩
  rw [← ht]
  conv=>whnf
  intro b5
  conv=>whnf
  refine StoreG.at h47 (Upd.whole (by rw [h47]; rfl) (TicketD.cells_one _)) ?_
  conv=>whnf
  refine CondG.ndec (fun hc => ?_) (fun hc => ?_)
  · conv=>whnf
    exact ⟨_, Ent.sel (T := []) (A := [_, _]) [1] rfl, .inl ⟨hc, rfl, rfl⟩⟩
  have hkr : 1 ≤ k ∧ k ≤ 1099511627776 := by
    unfold findV at hc
    split at hc
    · exact absurd hc (by decide)
    · omega
  obtain ⟨kn, rfl⟩ : ∃ m : Nat, k = m := ⟨k.toNat, by omega⟩
  obtain ⟨e, he⟩ : ∃ e, e = (mintL V t.tok t.to t.amt).1 := ⟨_, rfl⟩
  obtain ⟨U, hU⟩ : ∃ U, U = (mintL V t.tok t.to t.amt).2 := ⟨_, rfl⟩
  have heU : (e, U) = mintL V t.tok t.to t.amt := by rw [he, hU]
  conv=>whnf
  refine LoadG.at (v := .int .i64 t.tok) (.here (TicketD.tok_at hw)) ?_
  conv=>whnf
  refine LoadNG.at (vs := bvs t.to) h20 (.here (TicketD.to_at hw)) ?_
  conv=>whnf
  refine LoadNG.at (vs := uvs t.amt) h4 (.here (TicketD.amt_at hw)) ?_
  conv=>whnf
  refine CallG.of (pre := [stP 127 s src find V n]) (rest := [cel b5 82 t.cells]) (mint_at _ s src V n t.tok t.to t.amt hw.to ha (hs.left [_]) ho (by omega)) (Ent.front 1 rfl) ?_
  rintro _ _ ⟨rfl, rfl⟩
  rw [← he, ← hU]
  conv=>whnf
  refine CondG.ndec (fun hc2 => ?_) (fun hc2 => ?_)
  · conv=>whnf
    exact ⟨_, Ent.sel (T := []) (A := [_, _]) [0] rfl, .inr ⟨hc, e, U, heU, .inl ⟨hc2, rfl, rfl⟩⟩⟩
  conv=>whnf
  refine CallG.pure (key_spec _ kn (by omega)) ?_
  rintro _ _ ⟨rfl, rfl⟩
  conv=>whnf
  refine CallG.of (pre := [stP 127 s src find U (n + 2)]) (rest := [cel b5 82 t.cells]) (put_at _ s src U (n + 2) (tkey kn) (.slice none 0 0) [] (hs.left [_]) ho (by unfold mayI; rw [tkey_size]; decide) (.inl ⟨rfl, rfl⟩) .nil (by omega)) (Ent.refl _) ?_
  rintro _ _ ⟨rfl, rfl⟩
  conv=>whnf
  exact ⟨_, Ent.sel (T := []) (A := [_, _]) [0] rfl, .inr ⟨hc, e, U, heU, .inr ⟨hc2, rfl, rfl⟩⟩⟩
end
end Go.Proofs.YtnbcbdlbejdkpaaDoor
namespace Go.Proofs.YtnbcbdlbejdkpaaDoor
open Go Go.Sl
theorem pick9_spec (F : List HP) (c : Int) (n : Nat) (h1 : -9223372036854775808 ≤ c) (h2 : c ≤ 9223372036854775807) (hn : 0 < n) : SpecF Tryd.prog 74 [.int .i64 c, .int .i64 n] F [] (fun v L => v = .int .i64 (pickN c n) ∧ L = []) := by
  have ht := pickN_tmod (c := c) (n := n)
  refine fun74.spec rfl ?_
  conv=>whnf
  refine CondG.dec (fun h => ?_) (fun h => ?_)
  · conv=>whnf
    refine ArithG.i64 (by omega) ?_
    conv=>whnf
    refine ArithG.i64' (-(c + 1)) (by omega) (by omega) ?_
    conv=>whnf
    refine SideG.of (by omega) ?_
    conv=>whnf
    rw [if_pos h] at ht
    rw [ht]
    exact ret_here ⟨rfl, rfl⟩
  · conv=>whnf
    refine SideG.of (by omega) ?_
    conv=>whnf
    rw [if_neg h] at ht
    rw [ht]
    exact ret_here ⟨rfl, rfl⟩
def fitD (t : TicketD) : TicketD := ⟨0, (pickN t.ent 1099511627776 : Nat), t.snd, (pickN t.tok 3 : Nat), t.to, if t.amt = z4 then [0, 0, 5, 0] else t.amt⟩
theorem TicketD.set_amt2 {t : TicketD} (h : t.wf) (hz : t.amt = z4) : t.cells.set 45 (.int .u64 5) = { t with amt := [0, 0, 5, 0] }.cells := by
  have hs : (bvs t.snd).length = 20 := by rw [bvs_len, h.snd]
  have ht : (bvs t.to).length = 20 := by rw [bvs_len, h.to]
  simp only [TicketD.cells, List.set_cons_succ, List.cons.injEq, true_and]
  rw [List.set_append_right _ _ (by omega), hs]
  simp only [List.set_cons_succ]
  rw [List.set_append_right _ _ (by omega), ht, hz]
  rfl
theorem upd_hereE {P : Program} {L : List HP} {b o : Nat} {t : TypeId} {cs cs' : List Value} {v : Value} (hl : o < cs.length) (h1 : v.oneCell' = true) (e : cs.set o v = cs') : Upd P (cel b t cs :: L) b o [v] (cel b t cs' :: L) := e ▸ Upd.here hl h1
theorem fit9_spec (F : List HP) (t : TicketD) (ht : t.wf) (e1 : -9223372036854775808 ≤ t.ent) (e2 : t.ent ≤ 9223372036854775807) (k1 : -9223372036854775808 ≤ t.tok) (k2 : t.tok ≤ 9223372036854775807) :
    SpecF Tryd.prog 72 [.agg ⟨t.cells⟩] F [] (fun r L => r = .agg ⟨(fitD t).cells⟩ ∧ L = []) := by
  refine fun72.spec rfl ?_
  conv=>whnf
  intro b1
  conv=>whnf
  intro b2
  conv=>whnf
  obtain ⟨x1, hx1⟩ : ∃ x : TicketD, x = { t with num := 0 } := ⟨_, rfl⟩
  obtain ⟨x2, hx2⟩ : ∃ x : TicketD, x = { x1 with ent := (pickN t.ent 1099511627776 : Nat) } := ⟨_, rfl⟩
  obtain ⟨x3, hx3⟩ : ∃ x : TicketD, x = { x2 with tok := (pickN t.tok 3 : Nat) } := ⟨_, rfl⟩
  have w1 : x1.wf := by rw [hx1]; exact ⟨ht.snd, ht.to, ht.amt⟩
  have w2 : x2.wf := by rw [hx2]; exact ⟨w1.snd, w1.to, w1.amt⟩
  have w3 : x3.wf := by rw [hx3]; exact ⟨w2.snd, w2.to, w2.amt⟩
  have l0 := TicketD.cells_len ht
  have l1 := TicketD.cells_len w1
  have l2 := TicketD.cells_len w2
  have l3 := TicketD.cells_len w3
  have ea : x3.amt = t.amt := by rw [hx3, hx2, hx1]
  have hf47 : (fitD t).cells.length = 47 := TicketD.cells_len ⟨ht.snd, ht.to, by
    show (if t.amt = z4 then [0, 0, 5, 0] else t.amt).length = 4
    split
    · rfl
    · exact ht.amt⟩
  refine StoreG.at rfl (.tl (upd_hereE (cs := t.cells) (cs' := x1.cells) (by rw [l0]; decide) rfl (by rw [hx1]; rfl))) ?_
  conv=>whnf
  refine LoadG.at (v := .int .i64 t.ent) (.tl (.here (by rw [hx1]; rfl))) ?_
  conv=>whnf
  refine CallG.pure (pick9_spec _ t.ent 1099511627776 e1 e2 (by decide)) ?_
  rintro _ _ ⟨rfl, rfl⟩
  conv=>whnf
  refine StoreG.at rfl (.tl (upd_hereE (cs := x1.cells) (cs' := x2.cells) (by rw [l1]; decide) rfl (by rw [hx2]; rfl))) ?_
  conv=>whnf
  refine LoadG.at (v := .int .i64 x2.tok) (.tl (.here (TicketD.tok_at w2))) ?_
  rw [show x2.tok = t.tok by rw [hx2, hx1]]
  conv=>whnf
  refine CallG.pure (pick9_spec _ t.tok 3 k1 k2 (by decide)) ?_
  rintro _ _ ⟨rfl, rfl⟩
  conv=>whnf
  refine StoreG.at rfl (.tl (upd_hereE (cs := x2.cells) (cs' := x3.cells) (by rw [l2]; decide) rfl (by rw [TicketD.set_tok w2, hx3]))) ?_
  conv=>whnf
  refine LoadNG.at (vs := uvs x3.amt) (by rw [uvs_len, w3.amt]) (.tl (.here (TicketD.amt_at w3))) ?_
  conv=>whnf
  refine BuildG.of (cs := uvs z4) rfl ?_
  conv=>whnf
  refine DoesG.eqv 8 (List.replicate 4 (.int .u64)) (by kernel_rfl) (by decide) (by kernel_rfl) (by kernel_rfl) (wt_uvs w3.amt) (wt_uvs rfl) ?_
  conv=>whnf
  refine CondG.split (fun hz => ?_) (fun hz => ?_)
  · have hz0 : x3.amt = z4 := by simpa [uvs_inj] using hz
    have ef : { x3 with amt := [0, 0, 5, 0] } = fitD t := by rw [fitD, if_pos (by rw [← ea]; exact hz0), hx3, hx2, hx1]
    conv=>whnf
    refine SideG.of (by decide) ?_
    conv=>whnf
    refine StoreG.at rfl (.tl (upd_hereE (cs := x3.cells) (cs' := (fitD t).cells) (by rw [l3]; decide) rfl (by rw [← ef]; exact TicketD.set_amt2 w3 hz0))) ?_
    conv=>whnf
    refine LoadNG.at (vs := (fitD t).cells) hf47 (.tl .all) ?_
    conv=>whnf
    refine StoreG.at hf47 (Upd.whole (by rw [hf47]; rfl) (TicketD.cells_one _)) ?_
    conv=>whnf
    refine LoadNG.at (vs := (fitD t).cells) hf47 .all ?_
    conv=>whnf
    exact ⟨[], Ent.nil _, rfl, rfl⟩
  · have hz0 : x3.amt ≠ z4 := fun e => by simp [e] at hz
    have ef : x3 = fitD t := by rw [fitD, if_neg (by rw [← ea]; exact hz0), hx3, hx2, hx1]
    rw [ef]
    conv=>whnf
    refine LoadNG.at (vs := (fitD t).cells) hf47 (.tl .all) ?_
    conv=>whnf
    refine StoreG.at hf47 (Upd.whole (by rw [hf47]; rfl) (TicketD.cells_one _)) ?_
    conv=>whnf
    refine LoadNG.at (vs := (fitD t).cells) hf47 .all ?_
    conv=>whnf
    exact ⟨[], Ent.nil _, rfl, rfl⟩
theorem gskip {l : Bool} {a w R : List Nat} {i c y : Nat} (ha5 : a.length = 5) (hR : R.length = 5) (hw : (w ++ [0]).length = 5) (hi : i < 5) (hRi : R[i]? = some (a[i]'(by omega))) (hy : (w ++ [0])[i]'(by omega) = y) (h1 : c = 1) (h2 : y + 1 = m64)
    (hG : RelG l (valW (a.take i)) (m64 ^ i) c (valW (R.take i)) (valW ((w ++ [0]).take i))) : RelG l (valW (a.take (i + 1))) (m64 ^ (i + 1)) c (valW (R.take (i + 1))) (valW ((w ++ [0]).take (i + 1))) := by
  have e : R[i]'(by omega) = a[i]'(by omega) := by
    have := (List.getElem?_eq_some_iff.1 hRi).2
    exact this
  rw [valW_take (show i < a.length by omega), valW_take (show i < R.length by omega), valW_take (show i < (w ++ [0]).length by omega), hy, e, Nat.pow_succ]
  subst h1
  have hz : ∀ z, z + m64 * 1 = z + y + 1 := fun z => by omega
  exact hG.step (by split <;> exact hz _)
theorem grown_spec (F : List HP) (a w : List Nat) (ha5 : a.length = 5) (hal : ∀ x ∈ a, x < m64) (hw : wOk w) (l : Bool) :
    SpecF Tryd.prog 81 [.agg ⟨uvs a⟩, .agg ⟨uvs w⟩, .bool l] F [] (fun r L => ∃ R c, R.length = 5 ∧ (∀ x ∈ R, x < m64) ∧ RelG l (valW a) (m64 ^ 5) c (valW R) (valW (w ++ [0])) ∧ r = .agg ⟨uvs R⟩ ∧ L = []) := by
  refine fun81.spec rfl ?_
  conv=>whnf
  intro b3
  conv=>whnf
  intro b4
  conv=>whnf
  intro b6
  conv=>whnf
  refine LoopG.mk (fun mm e L => ∃ (i c : Nat) (R : List Nat), i ≤ 5 ∧ c < 2 ∧ mm = 5 - i ∧ R.length = 5 ∧ (∀ x ∈ R, x < m64) ∧ R.drop i = a.drop i ∧ RelG l (valW (a.take i)) (m64 ^ i) c (valW (R.take i)) (valW ((w ++ [0]).take i)) ∧
      e = [(2, .bool l), (3, .pointer (some ⟨b3, 0, none⟩)), (4, .pointer (some ⟨b4, 0, none⟩)), (6, .pointer (some ⟨b6, 0, none⟩)), (7, .int .u64 c), (8, .int .i64 i)] ∧ L = [cel b6 76 (uvs (List.replicate 5 0)), cel b4 25 (uvs w), cel b3 76 (uvs R)]) 5
    [(2, .bool l), (3, .pointer (some ⟨b3, 0, none⟩)), (4, .pointer (some ⟨b4, 0, none⟩)), (6, .pointer (some ⟨b6, 0, none⟩)), (7, .int .u64 0), (8, .int .i64 0)] _ ⟨rfl, rfl, rfl, rfl, rfl, rfl, trivial⟩ (Ent.refl _)
    ⟨0, 0, a, by omega, by decide, rfl, ha5, hal, rfl, by unfold RelG; cases l <;> simp [valW], rfl, rfl⟩ ?_
  rintro mm e L ⟨i, c, R, hi, hc, rfl, hR, hRl, hRd, hG, rfl, rfl⟩
  conv=>whnf
  refine CondG.dec (fun h1 => ?_) (fun h1 => ?_)
  · have hi5 : i < 5 := by omega
    have hai : a[i]? = some a[i] := List.getElem?_eq_getElem (by omega)
    have hRi : R[i]? = some a[i] := by
      have := congrArg (fun l => l[0]?) hRd
      simp only [List.getElem?_drop, Nat.add_zero] at this
      rw [this]
      exact hai
    have hax : a[i] < m64 := hal _ (List.getElem_mem _)
    conv=>whnf
    by_cases h4 : (i : Int) < 4
    · obtain ⟨y, hy0⟩ : ∃ y, y = w[i]'(by rw [hw.len]; omega) := ⟨_, rfl⟩
      have hyl : y < m64 := by rw [hy0]; exact hw.lt _ (List.getElem_mem _)
      have hy : (w ++ [0])[i]'(by rw [List.length_append, hw.len, List.length_singleton]; omega) = y := by rw [hy0]; exact List.getElem_append_left _
      refine CondG.decT h4 ?_
      conv=>whnf
      refine SideG.of (by omega) ?_
      conv=>whnf
      refine LoadG.at (v := .int .u64 y) (.tl (.here (by rw [hy0, uvs, List.getElem?_map, show 0 + ((i : Nat) : Int).toNat * 1 = i by omega, List.getElem?_eq_getElem (by rw [hw.len]; omega)]; rfl))) ?_
      conv=>whnf
      refine ArithG.all ?_
      rw [u64_sum]
      conv=>whnf
      refine CondG.dec (fun hov => ?_) (fun hov => ?_)
      · have hov2 : c = 1 ∧ y + 1 = m64 := by simp only [m64] at *; omega
        conv=>whnf
        refine ArithG.i64' ((i + 1 : Nat) : Int) (by omega) (by omega) ?_
        conv=>whnf
        refine ⟨5 - (i + 1), [(2, .bool l), (3, .pointer (some ⟨b3, 0, none⟩)), (4, .pointer (some ⟨b4, 0, none⟩)), (6, .pointer (some ⟨b6, 0, none⟩)), (7, .int .u64 ((c : Nat) : Int)), (8, .int .i64 ((i + 1 : Nat) : Int))], _, by omega, ⟨rfl, rfl, rfl, rfl, rfl, rfl, trivial⟩, Ent.refl _, i + 1, c, R, by omega, by omega, by omega, ?_, ?_, ?_, ?_, rfl, rfl⟩
        · exact hR
        · exact hRl
        · (have h := congrArg (List.drop 1) hRd; rw [List.drop_drop, List.drop_drop] at h; exact h)
        · exact gskip ha5 hR (by rw [List.length_append, hw.len]; rfl) hi5 hRi hy hov2.1 hov2.2 hG
      · obtain ⟨x, hx⟩ : ∃ x, x = y + c := ⟨_, rfl⟩
        have hxl : x < m64 := by simp only [m64] at *; omega
        have hxm : (y + c) % m64 = x := by rw [hx]; exact Nat.mod_eq_of_lt (by rw [← hx]; exact hxl)
        rw [hxm]
        conv=>whnf
        refine CondG.split (fun hl => ?_) (fun hl => ?_)
        · conv=>whnf
          refine SideG.of (by omega) ?_
          conv=>whnf
          refine LoadG.at (v := .int .u64 a[i]) (.tl (.tl (.here (by rw [uvs, List.getElem?_map, show 0 + ((i : Nat) : Int).toNat * 1 = i by omega, hRi]; rfl)))) ?_
          conv=>whnf
          refine CondG.dec (fun hlt => ?_) (fun hlt => ?_)
          · have hlt2 : a[i] < x := by omega
            conv=>whnf
            refine SideG.of (by omega) ?_
            conv=>whnf
            refine LoadG.at (v := .int .u64 a[i]) (.tl (.tl (.here (by rw [uvs, List.getElem?_map, show 0 + ((i : Nat) : Int).toNat * 1 = i by omega, hRi]; rfl)))) ?_
            conv=>whnf
            refine ArithG.all ?_
            rw [u64_dif _ _ hax hxl, if_pos hlt2]
            obtain ⟨r, hr⟩ : ∃ r : Nat, r = (a[i] + m64 - x) := ⟨_, rfl⟩
            have hrl : r < m64 := by
              rw [hr]
              omega
            rw [← hr]
            have hset : ∀ b : Nat, Upd Tryd.prog [cel b6 76 (uvs (List.replicate 5 0)), cel b4 25 (uvs w), cel b3 76 (uvs R)] b3 i [.int .u64 (r : Int)] [cel b6 76 (uvs (List.replicate 5 0)), cel b4 25 (uvs w), cel b3 76 (uvs (R.set i r))] := fun _ => .tl (.tl (upd_hereE (by rw [uvs_len]; omega) rfl (by rw [uvs, uvs, List.map_set]; rfl)))
            have g1 : (R.set i r).length = 5 := by rw [List.length_set]; exact hR
            have g2 : ∀ x ∈ R.set i r, x < m64 := fun x hx => (List.mem_or_eq_of_mem_set hx).elim (hRl x) fun e => by rw [e]; exact hrl
            have g3 : (R.set i r).drop (i + 1) = a.drop (i + 1) := by
              rw [List.drop_set_of_lt (by omega)]
              have := congrArg (List.drop 1) hRd
              rw [List.drop_drop, List.drop_drop] at this
              exact this
            have g4 : ∀ c' : Nat, (if l = true then a[i] + m64 * c' = r + y + c else r + m64 * c' = a[i] + y + c) → RelG l (valW (a.take (i + 1))) (m64 ^ (i + 1)) c' (valW ((R.set i r).take (i + 1))) (valW ((w ++ [0]).take (i + 1))) := fun c' h => by
              have e1 : (R.set i r).take (i + 1) = R.take i ++ [r] := by
                rw [List.take_succ_eq_append_getElem (by rw [g1]; omega), List.take_set_of_le (Nat.le_refl _), List.getElem_set_self]
              have hb5 : (w ++ [0]).length = 5 := by rw [List.length_append, hw.len]; rfl
              rw [valW_take (show i < a.length by omega), e1, valW_app, List.length_take, Nat.min_eq_left (by omega), valW_take (show i < (w ++ [0]).length by omega), hy]
              have := hG.step h
              rw [Nat.pow_succ]
              simpa [valW] using this
            conv=>whnf
            refine SideG.of (by omega) ?_
            conv=>whnf
            have ei : 0 + ((i : Nat) : Int).toNat * 1 = i := by omega
            rw [ei]
            refine StoreG.at rfl (hset 0) ?_
            conv=>whnf
            refine ArithG.i64' ((i + 1 : Nat) : Int) (by omega) (by omega) ?_
            conv=>whnf
            refine ⟨5 - (i + 1), [(2, .bool l), (3, .pointer (some ⟨b3, 0, none⟩)), (4, .pointer (some ⟨b4, 0, none⟩)), (6, .pointer (some ⟨b6, 0, none⟩)), (7, .int .u64 ((1 : Nat) : Int)), (8, .int .i64 ((i + 1 : Nat) : Int))], _, by omega, ⟨rfl, rfl, rfl, rfl, rfl, rfl, trivial⟩, Ent.refl _, i + 1, 1, (R.set i r), by omega, by omega, by omega, ?_, ?_, ?_, ?_, rfl, rfl⟩
            · exact g1
            · exact g2
            · exact g3
            · exact g4 1 (by rw [if_pos hl]; omega)
          · have hlt2 : ¬ a[i] < x := by omega
            conv=>whnf
            refine SideG.of (by omega) ?_
            conv=>whnf
            refine LoadG.at (v := .int .u64 a[i]) (.tl (.tl (.here (by rw [uvs, List.getElem?_map, show 0 + ((i : Nat) : Int).toNat * 1 = i by omega, hRi]; rfl)))) ?_
            conv=>whnf
            refine ArithG.all ?_
            rw [u64_dif _ _ hax hxl, if_neg hlt2]
            obtain ⟨r, hr⟩ : ∃ r : Nat, r = (a[i] - x) := ⟨_, rfl⟩
            have hrl : r < m64 := by
              rw [hr]
              omega
            rw [← hr]
            have hset : ∀ b : Nat, Upd Tryd.prog [cel b6 76 (uvs (List.replicate 5 0)), cel b4 25 (uvs w), cel b3 76 (uvs R)] b3 i [.int .u64 (r : Int)] [cel b6 76 (uvs (List.replicate 5 0)), cel b4 25 (uvs w), cel b3 76 (uvs (R.set i r))] := fun _ => .tl (.tl (upd_hereE (by rw [uvs_len]; omega) rfl (by rw [uvs, uvs, List.map_set]; rfl)))
            have g1 : (R.set i r).length = 5 := by rw [List.length_set]; exact hR
            have g2 : ∀ x ∈ R.set i r, x < m64 := fun x hx => (List.mem_or_eq_of_mem_set hx).elim (hRl x) fun e => by rw [e]; exact hrl
            have g3 : (R.set i r).drop (i + 1) = a.drop (i + 1) := by
              rw [List.drop_set_of_lt (by omega)]
              have := congrArg (List.drop 1) hRd
              rw [List.drop_drop, List.drop_drop] at this
              exact this
            have g4 : ∀ c' : Nat, (if l = true then a[i] + m64 * c' = r + y + c else r + m64 * c' = a[i] + y + c) → RelG l (valW (a.take (i + 1))) (m64 ^ (i + 1)) c' (valW ((R.set i r).take (i + 1))) (valW ((w ++ [0]).take (i + 1))) := fun c' h => by
              have e1 : (R.set i r).take (i + 1) = R.take i ++ [r] := by
                rw [List.take_succ_eq_append_getElem (by rw [g1]; omega), List.take_set_of_le (Nat.le_refl _), List.getElem_set_self]
              have hb5 : (w ++ [0]).length = 5 := by rw [List.length_append, hw.len]; rfl
              rw [valW_take (show i < a.length by omega), e1, valW_app, List.length_take, Nat.min_eq_left (by omega), valW_take (show i < (w ++ [0]).length by omega), hy]
              have := hG.step h
              rw [Nat.pow_succ]
              simpa [valW] using this
            conv=>whnf
            refine SideG.of (by omega) ?_
            conv=>whnf
            have ei : 0 + ((i : Nat) : Int).toNat * 1 = i := by omega
            rw [ei]
            refine StoreG.at rfl (hset 0) ?_
            conv=>whnf
            refine ArithG.i64' ((i + 1 : Nat) : Int) (by omega) (by omega) ?_
            conv=>whnf
            refine ⟨5 - (i + 1), [(2, .bool l), (3, .pointer (some ⟨b3, 0, none⟩)), (4, .pointer (some ⟨b4, 0, none⟩)), (6, .pointer (some ⟨b6, 0, none⟩)), (7, .int .u64 ((0 : Nat) : Int)), (8, .int .i64 ((i + 1 : Nat) : Int))], _, by omega, ⟨rfl, rfl, rfl, rfl, rfl, rfl, trivial⟩, Ent.refl _, i + 1, 0, (R.set i r), by omega, by omega, by omega, ?_, ?_, ?_, ?_, rfl, rfl⟩
            · exact g1
            · exact g2
            · exact g3
            · exact g4 0 (by rw [if_pos hl]; omega)
        · conv=>whnf
          refine SideG.of (by omega) ?_
          conv=>whnf
          refine LoadG.at (v := .int .u64 a[i]) (.tl (.tl (.here (by rw [uvs, List.getElem?_map, show 0 + ((i : Nat) : Int).toNat * 1 = i by omega, hRi]; rfl)))) ?_
          conv=>whnf
          refine ArithG.all ?_
          rw [u64_sum]
          obtain ⟨r, hr⟩ : ∃ r : Nat, r = ((a[i] + x) % m64) := ⟨_, rfl⟩
          have hrl : r < m64 := by
            rw [hr]
            exact Nat.mod_lt _ (by decide)
          rw [← hr]
          have hset : ∀ b : Nat, Upd Tryd.prog [cel b6 76 (uvs (List.replicate 5 0)), cel b4 25 (uvs w), cel b3 76 (uvs R)] b3 i [.int .u64 (r : Int)] [cel b6 76 (uvs (List.replicate 5 0)), cel b4 25 (uvs w), cel b3 76 (uvs (R.set i r))] := fun _ => .tl (.tl (upd_hereE (by rw [uvs_len]; omega) rfl (by rw [uvs, uvs, List.map_set]; rfl)))
          have g1 : (R.set i r).length = 5 := by rw [List.length_set]; exact hR
          have g2 : ∀ x ∈ R.set i r, x < m64 := fun x hx => (List.mem_or_eq_of_mem_set hx).elim (hRl x) fun e => by rw [e]; exact hrl
          have g3 : (R.set i r).drop (i + 1) = a.drop (i + 1) := by
            rw [List.drop_set_of_lt (by omega)]
            have := congrArg (List.drop 1) hRd
            rw [List.drop_drop, List.drop_drop] at this
            exact this
          have g4 : ∀ c' : Nat, (if l = true then a[i] + m64 * c' = r + y + c else r + m64 * c' = a[i] + y + c) → RelG l (valW (a.take (i + 1))) (m64 ^ (i + 1)) c' (valW ((R.set i r).take (i + 1))) (valW ((w ++ [0]).take (i + 1))) := fun c' h => by
            have e1 : (R.set i r).take (i + 1) = R.take i ++ [r] := by
              rw [List.take_succ_eq_append_getElem (by rw [g1]; omega), List.take_set_of_le (Nat.le_refl _), List.getElem_set_self]
            have hb5 : (w ++ [0]).length = 5 := by rw [List.length_append, hw.len]; rfl
            rw [valW_take (show i < a.length by omega), e1, valW_app, List.length_take, Nat.min_eq_left (by omega), valW_take (show i < (w ++ [0]).length by omega), hy]
            have := hG.step h
            rw [Nat.pow_succ]
            simpa [valW] using this
          conv=>whnf
          refine SideG.of (by omega) ?_
          conv=>whnf
          have ei : 0 + ((i : Nat) : Int).toNat * 1 = i := by omega
          rw [ei]
          refine StoreG.at rfl (hset 0) ?_
          conv=>whnf
          refine SideG.of (by omega) ?_
          conv=>whnf
          refine LoadG.at (v := .int .u64 r) (.tl (.tl (.here (by rw [uvs, List.getElem?_map, show 0 + ((i : Nat) : Int).toNat * 1 = i by omega, List.getElem?_set_self (by omega)]; rfl)))) ?_
          conv=>whnf
          refine CondG.dec (fun hlt => ?_) (fun hlt => ?_)
          · conv=>whnf
            refine ArithG.i64' ((i + 1 : Nat) : Int) (by omega) (by omega) ?_
            conv=>whnf
            refine ⟨5 - (i + 1), [(2, .bool l), (3, .pointer (some ⟨b3, 0, none⟩)), (4, .pointer (some ⟨b4, 0, none⟩)), (6, .pointer (some ⟨b6, 0, none⟩)), (7, .int .u64 ((1 : Nat) : Int)), (8, .int .i64 ((i + 1 : Nat) : Int))], _, by omega, ⟨rfl, rfl, rfl, rfl, rfl, rfl, trivial⟩, Ent.refl _, i + 1, 1, (R.set i r), by omega, by omega, by omega, ?_, ?_, ?_, ?_, rfl, rfl⟩
            · exact g1
            · exact g2
            · exact g3
            · exact g4 1 (by rw [if_neg (by rw [hl]; decide)]; simp only [m64] at *; omega)
          · conv=>whnf
            refine ArithG.i64' ((i + 1 : Nat) : Int) (by omega) (by omega) ?_
            conv=>whnf
            refine ⟨5 - (i + 1), [(2, .bool l), (3, .pointer (some ⟨b3, 0, none⟩)), (4, .pointer (some ⟨b4, 0, none⟩)), (6, .pointer (some ⟨b6, 0, none⟩)), (7, .int .u64 ((0 : Nat) : Int)), (8, .int .i64 ((i + 1 : Nat) : Int))], _, by omega, ⟨rfl, rfl, rfl, rfl, rfl, rfl, trivial⟩, Ent.refl _, i + 1, 0, (R.set i r), by omega, by omega, by omega, ?_, ?_, ?_, ?_, rfl, rfl⟩
            · exact g1
            · exact g2
            · exact g3
            · exact g4 0 (by rw [if_neg (by rw [hl]; decide)]; simp only [m64] at *; omega)
    · obtain ⟨y, hy0⟩ : ∃ y, y = 0 := ⟨_, rfl⟩
      have hy : (w ++ [0])[i]'(by rw [List.length_append, hw.len, List.length_singleton]; omega) = y := by
        have e : i = w.length := by rw [hw.len]; omega
        subst e
        rw [hy0]
        simp
      refine CondG.decF h4 ?_
      obtain ⟨x, hx⟩ : ∃ x, x = y + c := ⟨_, rfl⟩
      have hxc : x = c := by omega
      have hxl : x < m64 := by simp only [m64]; omega
      rw [← hxc]
      conv=>whnf
      refine CondG.split (fun hl => ?_) (fun hl => ?_)
      · conv=>whnf
        refine SideG.of (by omega) ?_
        conv=>whnf
        refine LoadG.at (v := .int .u64 a[i]) (.tl (.tl (.here (by rw [uvs, List.getElem?_map, show 0 + ((i : Nat) : Int).toNat * 1 = i by omega, hRi]; rfl)))) ?_
        conv=>whnf
        refine CondG.dec (fun hlt => ?_) (fun hlt => ?_)
        · have hlt2 : a[i] < x := by omega
          conv=>whnf
          refine SideG.of (by omega) ?_
          conv=>whnf
          refine LoadG.at (v := .int .u64 a[i]) (.tl (.tl (.here (by rw [uvs, List.getElem?_map, show 0 + ((i : Nat) : Int).toNat * 1 = i by omega, hRi]; rfl)))) ?_
          conv=>whnf
          refine ArithG.all ?_
          rw [u64_dif _ _ hax hxl, if_pos hlt2]
          obtain ⟨r, hr⟩ : ∃ r : Nat, r = (a[i] + m64 - x) := ⟨_, rfl⟩
          have hrl : r < m64 := by
            rw [hr]
            omega
          rw [← hr]
          have hset : ∀ b : Nat, Upd Tryd.prog [cel b6 76 (uvs (List.replicate 5 0)), cel b4 25 (uvs w), cel b3 76 (uvs R)] b3 i [.int .u64 (r : Int)] [cel b6 76 (uvs (List.replicate 5 0)), cel b4 25 (uvs w), cel b3 76 (uvs (R.set i r))] := fun _ => .tl (.tl (upd_hereE (by rw [uvs_len]; omega) rfl (by rw [uvs, uvs, List.map_set]; rfl)))
          have g1 : (R.set i r).length = 5 := by rw [List.length_set]; exact hR
          have g2 : ∀ x ∈ R.set i r, x < m64 := fun x hx => (List.mem_or_eq_of_mem_set hx).elim (hRl x) fun e => by rw [e]; exact hrl
          have g3 : (R.set i r).drop (i + 1) = a.drop (i + 1) := by
            rw [List.drop_set_of_lt (by omega)]
            have := congrArg (List.drop 1) hRd
            rw [List.drop_drop, List.drop_drop] at this
            exact this
          have g4 : ∀ c' : Nat, (if l = true then a[i] + m64 * c' = r + y + c else r + m64 * c' = a[i] + y + c) → RelG l (valW (a.take (i + 1))) (m64 ^ (i + 1)) c' (valW ((R.set i r).take (i + 1))) (valW ((w ++ [0]).take (i + 1))) := fun c' h => by
            have e1 : (R.set i r).take (i + 1) = R.take i ++ [r] := by
              rw [List.take_succ_eq_append_getElem (by rw [g1]; omega), List.take_set_of_le (Nat.le_refl _), List.getElem_set_self]
            have hb5 : (w ++ [0]).length = 5 := by rw [List.length_append, hw.len]; rfl
            rw [valW_take (show i < a.length by omega), e1, valW_app, List.length_take, Nat.min_eq_left (by omega), valW_take (show i < (w ++ [0]).length by omega), hy]
            have := hG.step h
            rw [Nat.pow_succ]
            simpa [valW] using this
          conv=>whnf
          refine SideG.of (by omega) ?_
          conv=>whnf
          have ei : 0 + ((i : Nat) : Int).toNat * 1 = i := by omega
          rw [ei]
          refine StoreG.at rfl (hset 0) ?_
          conv=>whnf
          refine ArithG.i64' ((i + 1 : Nat) : Int) (by omega) (by omega) ?_
          conv=>whnf
          refine ⟨5 - (i + 1), [(2, .bool l), (3, .pointer (some ⟨b3, 0, none⟩)), (4, .pointer (some ⟨b4, 0, none⟩)), (6, .pointer (some ⟨b6, 0, none⟩)), (7, .int .u64 ((1 : Nat) : Int)), (8, .int .i64 ((i + 1 : Nat) : Int))], _, by omega, ⟨rfl, rfl, rfl, rfl, rfl, rfl, trivial⟩, Ent.refl _, i + 1, 1, (R.set i r), by omega, by omega, by omega, ?_, ?_, ?_, ?_, rfl, rfl⟩
          · exact g1
          · exact g2
          · exact g3
          · exact g4 1 (by rw [if_pos hl]; omega)
        · have hlt2 : ¬ a[i] < x := by omega
          conv=>whnf
          refine SideG.of (by omega) ?_
          conv=>whnf
          refine LoadG.at (v := .int .u64 a[i]) (.tl (.tl (.here (by rw [uvs, List.getElem?_map, show 0 + ((i : Nat) : Int).toNat * 1 = i by omega, hRi]; rfl)))) ?_
          conv=>whnf
          refine ArithG.all ?_
          rw [u64_dif _ _ hax hxl, if_neg hlt2]
          obtain ⟨r, hr⟩ : ∃ r : Nat, r = (a[i] - x) := ⟨_, rfl⟩
          have hrl : r < m64 := by
            rw [hr]
            omega
          rw [← hr]
          have hset : ∀ b : Nat, Upd Tryd.prog [cel b6 76 (uvs (List.replicate 5 0)), cel b4 25 (uvs w), cel b3 76 (uvs R)] b3 i [.int .u64 (r : Int)] [cel b6 76 (uvs (List.replicate 5 0)), cel b4 25 (uvs w), cel b3 76 (uvs (R.set i r))] := fun _ => .tl (.tl (upd_hereE (by rw [uvs_len]; omega) rfl (by rw [uvs, uvs, List.map_set]; rfl)))
          have g1 : (R.set i r).length = 5 := by rw [List.length_set]; exact hR
          have g2 : ∀ x ∈ R.set i r, x < m64 := fun x hx => (List.mem_or_eq_of_mem_set hx).elim (hRl x) fun e => by rw [e]; exact hrl
          have g3 : (R.set i r).drop (i + 1) = a.drop (i + 1) := by
            rw [List.drop_set_of_lt (by omega)]
            have := congrArg (List.drop 1) hRd
            rw [List.drop_drop, List.drop_drop] at this
            exact this
          have g4 : ∀ c' : Nat, (if l = true then a[i] + m64 * c' = r + y + c else r + m64 * c' = a[i] + y + c) → RelG l (valW (a.take (i + 1))) (m64 ^ (i + 1)) c' (valW ((R.set i r).take (i + 1))) (valW ((w ++ [0]).take (i + 1))) := fun c' h => by
            have e1 : (R.set i r).take (i + 1) = R.take i ++ [r] := by
              rw [List.take_succ_eq_append_getElem (by rw [g1]; omega), List.take_set_of_le (Nat.le_refl _), List.getElem_set_self]
            have hb5 : (w ++ [0]).length = 5 := by rw [List.length_append, hw.len]; rfl
            rw [valW_take (show i < a.length by omega), e1, valW_app, List.length_take, Nat.min_eq_left (by omega), valW_take (show i < (w ++ [0]).length by omega), hy]
            have := hG.step h
            rw [Nat.pow_succ]
            simpa [valW] using this
          conv=>whnf
          refine SideG.of (by omega) ?_
          conv=>whnf
          have ei : 0 + ((i : Nat) : Int).toNat * 1 = i := by omega
          rw [ei]
          refine StoreG.at rfl (hset 0) ?_
          conv=>whnf
          refine ArithG.i64' ((i + 1 : Nat) : Int) (by omega) (by omega) ?_
          conv=>whnf
          refine ⟨5 - (i + 1), [(2, .bool l), (3, .pointer (some ⟨b3, 0, none⟩)), (4, .pointer (some ⟨b4, 0, none⟩)), (6, .pointer (some ⟨b6, 0, none⟩)), (7, .int .u64 ((0 : Nat) : Int)), (8, .int .i64 ((i + 1 : Nat) : Int))], _, by omega, ⟨rfl, rfl, rfl, rfl, rfl, rfl, trivial⟩, Ent.refl _, i + 1, 0, (R.set i r), by omega, by omega, by omega, ?_, ?_, ?_, ?_, rfl, rfl⟩
          · exact g1
          · exact g2
          · exact g3
          · exact g4 0 (by rw [if_pos hl]; omega)
      · conv=>whnf
        refine SideG.of (by omega) ?_
        conv=>whnf
        refine LoadG.at (v := .int .u64 a[i]) (.tl (.tl (.here (by rw [uvs, List.getElem?_map, show 0 + ((i : Nat) : Int).toNat * 1 = i by omega, hRi]; rfl)))) ?_
        conv=>whnf
        refine ArithG.all ?_
        rw [u64_sum]
        obtain ⟨r, hr⟩ : ∃ r : Nat, r = ((a[i] + x) % m64) := ⟨_, rfl⟩
        have hrl : r < m64 := by
          rw [hr]
          exact Nat.mod_lt _ (by decide)
        rw [← hr]
        have hset : ∀ b : Nat, Upd Tryd.prog [cel b6 76 (uvs (List.replicate 5 0)), cel b4 25 (uvs w), cel b3 76 (uvs R)] b3 i [.int .u64 (r : Int)] [cel b6 76 (uvs (List.replicate 5 0)), cel b4 25 (uvs w), cel b3 76 (uvs (R.set i r))] := fun _ => .tl (.tl (upd_hereE (by rw [uvs_len]; omega) rfl (by rw [uvs, uvs, List.map_set]; rfl)))
        have g1 : (R.set i r).length = 5 := by rw [List.length_set]; exact hR
        have g2 : ∀ x ∈ R.set i r, x < m64 := fun x hx => (List.mem_or_eq_of_mem_set hx).elim (hRl x) fun e => by rw [e]; exact hrl
        have g3 : (R.set i r).drop (i + 1) = a.drop (i + 1) := by
          rw [List.drop_set_of_lt (by omega)]
          have := congrArg (List.drop 1) hRd
          rw [List.drop_drop, List.drop_drop] at this
          exact this
        have g4 : ∀ c' : Nat, (if l = true then a[i] + m64 * c' = r + y + c else r + m64 * c' = a[i] + y + c) → RelG l (valW (a.take (i + 1))) (m64 ^ (i + 1)) c' (valW ((R.set i r).take (i + 1))) (valW ((w ++ [0]).take (i + 1))) := fun c' h => by
          have e1 : (R.set i r).take (i + 1) = R.take i ++ [r] := by
            rw [List.take_succ_eq_append_getElem (by rw [g1]; omega), List.take_set_of_le (Nat.le_refl _), List.getElem_set_self]
          have hb5 : (w ++ [0]).length = 5 := by rw [List.length_append, hw.len]; rfl
          rw [valW_take (show i < a.length by omega), e1, valW_app, List.length_take, Nat.min_eq_left (by omega), valW_take (show i < (w ++ [0]).length by omega), hy]
          have := hG.step h
          rw [Nat.pow_succ]
          simpa [valW] using this
        conv=>whnf
        refine SideG.of (by omega) ?_
        conv=>whnf
        have ei : 0 + ((i : Nat) : Int).toNat * 1 = i := by omega
        rw [ei]
        refine StoreG.at rfl (hset 0) ?_
        conv=>whnf
        refine SideG.of (by omega) ?_
        conv=>whnf
        refine LoadG.at (v := .int .u64 r) (.tl (.tl (.here (by rw [uvs, List.getElem?_map, show 0 + ((i : Nat) : Int).toNat * 1 = i by omega, List.getElem?_set_self (by omega)]; rfl)))) ?_
        conv=>whnf
        refine CondG.dec (fun hlt => ?_) (fun hlt => ?_)
        · conv=>whnf
          refine ArithG.i64' ((i + 1 : Nat) : Int) (by omega) (by omega) ?_
          conv=>whnf
          refine ⟨5 - (i + 1), [(2, .bool l), (3, .pointer (some ⟨b3, 0, none⟩)), (4, .pointer (some ⟨b4, 0, none⟩)), (6, .pointer (some ⟨b6, 0, none⟩)), (7, .int .u64 ((1 : Nat) : Int)), (8, .int .i64 ((i + 1 : Nat) : Int))], _, by omega, ⟨rfl, rfl, rfl, rfl, rfl, rfl, trivial⟩, Ent.refl _, i + 1, 1, (R.set i r), by omega, by omega, by omega, ?_, ?_, ?_, ?_, rfl, rfl⟩
          · exact g1
          · exact g2
          · exact g3
          · exact g4 1 (by rw [if_neg (by rw [hl]; decide)]; simp only [m64] at *; omega)
        · conv=>whnf
          refine ArithG.i64' ((i + 1 : Nat) : Int) (by omega) (by omega) ?_
          conv=>whnf
          refine ⟨5 - (i + 1), [(2, .bool l), (3, .pointer (some ⟨b3, 0, none⟩)), (4, .pointer (some ⟨b4, 0, none⟩)), (6, .pointer (some ⟨b6, 0, none⟩)), (7, .int .u64 ((0 : Nat) : Int)), (8, .int .i64 ((i + 1 : Nat) : Int))], _, by omega, ⟨rfl, rfl, rfl, rfl, rfl, rfl, trivial⟩, Ent.refl _, i + 1, 0, (R.set i r), by omega, by omega, by omega, ?_, ?_, ?_, ?_, rfl, rfl⟩
          · exact g1
          · exact g2
          · exact g3
          · exact g4 0 (by rw [if_neg (by rw [hl]; decide)]; simp only [m64] at *; omega)
  · have hi5 : i = 5 := by omega
    rw [hi5, List.take_of_length_le (by omega), List.take_of_length_le (by omega), List.take_of_length_le (by rw [List.length_append, hw.len]; decide)] at hG
    have r5 : (uvs R).length = 5 := by rw [uvs_len, hR]
    conv=>whnf
    refine LoadNG.at (vs := uvs R) r5 (.tl (.tl .all)) ?_
    conv=>whnf
    refine StoreG.at r5 (Upd.whole (by rw [r5]; rfl) (uvs_one _)) ?_
    conv=>whnf
    refine LoadNG.at (vs := uvs R) r5 .all ?_
    conv=>whnf
    exact ⟨[], Ent.nil _, R, c, hR, hRl, hG, rfl, rfl⟩
end Go.Proofs.YtnbcbdlbejdkpaaDoor
namespace Go.Proofs.YtnbcbdlbejdkpaaDoor
open Go Go.Sl
theorem ticketsT : ElT Tryd.prog 75 82 47 104 := .of (by kernel_rfl)
theorem boolsT : ElT Tryd.prog 73 4 1 1 := .of (by kernel_rfl)
def bls (cl : List Bool) : List Value := cl.map Value.bool
theorem bls_len (cl : List Bool) : (bls cl).length = cl.length := by simp [bls]
theorem bls_get {cl : List Bool} {i : Nat} {b : Bool} (h : cl[i]? = some b) : (bls cl)[i]? = some (.bool b) := by simp [bls, h]
def hcells (s : Nat) (opv clv : Value) (all : Nat → Nat) : List Value := .pointer (some ⟨s, 0, none⟩) :: opv :: clv :: (uvs (w5 (all 0)) ++ (uvs (w5 (all 1)) ++ uvs (w5 (all 2))))
def isOpen (op : List TicketD) (cl : List Bool) (n : Int) : Bool := decide (1 ≤ n ∧ n ≤ op.length) && !(cl.getD (n - 1).toNat true)
theorem hopen_spec (F : List HP) (h s : Nat) (opv clv : Value) (all : Nat → Nat) (op : List TicketD) (cl : List Bool) (hlen : cl.length = op.length) (hc : CelN F h 0 (hcells s opv clv all)) (ho : RdS F opv op.length (op.flatMap TicketD.cells)) (hb : RdS F clv cl.length (bls cl))
    (hl : op.length ≤ 1099511627776) (n : Int) (h1 : -9223372036854775808 ≤ n) (h2 : n ≤ 9223372036854775807) :
    SpecF Tryd.prog 77 [.pointer (some ⟨h, 0, none⟩), .int .i64 n] F [] (fun r L => r = .bool (isOpen op cl n) ∧ L = []) := by
  refine fun77.spec rfl ?_
  conv=>whnf
  refine CondG.dec (fun k1 => ?_) (fun k1 => ?_)
  · (conv=>whnf); repeat ((with_reducible first | refine .tt ?_ | refine .ff ?_ | refine .ntt ?_ | refine .nff ?_); conv=>whnf)
    refine LoadG.atF (hc.one (i := 1) rfl) ?_
    (conv=>whnf); repeat ((with_reducible first | refine .tt ?_ | refine .ff ?_ | refine .ntt ?_ | refine .nff ?_); conv=>whnf)
    refine LenG.rd ho ?_
    (conv=>whnf); repeat ((with_reducible first | refine .tt ?_ | refine .ff ?_ | refine .ntt ?_ | refine .nff ?_); conv=>whnf)
    refine CondG.dec (fun k2 => ?_) (fun k2 => ?_)
    · obtain ⟨k, hk⟩ : ∃ k : Nat, n - 1 = k := ⟨(n - 1).toNat, by omega⟩
      have hkl : k < cl.length := by omega
      have e : isOpen op cl n = !cl[k] := by
        unfold isOpen
        rw [decide_eq_true (by omega), show (n - 1).toNat = k by omega]
        simp [List.getD, hkl]
      rw [e]
      (conv=>whnf); repeat ((with_reducible first | refine .tt ?_ | refine .ff ?_ | refine .ntt ?_ | refine .nff ?_); conv=>whnf)
      refine LoadG.atF (hc.one (i := 2) rfl) ?_
      (conv=>whnf); repeat ((with_reducible first | refine .tt ?_ | refine .ff ?_ | refine .ntt ?_ | refine .nff ?_); conv=>whnf)
      refine ArithG.i64' (k : Int) hk (by omega) ?_
      (conv=>whnf); repeat ((with_reducible first | refine .tt ?_ | refine .ff ?_ | refine .ntt ?_ | refine .nff ?_); conv=>whnf)
      refine IdxG.rd hb (by omega) fun cb o hcc => ?_
      (conv=>whnf); repeat ((with_reducible first | refine .tt ?_ | refine .ff ?_ | refine .ntt ?_ | refine .nff ?_); conv=>whnf)
      refine LoadG.atF (v := .bool cl[k]) (hcc.one (i := ((k : Nat) : Int).toNat * 1) (by rw [Int.toNat_natCast, Nat.mul_one]; exact bls_get (List.getElem?_eq_getElem hkl))) ?_
      (conv=>whnf); repeat ((with_reducible first | refine .tt ?_ | refine .ff ?_ | refine .ntt ?_ | refine .nff ?_); conv=>whnf)
      exact ret_here ⟨rfl, rfl⟩
    · have e : isOpen op cl n = false := by
        unfold isOpen
        rw [decide_eq_false (by omega)]
        rfl
      rw [e]
      (conv=>whnf); repeat ((with_reducible first | refine .tt ?_ | refine .ff ?_ | refine .ntt ?_ | refine .nff ?_); conv=>whnf)
      exact ret_here ⟨rfl, rfl⟩
  · have e : isOpen op cl n = false := by
      unfold isOpen
      rw [decide_eq_false (by omega)]
      rfl
    rw [e]
    (conv=>whnf); repeat ((with_reducible first | refine .tt ?_ | refine .ff ?_ | refine .ntt ?_ | refine .nff ?_); conv=>whnf)
    exact ret_here ⟨rfl, rfl⟩
def numB (len : Nat) (n : Int) : Int := if len = 0 ∨ pickN n 7 = 0 then n else ((1 + pickN n len : Nat) : Int)
theorem hnumber_spec (F : List HP) (h s : Nat) (opv clv : Value) (all : Nat → Nat) (op : List TicketD) (hc : CelN F h 0 (hcells s opv clv all)) (ho : RdS F opv op.length (op.flatMap TicketD.cells))
    (hl : op.length ≤ 1099511627776) (n : Int) (h1 : -9223372036854775808 ≤ n) (h2 : n ≤ 9223372036854775807) :
    SpecF Tryd.prog 73 [.pointer (some ⟨h, 0, none⟩), .int .i64 n] F [] (fun r L => r = .int .i64 (numB op.length n) ∧ L = []) := by
  refine fun73.spec rfl ?_
  conv=>whnf
  refine LoadG.atF (hc.one (i := 1) rfl) ?_
  conv=>whnf
  refine LenG.rd ho ?_
  conv=>whnf
  refine CondG.dec (fun k1 => ?_) (fun k1 => ?_)
  · have e : numB op.length n = n := by unfold numB; rw [if_pos (.inl (by omega))]
    rw [e]
    (conv=>whnf); repeat ((with_reducible first | refine .tt ?_ | refine .ff ?_ | refine .ntt ?_ | refine .nff ?_); conv=>whnf)
    exact ret_here ⟨rfl, rfl⟩
  · (conv=>whnf); repeat ((with_reducible first | refine .tt ?_ | refine .ff ?_ | refine .ntt ?_ | refine .nff ?_); conv=>whnf)
    refine CallG.pure (pick9_spec _ n 7 h1 h2 (by decide)) ?_
    rintro _ _ ⟨rfl, rfl⟩
    (conv=>whnf); repeat ((with_reducible first | refine .tt ?_ | refine .ff ?_ | refine .ntt ?_ | refine .nff ?_); conv=>whnf)
    refine CondG.dec (fun k2 => ?_) (fun k2 => ?_)
    · have e : numB op.length n = n := by unfold numB; rw [if_pos (.inr (by omega))]
      rw [e]
      conv=>whnf
      exact ret_here ⟨rfl, rfl⟩
    · have e : numB op.length n = ((1 + pickN n op.length : Nat) : Int) := by unfold numB; rw [if_neg (by omega)]
      have hlt : pickN n op.length < op.length := pickN_lt _ (by omega)
      rw [e]
      conv=>whnf
      refine LoadG.atF (hc.one (i := 1) rfl) ?_
      conv=>whnf
      refine LenG.rd ho ?_
      conv=>whnf
      refine CallG.pure (pick9_spec _ n op.length h1 h2 (by omega)) ?_
      rintro _ _ ⟨rfl, rfl⟩
      conv=>whnf
      refine ArithG.i64' ((1 + pickN n op.length : Nat) : Int) (by omega) (by omega) ?_
      conv=>whnf
      exact ret_here ⟨rfl, rfl⟩
theorem fill_oneT {z m : List Value} {n : Nat} (hm : m.length = n) (hz : z.length = n) : fillL z [(0, n, .agg ⟨m⟩)] = some m := by
  have e1 := fill_part (a := []) (m := z) (m' := m) (c := []) (v := .agg ⟨m⟩) (ps := []) (off := 0) (n := n) rfl hz rfl hm
  rw [List.append_nil, List.append_nil, List.nil_append, List.nil_append] at e1
  exact e1.trans rfl
theorem hc_at (s : Nat) (opv clv : Value) (all : Nat → Nat) {k : Nat} (hk : k < 3) : ((hcells s opv clv all).drop (3 + k * 5)).take (uvs (w5 (all k))).length = uvs (w5 (all k)) := by
  rcases (show k = 0 ∨ k = 1 ∨ k = 2 by omega) with rfl | rfl | rfl <;> rfl
theorem hc_set (s : Nat) (opv clv : Value) (all al : Nat → Nat) {k v : Nat} (hk : k < 3) (h1 : al k = v) (h2 : ∀ t, t ≠ k → al t = all t) :
    (hcells s opv clv all).take (3 + k * 5) ++ uvs (w5 v) ++ (hcells s opv clv all).drop (3 + k * 5 + (uvs (w5 v)).length) = hcells s opv clv al := by
  rcases (show k = 0 ∨ k = 1 ∨ k = 2 by omega) with rfl | rfl | rfl
  · rw [hcells, hcells, h2 1 (by decide), h2 2 (by decide), h1]; rfl
  · rw [hcells, hcells, h2 0 (by decide), h2 2 (by decide), h1]; rfl
  · rw [hcells, hcells, h2 0 (by decide), h2 1 (by decide), h1]; rfl
theorem hcells_len (s : Nat) (opv clv : Value) (all : Nat → Nat) : (hcells s opv clv all).length = 18 := rfl
def HL (T Th h s : Nat) (src : Value) (find : ByteArray → List Nat × Int) (V : View) (n : Nat) (op : List TicketD) (cl : List Bool) (all : Nat → Nat) (opv clv : Value) : List HP :=
  [stP T s src find V n, cel h Th (hcells s opv clv all), own 47 opv op.length (op.flatMap TicketD.cells), own 1 clv cl.length (bls cl)]
theorem keep_made {W : List (List Nat)} {V : View} {m : Md} {op : List TicketD} {cl : List Bool} {all : Nat → Nat} (h : KeepI W V m op cl all) (hl : op.length ≤ 1099511627776) : madeR (V ntK) = ((op.length : Int), 0) := by
  rw [h.made]
  split
  · rename_i e; rw [e]; rfl
  · exact madeR_be (by omega) hl
theorem keep_allLt {W : List (List Nat)} {V : View} {m : Md} {op : List TicketD} {cl : List Bool} {all : Nat → Nat} (h : KeepI W V m op cl all) (hl : op.length ≤ 1099511627776) {t : Nat} (ht : t < 3) : all t + m256 < m320 := by
  have h1 := openAmt_le t op cl fun d hd => by
    obtain ⟨i, hi⟩ := List.getElem?_of_mem hd
    exact (h.good i d hi).1.amt
  have h2 := h.inv.lt t (by omega)
  have h3 : op.length * m256 ≤ 1099511627776 * m256 := Nat.mul_le_mul_right _ hl
  have h4 : m320 = 18446744073709551616 * m256 := by decide
  rw [h.sums t ht, h4]
  omega
section
variable {find : ByteArray → List Nat × Int}
theorem hopens_at (F : List HP) (h s : Nat) (src : Value) (V : View) (n : Nat) (op : List TicketD) (cl : List Bool) (all : Nat → Nat) (opv clv : Value) {W : List (List Nat)} {m : Md} (hI : KeepI W V m op cl all) (hs : SrcG Tryd.prog F src find) (ho : SrcOk find)
    (hov : SlV opv op.length) (hcv : SlV clv cl.length) (hn : n ≤ 549755813888) (hop : op.length ≤ 1073741824) (t : TicketD) (hg : GoodT W t) (hnum : t.num = 0) :
    SpecF Tryd.prog 75 [.pointer (some ⟨h, 0, none⟩), .agg ⟨t.cells⟩] F (HL 127 79 h s src find V n op cl all opv clv) (fun r L => r = .bool true ∧ ∃ U op' cl' all' opv' clv', KeepI W U m op' cl' all' ∧ SlV opv' op'.length ∧ SlV clv' cl'.length ∧ op'.length ≤ op.length + 1 ∧ L = HL 127 79 h s src find U (n + 2) op' cl' all' opv' clv') := by
  have l47 := TicketD.cells_len hg.wf
  obtain ⟨d, hd⟩ : ∃ d : TicketD, d = { t with num := ((op.length + 1 : Nat) : Int) } := ⟨_, rfl⟩
  have hgd : GoodT W d := by rw [hd]; exact ⟨⟨hg.wf.snd, hg.wf.to, hg.wf.amt⟩, hg.snd, hg.to, hg.mem, hg.amt, hg.may, hg.tok⟩
  have d47 := TicketD.cells_len hgd.wf
  have hval : d.value = t.value := by rw [hd]; rfl
  obtain ⟨k, hk⟩ : ∃ k : Nat, t.tok = k := ⟨t.tok.toNat, by have := hg.may.2.1.1; omega⟩
  have hk3 : k < 3 := by have := hg.tok; omega
  have hkd : d.tok = k := by rw [hd]; exact hk
  have hamt : d.amt = t.amt := by rw [hd]
  unfold HL
  refine fun75.spec rfl ?_
  conv=>whnf
  intro b3
  conv=>whnf
  refine DrawG.mk 11 [cel b3 82 t.cells, cel h 79 (hcells s opv clv all), own 47 opv op.length (op.flatMap TicketD.cells), own 1 clv cl.length (bls cl)] [stP 127 s src find V n] (Ent.front 1 rfl) ?_
  conv=>whnf
  refine .take 0 ?_
  conv=>whnf
  refine ⟨rfl, ?_⟩
  conv=>whnf
  refine .take 1 ?_
  conv=>whnf
  refine ⟨rfl, ?_⟩
  conv=>whnf
  refine .take 2 ?_
  conv=>whnf
  refine ⟨rfl, ?_⟩
  conv=>whnf
  refine .take 3 ?_
  conv=>whnf
  refine ⟨rfl, ?_⟩
  conv=>whnf
  refine LoadG.at (.tl (.here rfl)) ?_
  conv=>whnf
  refine .take 4 ?_
  conv=>whnf
  refine ⟨rfl, ?_⟩
  conv=>whnf
  refine LoadNG.at (vs := t.cells) l47 .all ?_
  conv=>whnf
  refine .all ?_
  conv=>whnf
  refine ⟨by decide, ?_⟩
  conv=>whnf
  refine CallG.of (pre := [stP 127 s src find V n]) (rest := []) (open_at _ s src V n t (hs.left [_, _, _, _]) ho hg.wf hnum hg.may hn (k := op.length) (by omega) (keep_made hI (by omega))) (Ent.refl _) ?_
  rintro _ _ ⟨rfl, rfl⟩
  conv=>whnf
  refine .take 6 ?_
  conv=>whnf
  refine ⟨rfl, ?_⟩
  conv=>whnf
  refine .take 7 ?_
  conv=>whnf
  refine ⟨rfl, ?_⟩
  conv=>whnf
  refine .take 8 ?_
  conv=>whnf
  refine ⟨rfl, ?_⟩
  conv=>whnf
  refine .take 9 ?_
  conv=>whnf
  refine ⟨rfl, ?_⟩
  conv=>whnf
  refine .all ?_
  conv=>whnf
  refine ⟨by decide, ?_⟩
  conv=>whnf
  refine ⟨rfl, ?_⟩
  conv=>whnf
  refine CondG.ndec (fun h => absurd rfl h) (fun _ => ?_)
  (conv=>whnf); repeat ((with_reducible first | refine .tt ?_ | refine .ff ?_ | refine .ntt ?_ | refine .nff ?_); conv=>whnf)
  refine LoadG.at (.tl (.tl (.here rfl))) ?_
  (conv=>whnf); repeat ((with_reducible first | refine .tt ?_ | refine .ff ?_ | refine .ntt ?_ | refine .nff ?_); conv=>whnf)
  refine LenG.sl hov ?_
  (conv=>whnf); repeat ((with_reducible first | refine .tt ?_ | refine .ff ?_ | refine .ntt ?_ | refine .nff ?_); conv=>whnf)
  refine ArithG.i64' ((op.length + 1 : Nat) : Int) (by omega) (by omega) ?_
  (conv=>whnf); repeat ((with_reducible first | refine .tt ?_ | refine .ff ?_ | refine .ntt ?_ | refine .nff ?_); conv=>whnf)
  refine CondG.ndec (fun h => absurd rfl h) (fun _ => ?_)
  conv=>whnf
  refine StoreG.at rfl (.tl (upd_hereE (cs := t.cells) (cs' := d.cells) (by rw [l47]; decide) rfl (by rw [hd]; rfl))) ?_
  conv=>whnf
  refine DrawG.mk 10 [cel b3 82 d.cells, cel h 79 (hcells s opv clv all), own 1 clv cl.length (bls cl), stP 127 s src find (upd (upd V (tkey (op.length + 1)) t.value) ntK (be (op.length + 1) 8)) (n + 2)] [own 47 opv op.length (op.flatMap TicketD.cells)] (Ent.sel (T := []) (A := [_, _, _, _, _]) [3, 1, 2, 4, 0] rfl) ?_
  conv=>whnf
  refine .take 0 ?_
  conv=>whnf
  refine ⟨rfl, ?_⟩
  conv=>whnf
  refine .take 1 ?_
  conv=>whnf
  refine ⟨rfl, ?_⟩
  conv=>whnf
  refine .take 2 ?_
  conv=>whnf
  refine ⟨rfl, ?_⟩
  conv=>whnf
  refine .take 3 ?_
  conv=>whnf
  refine ⟨rfl, ?_⟩
  conv=>whnf
  refine .take 4 ?_
  conv=>whnf
  refine ⟨rfl, ?_⟩
  conv=>whnf
  refine LoadG.at (.tl (.here rfl)) ?_
  conv=>whnf
  refine .take 5 ?_
  conv=>whnf
  refine ⟨rfl, ?_⟩
  conv=>whnf
  refine LoadNG.at (vs := d.cells) d47 .all ?_
  conv=>whnf
  refine .all ?_
  conv=>whnf
  refine ⟨by decide, ?_⟩
  conv=>whnf
  refine BuildG.of (cs := d.cells) (fill_oneT d47 rfl) ?_
  conv=>whnf
  intro b36
  conv=>whnf
  refine .all ?_
  conv=>whnf
  refine ⟨by decide, ?_⟩
  conv=>whnf
  refine DoesG.ent (Ent.front 1 rfl) ?_
  refine app_own ticketsT 75 (m := 1) (ys := d.cells) (.mk _ _ _ _ _ (Nat.le_refl _) (.tl (.left .all _))) (by rw [d47]) (TicketD.cells_one _) (by simp only [maxLen]; omega) (by omega) fun ov hov2 _ _ => ?_
  conv=>whnf
  refine .all ?_
  conv=>whnf
  refine ⟨by decide, ?_⟩
  conv=>whnf
  refine .all ?_
  conv=>whnf
  refine ⟨by decide, ?_⟩
  conv=>whnf
  refine .all ?_
  conv=>whnf
  refine ⟨by decide, ?_⟩
  conv=>whnf
  refine ⟨rfl, ?_⟩
  obtain ⟨oa, oc, rfl⟩ := hov2.len
  conv=>whnf
  refine StoreG.at rfl (.tl (.tl (.tl (upd_hereE (cs := hcells s opv clv all) (cs' := hcells s (.slice oa (op.length + 1) oc) clv all) (by rw [hcells_len]; decide) rfl rfl)))) ?_
  conv=>whnf
  refine ⟨rfl, ?_⟩
  conv=>whnf
  obtain ⟨ov, hov'⟩ : ∃ v, v = Value.slice oa (op.length + 1) oc := ⟨_, rfl⟩
  rw [← hov'] at hov2
  rw [← hov']
  clear hov'
  refine LoadG.at (v := clv) (.tl (.tl (.tl (.here rfl)))) ?_
  conv=>whnf
  refine BuildG.of (cs := [.bool false]) rfl ?_
  conv=>whnf
  intro b45
  conv=>whnf
  refine DoesG.ent (Ent.front 5 rfl) ?_
  refine app_own boolsT 73 (m := 1) (ys := [.bool false]) (.mk _ _ _ _ _ (Nat.le_refl _) (.tl (.left .all _))) rfl (by simp [Value.oneCell']) (by simp only [maxLen]; have := hI.len; omega) (by have := hI.len; omega) fun cv hcv2 _ _ => ?_
  obtain ⟨ba, bc, rfl⟩ := hcv2.len
  conv=>whnf
  refine StoreG.at rfl (.tl (.tl (.tl (.tl (.tl (upd_hereE (cs := hcells s ov clv all) (cs' := hcells s ov (.slice ba (cl.length + 1) bc) all) (by rw [hcells_len]; decide) rfl rfl)))))) ?_
  conv=>whnf
  obtain ⟨cv, hcv'⟩ : ∃ v, v = Value.slice ba (cl.length + 1) bc := ⟨_, rfl⟩
  rw [← hcv'] at hcv2
  rw [← hcv']
  clear hcv'
  have eC : own 1 cv (cl.length + 1) (bls cl ++ [.bool false]) = own 1 cv (cl ++ [false]).length (bls (cl ++ [false])) := by simp [bls]
  have eO : own 47 ov (op.length + 1) (op.flatMap TicketD.cells ++ d.cells) = own 47 ov (op ++ [d]).length ((op ++ [d]).flatMap TicketD.cells) := by simp
  rw [eC, eO]
  refine DrawG.mk 17 [own 1 cv (cl ++ [false]).length (bls (cl ++ [false])), cel b45 4 [.bool false], own 47 ov (op ++ [d]).length ((op ++ [d]).flatMap TicketD.cells), cel b36 82 d.cells, cel b3 82 d.cells, stP 127 s src find (upd (upd V (tkey (op.length + 1)) t.value) ntK (be (op.length + 1) 8)) (n + 2)] [cel h 79 (hcells s ov cv all)] (Ent.front 5 rfl) ?_
  conv=>whnf
  refine .take 0 ?_
  conv=>whnf
  refine ⟨rfl, ?_⟩
  conv=>whnf
  refine .take 13 ?_
  conv=>whnf
  refine ⟨rfl, ?_⟩
  conv=>whnf
  refine .take 14 ?_
  conv=>whnf
  refine ⟨rfl, ?_⟩
  conv=>whnf
  refine .take 1 ?_
  conv=>whnf
  refine ⟨rfl, ?_⟩
  conv=>whnf
  refine .take 2 ?_
  conv=>whnf
  refine ⟨rfl, ?_⟩
  conv=>whnf
  refine LoadG.at (v := .int .i64 (k : Int)) (.tl (.tl (.tl (.tl (.here (by rw [← hkd]; exact TicketD.tok_at hgd.wf)))))) ?_
  conv=>whnf
  refine .take 3 ?_
  conv=>whnf
  refine ⟨rfl, ?_⟩
  conv=>whnf
  refine .take 4 ?_
  conv=>whnf
  refine ⟨rfl, ?_⟩
  conv=>whnf
  refine .take 5 ?_
  conv=>whnf
  refine ⟨rfl, ?_⟩
  conv=>whnf
  refine LoadG.at (v := .int .i64 (k : Int)) (.tl (.tl (.tl (.tl (.here (by rw [← hkd]; exact TicketD.tok_at hgd.wf)))))) ?_
  conv=>whnf
  refine .take 6 ?_
  conv=>whnf
  refine ⟨rfl, ?_⟩
  conv=>whnf
  refine .take 7 ?_
  conv=>whnf
  refine ⟨rfl, ?_⟩
  conv=>whnf
  refine .take 8 ?_
  conv=>whnf
  refine ⟨rfl, ?_⟩
  conv=>whnf
  refine SideG.of (by omega) ?_
  conv=>whnf
  refine .take 10 ?_
  conv=>whnf
  refine ⟨rfl, ?_⟩
  conv=>whnf
  refine .take 11 ?_
  conv=>whnf
  refine ⟨rfl, ?_⟩
  conv=>whnf
  refine LoadNG.at (vs := uvs d.amt) (by rw [uvs_len, hgd.wf.amt]) (.tl (.tl (.tl (.tl (.here (TicketD.amt_at hgd.wf)))))) ?_
  conv=>whnf
  refine .all ?_
  conv=>whnf
  refine ⟨by decide, ?_⟩
  conv=>whnf
  have eo : 0 + 3 + ((k : Nat) : Int).toNat * 5 = 3 + k * 5 := by omega
  rw [eo]
  refine LoadNG.at (vs := uvs (w5 (all k))) rfl (.here (hc_at s ov cv all hk3)) ?_
  conv=>whnf
  refine .all ?_
  conv=>whnf
  refine ⟨by decide, ?_⟩
  conv=>whnf
  refine CallG.pure (grown_spec _ (w5 (all k)) d.amt rfl (w5_lt _) hgd.amt false) ?_
  rintro _ _ ⟨R, c, hR, hRl, hG, rfl, rfl⟩
  have hRe : R = w5 (all k + nat4 d.amt) := grown_add hR hRl rfl hgd.amt.len (by have h1 := keep_allLt hI (by omega) hk3; have h2 := nat4_lt hgd.amt; omega) hG
  rw [hRe]
  conv=>whnf
  refine .take 15 ?_
  conv=>whnf
  refine ⟨rfl, ?_⟩
  conv=>whnf
  refine SideG.of (by omega) ?_
  conv=>whnf
  refine .all ?_
  conv=>whnf
  refine ⟨by decide, ?_⟩
  conv=>whnf
  rw [eo]
  refine StoreG.at rfl (Upd.hereN (by rw [hcells_len]; show 3 + k * 5 + 5 ≤ 18; omega) (uvs_one _) (hc_set s ov cv all (addAt all k (nat4 d.amt)) hk3 (if_pos rfl) fun t ht => if_neg ht)) ?_
  conv=>whnf
  refine ⟨rfl, ?_⟩
  conv=>whnf
  exact ⟨_, Ent.sel (T := []) (A := [_, _, _, _, _, _, _]) [6, 0, 3, 1] rfl, rfl, _, op ++ [d], cl ++ [false], addAt all k (nat4 d.amt), ov, cv, hval ▸ hI.opened (by omega) hgd (by rw [hd]) hkd, by rw [List.length_append]; exact hov2, by rw [List.length_append]; exact hcv2, by rw [List.length_append, List.length_singleton]; omega, rfl⟩
theorem findV_amt (V : View) (n : Int) : wOk (findV V n).1.amt := by
  unfold findV
  split
  · exact zero4_ok
  · unfold findR
    split
    · exact zero4_ok
    · split
      · exact wordsN_ok _
      · exact zero4_ok
theorem keep_find {W : List (List Nat)} {V : View} {m : Md} {op : List TicketD} {cl : List Bool} {all : Nat → Nat} (h : KeepI W V m op cl all) (hl : op.length ≤ 1099511627776) (n : Int) :
    (isOpen op cl n = false ∧ findV V n = (zeroT', 90)) ∨ (isOpen op cl n = true ∧ ∃ (i : Nat) (d : TicketD), n = ((i + 1 : Nat) : Int) ∧ op[i]? = some d ∧ cl[i]? = some false ∧ findV V n = (d, 0)) := by
  have hlen := h.len
  by_cases hr : n < 1 ∨ 1099511627776 < n
  · left
    refine ⟨?_, by unfold findV; rw [if_pos hr]⟩
    unfold isOpen
    rw [decide_eq_false (by omega)]
    rfl
  · obtain ⟨i, rfl⟩ : ∃ i : Nat, n = ((i + 1 : Nat) : Int) := ⟨(n - 1).toNat, by omega⟩
    have ev : findV V ((i + 1 : Nat) : Int) = findR ((i + 1 : Nat) : Int) (V (tkey (i + 1))) := by unfold findV; rw [if_neg hr, Int.toNat_natCast]
    have e1 : (((i + 1 : Nat) : Int) - 1).toNat = i := by omega
    rw [ev]
    rcases Nat.lt_or_ge i op.length with hi | hi
    · obtain ⟨d, hd⟩ : ∃ d, op[i]? = some d := ⟨op[i], List.getElem?_eq_getElem hi⟩
      obtain ⟨c, hc⟩ : ∃ c, cl[i]? = some c := ⟨cl[i]'(by omega), List.getElem?_eq_getElem (by omega)⟩
      obtain ⟨hg, hnum⟩ := h.good i d hd
      have hv := h.tick i d c hd hc
      have eo : isOpen op cl ((i + 1 : Nat) : Int) = !c := by
        unfold isOpen
        rw [decide_eq_true (by omega), e1]
        simp [List.getD, hc]
      cases c with
      | true =>
        rw [if_pos rfl] at hv
        rw [hv]
        exact .inl ⟨by rw [eo]; rfl, rfl⟩
      | false =>
        rw [if_neg (by decide)] at hv
        rw [hv]
        exact .inr ⟨by rw [eo]; rfl, i, d, rfl, hd, hc, findR_value hg.wf hg.may hg.amt hnum⟩
    · left
      rw [h.none (i + 1) (by omega) (by omega)]
      refine ⟨?_, rfl⟩
      unfold isOpen
      rw [decide_eq_false (by omega)]
      rfl
theorem bls_set (cl : List Bool) {i : Nat} (hi : i < cl.length) : (bls cl).take i ++ [Value.bool true] ++ (bls cl).drop (i + [Value.bool true].length) = bls (cl.set i true) := by
  have e : bls (cl.set i true) = (bls cl).set i (.bool true) := by rw [bls, bls, List.map_set]
  rw [e, List.set_eq_take_append_cons_drop, if_pos (by rw [bls_len]; exact hi)]
  simp
def HR (T Th h s : Nat) (src : Value) (find : ByteArray → List Nat × Int) (W : List (List Nat)) (n len : Nat) (L : List HP) : Prop :=
  ∃ (U : View) (m' : Md) (n' : Nat) (op' : List TicketD) (cl' : List Bool) (all' : Nat → Nat) (opv' clv' : Value), KeepI W U m' op' cl' all' ∧ SlV opv' op'.length ∧ SlV clv' cl'.length ∧ op'.length ≤ len + 1 ∧ n' ≤ n + 3 ∧ L = HL T Th h s src find U n' op' cl' all' opv' clv'
theorem hretries_at (F : List HP) (h s : Nat) (src : Value) (V : View) (n : Nat) (op : List TicketD) (cl : List Bool) (all : Nat → Nat) (opv clv : Value) {W : List (List Nat)} {m : Md} (hnd : W.Nodup) (hI : KeepI W V m op cl all) (hs : SrcG Tryd.prog F src find) (ho : SrcOk find)
    (hov : SlV opv op.length) (hcv : SlV clv cl.length) (hn : n + 2 ≤ 549755813888) (hop : op.length ≤ 1073741824) (j : Int) (j1 : -9223372036854775808 ≤ j) (j2 : j ≤ 9223372036854775807) :
    SpecF Tryd.prog 76 [.pointer (some ⟨h, 0, none⟩), .int .i64 j] F (HL 127 79 h s src find V n op cl all opv clv) (fun r L => r = .bool true ∧ HR 127 79 h s src find W n op.length L) := by
  have hlen := hI.len
  have l47 : (op.flatMap TicketD.cells).length = op.length * 47 := flat_len fun d hd => by
    obtain ⟨i, hi⟩ := List.getElem?_of_mem hd
    exact TicketD.cells_len (hI.good i d hi).1.wf
  unfold HL
  refine fun76.spec rfl ?_
  conv=>whnf
  refine LoadG.at (.tl (.here rfl)) ?_
  conv=>whnf
  refine CallG.of (pre := [stP 127 s src find V n]) (rest := [cel h 79 (hcells s opv clv all), own 47 opv op.length (op.flatMap TicketD.cells), own 1 clv cl.length (bls cl)]) (retry_at _ s src V n j (hs.left [_, _, _]) ho hn (findV_amt V j)) (Ent.refl _) ?_
  rintro _ _ hR
  rcases keep_find hI (by omega) j with ⟨hop1, hf⟩ | ⟨hop1, i, d, rfl, hd, hc, hf⟩
  · rw [hf] at hR
    rcases hR with ⟨_, rfl, rfl⟩ | ⟨h2, _⟩
    · conv=>whnf
      refine CallG.pure (hopen_spec _ h s opv clv all op cl hlen (.tl .all) (.tl (.tl (own_rd hov l47))) (.tl (.tl (.tl (own_rd hcv (by rw [bls_len, Nat.mul_one]))))) (by omega) j j1 j2) ?_
      rintro _ _ ⟨rfl, rfl⟩
      rw [hop1]
      (conv=>whnf); repeat ((with_reducible first | refine .tt ?_ | refine .ff ?_ | refine .ntt ?_ | refine .nff ?_); conv=>whnf)
      exact ret_here ⟨congrArg Value.bool (decide_eq_true rfl), V, m, n, op, cl, all, opv, clv, hI, hov, hcv, by omega, by omega, rfl⟩
    · exact absurd h2 (by show ¬ (90 : Int) = 0; decide)
  · have hil : i < cl.length := (List.getElem?_eq_some_iff.1 hc).1
    obtain ⟨hg, hnum⟩ := hI.good i d hd
    obtain ⟨k, hk⟩ : ∃ k : Nat, d.tok = k := ⟨d.tok.toNat, by have := hg.may.2.1.1; omega⟩
    have hk3 : k < 3 := by have := hg.tok; omega
    obtain ⟨hm1, hm2⟩ := hI.led.mintM (k : Int) hg.to hg.amt
    obtain ⟨_, hinv⟩ := hI.inv.mint (hnd) (k : Int) hg.mem (nat4 d.amt)
    have hcode := mint_code hI.inv (show k < 64 by omega) hg.mem (nat4 d.amt)
    have hsup := mint_sup (m := m) (show k < 64 by omega) d.to (nat4 d.amt)
    rw [hf] at hR
    rcases hR with ⟨h2, _⟩ | ⟨_, e, U, heU, hR⟩
    · exact absurd rfl h2
    rw [show (d, (0 : Int)).1 = d from rfl, hk] at heU
    have he : e = (mintL V (k : Int) d.to d.amt).1 := congrArg Prod.fst heU
    have hU : U = (mintL V (k : Int) d.to d.amt).2 := congrArg Prod.snd heU
    have hce : e = (mintM m (k : Int) d.to (nat4 d.amt)).1 := he.trans hm1
    rw [← hce] at hcode
    rcases hR with ⟨h0, rfl, rfl⟩ | ⟨h0, rfl, rfl⟩
    · have hUV : U = V := by rw [hU]; exact mintL_code V _ _ _ (by rw [← he]; exact h0)
      rw [hUV]
      conv=>whnf
      refine CallG.pure (hopen_spec _ h s opv clv all op cl hlen (.tl .all) (.tl (.tl (own_rd hov l47))) (.tl (.tl (.tl (own_rd hcv (by rw [bls_len, Nat.mul_one]))))) (by omega) _ j1 j2) ?_
      rintro _ _ ⟨rfl, rfl⟩
      rw [hop1]
      rcases hcode.resolve_left h0 with h1 | h1 | h1
      · (conv=>whnf); repeat ((with_reducible first | refine .tt ?_ | refine .ff ?_ | refine .ntt ?_ | refine .nff ?_); conv=>whnf)
        repeat ((first | (with_reducible first | refine CondG.tt ?_ | refine CondG.ff ?_ | refine CondG.ntt ?_ | refine CondG.nff ?_) | refine CondG.decT (by assumption) ?_ | refine CondG.decF (by assumption) ?_); conv=>whnf)
        exact ret_here ⟨by first | rfl | exact congrArg Value.bool (decide_eq_true h1), V, m, n + 2, op, cl, all, opv, clv, hI, hov, hcv, by omega, by omega, rfl⟩
      · have n81 : ¬ e = 81 := by omega
        (conv=>whnf); repeat ((with_reducible first | refine .tt ?_ | refine .ff ?_ | refine .ntt ?_ | refine .nff ?_); conv=>whnf)
        repeat ((first | (with_reducible first | refine CondG.tt ?_ | refine CondG.ff ?_ | refine CondG.ntt ?_ | refine CondG.nff ?_) | refine CondG.decT (by assumption) ?_ | refine CondG.decF (by assumption) ?_); conv=>whnf)
        exact ret_here ⟨by first | rfl | exact congrArg Value.bool (decide_eq_true h1), V, m, n + 2, op, cl, all, opv, clv, hI, hov, hcv, by omega, by omega, rfl⟩
      · have n81 : ¬ e = 81 := by omega
        have n83 : ¬ e = 83 := by omega
        (conv=>whnf); repeat ((with_reducible first | refine .tt ?_ | refine .ff ?_ | refine .ntt ?_ | refine .nff ?_); conv=>whnf)
        repeat ((first | (with_reducible first | refine CondG.tt ?_ | refine CondG.ff ?_ | refine CondG.ntt ?_ | refine CondG.nff ?_) | refine CondG.decT (by assumption) ?_ | refine CondG.decF (by assumption) ?_); conv=>whnf)
        exact ret_here ⟨by first | rfl | exact congrArg Value.bool (decide_eq_true h1), V, m, n + 2, op, cl, all, opv, clv, hI, hov, hcv, by omega, by omega, rfl⟩
    · conv=>whnf
      refine CallG.pure (hopen_spec _ h s opv clv all op cl hlen (.tl .all) (.tl (.tl (own_rd hov l47))) (.tl (.tl (.tl (own_rd hcv (by rw [bls_len, Nat.mul_one]))))) (by omega) _ j1 j2) ?_
      rintro _ _ ⟨rfl, rfl⟩
      rw [hop1]
      (conv=>whnf); repeat ((with_reducible first | refine .tt ?_ | refine .ff ?_ | refine .ntt ?_ | refine .nff ?_); conv=>whnf)
      refine CondG.decT rfl ?_
      conv=>whnf
      refine LoadG.at (.tl (.here rfl)) ?_
      conv=>whnf
      refine ArithG.i64' (i : Int) (by omega) (by omega) ?_
      conv=>whnf
      obtain ⟨g, cap, rfl, hgc⟩ : ∃ g cap, clv = .slice (some ⟨g, 0, none⟩) cl.length cap ∧ cl.length ≤ cap := by
        rcases hcv with ⟨_, h⟩ | ⟨g, cap, h, h'⟩
        · omega
        · exact ⟨g, cap, h, h'⟩
      refine ⟨g, 0, cl.length, cap, rfl, by omega, ?_⟩
      conv=>whnf
      have ei : 0 + ((i : Nat) : Int).toNat * 1 = i := by omega
      rw [ei]
      refine StoreG.at rfl (.tl (.tl (.tl (Upd.own (cs' := bls (cl.set i true)) (by rw [bls_len]; exact hil) (by simp [Value.oneCell']) (bls_set cl hil))))) ?_
      conv=>whnf
      have e1 : ((i + 1 : Nat) : Int).toNat = i + 1 := Int.toNat_natCast _
      rw [e1]
      have hI2 : KeepI W (upd U (tkey (i + 1)) []) (mintM m (k : Int) d.to (nat4 d.amt)).2 op (cl.set i true) all := by
        refine hI.closed (by omega) hd hc (by rw [hU]; exact hm2) hinv (fun k hk => by rw [hU]; exact mintL_keep hk _ _ _) hk fun t ht => ?_
        have h3 := (hsup t).2 (by rw [← hce]; exact h0)
        have h4 := hI.sums t ht
        omega
      exact ret_here ⟨rfl, _, _, n + 3, op, cl.set i true, all, opv, .slice (some ⟨g, 0, none⟩) cl.length cap, hI2, hov, by rw [List.length_set]; exact .inr ⟨g, cap, rfl, hgc⟩, by omega, by omega, by rw [HL, List.length_set]⟩
theorem hmints_at (F : List HP) (h s : Nat) (src : Value) (V : View) (n : Nat) (op : List TicketD) (cl : List Bool) (all : Nat → Nat) (opv clv : Value) {W : List (List Nat)} {m : Md} (hnd : W.Nodup) (hI : KeepI W V m op cl all) (hs : SrcG Tryd.prog F src find) (ho : SrcOk find)
    (hov : SlV opv op.length) (hcv : SlV clv cl.length) (hn : n + 2 ≤ 549755813888) (hop : op.length ≤ 1073741824) (d : TicketD) (hgd : GoodT W d) :
    SpecF Tryd.prog 79 [.pointer (some ⟨h, 0, none⟩), .agg ⟨d.cells⟩] F (HL 127 79 h s src find V n op cl all opv clv) (fun r L => HR 127 79 h s src find W n op.length L) := by
  have hlen := hI.len
  have d47 := TicketD.cells_len hgd.wf
  have h20 : (bvs d.to).length = 20 := by rw [bvs_len, hgd.wf.to]
  have h4 : (uvs d.amt).length = 4 := by rw [uvs_len, hgd.wf.amt]
  obtain ⟨k, hkd⟩ : ∃ k : Nat, d.tok = k := ⟨d.tok.toNat, by have := hgd.may.2.1.1; omega⟩
  have hk3 : k < 3 := by have := hgd.tok; omega
  obtain ⟨hm1, hm2⟩ := hI.led.mintM (k : Int) hgd.to hgd.amt
  obtain ⟨_, hinv⟩ := hI.inv.mint hnd (k : Int) hgd.mem (nat4 d.amt)
  have hsup := mint_sup (m := m) (show k < 64 by omega) d.to (nat4 d.amt)
  unfold HL
  refine fun79.spec rfl ?_
  conv=>whnf
  intro b3
  conv=>whnf
  refine DrawG.mk 12 [cel b3 82 d.cells, cel h 79 (hcells s opv clv all), own 47 opv op.length (op.flatMap TicketD.cells), own 1 clv cl.length (bls cl)] [stP 127 s src find V n] (Ent.front 1 rfl) ?_
  conv=>whnf
  refine .take 0 ?_
  conv=>whnf
  refine ⟨rfl, ?_⟩
  conv=>whnf
  refine .take 1 ?_
  conv=>whnf
  refine ⟨rfl, ?_⟩
  conv=>whnf
  refine .take 2 ?_
  conv=>whnf
  refine ⟨rfl, ?_⟩
  conv=>whnf
  refine .take 3 ?_
  conv=>whnf
  refine ⟨rfl, ?_⟩
  conv=>whnf
  refine LoadG.at (.tl (.here rfl)) ?_
  conv=>whnf
  refine .take 4 ?_
  conv=>whnf
  refine ⟨rfl, ?_⟩
  conv=>whnf
  refine .take 5 ?_
  conv=>whnf
  refine ⟨rfl, ?_⟩
  conv=>whnf
  refine LoadG.at (v := .int .i64 (k : Int)) (.here (by rw [← hkd]; exact TicketD.tok_at hgd.wf)) ?_
  conv=>whnf
  refine .take 6 ?_
  conv=>whnf
  refine ⟨rfl, ?_⟩
  conv=>whnf
  refine .take 7 ?_
  conv=>whnf
  refine ⟨rfl, ?_⟩
  conv=>whnf
  refine LoadNG.at (vs := bvs d.to) h20 (.here (TicketD.to_at hgd.wf)) ?_
  conv=>whnf
  refine .take 8 ?_
  conv=>whnf
  refine ⟨rfl, ?_⟩
  conv=>whnf
  refine .take 9 ?_
  conv=>whnf
  refine ⟨rfl, ?_⟩
  conv=>whnf
  refine LoadNG.at (vs := uvs d.amt) h4 (.here (TicketD.amt_at hgd.wf)) ?_
  conv=>whnf
  refine .all ?_
  conv=>whnf
  refine ⟨by decide, ?_⟩
  conv=>whnf
  refine CallG.of (pre := [stP 127 s src find V n]) (rest := []) (mint_at _ s src V n (k : Int) d.to d.amt hgd.wf.to hgd.amt (hs.left [_, _, _, _]) ho (by omega)) (Ent.refl _) ?_
  rintro _ _ ⟨rfl, rfl⟩
  rw [hm1]
  conv=>whnf
  refine .all ?_
  conv=>whnf
  refine ⟨by decide, ?_⟩
  conv=>whnf
  refine ⟨rfl, ?_⟩
  conv=>whnf
  refine CondG.dec (fun hc => ?_) (fun hc => ?_)
  · conv=>whnf
    refine DrawG.mk 17 [stP 127 s src find (mintL V (k : Int) d.to d.amt).2 (n + 2), cel b3 82 d.cells, own 47 opv op.length (op.flatMap TicketD.cells), own 1 clv cl.length (bls cl)] [cel h 79 (hcells s opv clv all)] (Ent.front 2 rfl) ?_
    conv=>whnf
    refine .take 0 ?_
    conv=>whnf
    refine ⟨rfl, ?_⟩
    conv=>whnf
    refine .take 13 ?_
    conv=>whnf
    refine ⟨rfl, ?_⟩
    conv=>whnf
    refine .take 14 ?_
    conv=>whnf
    refine ⟨rfl, ?_⟩
    conv=>whnf
    refine .take 1 ?_
    conv=>whnf
    refine ⟨rfl, ?_⟩
    conv=>whnf
    refine .take 2 ?_
    conv=>whnf
    refine ⟨rfl, ?_⟩
    conv=>whnf
    refine LoadG.at (v := .int .i64 (k : Int)) (.tl (.here (by rw [← hkd]; exact TicketD.tok_at hgd.wf))) ?_
    conv=>whnf
    refine .take 3 ?_
    conv=>whnf
    refine ⟨rfl, ?_⟩
    conv=>whnf
    refine .take 4 ?_
    conv=>whnf
    refine ⟨rfl, ?_⟩
    conv=>whnf
    refine .take 5 ?_
    conv=>whnf
    refine ⟨rfl, ?_⟩
    conv=>whnf
    refine LoadG.at (v := .int .i64 (k : Int)) (.tl (.here (by rw [← hkd]; exact TicketD.tok_at hgd.wf))) ?_
    conv=>whnf
    refine .take 6 ?_
    conv=>whnf
    refine ⟨rfl, ?_⟩
    conv=>whnf
    refine .take 7 ?_
    conv=>whnf
    refine ⟨rfl, ?_⟩
    conv=>whnf
    refine .take 8 ?_
    conv=>whnf
    refine ⟨rfl, ?_⟩
    conv=>whnf
    refine SideG.of (by omega) ?_
    conv=>whnf
    refine .take 10 ?_
    conv=>whnf
    refine ⟨rfl, ?_⟩
    conv=>whnf
    refine .take 11 ?_
    conv=>whnf
    refine ⟨rfl, ?_⟩
    conv=>whnf
    refine LoadNG.at (vs := uvs d.amt) (by rw [uvs_len, hgd.wf.amt]) (.tl (.here (TicketD.amt_at hgd.wf))) ?_
    conv=>whnf
    refine .all ?_
    conv=>whnf
    refine ⟨by decide, ?_⟩
    conv=>whnf
    have eo : 0 + 3 + ((k : Nat) : Int).toNat * 5 = 3 + k * 5 := by omega
    rw [eo]
    refine LoadNG.at (vs := uvs (w5 (all k))) rfl (.here (hc_at s opv clv all hk3)) ?_
    conv=>whnf
    refine .all ?_
    conv=>whnf
    refine ⟨by decide, ?_⟩
    conv=>whnf
    refine CallG.pure (grown_spec _ (w5 (all k)) d.amt rfl (w5_lt _) hgd.amt false) ?_
    rintro _ _ ⟨R, c, hR, hRl, hG, rfl, rfl⟩
    have hRe : R = w5 (all k + nat4 d.amt) := grown_add hR hRl rfl hgd.amt.len (by have h1 := keep_allLt hI (by omega) hk3; have h2 := nat4_lt hgd.amt; omega) hG
    rw [hRe]
    conv=>whnf
    refine .take 15 ?_
    conv=>whnf
    refine ⟨rfl, ?_⟩
    conv=>whnf
    refine SideG.of (by omega) ?_
    conv=>whnf
    refine .all ?_
    conv=>whnf
    refine ⟨by decide, ?_⟩
    conv=>whnf
    rw [eo]
    refine StoreG.at rfl (Upd.hereN (by rw [hcells_len]; show 3 + k * 5 + 5 ≤ 18; omega) (uvs_one _) (hc_set s opv clv all (addAt all k (nat4 d.amt)) hk3 (if_pos rfl) fun t ht => if_neg ht)) ?_
    conv=>whnf
    refine ⟨rfl, ?_⟩
    conv=>whnf
    have hI2 : KeepI W (mintL V (k : Int) d.to d.amt).2 (mintM m (k : Int) d.to (nat4 d.amt)).2 op cl (addAt all k (nat4 d.amt)) := by
      refine hI.ledger hm2 hinv (fun k hk => mintL_keep hk _ _ _) fun t ht => ?_
      have h3 := (hsup t).2 hc
      have h4 := hI.sums t ht
      unfold addAt
      by_cases e : t = k
      · rw [if_pos e] at h3 ⊢
        omega
      · rw [if_neg e] at h3 ⊢
        omega
    exact ⟨_, Ent.sel (T := []) (A := [_, _, _, _, _]) [1, 0, 3, 4] rfl, _, _, n + 2, op, cl, _, opv, clv, hI2, hov, hcv, by omega, by omega, rfl⟩
  · have hUV : (mintL V (k : Int) d.to d.amt).2 = V := mintL_code V _ _ _ (by rw [hm1]; exact hc)
    rw [hUV]
    conv=>whnf
    exact ⟨_, Ent.sel (T := []) (A := [_, _, _, _, _]) [0, 2, 3, 4] rfl, V, m, n + 2, op, cl, all, opv, clv, hI, hov, hcv, by omega, by omega, rfl⟩
theorem hburns_at (F : List HP) (h s : Nat) (src : Value) (V : View) (n : Nat) (op : List TicketD) (cl : List Bool) (all : Nat → Nat) (opv clv : Value) {W : List (List Nat)} {m : Md} (hnd : W.Nodup) (hI : KeepI W V m op cl all) (hs : SrcG Tryd.prog F src find) (ho : SrcOk find)
    (hov : SlV opv op.length) (hcv : SlV clv cl.length) (hn : n + 2 ≤ 549755813888) (hop : op.length ≤ 1073741824) (d : TicketD) (hgd : GoodT W d) :
    SpecF Tryd.prog 80 [.pointer (some ⟨h, 0, none⟩), .agg ⟨d.cells⟩] F (HL 127 79 h s src find V n op cl all opv clv) (fun r L => HR 127 79 h s src find W n op.length L) := by
  have hlen := hI.len
  have d47 := TicketD.cells_len hgd.wf
  have h20 : (bvs d.to).length = 20 := by rw [bvs_len, hgd.wf.to]
  have h4 : (uvs d.amt).length = 4 := by rw [uvs_len, hgd.wf.amt]
  obtain ⟨k, hkd⟩ : ∃ k : Nat, d.tok = k := ⟨d.tok.toNat, by have := hgd.may.2.1.1; omega⟩
  have hk3 : k < 3 := by have := hgd.tok; omega
  obtain ⟨hm1, hm2⟩ := hI.led.burnM (k : Int) hgd.to hgd.amt
  obtain ⟨_, hinv⟩ := hI.inv.burn hnd (k : Int) hgd.mem (nat4 d.amt)
  have hsup := burn_sup (m := m) (show k < 64 by omega) d.to (nat4 d.amt)
  unfold HL
  refine fun80.spec rfl ?_
  conv=>whnf
  intro b3
  conv=>whnf
  refine DrawG.mk 12 [cel b3 82 d.cells, cel h 79 (hcells s opv clv all), own 47 opv op.length (op.flatMap TicketD.cells), own 1 clv cl.length (bls cl)] [stP 127 s src find V n] (Ent.front 1 rfl) ?_
  conv=>whnf
  refine .take 0 ?_
  conv=>whnf
  refine ⟨rfl, ?_⟩
  conv=>whnf
  refine .take 1 ?_
  conv=>whnf
  refine ⟨rfl, ?_⟩
  conv=>whnf
  refine .take 2 ?_
  conv=>whnf
  refine ⟨rfl, ?_⟩
  conv=>whnf
  refine .take 3 ?_
  conv=>whnf
  refine ⟨rfl, ?_⟩
  conv=>whnf
  refine LoadG.at (.tl (.here rfl)) ?_
  conv=>whnf
  refine .take 4 ?_
  conv=>whnf
  refine ⟨rfl, ?_⟩
  conv=>whnf
  refine .take 5 ?_
  conv=>whnf
  refine ⟨rfl, ?_⟩
  conv=>whnf
  refine LoadG.at (v := .int .i64 (k : Int)) (.here (by rw [← hkd]; exact TicketD.tok_at hgd.wf)) ?_
  conv=>whnf
  refine .take 6 ?_
  conv=>whnf
  refine ⟨rfl, ?_⟩
  conv=>whnf
  refine .take 7 ?_
  conv=>whnf
  refine ⟨rfl, ?_⟩
  conv=>whnf
  refine LoadNG.at (vs := bvs d.to) h20 (.here (TicketD.to_at hgd.wf)) ?_
  conv=>whnf
  refine .take 8 ?_
  conv=>whnf
  refine ⟨rfl, ?_⟩
  conv=>whnf
  refine .take 9 ?_
  conv=>whnf
  refine ⟨rfl, ?_⟩
  conv=>whnf
  refine LoadNG.at (vs := uvs d.amt) h4 (.here (TicketD.amt_at hgd.wf)) ?_
  conv=>whnf
  refine .all ?_
  conv=>whnf
  refine ⟨by decide, ?_⟩
  conv=>whnf
  refine CallG.of (pre := [stP 127 s src find V n]) (rest := []) (burn_at _ s src V n (k : Int) d.to d.amt hgd.wf.to hgd.amt (hs.left [_, _, _, _]) ho (by omega)) (Ent.refl _) ?_
  rintro _ _ ⟨rfl, rfl⟩
  rw [hm1]
  conv=>whnf
  refine .all ?_
  conv=>whnf
  refine ⟨by decide, ?_⟩
  conv=>whnf
  refine ⟨rfl, ?_⟩
  conv=>whnf
  refine CondG.dec (fun hc => ?_) (fun hc => ?_)
  · have hle : nat4 d.amt ≤ all k := by
      have h3 := (hsup k).2 hc
      rw [if_pos rfl] at h3
      have h4 := hI.sums k hk3
      omega
    conv=>whnf
    refine DrawG.mk 17 [stP 127 s src find (burnL V (k : Int) d.to d.amt).2 (n + 2), cel b3 82 d.cells, own 47 opv op.length (op.flatMap TicketD.cells), own 1 clv cl.length (bls cl)] [cel h 79 (hcells s opv clv all)] (Ent.front 2 rfl) ?_
    conv=>whnf
    refine .take 0 ?_
    conv=>whnf
    refine ⟨rfl, ?_⟩
    conv=>whnf
    refine .take 13 ?_
    conv=>whnf
    refine ⟨rfl, ?_⟩
    conv=>whnf
    refine .take 14 ?_
    conv=>whnf
    refine ⟨rfl, ?_⟩
    conv=>whnf
    refine .take 1 ?_
    conv=>whnf
    refine ⟨rfl, ?_⟩
    conv=>whnf
    refine .take 2 ?_
    conv=>whnf
    refine ⟨rfl, ?_⟩
    conv=>whnf
    refine LoadG.at (v := .int .i64 (k : Int)) (.tl (.here (by rw [← hkd]; exact TicketD.tok_at hgd.wf))) ?_
    conv=>whnf
    refine .take 3 ?_
    conv=>whnf
    refine ⟨rfl, ?_⟩
    conv=>whnf
    refine .take 4 ?_
    conv=>whnf
    refine ⟨rfl, ?_⟩
    conv=>whnf
    refine .take 5 ?_
    conv=>whnf
    refine ⟨rfl, ?_⟩
    conv=>whnf
    refine LoadG.at (v := .int .i64 (k : Int)) (.tl (.here (by rw [← hkd]; exact TicketD.tok_at hgd.wf))) ?_
    conv=>whnf
    refine .take 6 ?_
    conv=>whnf
    refine ⟨rfl, ?_⟩
    conv=>whnf
    refine .take 7 ?_
    conv=>whnf
    refine ⟨rfl, ?_⟩
    conv=>whnf
    refine .take 8 ?_
    conv=>whnf
    refine ⟨rfl, ?_⟩
    conv=>whnf
    refine SideG.of (by omega) ?_
    conv=>whnf
    refine .take 10 ?_
    conv=>whnf
    refine ⟨rfl, ?_⟩
    conv=>whnf
    refine .take 11 ?_
    conv=>whnf
    refine ⟨rfl, ?_⟩
    conv=>whnf
    refine LoadNG.at (vs := uvs d.amt) (by rw [uvs_len, hgd.wf.amt]) (.tl (.here (TicketD.amt_at hgd.wf))) ?_
    conv=>whnf
    refine .all ?_
    conv=>whnf
    refine ⟨by decide, ?_⟩
    conv=>whnf
    have eo : 0 + 3 + ((k : Nat) : Int).toNat * 5 = 3 + k * 5 := by omega
    rw [eo]
    refine LoadNG.at (vs := uvs (w5 (all k))) rfl (.here (hc_at s opv clv all hk3)) ?_
    conv=>whnf
    refine .all ?_
    conv=>whnf
    refine ⟨by decide, ?_⟩
    conv=>whnf
    refine CallG.pure (grown_spec _ (w5 (all k)) d.amt rfl (w5_lt _) hgd.amt true) ?_
    rintro _ _ ⟨R, c, hR, hRl, hG, rfl, rfl⟩
    have hRe : R = w5 (all k - nat4 d.amt) := grown_sub hR hRl rfl hgd.amt.len (by have h1 := keep_allLt hI (by omega) hk3; omega) hle hG
    rw [hRe]
    conv=>whnf
    refine .take 15 ?_
    conv=>whnf
    refine ⟨rfl, ?_⟩
    conv=>whnf
    refine SideG.of (by omega) ?_
    conv=>whnf
    refine .all ?_
    conv=>whnf
    refine ⟨by decide, ?_⟩
    conv=>whnf
    rw [eo]
    refine StoreG.at rfl (Upd.hereN (by rw [hcells_len]; show 3 + k * 5 + 5 ≤ 18; omega) (uvs_one _) (hc_set s opv clv all (subAt all k (nat4 d.amt)) hk3 (if_pos rfl) fun t ht => if_neg ht)) ?_
    conv=>whnf
    refine ⟨rfl, ?_⟩
    conv=>whnf
    have hI2 : KeepI W (burnL V (k : Int) d.to d.amt).2 (burnM m (k : Int) d.to (nat4 d.amt)).2 op cl (subAt all k (nat4 d.amt)) := by
      refine hI.ledger hm2 hinv (fun k hk => burnL_keep hk _ _ _) fun t ht => ?_
      have h3 := (hsup t).2 hc
      have h4 := hI.sums t ht
      unfold subAt
      by_cases e : t = k
      · rw [if_pos e] at h3 ⊢
        omega
      · rw [if_neg e] at h3 ⊢
        omega
    exact ⟨_, Ent.sel (T := []) (A := [_, _, _, _, _]) [1, 0, 3, 4] rfl, _, _, n + 2, op, cl, _, opv, clv, hI2, hov, hcv, by omega, by omega, rfl⟩
  · have hUV : (burnL V (k : Int) d.to d.amt).2 = V := burnL_code V _ _ _ (by rw [hm1]; exact hc)
    rw [hUV]
    conv=>whnf
    exact ⟨_, Ent.sel (T := []) (A := [_, _, _, _, _]) [0, 2, 3, 4] rfl, V, m, n + 2, op, cl, all, opv, clv, hI, hov, hcv, by omega, by omega, rfl⟩
theorem cancel_cases {T s n : Nat} {src : Value} {W : List (List Nat)} {V : View} {m : Md} {op : List TicketD} {cl : List Bool} {all : Nat → Nat} (hI : KeepI W V m op cl all) (hl : op.length ≤ 1099511627776) {j : Int} {a : List Nat} {v : Value} {L : List HP}
    (h : ((findV V j).2 ≠ 0 ∧ v = .tuple #[.agg ⟨zeroT'.cells⟩, .int .i64 (findV V j).2] ∧ L = [stP T s src find V n]) ∨
      ((findV V j).2 = 0 ∧ (findV V j).1.snd ≠ a ∧ v = .tuple #[.agg ⟨zeroT'.cells⟩, .int .i64 91] ∧ L = [stP T s src find V n]) ∨
      ((findV V j).2 = 0 ∧ (findV V j).1.snd = a ∧ v = .tuple #[.agg ⟨(findV V j).1.cells⟩, .int .i64 0] ∧ L = [stP T s src find (upd V (tkey j.toNat) []) (n + 1)])) :
    ∃ (tc : TicketD) (e : Int) (U : View) (n' : Nat), tc.wf ∧ v = .tuple #[.agg ⟨tc.cells⟩, .int .i64 e] ∧ L = [stP T s src find U n'] ∧ n' ≤ n + 1 ∧
      ((isOpen op cl j = false ∧ tc = zeroT' ∧ e = 90 ∧ V = U ∧ n = n') ∨ (isOpen op cl j = true ∧ ∃ (i : Nat) (d : TicketD), j = ((i + 1 : Nat) : Int) ∧ op[i]? = some d ∧ cl[i]? = some false ∧
        ((d.snd ≠ a ∧ tc = zeroT' ∧ e = 91 ∧ V = U ∧ n = n') ∨ (d.snd = a ∧ d = tc ∧ e = 0 ∧ U = upd V (tkey (i + 1)) [] ∧ n' = n + 1)))) := by
  rcases keep_find hI hl j with ⟨ho, hf⟩ | ⟨ho, i, d, rfl, hd, hc, hf⟩ <;> rw [hf] at h
  · rcases h with ⟨_, hv, hL⟩ | ⟨h2, _⟩ | ⟨h2, _⟩
    · exact ⟨zeroT', 90, V, n, ⟨rfl, rfl, rfl⟩, hv, hL, by omega, .inl ⟨ho, rfl, rfl, rfl, rfl⟩⟩
    · exact absurd h2 (by show ¬ (90 : Int) = 0; decide)
    · exact absurd h2 (by show ¬ (90 : Int) = 0; decide)
  · rcases h with ⟨h2, _⟩ | ⟨_, h2, hv, hL⟩ | ⟨_, h2, hv, hL⟩
    · exact absurd rfl h2
    · exact ⟨zeroT', 91, V, n, ⟨rfl, rfl, rfl⟩, hv, hL, by omega, .inr ⟨ho, i, d, rfl, hd, hc, .inl ⟨h2, rfl, rfl, rfl, rfl⟩⟩⟩
    · rw [Int.toNat_natCast] at hL
      exact ⟨d, 0, _, n + 1, (hI.good i d hd).1.wf, hv, hL, by omega, .inr ⟨ho, i, d, rfl, hd, hc, .inr ⟨h2, rfl, rfl, rfl, rfl⟩⟩⟩
theorem zeroT_wf : zeroT'.wf := ⟨rfl, rfl, rfl⟩
theorem hcancels_at (F : List HP) (h s : Nat) (src : Value) (V : View) (n : Nat) (op : List TicketD) (cl : List Bool) (all : Nat → Nat) (opv clv : Value) {W : List (List Nat)} {m : Md} (hI : KeepI W V m op cl all) (hs : SrcG Tryd.prog F src find) (ho : SrcOk find)
    (hov : SlV opv op.length) (hcv : SlV clv cl.length) (hn : n + 2 ≤ 549755813888) (hop : op.length ≤ 1073741824) (j : Int) (j1 : -9223372036854775808 ≤ j) (j2 : j ≤ 9223372036854775807) (a : List Nat) (ha : a.length = 20) :
    SpecF Tryd.prog 78 [.pointer (some ⟨h, 0, none⟩), .int .i64 j, .agg ⟨bvs a⟩] F (HL 127 79 h s src find V n op cl all opv clv) (fun r L => r = .bool true ∧ HR 127 79 h s src find W n op.length L) := by
  have hlen := hI.len
  have a20 : (bvs a).length = 20 := by rw [bvs_len, ha]
  have hall47 : ∀ d ∈ op, d.cells.length = 47 := fun d hd => by
    obtain ⟨i, hi⟩ := List.getElem?_of_mem hd
    exact TicketD.cells_len (hI.good i d hi).1.wf
  have l47 : (op.flatMap TicketD.cells).length = op.length * 47 := flat_len hall47
  unfold HL
  refine fun78.spec rfl ?_
  conv=>whnf
  intro b5
  conv=>whnf
  refine DrawG.mk 13 [cel b5 33 (bvs a), cel h 79 (hcells s opv clv all), own 47 opv op.length (op.flatMap TicketD.cells), own 1 clv cl.length (bls cl)] [stP 127 s src find V n] (Ent.front 1 rfl) ?_
  conv=>whnf
  refine .take 0 ?_
  conv=>whnf
  refine ⟨rfl, ?_⟩
  conv=>whnf
  refine .take 1 ?_
  conv=>whnf
  refine ⟨rfl, ?_⟩
  conv=>whnf
  refine .take 2 ?_
  conv=>whnf
  refine ⟨rfl, ?_⟩
  conv=>whnf
  refine .take 3 ?_
  conv=>whnf
  refine ⟨rfl, ?_⟩
  conv=>whnf
  refine LoadG.at (.tl (.here rfl)) ?_
  conv=>whnf
  refine .take 4 ?_
  conv=>whnf
  refine ⟨rfl, ?_⟩
  conv=>whnf
  refine .take 5 ?_
  conv=>whnf
  refine ⟨rfl, ?_⟩
  conv=>whnf
  refine LoadNG.at (vs := bvs a) a20 .all ?_
  conv=>whnf
  refine .all ?_
  conv=>whnf
  refine ⟨by decide, ?_, ?_⟩
  · conv=>whnf
    refine CallG.of (pre := [stP 127 s src find V n]) (rest := []) (cancel_at _ s src V n j a ha (hs.left [_, _, _, _]) ho (by omega)) (Ent.refl _) ?_
    intro v L' hR
    obtain ⟨tc, e, U, n', htw, rfl, rfl, hn', hcase⟩ := cancel_cases (find := find) (T := 127) (s := s) (src := src) (n := n) hI (by omega) hR
    have t47 := TicketD.cells_len htw
    conv=>whnf
    refine .take 7 ?_
    conv=>whnf
    refine ⟨rfl, ?_⟩
    conv=>whnf
    refine .take 8 ?_
    conv=>whnf
    refine ⟨rfl, ?_⟩
    conv=>whnf
    refine .take 9 ?_
    conv=>whnf
    refine ⟨rfl, ?_⟩
    conv=>whnf
    refine .all ?_
    conv=>whnf
    refine ⟨by decide, ?_⟩
    conv=>whnf
    intro b7
    conv=>whnf
    refine .all ?_
    conv=>whnf
    refine ⟨by decide, ?_⟩
    conv=>whnf
    refine StoreG.ent (Ent.refl _) ?_
    refine StoreG.at t47 (Upd.whole (by rw [t47]; rfl) (TicketD.cells_one _)) ?_
    conv=>whnf
    refine .all ?_
    conv=>whnf
    refine ⟨by decide, ?_⟩
    conv=>whnf
    refine ⟨rfl, ?_⟩
    conv=>whnf
    refine CallG.pure (hopen_spec _ h s opv clv all op cl hlen (.tl (.tl (.tl .all))) (.tl (.tl (.tl (.tl (own_rd hov l47))))) (.tl (.tl (.tl (.tl (.tl (own_rd hcv (by rw [bls_len, Nat.mul_one]))))))) (by omega) j j1 j2) ?_
    rintro _ _ ⟨rfl, rfl⟩
    rcases hcase with ⟨hop1, rfl, rfl, rfl, rfl⟩ | ⟨hop1, i, d, rfl, hd, hc, hcase⟩
    · rw [hop1]
      (conv=>whnf); repeat ((with_reducible first | refine .tt ?_ | refine .ff ?_ | refine .ntt ?_ | refine .nff ?_); conv=>whnf)
      refine CondG.decT rfl ?_
      conv=>whnf
      refine LoadNG.at (vs := zeroT'.cells) rfl .all ?_
      (conv=>whnf); repeat ((with_reducible first | refine .tt ?_ | refine .ff ?_ | refine .ntt ?_ | refine .nff ?_); conv=>whnf)
      refine BuildG.of (cs := zeroT'.cells) rfl ?_
      (conv=>whnf); repeat ((with_reducible first | refine .tt ?_ | refine .ff ?_ | refine .ntt ?_ | refine .nff ?_); conv=>whnf)
      refine DoesG.eqv 8 tickK (by kernel_rfl) (by decide) (by kernel_rfl) (by kernel_rfl) (TicketD.wt zeroT_wf) (TicketD.wt zeroT_wf) ?_
      (conv=>whnf); repeat ((with_reducible first | refine .tt ?_ | refine .ff ?_ | refine .ntt ?_ | refine .nff ?_); conv=>whnf)
      exact ⟨_, Ent.sel (T := []) (A := [_, _, _, _, _, _]) [1, 3, 4, 5] rfl, congrArg Value.bool (by simp), V, m, n, op, cl, all, opv, clv, hI, hov, hcv, by omega, by omega, rfl⟩
    · rw [hop1]
      have hio : i < op.length := (List.getElem?_eq_some_iff.1 hd).1
      have hil : i < cl.length := (List.getElem?_eq_some_iff.1 hc).1
      have hdi : op[i] = d := (List.getElem?_eq_some_iff.1 hd).2
      obtain ⟨hgd, hnum⟩ := hI.good i d hd
      have d47 := TicketD.cells_len hgd.wf
      have ds20 : (bvs d.snd).length = 20 := by rw [bvs_len, hgd.wf.snd]
      have ei : 0 + ((i : Nat) : Int).toNat * 1 = i := by omega
      (conv=>whnf); repeat ((with_reducible first | refine .tt ?_ | refine .ff ?_ | refine .ntt ?_ | refine .nff ?_); conv=>whnf)
      refine LoadG.at (.tl (.tl (.tl (.here rfl)))) ?_
      conv=>whnf
      refine ArithG.i64' (i : Int) (by omega) (by omega) ?_
      conv=>whnf
      refine IdxG.rd (L := own 47 opv op.length (op.flatMap TicketD.cells) :: [own 1 clv cl.length (bls cl)]) (own_rd hov l47) (by omega) fun cb o hcc => ?_
      conv=>whnf
      refine LoadNG.at (vs := d.cells) d47 (.tl (.tl (.tl (.tl (hcc.part (by rw [d47, Int.toNat_natCast, ← hdi]; exact flat_get hall47 hio)))))) ?_
      clear hcc
      conv=>whnf
      intro b9
      conv=>whnf
      refine StoreG.at d47 (Upd.whole (by rw [d47]; rfl) (TicketD.cells_one _)) ?_
      conv=>whnf
      refine LoadNG.at (vs := bvs a) a20 (.tl (.tl (.tl .all))) ?_
      conv=>whnf
      refine LoadNG.at (vs := bvs d.snd) ds20 (.here (TicketD.snd_at d)) ?_
      conv=>whnf
      refine DoesG.eqv 8 (List.replicate 20 (.int .u8)) (by kernel_rfl) (by decide) (by kernel_rfl) (by kernel_rfl) (wt_bvs ha) (wt_bvs hgd.wf.snd) ?_
      conv=>whnf
      rcases hcase with ⟨hne, rfl, rfl, rfl, rfl⟩ | ⟨heq, rfl, rfl, rfl, rfl⟩
      · have hb : bvs a ≠ bvs d.snd := fun e => hne (bvs_inj.1 e).symm
        refine CondG.split (fun _ => ?_) (fun h => absurd h (by simp [hb]))
        conv=>whnf
        refine CondG.decT rfl ?_
        conv=>whnf
        refine LoadNG.at (vs := zeroT'.cells) rfl (.tl .all) ?_
        (conv=>whnf); repeat ((with_reducible first | refine .tt ?_ | refine .ff ?_ | refine .ntt ?_ | refine .nff ?_); conv=>whnf)
        refine BuildG.of (cs := zeroT'.cells) rfl ?_
        (conv=>whnf); repeat ((with_reducible first | refine .tt ?_ | refine .ff ?_ | refine .ntt ?_ | refine .nff ?_); conv=>whnf)
        refine DoesG.eqv 8 tickK (by kernel_rfl) (by decide) (by kernel_rfl) (by kernel_rfl) (TicketD.wt zeroT_wf) (TicketD.wt zeroT_wf) ?_
        (conv=>whnf); repeat ((with_reducible first | refine .tt ?_ | refine .ff ?_ | refine .ntt ?_ | refine .nff ?_); conv=>whnf)
        exact ⟨_, Ent.sel (T := []) (A := [_, _, _, _, _, _, _]) [2, 4, 5, 6] rfl, congrArg Value.bool (by simp), V, m, n, op, cl, all, opv, clv, hI, hov, hcv, by omega, by omega, rfl⟩
      · have hb : bvs a = bvs d.snd := by rw [heq]
        obtain ⟨k, hkd⟩ : ∃ k : Nat, d.tok = k := ⟨d.tok.toNat, by have := hgd.may.2.1.1; omega⟩
        have hk3 : k < 3 := by have := hgd.tok; omega
        have hle : nat4 d.amt ≤ all k := by
          have h1 := openAmt_close k i d hd hc
          rw [if_pos hkd] at h1
          have h4 := hI.sums k hk3
          omega
        obtain ⟨g, cap, rfl, hgc⟩ : ∃ g cap, clv = .slice (some ⟨g, 0, none⟩) cl.length cap ∧ cl.length ≤ cap := by
          rcases hcv with ⟨_, h⟩ | ⟨g, cap, h, h'⟩
          · omega
          · exact ⟨g, cap, h, h'⟩
        refine CondG.split (fun h => absurd h (by simp [hb])) (fun _ => ?_)
        conv=>whnf
        refine LoadG.at (.tl (.tl (.tl (.tl (.here rfl))))) ?_
        conv=>whnf
        refine ArithG.i64' (i : Int) (by omega) (by omega) ?_
        conv=>whnf
        refine ⟨g, 0, cl.length, cap, rfl, by omega, ?_⟩
        conv=>whnf
        rw [ei]
        refine StoreG.at rfl (.tl (.tl (.tl (.tl (.tl (.tl (Upd.own (cs' := bls (cl.set i true)) (by rw [bls_len]; exact hil) (by simp [Value.oneCell']) (bls_set cl hil)))))))) ?_
        conv=>whnf
        refine DrawG.mk 17 [cel b9 82 d.cells, cel b7 82 d.cells, stP 127 s src find (upd V (tkey (i + 1)) []) (n + 1), cel b5 33 (bvs a), own 47 opv op.length (op.flatMap TicketD.cells), own 1 (.slice (some ⟨g, 0, none⟩) cl.length cap) cl.length (bls (cl.set i true))] [cel h 79 (hcells s opv (.slice (some ⟨g, 0, none⟩) cl.length cap) all)] (Ent.front 4 rfl) ?_
        conv=>whnf
        refine .take 0 ?_
        conv=>whnf
        refine ⟨rfl, ?_⟩
        conv=>whnf
        refine .take 13 ?_
        conv=>whnf
        refine ⟨rfl, ?_⟩
        conv=>whnf
        refine .take 14 ?_
        conv=>whnf
        refine ⟨rfl, ?_⟩
        conv=>whnf
        refine .take 1 ?_
        conv=>whnf
        refine ⟨rfl, ?_⟩
        conv=>whnf
        refine .take 2 ?_
        conv=>whnf
        refine ⟨rfl, ?_⟩
        conv=>whnf
        refine LoadG.at (v := .int .i64 (k : Int)) (.here (by rw [← hkd]; exact TicketD.tok_at hgd.wf)) ?_
        conv=>whnf
        refine .take 3 ?_
        conv=>whnf
        refine ⟨rfl, ?_⟩
        conv=>whnf
        refine .take 4 ?_
        conv=>whnf
        refine ⟨rfl, ?_⟩
        conv=>whnf
        refine .take 5 ?_
        conv=>whnf
        refine ⟨rfl, ?_⟩
        conv=>whnf
        refine LoadG.at (v := .int .i64 (k : Int)) (.here (by rw [← hkd]; exact TicketD.tok_at hgd.wf)) ?_
        conv=>whnf
        refine .take 6 ?_
        conv=>whnf
        refine ⟨rfl, ?_⟩
        conv=>whnf
        refine .take 7 ?_
        conv=>whnf
        refine ⟨rfl, ?_⟩
        conv=>whnf
        refine .take 8 ?_
        conv=>whnf
        refine ⟨rfl, ?_⟩
        conv=>whnf
        refine SideG.of (by omega) ?_
        conv=>whnf
        refine .take 10 ?_
        conv=>whnf
        refine ⟨rfl, ?_⟩
        conv=>whnf
        refine .take 11 ?_
        conv=>whnf
        refine ⟨rfl, ?_⟩
        conv=>whnf
        refine LoadNG.at (vs := uvs d.amt) (by rw [uvs_len, hgd.wf.amt]) (.here (TicketD.amt_at hgd.wf)) ?_
        conv=>whnf
        refine .all ?_
        conv=>whnf
        refine ⟨by decide, ?_⟩
        conv=>whnf
        have eo : 0 + 3 + ((k : Nat) : Int).toNat * 5 = 3 + k * 5 := by omega
        rw [eo]
        refine LoadNG.at (vs := uvs (w5 (all k))) rfl (.here (hc_at s opv (.slice (some ⟨g, 0, none⟩) cl.length cap) all hk3)) ?_
        conv=>whnf
        refine .all ?_
        conv=>whnf
        refine ⟨by decide, ?_⟩
        conv=>whnf
        refine CallG.pure (grown_spec _ (w5 (all k)) d.amt rfl (w5_lt _) hgd.amt true) ?_
        rintro _ _ ⟨R, c, hR, hRl, hG, rfl, rfl⟩
        have hRe : R = w5 (all k - nat4 d.amt) := grown_sub hR hRl rfl hgd.amt.len (by have h1 := keep_allLt hI (by omega) hk3; omega) hle hG
        rw [hRe]
        conv=>whnf
        refine .take 15 ?_
        conv=>whnf
        refine ⟨rfl, ?_⟩
        conv=>whnf
        refine SideG.of (by omega) ?_
        conv=>whnf
        refine .all ?_
        conv=>whnf
        refine ⟨by decide, ?_⟩
        conv=>whnf
        rw [eo]
        refine StoreG.at rfl (Upd.hereN (by rw [hcells_len]; show 3 + k * 5 + 5 ≤ 18; omega) (uvs_one _) (hc_set s opv (.slice (some ⟨g, 0, none⟩) cl.length cap) all (subAt all k (nat4 d.amt)) hk3 (if_pos rfl) fun t ht => if_neg ht)) ?_
        conv=>whnf
        refine ⟨rfl, ?_⟩
        conv=>whnf
        refine CondG.decT rfl ?_
        conv=>whnf
        refine LoadNG.at (vs := d.cells) d47 (.tl (.tl .all)) ?_
        (conv=>whnf); repeat ((with_reducible first | refine .tt ?_ | refine .ff ?_ | refine .ntt ?_ | refine .nff ?_); conv=>whnf)
        refine LoadNG.at (vs := d.cells) d47 (.tl .all) ?_
        (conv=>whnf); repeat ((with_reducible first | refine .tt ?_ | refine .ff ?_ | refine .ntt ?_ | refine .nff ?_); conv=>whnf)
        refine DoesG.eqv 8 tickK (by kernel_rfl) (by decide) (by kernel_rfl) (by kernel_rfl) (TicketD.wt hgd.wf) (TicketD.wt hgd.wf) ?_
        (conv=>whnf); repeat ((with_reducible first | refine .tt ?_ | refine .ff ?_ | refine .ntt ?_ | refine .nff ?_); conv=>whnf)
        have hI2 : KeepI W (upd V (tkey (i + 1)) []) m op (cl.set i true) (subAt all k (nat4 d.amt)) := by
          refine hI.closed (by omega) hd hc hI.led hI.inv (fun _ _ => rfl) hkd fun t ht => ?_
          have h4 := hI.sums t ht
          unfold subAt
          by_cases e : t = k
          · rw [if_pos e, if_pos e]
            rw [e] at h4 ⊢
            omega
          · rw [if_neg e, if_neg e]
            omega
        exact ⟨_, Ent.sel (T := []) (A := [_, _, _, _, _, _, _]) [3, 0, 5, 6] rfl, congrArg Value.bool (by simp), _, m, n + 1, op, cl.set i true, _, opv, .slice (some ⟨g, 0, none⟩) cl.length cap, hI2, hov, by rw [List.length_set]; exact .inr ⟨g, cap, rfl, hgc⟩, by omega, by omega, by rw [HL, List.length_set]; rfl⟩
  · conv=>whnf
    intro b7
    conv=>whnf
    refine .all ?_
    conv=>whnf
    refine ⟨by decide, ?_⟩
    conv=>whnf
    refine CallG.of (pre := [stP 127 s src find V n]) (rest := [_]) (cancel_at _ s src V n j a ha (hs.left [_, _, _, _, _]) ho (by omega)) (Ent.front 1 rfl) ?_
    intro v L' hR
    obtain ⟨tc, e, U, n', htw, rfl, rfl, hn', hcase⟩ := cancel_cases (find := find) (T := 127) (s := s) (src := src) (n := n) hI (by omega) hR
    have t47 := TicketD.cells_len htw
    conv=>whnf
    refine .take 7 ?_
    conv=>whnf
    refine ⟨rfl, ?_⟩
    conv=>whnf
    refine .take 8 ?_
    conv=>whnf
    refine ⟨rfl, ?_⟩
    conv=>whnf
    refine .take 9 ?_
    conv=>whnf
    refine ⟨rfl, ?_⟩
    conv=>whnf
    refine .all ?_
    conv=>whnf
    refine ⟨by decide, ?_⟩
    conv=>whnf
    refine StoreG.ent (Ent.front 1 rfl) ?_
    refine StoreG.at t47 (Upd.whole (by rw [t47]; rfl) (TicketD.cells_one _)) ?_
    conv=>whnf
    refine .all ?_
    conv=>whnf
    refine ⟨by decide, ?_⟩
    conv=>whnf
    refine ⟨rfl, ?_⟩
    conv=>whnf
    refine CallG.pure (hopen_spec _ h s opv clv all op cl hlen (.tl (.tl (.tl .all))) (.tl (.tl (.tl (.tl (own_rd hov l47))))) (.tl (.tl (.tl (.tl (.tl (own_rd hcv (by rw [bls_len, Nat.mul_one]))))))) (by omega) j j1 j2) ?_
    rintro _ _ ⟨rfl, rfl⟩
    rcases hcase with ⟨hop1, rfl, rfl, rfl, rfl⟩ | ⟨hop1, i, d, rfl, hd, hc, hcase⟩
    · rw [hop1]
      (conv=>whnf); repeat ((with_reducible first | refine .tt ?_ | refine .ff ?_ | refine .ntt ?_ | refine .nff ?_); conv=>whnf)
      refine CondG.decT rfl ?_
      conv=>whnf
      refine LoadNG.at (vs := zeroT'.cells) rfl .all ?_
      (conv=>whnf); repeat ((with_reducible first | refine .tt ?_ | refine .ff ?_ | refine .ntt ?_ | refine .nff ?_); conv=>whnf)
      refine BuildG.of (cs := zeroT'.cells) rfl ?_
      (conv=>whnf); repeat ((with_reducible first | refine .tt ?_ | refine .ff ?_ | refine .ntt ?_ | refine .nff ?_); conv=>whnf)
      refine DoesG.eqv 8 tickK (by kernel_rfl) (by decide) (by kernel_rfl) (by kernel_rfl) (TicketD.wt zeroT_wf) (TicketD.wt zeroT_wf) ?_
      (conv=>whnf); repeat ((with_reducible first | refine .tt ?_ | refine .ff ?_ | refine .ntt ?_ | refine .nff ?_); conv=>whnf)
      exact ⟨_, Ent.sel (T := []) (A := [_, _, _, _, _, _]) [1, 3, 4, 5] rfl, congrArg Value.bool (by simp), V, m, n, op, cl, all, opv, clv, hI, hov, hcv, by omega, by omega, rfl⟩
    · rw [hop1]
      have hio : i < op.length := (List.getElem?_eq_some_iff.1 hd).1
      have hil : i < cl.length := (List.getElem?_eq_some_iff.1 hc).1
      have hdi : op[i] = d := (List.getElem?_eq_some_iff.1 hd).2
      obtain ⟨hgd, hnum⟩ := hI.good i d hd
      have d47 := TicketD.cells_len hgd.wf
      have ds20 : (bvs d.snd).length = 20 := by rw [bvs_len, hgd.wf.snd]
      have ei : 0 + ((i : Nat) : Int).toNat * 1 = i := by omega
      (conv=>whnf); repeat ((with_reducible first | refine .tt ?_ | refine .ff ?_ | refine .ntt ?_ | refine .nff ?_); conv=>whnf)
      refine LoadG.at (.tl (.tl (.tl (.here rfl)))) ?_
      conv=>whnf
      refine ArithG.i64' (i : Int) (by omega) (by omega) ?_
      conv=>whnf
      refine IdxG.rd (L := own 47 opv op.length (op.flatMap TicketD.cells) :: [own 1 clv cl.length (bls cl)]) (own_rd hov l47) (by omega) fun cb o hcc => ?_
      conv=>whnf
      refine LoadNG.at (vs := d.cells) d47 (.tl (.tl (.tl (.tl (hcc.part (by rw [d47, Int.toNat_natCast, ← hdi]; exact flat_get hall47 hio)))))) ?_
      clear hcc
      conv=>whnf
      intro b9
      conv=>whnf
      refine StoreG.at d47 (Upd.whole (by rw [d47]; rfl) (TicketD.cells_one _)) ?_
      conv=>whnf
      refine LoadNG.at (vs := bvs a) a20 (.tl (.tl (.tl .all))) ?_
      conv=>whnf
      refine LoadNG.at (vs := bvs d.snd) ds20 (.here (TicketD.snd_at d)) ?_
      conv=>whnf
      refine DoesG.eqv 8 (List.replicate 20 (.int .u8)) (by kernel_rfl) (by decide) (by kernel_rfl) (by kernel_rfl) (wt_bvs ha) (wt_bvs hgd.wf.snd) ?_
      conv=>whnf
      rcases hcase with ⟨hne, rfl, rfl, rfl, rfl⟩ | ⟨heq, rfl, rfl, rfl, rfl⟩
      · have hb : bvs a ≠ bvs d.snd := fun e => hne (bvs_inj.1 e).symm
        refine CondG.split (fun _ => ?_) (fun h => absurd h (by simp [hb]))
        conv=>whnf
        refine CondG.decT rfl ?_
        conv=>whnf
        refine LoadNG.at (vs := zeroT'.cells) rfl (.tl .all) ?_
        (conv=>whnf); repeat ((with_reducible first | refine .tt ?_ | refine .ff ?_ | refine .ntt ?_ | refine .nff ?_); conv=>whnf)
        refine BuildG.of (cs := zeroT'.cells) rfl ?_
        (conv=>whnf); repeat ((with_reducible first | refine .tt ?_ | refine .ff ?_ | refine .ntt ?_ | refine .nff ?_); conv=>whnf)
        refine DoesG.eqv 8 tickK (by kernel_rfl) (by decide) (by kernel_rfl) (by kernel_rfl) (TicketD.wt zeroT_wf) (TicketD.wt zeroT_wf) ?_
        (conv=>whnf); repeat ((with_reducible first | refine .tt ?_ | refine .ff ?_ | refine .ntt ?_ | refine .nff ?_); conv=>whnf)
        exact ⟨_, Ent.sel (T := []) (A := [_, _, _, _, _, _, _]) [2, 4, 5, 6] rfl, congrArg Value.bool (by simp), V, m, n, op, cl, all, opv, clv, hI, hov, hcv, by omega, by omega, rfl⟩
      · have hb : bvs a = bvs d.snd := by rw [heq]
        obtain ⟨k, hkd⟩ : ∃ k : Nat, d.tok = k := ⟨d.tok.toNat, by have := hgd.may.2.1.1; omega⟩
        have hk3 : k < 3 := by have := hgd.tok; omega
        have hle : nat4 d.amt ≤ all k := by
          have h1 := openAmt_close k i d hd hc
          rw [if_pos hkd] at h1
          have h4 := hI.sums k hk3
          omega
        obtain ⟨g, cap, rfl, hgc⟩ : ∃ g cap, clv = .slice (some ⟨g, 0, none⟩) cl.length cap ∧ cl.length ≤ cap := by
          rcases hcv with ⟨_, h⟩ | ⟨g, cap, h, h'⟩
          · omega
          · exact ⟨g, cap, h, h'⟩
        refine CondG.split (fun h => absurd h (by simp [hb])) (fun _ => ?_)
        conv=>whnf
        refine LoadG.at (.tl (.tl (.tl (.tl (.here rfl))))) ?_
        conv=>whnf
        refine ArithG.i64' (i : Int) (by omega) (by omega) ?_
        conv=>whnf
        refine ⟨g, 0, cl.length, cap, rfl, by omega, ?_⟩
        conv=>whnf
        rw [ei]
        refine StoreG.at rfl (.tl (.tl (.tl (.tl (.tl (.tl (Upd.own (cs' := bls (cl.set i true)) (by rw [bls_len]; exact hil) (by simp [Value.oneCell']) (bls_set cl hil)))))))) ?_
        conv=>whnf
        refine DrawG.mk 17 [cel b9 82 d.cells, cel b7 82 d.cells, stP 127 s src find (upd V (tkey (i + 1)) []) (n + 1), cel b5 33 (bvs a), own 47 opv op.length (op.flatMap TicketD.cells), own 1 (.slice (some ⟨g, 0, none⟩) cl.length cap) cl.length (bls (cl.set i true))] [cel h 79 (hcells s opv (.slice (some ⟨g, 0, none⟩) cl.length cap) all)] (Ent.front 4 rfl) ?_
        conv=>whnf
        refine .take 0 ?_
        conv=>whnf
        refine ⟨rfl, ?_⟩
        conv=>whnf
        refine .take 13 ?_
        conv=>whnf
        refine ⟨rfl, ?_⟩
        conv=>whnf
        refine .take 14 ?_
        conv=>whnf
        refine ⟨rfl, ?_⟩
        conv=>whnf
        refine .take 1 ?_
        conv=>whnf
        refine ⟨rfl, ?_⟩
        conv=>whnf
        refine .take 2 ?_
        conv=>whnf
        refine ⟨rfl, ?_⟩
        conv=>whnf
        refine LoadG.at (v := .int .i64 (k : Int)) (.here (by rw [← hkd]; exact TicketD.tok_at hgd.wf)) ?_
        conv=>whnf
        refine .take 3 ?_
        conv=>whnf
        refine ⟨rfl, ?_⟩
        conv=>whnf
        refine .take 4 ?_
        conv=>whnf
        refine ⟨rfl, ?_⟩
        conv=>whnf
        refine .take 5 ?_
        conv=>whnf
        refine ⟨rfl, ?_⟩
        conv=>whnf
        refine LoadG.at (v := .int .i64 (k : Int)) (.here (by rw [← hkd]; exact TicketD.tok_at hgd.wf)) ?_
        conv=>whnf
        refine .take 6 ?_
        conv=>whnf
        refine ⟨rfl, ?_⟩
        conv=>whnf
        refine .take 7 ?_
        conv=>whnf
        refine ⟨rfl, ?_⟩
        conv=>whnf
        refine .take 8 ?_
        conv=>whnf
        refine ⟨rfl, ?_⟩
        conv=>whnf
        refine SideG.of (by omega) ?_
        conv=>whnf
        refine .take 10 ?_
        conv=>whnf
        refine ⟨rfl, ?_⟩
        conv=>whnf
        refine .take 11 ?_
        conv=>whnf
        refine ⟨rfl, ?_⟩
        conv=>whnf
        refine LoadNG.at (vs := uvs d.amt) (by rw [uvs_len, hgd.wf.amt]) (.here (TicketD.amt_at hgd.wf)) ?_
        conv=>whnf
        refine .all ?_
        conv=>whnf
        refine ⟨by decide, ?_⟩
        conv=>whnf
        have eo : 0 + 3 + ((k : Nat) : Int).toNat * 5 = 3 + k * 5 := by omega
        rw [eo]
        refine LoadNG.at (vs := uvs (w5 (all k))) rfl (.here (hc_at s opv (.slice (some ⟨g, 0, none⟩) cl.length cap) all hk3)) ?_
        conv=>whnf
        refine .all ?_
        conv=>whnf
        refine ⟨by decide, ?_⟩
        conv=>whnf
        refine CallG.pure (grown_spec _ (w5 (all k)) d.amt rfl (w5_lt _) hgd.amt true) ?_
        rintro _ _ ⟨R, c, hR, hRl, hG, rfl, rfl⟩
        have hRe : R = w5 (all k - nat4 d.amt) := grown_sub hR hRl rfl hgd.amt.len (by have h1 := keep_allLt hI (by omega) hk3; omega) hle hG
        rw [hRe]
        conv=>whnf
        refine .take 15 ?_
        conv=>whnf
        refine ⟨rfl, ?_⟩
        conv=>whnf
        refine SideG.of (by omega) ?_
        conv=>whnf
        refine .all ?_
        conv=>whnf
        refine ⟨by decide, ?_⟩
        conv=>whnf
        rw [eo]
        refine StoreG.at rfl (Upd.hereN (by rw [hcells_len]; show 3 + k * 5 + 5 ≤ 18; omega) (uvs_one _) (hc_set s opv (.slice (some ⟨g, 0, none⟩) cl.length cap) all (subAt all k (nat4 d.amt)) hk3 (if_pos rfl) fun t ht => if_neg ht)) ?_
        conv=>whnf
        refine ⟨rfl, ?_⟩
        conv=>whnf
        refine CondG.decT rfl ?_
        conv=>whnf
        refine LoadNG.at (vs := d.cells) d47 (.tl (.tl .all)) ?_
        (conv=>whnf); repeat ((with_reducible first | refine .tt ?_ | refine .ff ?_ | refine .ntt ?_ | refine .nff ?_); conv=>whnf)
        refine LoadNG.at (vs := d.cells) d47 (.tl .all) ?_
        (conv=>whnf); repeat ((with_reducible first | refine .tt ?_ | refine .ff ?_ | refine .ntt ?_ | refine .nff ?_); conv=>whnf)
        refine DoesG.eqv 8 tickK (by kernel_rfl) (by decide) (by kernel_rfl) (by kernel_rfl) (TicketD.wt hgd.wf) (TicketD.wt hgd.wf) ?_
        (conv=>whnf); repeat ((with_reducible first | refine .tt ?_ | refine .ff ?_ | refine .ntt ?_ | refine .nff ?_); conv=>whnf)
        have hI2 : KeepI W (upd V (tkey (i + 1)) []) m op (cl.set i true) (subAt all k (nat4 d.amt)) := by
          refine hI.closed (by omega) hd hc hI.led hI.inv (fun _ _ => rfl) hkd fun t ht => ?_
          have h4 := hI.sums t ht
          unfold subAt
          by_cases e : t = k
          · rw [if_pos e, if_pos e]
            rw [e] at h4 ⊢
            omega
          · rw [if_neg e, if_neg e]
            omega
        exact ⟨_, Ent.sel (T := []) (A := [_, _, _, _, _, _, _]) [3, 0, 5, 6] rfl, congrArg Value.bool (by simp), _, m, n + 1, op, cl.set i true, _, opv, .slice (some ⟨g, 0, none⟩) cl.length cap, hI2, hov, by rw [List.length_set]; exact .inr ⟨g, cap, rfl, hgc⟩, by omega, by omega, by rw [HL, List.length_set]; rfl⟩
end
end Go.Proofs.YtnbcbdlbejdkpaaDoor
