/-
  A ledger's tokens, balances, allowances over a state: contracts out of the resolved texts.
-/
import Derived.Test.YtnbcbdlbejdkpaaDoorLx
namespace Go.Proofs.YtnbcbdlbejdkpaaDoor
open Go Go.Sl
theorem tokKey_size (t : Nat) : (tokKey t).size = 2 := strB_size _
theorem balKey_size {t : Nat} {a : List Nat} (ha : a.length = 20) : (balKey t a).size = 22 := by rw [balKey, strB_size]; simp [ha]
theorem allKey_size {t : Nat} {o s : List Nat} (ho : o.length = 20) (hs : s.length = 20) : (allKey t o s).size = 42 := by rw [allKey, strB_size]; simp [ho, hs]
theorem may_tok (t n : Nat) (hn : n ≤ 4096) : mayI (tokKey t) n = 0 := mayI_ok (by rw [tokKey_size]; decide) (by rw [tokKey_size]; decide) hn
theorem may_bal {t : Nat} {a : List Nat} (ha : a.length = 20) (n : Nat) (hn : n ≤ 4096) : mayI (balKey t a) n = 0 := mayI_ok (by rw [balKey_size ha]; decide) (by rw [balKey_size ha]; decide) hn
theorem may_all {t : Nat} {o s : List Nat} (ho : o.length = 20) (hs : s.length = 20) (n : Nat) (hn : n ≤ 4096) : mayI (allKey t o s) n = 0 := mayI_ok (by rw [allKey_size ho hs]; decide) (by rw [allKey_size ho hs]; decide) hn
section
variable {find : ByteArray → List Nat × Int}
theorem amount_spec (F : List HP) (s : Nat) (src : Value) (V : View) (n : Nat) (key : ByteArray) (hs : SrcG Tryd.prog F src find) (ho : SrcOk find) (hk : mayI key 0 = 0) :
    SpecF Tryd.prog 51 [.pointer (some ⟨s, 0, none⟩), .string key] F [stP 127 s src find V n] (fun r L => r = .tuple #[.agg ⟨uvs (amtR (V key)).1⟩, .int .i64 (amtR (V key)).2] ∧ L = [stP 127 s src find V n]) := by
  refine fun51.spec rfl ?_
  (conv => whnf); repeat ((first | with_reducible refine CondG.tt ?_ | with_reducible refine CondG.ff ?_); conv => whnf)
  intro b4
  (conv => whnf); repeat ((first | with_reducible refine CondG.tt ?_ | with_reducible refine CondG.ff ?_); conv => whnf)
  refine CallG.of (pre := [stP 127 s src find V n]) (rest := [cel b4 25 (uvs z4)]) (get_at _ s src V n key (hs.left _) ho hk) (Ent.perm (List.Perm.swap _ _ _)) ?_
  rintro _ _ ⟨x, hx, hl, rfl, rfl⟩
  (conv => whnf); repeat ((first | with_reducible refine CondG.tt ?_ | with_reducible refine CondG.ff ?_); conv => whnf)
  refine CondG.ff ?_
  (conv => whnf); repeat ((first | with_reducible refine CondG.tt ?_ | with_reducible refine CondG.ff ?_); conv => whnf)
  refine LenG.sl hx ?_
  (conv => whnf); repeat ((first | with_reducible refine CondG.tt ?_ | with_reducible refine CondG.ff ?_); conv => whnf)
  refine CondG.dec (fun h => ?_) (fun h => ?_)
  · have e : V key = [] := List.eq_nil_of_length_eq_zero (by omega)
    (conv => whnf); repeat ((first | with_reducible refine CondG.tt ?_ | with_reducible refine CondG.ff ?_); conv => whnf)
    refine BuildG.of rfl ?_
    (conv => whnf); repeat ((first | with_reducible refine CondG.tt ?_ | with_reducible refine CondG.ff ?_); conv => whnf)
    refine StoreG.at rfl (Upd.tl (Upd.tl (Upd.whole rfl (uvs_one z4)))) ?_
    (conv => whnf); repeat ((first | with_reducible refine CondG.tt ?_ | with_reducible refine CondG.ff ?_); conv => whnf)
    refine LoadNG.at (vs := uvs z4) rfl (.tl (.tl .all)) ?_
    (conv => whnf); repeat ((first | with_reducible refine CondG.tt ?_ | with_reducible refine CondG.ff ?_); conv => whnf)
    refine ⟨_, Ent.sel (T := []) (A := [_, _, _]) [1] rfl, ?_, rfl⟩
    rw [e]
    rfl
  have hne : V key ≠ [] := fun e => h (by rw [e]; rfl)
  by_cases h32 : (V key).length = 32
  · have hx32 : SlV x 32 := by rw [← h32]; exact hx
    (conv => whnf); repeat ((first | with_reducible refine CondG.tt ?_ | with_reducible refine CondG.ff ?_); conv => whnf)
    refine CallG.pure (wread_spec _ x (V key) h32 (.left (by rw [h32]; exact own_rd hx32 (by rw [bvs_len, h32])) F)) ?_
    rintro _ _ ⟨rfl, rfl⟩
    rw [ivs_words]
    have hwl := wordsN_len (V key)
    (conv => whnf); repeat ((first | with_reducible refine CondG.tt ?_ | with_reducible refine CondG.ff ?_); conv => whnf)
    intro b8
    (conv => whnf); repeat ((first | with_reducible refine CondG.tt ?_ | with_reducible refine CondG.ff ?_); conv => whnf)
    refine StoreG.at (by rw [uvs_len, hwl]) (Upd.whole (by rw [uvs_len, hwl]; rfl) (uvs_one _)) ?_
    (conv => whnf); repeat ((first | with_reducible refine CondG.tt ?_ | with_reducible refine CondG.ff ?_); conv => whnf)
    refine CondG.ff ?_
    (conv => whnf); repeat ((first | with_reducible refine CondG.tt ?_ | with_reducible refine CondG.ff ?_); conv => whnf)
    refine LoadNG.at (vs := uvs (wordsN (V key))) (by rw [uvs_len, hwl]) .all ?_
    (conv => whnf); repeat ((first | with_reducible refine CondG.tt ?_ | with_reducible refine CondG.ff ?_); conv => whnf)
    refine CallG.pure (isZero_spec _ (wordsN (V key)) hwl) ?_
    rintro _ _ ⟨rfl, rfl⟩
    (conv => whnf); repeat ((first | with_reducible refine CondG.tt ?_ | with_reducible refine CondG.ff ?_); conv => whnf)
    refine CondG.dec (fun hz => ?_) (fun hz => ?_)
    · (conv => whnf); repeat ((first | with_reducible refine CondG.tt ?_ | with_reducible refine CondG.ff ?_); conv => whnf)
      refine BuildG.of rfl ?_
      (conv => whnf); repeat ((first | with_reducible refine CondG.tt ?_ | with_reducible refine CondG.ff ?_); conv => whnf)
      refine StoreG.at rfl (Upd.tl (Upd.tl (Upd.tl (Upd.whole rfl (uvs_one z4))))) ?_
      (conv => whnf); repeat ((first | with_reducible refine CondG.tt ?_ | with_reducible refine CondG.ff ?_); conv => whnf)
      refine LoadNG.at (vs := uvs z4) rfl (.tl (.tl (.tl .all))) ?_
      (conv => whnf); repeat ((first | with_reducible refine CondG.tt ?_ | with_reducible refine CondG.ff ?_); conv => whnf)
      refine ⟨_, Ent.sel (T := []) (A := [_, _, _, _]) [2] rfl, ?_, rfl⟩
      rw [amtR, if_neg hne, if_neg (fun hh => hh.2 hz)]
      rfl
    · (conv => whnf); repeat ((first | with_reducible refine CondG.tt ?_ | with_reducible refine CondG.ff ?_); conv => whnf)
      refine LoadNG.at (vs := uvs (wordsN (V key))) (by rw [uvs_len, hwl]) .all ?_
      (conv => whnf); repeat ((first | with_reducible refine CondG.tt ?_ | with_reducible refine CondG.ff ?_); conv => whnf)
      refine StoreG.at (by rw [uvs_len, hwl]) (Upd.tl (Upd.tl (Upd.tl (Upd.whole (by rw [uvs_len, hwl]; rfl) (uvs_one _))))) ?_
      (conv => whnf); repeat ((first | with_reducible refine CondG.tt ?_ | with_reducible refine CondG.ff ?_); conv => whnf)
      refine LoadNG.at (vs := uvs (wordsN (V key))) (by rw [uvs_len, hwl]) (.tl (.tl (.tl .all))) ?_
      (conv => whnf); repeat ((first | with_reducible refine CondG.tt ?_ | with_reducible refine CondG.ff ?_); conv => whnf)
      refine ⟨_, Ent.sel (T := []) (A := [_, _, _, _]) [2] rfl, ?_, rfl⟩
      rw [amtR, if_neg hne, if_pos ⟨h32, hz⟩]
      rfl
  · (conv => whnf); repeat ((first | with_reducible refine CondG.tt ?_ | with_reducible refine CondG.ff ?_); conv => whnf)
    refine CallG.pure (wread_no _ x (V key) h32 (.left (own_rd hx (by rw [bvs_len, Nat.mul_one])) F)) ?_
    rintro _ _ ⟨rfl, rfl⟩
    (conv => whnf); repeat ((first | with_reducible refine CondG.tt ?_ | with_reducible refine CondG.ff ?_); conv => whnf)
    intro b8
    (conv => whnf); repeat ((first | with_reducible refine CondG.tt ?_ | with_reducible refine CondG.ff ?_); conv => whnf)
    refine StoreG.at rfl (Upd.whole rfl (uvs_one z4)) ?_
    (conv => whnf); repeat ((first | with_reducible refine CondG.tt ?_ | with_reducible refine CondG.ff ?_); conv => whnf)
    refine CondG.tt ?_
    (conv => whnf); repeat ((first | with_reducible refine CondG.tt ?_ | with_reducible refine CondG.ff ?_); conv => whnf)
    refine BuildG.of rfl ?_
    (conv => whnf); repeat ((first | with_reducible refine CondG.tt ?_ | with_reducible refine CondG.ff ?_); conv => whnf)
    refine StoreG.at rfl (Upd.tl (Upd.tl (Upd.tl (Upd.whole rfl (uvs_one z4))))) ?_
    (conv => whnf); repeat ((first | with_reducible refine CondG.tt ?_ | with_reducible refine CondG.ff ?_); conv => whnf)
    refine LoadNG.at (vs := uvs z4) rfl (.tl (.tl (.tl .all))) ?_
    (conv => whnf); repeat ((first | with_reducible refine CondG.tt ?_ | with_reducible refine CondG.ff ?_); conv => whnf)
    refine ⟨_, Ent.sel (T := []) (A := [_, _, _, _]) [2] rfl, ?_, rfl⟩
    rw [amtR, if_neg hne, if_neg (fun hh => h32 hh.1)]
    rfl
theorem lay_at (F : List HP) (s : Nat) (src : Value) (V : View) (n : Nat) (key : ByteArray) (a : List Nat) (ha : a.length = 4) (hs : SrcG Tryd.prog F src find) (ho : SrcOk find) (hk : ∀ m, m ≤ 4096 → mayI key m = 0) (hn : n ≤ 1099511627776) :
    SpecF Tryd.prog 53 [.pointer (some ⟨s, 0, none⟩), .string key, .agg ⟨uvs a⟩] F [stP 127 s src find V n] (fun r L => r = .int .i64 0 ∧ L = [stP 127 s src find (layA V key a) (n + 1)]) := by
  have hal : (uvs a).length = 4 := by rw [uvs_len, ha]
  refine fun53.spec rfl ?_
  (conv => whnf); repeat ((first | with_reducible refine CondG.tt ?_ | with_reducible refine CondG.ff ?_); conv => whnf)
  intro b5
  (conv => whnf); repeat ((first | with_reducible refine CondG.tt ?_ | with_reducible refine CondG.ff ?_); conv => whnf)
  refine LoadNG.at (vs := uvs a) hal .all ?_
  (conv => whnf); repeat ((first | with_reducible refine CondG.tt ?_ | with_reducible refine CondG.ff ?_); conv => whnf)
  refine CallG.pure (isZero_spec _ a ha) ?_
  rintro _ _ ⟨rfl, rfl⟩
  (conv => whnf); repeat ((first | with_reducible refine CondG.tt ?_ | with_reducible refine CondG.ff ?_); conv => whnf)
  refine CondG.dec (fun hz => ?_) (fun hz => ?_)
  · (conv => whnf); repeat ((first | with_reducible refine CondG.tt ?_ | with_reducible refine CondG.ff ?_); conv => whnf)
    refine CallG.of (pre := [stP 127 s src find V n]) (rest := [cel b5 25 (uvs a)]) (put_at _ s src V n key (.slice none 0 0) [] (hs.left _) ho (hk 0 (by decide)) (.inl ⟨rfl, rfl⟩) .nil hn) (Ent.perm (List.Perm.swap _ _ _)) ?_
    rintro _ _ ⟨rfl, rfl⟩
    (conv => whnf); repeat ((first | with_reducible refine CondG.tt ?_ | with_reducible refine CondG.ff ?_); conv => whnf)
    refine ⟨_, Ent.sel (T := []) (A := [_, _]) [0] rfl, rfl, ?_⟩
    rw [layA, amtB, if_pos (show a = z4 from hz)]
    rfl
  · (conv => whnf); repeat ((first | with_reducible refine CondG.tt ?_ | with_reducible refine CondG.ff ?_); conv => whnf)
    refine LoadNG.at (vs := uvs a) hal .all ?_
    (conv => whnf); repeat ((first | with_reducible refine CondG.tt ?_ | with_reducible refine CondG.ff ?_); conv => whnf)
    refine CallG.pure (wbytes_spec _ a ha) ?_
    rintro r _ ⟨hr, rfl⟩
    have hwl := wide_len a
    (conv => whnf); repeat ((first | with_reducible refine CondG.tt ?_ | with_reducible refine CondG.ff ?_); conv => whnf)
    refine CallG.of (pre := [stP 127 s src find V n]) (rest := [own 1 r 32 (bvs (wideB a)), cel b5 25 (uvs a)]) (put_at _ s src V n key r (wideB a) (hs.left _) ho (hk _ (by rw [hwl]; decide)) (by rw [hwl]; exact hr) (by rw [hwl]; exact .left (own_rd hr (by rw [bvs_len, hwl])) _) hn) (Ent.sel (T := []) (A := [_, _, _]) [2, 0, 1] rfl) ?_
    rintro _ _ ⟨rfl, rfl⟩
    (conv => whnf); repeat ((first | with_reducible refine CondG.tt ?_ | with_reducible refine CondG.ff ?_); conv => whnf)
    refine ⟨_, Ent.sel (T := []) (A := [_, _, _]) [0] rfl, rfl, ?_⟩
    rw [layA, amtB, if_neg (show ¬ a = z4 from hz)]
    rfl
theorem layToken_at (F : List HP) (s : Nat) (src : Value) (V : View) (n : Nat) (t : Nat) (ht : t < 64) (d : TokD) (hd : d.sup.length = 4) (hs : SrcG Tryd.prog F src find) (ho : SrcOk find) (hn : n ≤ 1099511627776) :
    SpecF Tryd.prog 47 [.pointer (some ⟨s, 0, none⟩), .int .i64 t, .agg ⟨d.cells⟩] F [stP 127 s src find V n] (fun r L => r = .int .i64 0 ∧ L = [stP 127 s src find (layTok V t d) (n + 1)]) := by
  have hdl : d.cells.length = 6 := TokD.cells_len hd
  have hsl : (uvs d.sup).length = 4 := by rw [uvs_len, hd]
  have hwl := wide_len d.sup
  have hsup : (d.cells.drop 2).take (uvs d.sup).length = uvs d.sup := by simp [TokD.cells]
  have htl := tokB_len d
  refine fun47.spec rfl ?_
  (conv => whnf); repeat ((first | with_reducible refine CondG.tt ?_ | with_reducible refine CondG.ff ?_); conv => whnf)
  intro b5
  (conv => whnf); repeat ((first | with_reducible refine CondG.tt ?_ | with_reducible refine CondG.ff ?_); conv => whnf)
  refine LoadG.at (v := .bool d.paused) (.here rfl) ?_
  (conv => whnf); repeat ((first | with_reducible refine CondG.tt ?_ | with_reducible refine CondG.ff ?_); conv => whnf)
  have key : ∀ (f : Nat), f = (if d.paused then 3 else 1) → bvs [f] ++ bvs (wideB d.sup) = bvs (tokB d) := fun f hf => by
    rw [hf]; rfl
  refine CondG.split (fun hp => ?_) (fun hp => ?_)
  all_goals
    (conv => whnf); repeat ((first | with_reducible refine CondG.tt ?_ | with_reducible refine CondG.ff ?_); conv => whnf)
    refine DrawG.mk 11 [cel b5 44 d.cells] [stP 127 s src find V n] (Ent.perm (List.Perm.swap _ _ _)) ?_
    (conv => whnf); repeat ((first | with_reducible refine CondG.tt ?_ | with_reducible refine CondG.ff ?_); conv => whnf)
    refine .take 0 ?_
    (conv => whnf); repeat ((first | with_reducible refine CondG.tt ?_ | with_reducible refine CondG.ff ?_); conv => whnf)
    refine ⟨rfl, ?_⟩
    (conv => whnf); repeat ((first | with_reducible refine CondG.tt ?_ | with_reducible refine CondG.ff ?_); conv => whnf)
    refine .take 1 ?_
    (conv => whnf); repeat ((first | with_reducible refine CondG.tt ?_ | with_reducible refine CondG.ff ?_); conv => whnf)
    refine ⟨rfl, ?_⟩
    (conv => whnf); repeat ((first | with_reducible refine CondG.tt ?_ | with_reducible refine CondG.ff ?_); conv => whnf)
    refine .take 3 ?_
    (conv => whnf); repeat ((first | with_reducible refine CondG.tt ?_ | with_reducible refine CondG.ff ?_); conv => whnf)
    refine ⟨rfl, ?_⟩
    (conv => whnf); repeat ((first | with_reducible refine CondG.tt ?_ | with_reducible refine CondG.ff ?_); conv => whnf)
    refine .take 5 ?_
    (conv => whnf); repeat ((first | with_reducible refine CondG.tt ?_ | with_reducible refine CondG.ff ?_); conv => whnf)
    refine ⟨rfl, ?_⟩
    (conv => whnf); repeat ((first | with_reducible refine CondG.tt ?_ | with_reducible refine CondG.ff ?_); conv => whnf)
    refine .take 6 ?_
    (conv => whnf); repeat ((first | with_reducible refine CondG.tt ?_ | with_reducible refine CondG.ff ?_); conv => whnf)
    refine ⟨rfl, ?_⟩
    (conv => whnf); repeat ((first | with_reducible refine CondG.tt ?_ | with_reducible refine CondG.ff ?_); conv => whnf)
    refine LoadNG.at (vs := uvs d.sup) hsl (.here hsup) ?_
    (conv => whnf); repeat ((first | with_reducible refine CondG.tt ?_ | with_reducible refine CondG.ff ?_); conv => whnf)
    refine .all ?_
    (conv => whnf); repeat ((first | with_reducible refine CondG.tt ?_ | with_reducible refine CondG.ff ?_); conv => whnf)
    refine ⟨by decide, ?_, ?_⟩
    (conv => whnf); repeat ((first | with_reducible refine CondG.tt ?_ | with_reducible refine CondG.ff ?_); conv => whnf)
    refine CallG.pure (tokenKey_spec _ t ht) ?_
    rintro _ _ ⟨rfl, rfl⟩
    (conv => whnf); repeat ((first | with_reducible refine CondG.tt ?_ | with_reducible refine CondG.ff ?_); conv => whnf)
    refine .all ?_
    (conv => whnf); repeat ((first | with_reducible refine CondG.tt ?_ | with_reducible refine CondG.ff ?_); conv => whnf)
    refine ⟨by decide, ?_, ?_⟩
    (conv => whnf); repeat ((first | with_reducible refine CondG.tt ?_ | with_reducible refine CondG.ff ?_); conv => whnf)
    refine BuildG.of (cs := bvs [_]) rfl ?_
    (conv => whnf); repeat ((first | with_reducible refine CondG.tt ?_ | with_reducible refine CondG.ff ?_); conv => whnf)
    intro b14
    (conv => whnf); repeat ((first | with_reducible refine CondG.tt ?_ | with_reducible refine CondG.ff ?_); conv => whnf)
    refine .all ?_
    (conv => whnf); repeat ((first | with_reducible refine CondG.tt ?_ | with_reducible refine CondG.ff ?_); conv => whnf)
    refine ⟨by decide, ?_⟩
    (conv => whnf); repeat ((first | with_reducible refine CondG.tt ?_ | with_reducible refine CondG.ff ?_); conv => whnf)
    refine CallG.pure (wbytes_spec _ d.sup hd) ?_
    rintro r _ ⟨hr, rfl⟩
    (conv => whnf); repeat ((first | with_reducible refine CondG.tt ?_ | with_reducible refine CondG.ff ?_); conv => whnf)
    refine .all ?_
    (conv => whnf); repeat ((first | with_reducible refine CondG.tt ?_ | with_reducible refine CondG.ff ?_); conv => whnf)
    refine ⟨by decide, ?_⟩
    (conv => whnf); repeat ((first | with_reducible refine CondG.tt ?_ | with_reducible refine CondG.ff ?_); conv => whnf)
    refine DoesG.ent (M := [cel b14 5 (bvs [_]), own 1 r 32 (bvs (wideB d.sup)), stP 127 s src find V n]) (Ent.sel (T := []) (A := [_, _, _]) [1, 0, 2] rfl) ?_
    rotate_left
    (conv => whnf); repeat ((first | with_reducible refine CondG.tt ?_ | with_reducible refine CondG.ff ?_); conv => whnf)
    refine CallG.pure (wbytes_spec _ d.sup hd) ?_
    rintro r _ ⟨hr, rfl⟩
    (conv => whnf); repeat ((first | with_reducible refine CondG.tt ?_ | with_reducible refine CondG.ff ?_); conv => whnf)
    refine .all ?_
    (conv => whnf); repeat ((first | with_reducible refine CondG.tt ?_ | with_reducible refine CondG.ff ?_); conv => whnf)
    refine ⟨by decide, ?_⟩
    (conv => whnf); repeat ((first | with_reducible refine CondG.tt ?_ | with_reducible refine CondG.ff ?_); conv => whnf)
    refine BuildG.of (cs := bvs [_]) rfl ?_
    (conv => whnf); repeat ((first | with_reducible refine CondG.tt ?_ | with_reducible refine CondG.ff ?_); conv => whnf)
    intro b14
    (conv => whnf); repeat ((first | with_reducible refine CondG.tt ?_ | with_reducible refine CondG.ff ?_); conv => whnf)
    refine .all ?_
    (conv => whnf); repeat ((first | with_reducible refine CondG.tt ?_ | with_reducible refine CondG.ff ?_); conv => whnf)
    refine ⟨by decide, ?_⟩
    (conv => whnf); repeat ((first | with_reducible refine CondG.tt ?_ | with_reducible refine CondG.ff ?_); conv => whnf)
    refine DoesG.ent (M := [cel b14 5 (bvs [_]), own 1 r 32 (bvs (wideB d.sup)), stP 127 s src find V n]) (Ent.refl _) ?_
    rotate_left
    (conv => whnf); repeat ((first | with_reducible refine CondG.tt ?_ | with_reducible refine CondG.ff ?_); conv => whnf)
    refine BuildG.of (cs := bvs [_]) rfl ?_
    (conv => whnf); repeat ((first | with_reducible refine CondG.tt ?_ | with_reducible refine CondG.ff ?_); conv => whnf)
    intro b14
    (conv => whnf); repeat ((first | with_reducible refine CondG.tt ?_ | with_reducible refine CondG.ff ?_); conv => whnf)
    refine .all ?_
    (conv => whnf); repeat ((first | with_reducible refine CondG.tt ?_ | with_reducible refine CondG.ff ?_); conv => whnf)
    refine ⟨by decide, ?_⟩
    (conv => whnf); repeat ((first | with_reducible refine CondG.tt ?_ | with_reducible refine CondG.ff ?_); conv => whnf)
    refine CallG.pure (tokenKey_spec _ t ht) ?_
    rintro _ _ ⟨rfl, rfl⟩
    (conv => whnf); repeat ((first | with_reducible refine CondG.tt ?_ | with_reducible refine CondG.ff ?_); conv => whnf)
    refine .all ?_
    (conv => whnf); repeat ((first | with_reducible refine CondG.tt ?_ | with_reducible refine CondG.ff ?_); conv => whnf)
    refine ⟨by decide, ?_⟩
    (conv => whnf); repeat ((first | with_reducible refine CondG.tt ?_ | with_reducible refine CondG.ff ?_); conv => whnf)
    refine CallG.pure (wbytes_spec _ d.sup hd) ?_
    rintro r _ ⟨hr, rfl⟩
    (conv => whnf); repeat ((first | with_reducible refine CondG.tt ?_ | with_reducible refine CondG.ff ?_); conv => whnf)
    refine .all ?_
    (conv => whnf); repeat ((first | with_reducible refine CondG.tt ?_ | with_reducible refine CondG.ff ?_); conv => whnf)
    refine ⟨by decide, ?_⟩
    (conv => whnf); repeat ((first | with_reducible refine CondG.tt ?_ | with_reducible refine CondG.ff ?_); conv => whnf)
    refine DoesG.ent (M := [cel b14 5 (bvs [_]), own 1 r 32 (bvs (wideB d.sup)), stP 127 s src find V n]) (Ent.sel (T := []) (A := [_, _, _]) [1, 0, 2] rfl) ?_
    all_goals
      refine DoesG.ent (own_of_cel (n := 1) (sz := 1) rfl (by decide)) ?_
      refine app_own bytesT 91 (m := 32) (ys := bvs (wideB d.sup)) (.tl (.left (own_rd hr (by rw [bvs_len, hwl])) _)) (by rw [bvs_len, hwl]) (bvs_one _) (by decide) (by decide) fun q hq hql _ => ?_
      rw [key _ (by rw [hp]; rfl)] at hql ⊢
      (conv => whnf); repeat ((first | with_reducible refine CondG.tt ?_ | with_reducible refine CondG.ff ?_); conv => whnf)
      refine .all ?_
      (conv => whnf); repeat ((first | with_reducible refine CondG.tt ?_ | with_reducible refine CondG.ff ?_); conv => whnf)
      refine ⟨by decide, ?_⟩
      (conv => whnf); repeat ((first | with_reducible refine CondG.tt ?_ | with_reducible refine CondG.ff ?_); conv => whnf)
      refine CallG.of (pre := [stP 127 s src find V n]) (rest := [own 1 q 33 (bvs (tokB d)), own 1 r 32 (bvs (wideB d.sup))]) (put_at _ s src V n (tokKey t) q (tokB d) ((hs.left _).left _) ho (may_tok t _ (by rw [htl]; decide)) (by rw [htl]; exact hq) (by rw [htl]; exact .left (own_rd hq hql) _) hn) (Ent.sel (T := []) (A := [_, _, _]) [2, 0, 1] rfl) ?_
      rintro _ _ ⟨rfl, rfl⟩
      (conv => whnf); repeat ((first | with_reducible refine CondG.tt ?_ | with_reducible refine CondG.ff ?_); conv => whnf)
      refine .take 10 ?_
      (conv => whnf); repeat ((first | with_reducible refine CondG.tt ?_ | with_reducible refine CondG.ff ?_); conv => whnf)
      refine ⟨rfl, ?_⟩
      (conv => whnf); repeat ((first | with_reducible refine CondG.tt ?_ | with_reducible refine CondG.ff ?_); conv => whnf)
      refine ⟨rfl, ?_⟩
      (conv => whnf); repeat ((first | with_reducible refine CondG.tt ?_ | with_reducible refine CondG.ff ?_); conv => whnf)
      exact ⟨_, Ent.sel (T := []) (A := [_, _, _, _]) [0] rfl, rfl, rfl⟩
end
end Go.Proofs.YtnbcbdlbejdkpaaDoor
