/-
  What a state's functions do: contracts out of the resolved texts.
-/
import Derived.Test.YthdpknlnpeaiiaaDoorWr
import Derived.Test.YthdpknlnpeaiiaaDoorZSp
namespace Go.Proofs.YthdpknlnpeaiiaaDoor
open Go Go.Sl
theorem strT : KeyT Tryd.prog 9 Value.string (fun _ => True) := .str (by kernel_rfl)
theorem mapT : (Tryd.prog).underlying 135 = some (.map 9 79) := by kernel_rfl
theorem zeroB : ∀ w, (zeroValue 79).run Tryd.prog w = .ok (.slice none 0 0) w := run_zeroV (by kernel_rfl)
theorem mayI_len {key : ByteArray} {n : Nat} (h : mayI key n = 0) : n ≤ 4096 := by
  unfold mayI at h
  split at h
  · cases h
  · split at h
    · cases h
    · omega
theorem stepsT : ElT Tryd.prog 136 148 3 48 := .of (by kernel_rfl)
theorem smay_spec_r (F : List HP) (key : ByteArray) (v : Value) (n : Nat) (hv : ∃ a c, v = .slice a n c) : SpecF Tryd.prog 75 [.string key, v] F [] (fun r L => r = .int .i64 (mayI key n) ∧ L = []) := by
  obtain ⟨va, vc, rfl⟩ := hv
  refine fun75.spec rfl ?_
  (conv => whnf); repeat ((first | with_reducible refine CondG.tt ?_ | with_reducible refine CondG.ff ?_); conv => whnf)
  refine CondG.split (fun h1 => ?_) (fun h1 => ?_)
  · (conv => whnf); repeat ((first | with_reducible refine CondG.tt ?_ | with_reducible refine CondG.ff ?_); conv => whnf)
    refine ret_here ⟨congrArg (Value.int .i64) ?_, rfl⟩
    have e : key = ⟨#[]⟩ := of_decide_eq_true h1
    subst e
    rfl
  have h1' : ¬ key = ⟨#[]⟩ := of_decide_eq_false h1
  have h0 : ¬ key.size = 0 := fun h => h1' (by
    obtain ⟨⟨l⟩⟩ := key
    have : l = [] := List.eq_nil_of_length_eq_zero h
    rw [this])
  (conv => whnf); repeat ((first | with_reducible refine CondG.tt ?_ | with_reducible refine CondG.ff ?_); conv => whnf)
  refine CondG.dec (fun h2 => ?_) (fun h2 => ?_)
  · (conv => whnf); repeat ((first | with_reducible refine CondG.tt ?_ | with_reducible refine CondG.ff ?_); conv => whnf)
    refine ret_here ⟨congrArg (Value.int .i64) ?_, rfl⟩
    unfold mayI
    rw [if_pos (.inr (by omega))]
  (conv => whnf); repeat ((first | with_reducible refine CondG.tt ?_ | with_reducible refine CondG.ff ?_); conv => whnf)
  refine LenG.lit ?_
  (conv => whnf); repeat ((first | with_reducible refine CondG.tt ?_ | with_reducible refine CondG.ff ?_); conv => whnf)
  refine CondG.dec (fun h3 => ?_) (fun h3 => ?_)
  · (conv => whnf); repeat ((first | with_reducible refine CondG.tt ?_ | with_reducible refine CondG.ff ?_); conv => whnf)
    refine ret_here ⟨congrArg (Value.int .i64) ?_, rfl⟩
    unfold mayI
    rw [if_neg (by omega), if_pos (by omega)]
  (conv => whnf); repeat ((first | with_reducible refine CondG.tt ?_ | with_reducible refine CondG.ff ?_); conv => whnf)
  refine ret_here ⟨congrArg (Value.int .i64) ?_, rfl⟩
  unfold mayI
  rw [if_neg (by omega), if_neg (by omega)]
theorem smay_spec (F : List HP) (key : ByteArray) (v : Value) (n : Nat) (hv : SlV v n) (_ : n ≤ 4611686018427387904) : SpecF Tryd.prog 75 [.string key, v] F [] (fun r L => r = .int .i64 (mayI key n) ∧ L = []) := smay_spec_r F key v n hv.len
theorem ask_spec (F : List HP) (s : Nat) (src : Value) (c : StC) (key : ByteArray) (find : ByteArray → List Nat × Int) (hs : SrcG Tryd.prog F src find) (hl : ∀ k, (find k).1.length ≤ 1099511627776) :
    SpecF Tryd.prog 76 [.pointer (some ⟨s, 0, none⟩), .string key] F (c.pieces 139 s src) (fun r L =>
      ((∃ vb, getK c.has key = some vb) ∧ r = .int .i64 0 ∧ L = c.pieces 139 s src) ∨
      (getK c.has key = none ∧ (find key).2 ≠ 0 ∧ r = .int .i64 (find key).2 ∧ L = c.pieces 139 s src) ∨
      (getK c.has key = none ∧ (find key).2 = 0 ∧ 4096 < (find key).1.length ∧ r = .int .i64 71 ∧ L = c.pieces 139 s src) ∨
      (getK c.has key = none ∧ (find key).2 = 0 ∧ (find key).1.length ≤ 4096 ∧ r = .int .i64 0 ∧ ∃ x, SlV x (find key).1.length ∧ L = { c with has := putK c.has key x (find key).1 }.pieces 139 s src)) := by
  obtain ⟨t, u, f, r0, rfl, hm, hc, hspec⟩ := hs.out
  refine fun76.spec rfl ?_
  (conv => whnf); repeat ((first | with_reducible refine CondG.tt ?_ | with_reducible refine CondG.ff ?_); conv => whnf)
  refine LoadG.at (.here rfl) ?_
  (conv => whnf); repeat ((first | with_reducible refine CondG.tt ?_ | with_reducible refine CondG.ff ?_); conv => whnf)
  refine DoesG.look strT mapT zeroB trivial (MapG.left (.tl .here) F) true ?_
  rw [getM_kv]
  (conv => whnf); repeat ((first | with_reducible refine CondG.tt ?_ | with_reducible refine CondG.ff ?_); conv => whnf)
  refine CondG.split (fun h1 => ?_) (fun h1 => ?_)
  · (conv => whnf); repeat ((first | with_reducible refine CondG.tt ?_ | with_reducible refine CondG.ff ?_); conv => whnf)
    refine ret_here (.inl ⟨?_, rfl, rfl⟩)
    cases hg : getK c.has key with
    | none => rw [hg] at h1; cases h1
    | some vb => exact ⟨vb, rfl⟩
  have hg : getK c.has key = none := by
    cases hg : getK c.has key with
    | none => rfl
    | some vb => rw [hg] at h1; cases h1
  (conv => whnf); repeat ((first | with_reducible refine CondG.tt ?_ | with_reducible refine CondG.ff ?_); conv => whnf)
  refine LoadG.at (.here rfl) ?_
  (conv => whnf); repeat ((first | with_reducible refine CondG.tt ?_ | with_reducible refine CondG.ff ?_); conv => whnf)
  refine InvG.mk f r0 hm hc ?_
  refine CallG.pure (hspec key _) ?_
  rintro _ _ ⟨x, hx, rfl, rfl⟩
  (conv => whnf); repeat ((first | with_reducible refine CondG.tt ?_ | with_reducible refine CondG.ff ?_); conv => whnf)
  refine CondG.ndec (fun h2 => ?_) (fun h2 => ?_)
  · (conv => whnf); repeat ((first | with_reducible refine CondG.tt ?_ | with_reducible refine CondG.ff ?_); conv => whnf)
    exact ⟨_, Ent.drop _, .inr (.inl ⟨hg, h2, rfl, rfl⟩)⟩
  (conv => whnf); repeat ((first | with_reducible refine CondG.tt ?_ | with_reducible refine CondG.ff ?_); conv => whnf)
  refine LenG.sl hx ?_
  (conv => whnf); repeat ((first | with_reducible refine CondG.tt ?_ | with_reducible refine CondG.ff ?_); conv => whnf)
  refine CondG.dec (fun h3 => ?_) (fun h3 => ?_)
  · (conv => whnf); repeat ((first | with_reducible refine CondG.tt ?_ | with_reducible refine CondG.ff ?_); conv => whnf)
    exact ⟨_, Ent.drop _, .inr (.inr (.inl ⟨hg, h2, by omega, rfl, rfl⟩))⟩
  (conv => whnf); repeat ((first | with_reducible refine CondG.tt ?_ | with_reducible refine CondG.ff ?_); conv => whnf)
  refine DrawG.mk 7 (c.pieces 139 s (.iface t u)) [own 1 x (find key).1.length (bvs (find key).1)] (Ent.refl _) ?_
  (conv => whnf); repeat ((first | with_reducible refine CondG.tt ?_ | with_reducible refine CondG.ff ?_); conv => whnf)
  refine .take 0 ?_
  (conv => whnf); repeat ((first | with_reducible refine CondG.tt ?_ | with_reducible refine CondG.ff ?_); conv => whnf)
  refine ⟨rfl, ?_⟩
  (conv => whnf); repeat ((first | with_reducible refine CondG.tt ?_ | with_reducible refine CondG.ff ?_); conv => whnf)
  refine .take 1 ?_
  (conv => whnf); repeat ((first | with_reducible refine CondG.tt ?_ | with_reducible refine CondG.ff ?_); conv => whnf)
  refine ⟨rfl, ?_⟩
  (conv => whnf); repeat ((first | with_reducible refine CondG.tt ?_ | with_reducible refine CondG.ff ?_); conv => whnf)
  refine .take 2 ?_
  (conv => whnf); repeat ((first | with_reducible refine CondG.tt ?_ | with_reducible refine CondG.ff ?_); conv => whnf)
  refine ⟨rfl, ?_⟩
  (conv => whnf); repeat ((first | with_reducible refine CondG.tt ?_ | with_reducible refine CondG.ff ?_); conv => whnf)
  refine .take 3 ?_
  (conv => whnf); repeat ((first | with_reducible refine CondG.tt ?_ | with_reducible refine CondG.ff ?_); conv => whnf)
  refine ⟨rfl, ?_⟩
  (conv => whnf); repeat ((first | with_reducible refine CondG.tt ?_ | with_reducible refine CondG.ff ?_); conv => whnf)
  refine LoadG.at (.here rfl) ?_
  (conv => whnf); repeat ((first | with_reducible refine CondG.tt ?_ | with_reducible refine CondG.ff ?_); conv => whnf)
  refine .take 4 ?_
  (conv => whnf); repeat ((first | with_reducible refine CondG.tt ?_ | with_reducible refine CondG.ff ?_); conv => whnf)
  refine ⟨rfl, ?_⟩
  (conv => whnf); repeat ((first | with_reducible refine CondG.tt ?_ | with_reducible refine CondG.ff ?_); conv => whnf)
  refine .take 5 ?_
  (conv => whnf); repeat ((first | with_reducible refine CondG.tt ?_ | with_reducible refine CondG.ff ?_); conv => whnf)
  refine ⟨rfl, ?_⟩
  (conv => whnf); repeat ((first | with_reducible refine CondG.tt ?_ | with_reducible refine CondG.ff ?_); conv => whnf)
  refine .all ?_
  (conv => whnf); repeat ((first | with_reducible refine CondG.tt ?_ | with_reducible refine CondG.ff ?_); conv => whnf)
  refine ⟨by decide, ?_⟩
  (conv => whnf); repeat ((first | with_reducible refine CondG.tt ?_ | with_reducible refine CondG.ff ?_); conv => whnf)
  have hlk := hl key
  refine CallG.pure (clone_spec _ x (find key).1 (by omega) ((own_rd hx (by simp [bvs])).left _)) ?_
  rintro r _ ⟨hr, rfl, _⟩
  (conv => whnf); repeat ((first | with_reducible refine CondG.tt ?_ | with_reducible refine CondG.ff ?_); conv => whnf)
  refine .all ?_
  (conv => whnf); repeat ((first | with_reducible refine CondG.tt ?_ | with_reducible refine CondG.ff ?_); conv => whnf)
  refine ⟨by decide, ?_⟩
  (conv => whnf); repeat ((first | with_reducible refine CondG.tt ?_ | with_reducible refine CondG.ff ?_); conv => whnf)
  refine ⟨rfl, ?_⟩
  (conv => whnf); repeat ((first | with_reducible refine CondG.tt ?_ | with_reducible refine CondG.ff ?_); conv => whnf)
  refine DoesG.ent (Ent.front 3 rfl) ?_
  refine DoesG.upd strT mapT trivial ?_
  rw [putM_kv c.has key r (find key).1]
  (conv => whnf); repeat ((first | with_reducible refine CondG.tt ?_ | with_reducible refine CondG.ff ?_); conv => whnf)
  refine ⟨rfl, ?_⟩
  (conv => whnf); repeat ((first | with_reducible refine CondG.tt ?_ | with_reducible refine CondG.ff ?_); conv => whnf)
  refine ⟨_, (Ent.sel (T := kvS c.has ++ (kvS c.now ++ stepsS c.steps)) [3, 0, 4, 5, 6, 1] (A := [_, _, _, _, _, _, _]) rfl).trans (Ent.under ((sh_of_own rfl).trans kvS_put) [_, _, _, _, _]), .inr (.inr (.inr ⟨hg, h2, by omega, rfl, r, hr, rfl⟩))⟩
theorem ask_spec' (F : List HP) (s : Nat) (src : Value) (c : StC) (key : ByteArray) (find : ByteArray → List Nat × Int) (hs : SrcG Tryd.prog F src find) (hl : ∀ k, (find k).1.length ≤ 1099511627776) :
    SpecF Tryd.prog 76 [.pointer (some ⟨s, 0, none⟩), .string key] F (c.pieces 139 s src) (fun r L =>
      (askE find c key ≠ 0 ∧ r = .int .i64 (askE find c key) ∧ L = c.pieces 139 s src) ∨
      (askE find c key = 0 ∧ r = .int .i64 0 ∧ ∃ c', AskOk find c key c' ∧ L = c'.pieces 139 s src)) := by
  intro w hw
  refine (ask_spec F s src c key find hs hl w hw).mono ?_
  rintro e w' ⟨v, L, rfl, hR, hx, hs'⟩
  refine ⟨v, L, rfl, ?_, hx, hs'⟩
  rcases hR with ⟨⟨vb, h1⟩, rfl, rfl⟩ | ⟨h1, h2, rfl, rfl⟩ | ⟨h1, h2, h3, rfl, rfl⟩ | ⟨h1, h2, h3, rfl, x, hx, rfl⟩
  · exact .inr ⟨by simp [askE, h1], rfl, c, ⟨.inl ⟨by rw [h1]; rfl, rfl⟩⟩, rfl⟩
  · have e : askE find c key = (find key).2 := by unfold askE; rw [h1]; simp [h2]
    rw [e]
    exact .inl ⟨h2, rfl, rfl⟩
  · have e : askE find c key = 71 := by unfold askE; rw [h1]; simp [h2, h3]
    rw [e]
    exact .inl ⟨by decide, rfl, rfl⟩
  · have e : askE find c key = 0 := by unfold askE; rw [h1]; simp [h2]; exact h3
    exact .inr ⟨e, rfl, _, ⟨.inr ⟨h1, x, hx, h3, rfl⟩⟩, rfl⟩
theorem value_spec (F : List HP) (s : Nat) (src : Value) (c : StC) (key : ByteArray) (L0 : List HP) : SpecF Tryd.prog 115 [.pointer (some ⟨s, 0, none⟩), .string key] (c.pieces 139 s src ++ F) [] (fun r L => r = c.valV key ∧ L = []) := by
  refine fun115.spec rfl ?_
  (conv => whnf); repeat ((first | with_reducible refine CondG.tt ?_ | with_reducible refine CondG.ff ?_); conv => whnf)
  refine LoadG.atF (.left (.here rfl) F) ?_
  (conv => whnf); repeat ((first | with_reducible refine CondG.tt ?_ | with_reducible refine CondG.ff ?_); conv => whnf)
  refine DoesG.look strT mapT zeroB trivial (MapG.right (MapG.left (.tl (.tl .here)) F) _) true ?_
  rw [getM_kv]
  (conv => whnf); repeat ((first | with_reducible refine CondG.tt ?_ | with_reducible refine CondG.ff ?_); conv => whnf)
  refine CondG.split (fun h1 => ?_) (fun h1 => ?_)
  · (conv => whnf); repeat ((first | with_reducible refine CondG.tt ?_ | with_reducible refine CondG.ff ?_); conv => whnf)
    refine ret_here ⟨?_, rfl⟩
    cases hg : getK c.now key with
    | none => rw [hg] at h1; cases h1
    | some p => simp [StC.valV, hg, retV]
  · (conv => whnf); repeat ((first | with_reducible refine CondG.tt ?_ | with_reducible refine CondG.ff ?_); conv => whnf)
    refine LoadG.atF (.left (.here rfl) F) ?_
    (conv => whnf); repeat ((first | with_reducible refine CondG.tt ?_ | with_reducible refine CondG.ff ?_); conv => whnf)
    refine DoesG.look strT mapT zeroB trivial (MapG.right (MapG.left (.tl .here) F) _) false ?_
    rw [getM_kv]
    (conv => whnf); repeat ((first | with_reducible refine CondG.tt ?_ | with_reducible refine CondG.ff ?_); conv => whnf)
    refine ret_here ⟨?_, rfl⟩
    cases hg : getK c.now key with
    | some p => rw [hg] at h1; cases h1
    | none => simp [StC.valV, hg, retV]
theorem get_spec (F : List HP) (s : Nat) (src : Value) (c : StC) (key : ByteArray) (find : ByteArray → List Nat × Int) (hs : SrcG Tryd.prog F src find) (hl : ∀ k, (find k).1.length ≤ 1099511627776) (hw : c.wf) :
    SpecF Tryd.prog 73 [.pointer (some ⟨s, 0, none⟩), .string key] F (c.pieces 139 s src) (fun r L =>
      (mayI key 0 ≠ 0 ∧ r = .tuple #[.slice none 0 0, .int .i64 (mayI key 0)] ∧ L = c.pieces 139 s src) ∨
      (mayI key 0 = 0 ∧ askE find c key ≠ 0 ∧ r = .tuple #[.slice none 0 0, .int .i64 (askE find c key)] ∧ L = c.pieces 139 s src) ∨
      (mayI key 0 = 0 ∧ askE find c key = 0 ∧ ∃ c' x, AskOk find c key c' ∧ SlV x (c'.val key).length ∧ r = .tuple #[x, .int .i64 0] ∧ L = own 1 x (c'.val key).length (bvs (c'.val key)) :: c'.pieces 139 s src)) := by
  refine fun73.spec rfl ?_
  (conv => whnf); repeat ((first | with_reducible refine CondG.tt ?_ | with_reducible refine CondG.ff ?_); conv => whnf)
  refine CallG.pure (smay_spec _ key (.slice none 0 0) 0 (.inl ⟨rfl, rfl⟩) (by decide)) ?_
  rintro _ _ ⟨rfl, rfl⟩
  (conv => whnf); repeat ((first | with_reducible refine CondG.tt ?_ | with_reducible refine CondG.ff ?_); conv => whnf)
  refine CondG.ndec (fun h1 => ?_) (fun h1 => ?_)
  · (conv => whnf); repeat ((first | with_reducible refine CondG.tt ?_ | with_reducible refine CondG.ff ?_); conv => whnf)
    exact ret_here (.inl ⟨h1, rfl, rfl⟩)
  (conv => whnf); repeat ((first | with_reducible refine CondG.tt ?_ | with_reducible refine CondG.ff ?_); conv => whnf)
  refine CallG.of (rest := []) (ask_spec' _ s src c key find (hs.left []) hl) (by rw [List.append_nil]; exact Ent.refl _) ?_
  rintro _ _ (⟨h2, rfl, rfl⟩ | ⟨h2, rfl, c', hc', rfl⟩)
  · (conv => whnf); repeat ((first | with_reducible refine CondG.tt ?_ | with_reducible refine CondG.ff ?_); conv => whnf)
    refine CondG.ndec (fun _ => ?_) (fun h => absurd h h2)
    (conv => whnf); repeat ((first | with_reducible refine CondG.tt ?_ | with_reducible refine CondG.ff ?_); conv => whnf)
    exact ⟨_, by rw [List.append_nil]; exact Ent.refl _, .inr (.inl ⟨h1, h2, rfl, rfl⟩)⟩
  (conv => whnf); repeat ((first | with_reducible refine CondG.tt ?_ | with_reducible refine CondG.ff ?_); conv => whnf)
  refine CondG.ff ?_
  (conv => whnf); repeat ((first | with_reducible refine CondG.tt ?_ | with_reducible refine CondG.ff ?_); conv => whnf)
  rw [List.append_nil]
  refine CallG.pure (value_spec _ s src c' key []) ?_
  rintro _ _ ⟨rfl, rfl⟩
  (conv => whnf); repeat ((first | with_reducible refine CondG.tt ?_ | with_reducible refine CondG.ff ?_); conv => whnf)
  obtain ⟨hrd, hsl, hle⟩ := StC.rd (T := 139) (s := s) (src := src) (key := key) (hc'.wf hw)
  refine CallG.pure (clone_spec _ (c'.valV key) (c'.val key) (by omega) (.left hrd F)) ?_
  rintro x _ ⟨hx, rfl, _⟩
  (conv => whnf); repeat ((first | with_reducible refine CondG.tt ?_ | with_reducible refine CondG.ff ?_); conv => whnf)
  exact ret_here (.inr (.inr ⟨h1, h2, c', x, hc', hx, rfl, rfl⟩))
theorem perm_laid {a b : HP} {H N S : List HP} : (a :: b :: (H ++ (N ++ S))).Perm (H ++ (b :: (N ++ (S ++ [a])))) := by
  refine (List.perm_append_comm (l₁ := [a]) (l₂ := b :: (H ++ (N ++ S)))).trans ?_
  have e : (b :: (H ++ (N ++ S))) ++ [a] = b :: (H ++ (N ++ (S ++ [a]))) := by simp
  rw [e]
  exact List.perm_middle.symm
theorem put_spec_r (F : List HP) (s : Nat) (src : Value) (c : StC) (key : ByteArray) (v : Value) (bs : List Nat) (find : ByteArray → List Nat × Int) (hs : SrcG Tryd.prog F src find) (hl : ∀ k, (find k).1.length ≤ 1099511627776) (hw : c.wf)
    (hr : RdS F v bs.length (bvs bs)) (hst : c.steps.length ≤ 1099511627776) :
    SpecF Tryd.prog 35 [.pointer (some ⟨s, 0, none⟩), .string key, v] F (c.pieces 139 s src) (fun r L =>
      (mayI key bs.length ≠ 0 ∧ r = .int .i64 (mayI key bs.length) ∧ L = c.pieces 139 s src) ∨
      (mayI key bs.length = 0 ∧ askE find c key ≠ 0 ∧ r = .int .i64 (askE find c key) ∧ L = c.pieces 139 s src) ∨
      (mayI key bs.length = 0 ∧ askE find c key = 0 ∧ ∃ c' x sv, AskOk find c key c' ∧ SlV x bs.length ∧ r = .int .i64 0 ∧ L = (c'.put key x bs sv).pieces 139 s src)) := by
  refine fun35.spec rfl ?_
  (conv => whnf); repeat ((first | with_reducible refine CondG.tt ?_ | with_reducible refine CondG.ff ?_); conv => whnf)
  refine CallG.pure (smay_spec_r _ key v bs.length hr.len) ?_
  rintro _ _ ⟨rfl, rfl⟩
  (conv => whnf); repeat ((first | with_reducible refine CondG.tt ?_ | with_reducible refine CondG.ff ?_); conv => whnf)
  refine CondG.ndec (fun h1 => ?_) (fun h1 => ?_)
  · (conv => whnf); repeat ((first | with_reducible refine CondG.tt ?_ | with_reducible refine CondG.ff ?_); conv => whnf)
    exact ret_here (.inl ⟨h1, rfl, rfl⟩)
  (conv => whnf); repeat ((first | with_reducible refine CondG.tt ?_ | with_reducible refine CondG.ff ?_); conv => whnf)
  refine CallG.of (rest := []) (ask_spec' _ s src c key find (hs.left []) hl) (by rw [List.append_nil]; exact Ent.refl _) ?_
  rintro _ _ (⟨h2, rfl, rfl⟩ | ⟨h2, rfl, c', hc', rfl⟩)
  · (conv => whnf); repeat ((first | with_reducible refine CondG.tt ?_ | with_reducible refine CondG.ff ?_); conv => whnf)
    refine CondG.ndec (fun _ => ?_) (fun h => absurd h h2)
    (conv => whnf); repeat ((first | with_reducible refine CondG.tt ?_ | with_reducible refine CondG.ff ?_); conv => whnf)
    exact ⟨_, by rw [List.append_nil]; exact Ent.refl _, .inr (.inl ⟨h1, h2, rfl, rfl⟩)⟩
  (conv => whnf); repeat ((first | with_reducible refine CondG.tt ?_ | with_reducible refine CondG.ff ?_); conv => whnf)
  refine CondG.ff ?_
  (conv => whnf); repeat ((first | with_reducible refine CondG.tt ?_ | with_reducible refine CondG.ff ?_); conv => whnf)
  rw [List.append_nil]
  obtain ⟨e1, e2, e3, e4⟩ := hc'.val
  have hst' : c'.steps.length ≤ 1099511627776 := by rw [e2]; exact hst
  have hw' := hc'.wf hw
  refine LoadG.at (.here rfl) ?_
  (conv => whnf); repeat ((first | with_reducible refine CondG.tt ?_ | with_reducible refine CondG.ff ?_); conv => whnf)
  refine DoesG.look strT mapT zeroB trivial (MapG.left (.tl (.tl .here)) F) true ?_
  rw [getM_kv]
  have ew : ((Option.map (fun x => x.1) (getK c'.now key)).getD (.slice none 0 0)) = (c'.was key).was := by
    unfold StC.was
    cases getK c'.now key <;> rfl
  have el : (Option.map (fun x => x.1) (getK c'.now key)).isSome = (c'.was key).laid := by
    unfold StC.was
    cases getK c'.now key <;> rfl
  rw [ew, el]
  obtain ⟨ra, rc, hre⟩ := (StC.was_wf (key := key) hw').1.len
  (conv => whnf); repeat ((first | with_reducible refine CondG.tt ?_ | with_reducible refine CondG.ff ?_); conv => whnf)
  refine LoadG.at (.here rfl) ?_
  (conv => whnf); repeat ((first | with_reducible refine CondG.tt ?_ | with_reducible refine CondG.ff ?_); conv => whnf)
  refine BuildG.of (cs := (c'.was key).cells) ?_ ?_
  · have ek : (c'.was key).key = key := by
      unfold StC.was
      cases getK c'.now key <;> rfl
    simp only [StepC.cells, ek, hre]
    rfl
  (conv => whnf); repeat ((first | with_reducible refine CondG.tt ?_ | with_reducible refine CondG.ff ?_); conv => whnf)
  refine BuildG.of (cs := (c'.was key).cells) rfl ?_
  (conv => whnf); repeat ((first | with_reducible refine CondG.tt ?_ | with_reducible refine CondG.ff ?_); conv => whnf)
  intro b1
  (conv => whnf); repeat ((first | with_reducible refine CondG.tt ?_ | with_reducible refine CondG.ff ?_); conv => whnf)
  refine DoesG.ent (Ent.front 4 rfl) ?_
  refine app_own stepsT 136 (m := 1) (ys := (c'.was key).cells) (.mk _ _ _ _ _ (by decide) (.tl (.left .all _))) rfl (by simp [StepC.cells, hre, Value.oneCell']) (by simp only [maxLen]; omega) (by omega) fun sv hsv hsl hnil => ?_
  obtain ⟨sa, sc, hse⟩ := hsv.len
  subst hse
  rw [← stepsC_app] at hsl ⊢
  (conv => whnf); repeat ((first | with_reducible refine CondG.tt ?_ | with_reducible refine CondG.ff ?_); conv => whnf)
  refine StoreG.at rfl (Upd.tl (Upd.tl (Upd.here (by simp) rfl))) ?_
  (conv => whnf); repeat ((first | with_reducible refine CondG.tt ?_ | with_reducible refine CondG.ff ?_); conv => whnf)
  refine DrawG.mk 7 _ [] (Ent.refl _) ?_
  (conv => whnf); repeat ((first | with_reducible refine CondG.tt ?_ | with_reducible refine CondG.ff ?_); conv => whnf)
  refine .take 0 ?_
  (conv => whnf); repeat ((first | with_reducible refine CondG.tt ?_ | with_reducible refine CondG.ff ?_); conv => whnf)
  refine ⟨rfl, ?_⟩
  (conv => whnf); repeat ((first | with_reducible refine CondG.tt ?_ | with_reducible refine CondG.ff ?_); conv => whnf)
  refine .take 1 ?_
  (conv => whnf); repeat ((first | with_reducible refine CondG.tt ?_ | with_reducible refine CondG.ff ?_); conv => whnf)
  refine ⟨rfl, ?_⟩
  (conv => whnf); repeat ((first | with_reducible refine CondG.tt ?_ | with_reducible refine CondG.ff ?_); conv => whnf)
  refine .take 2 ?_
  (conv => whnf); repeat ((first | with_reducible refine CondG.tt ?_ | with_reducible refine CondG.ff ?_); conv => whnf)
  refine ⟨rfl, ?_⟩
  (conv => whnf); repeat ((first | with_reducible refine CondG.tt ?_ | with_reducible refine CondG.ff ?_); conv => whnf)
  refine .take 3 ?_
  (conv => whnf); repeat ((first | with_reducible refine CondG.tt ?_ | with_reducible refine CondG.ff ?_); conv => whnf)
  refine ⟨rfl, ?_⟩
  (conv => whnf); repeat ((first | with_reducible refine CondG.tt ?_ | with_reducible refine CondG.ff ?_); conv => whnf)
  refine LoadG.at (.tl (.tl (.here rfl))) ?_
  (conv => whnf); repeat ((first | with_reducible refine CondG.tt ?_ | with_reducible refine CondG.ff ?_); conv => whnf)
  refine .take 4 ?_
  (conv => whnf); repeat ((first | with_reducible refine CondG.tt ?_ | with_reducible refine CondG.ff ?_); conv => whnf)
  refine ⟨rfl, ?_⟩
  (conv => whnf); repeat ((first | with_reducible refine CondG.tt ?_ | with_reducible refine CondG.ff ?_); conv => whnf)
  refine .take 5 ?_
  (conv => whnf); repeat ((first | with_reducible refine CondG.tt ?_ | with_reducible refine CondG.ff ?_); conv => whnf)
  refine ⟨rfl, ?_⟩
  (conv => whnf); repeat ((first | with_reducible refine CondG.tt ?_ | with_reducible refine CondG.ff ?_); conv => whnf)
  refine .all ?_
  (conv => whnf); repeat ((first | with_reducible refine CondG.tt ?_ | with_reducible refine CondG.ff ?_); conv => whnf)
  refine ⟨by decide, ?_⟩
  (conv => whnf); repeat ((first | with_reducible refine CondG.tt ?_ | with_reducible refine CondG.ff ?_); conv => whnf)
  refine CallG.pure (clone_spec _ v bs (by have := mayI_len h1; omega) (.right (.right hr _) _)) ?_
  rintro r _ ⟨hr', rfl, _⟩
  (conv => whnf); repeat ((first | with_reducible refine CondG.tt ?_ | with_reducible refine CondG.ff ?_); conv => whnf)
  refine .all ?_
  (conv => whnf); repeat ((first | with_reducible refine CondG.tt ?_ | with_reducible refine CondG.ff ?_); conv => whnf)
  refine ⟨by decide, ?_⟩
  (conv => whnf); repeat ((first | with_reducible refine CondG.tt ?_ | with_reducible refine CondG.ff ?_); conv => whnf)
  refine ⟨rfl, ?_⟩
  (conv => whnf); repeat ((first | with_reducible refine CondG.tt ?_ | with_reducible refine CondG.ff ?_); conv => whnf)
  refine DoesG.ent (Ent.front 5 rfl) ?_
  refine DoesG.upd strT mapT trivial ?_
  rw [putM_kv c'.now key r bs]
  (conv => whnf); repeat ((first | with_reducible refine CondG.tt ?_ | with_reducible refine CondG.ff ?_); conv => whnf)
  refine ⟨rfl, ?_⟩
  (conv => whnf); repeat ((first | with_reducible refine CondG.tt ?_ | with_reducible refine CondG.ff ?_); conv => whnf)
  refine ⟨(c'.put key r bs (.slice sa (c'.steps.length + 1) sc)).pieces 139 s src, ?_, .inr (.inr ⟨h1, h2, c', r, _, hc', hr', rfl, rfl⟩)⟩
  have e5 : stepsS (c'.steps ++ [c'.was key]) = stepsS c'.steps ++ [sh (c'.was key).was (c'.was key).bs] := by simp [stepsS]
  have e6 : (c'.steps ++ [c'.was key]).length = c'.steps.length + 1 := by simp
  simp only [StC.pieces, StC.put, e5, e6]
  refine (Ent.sel (T := kvS c'.has ++ (kvS c'.now ++ stepsS c'.steps)) [4, 5, 0, 2, 6, 1] (A := [_, _, _, _, _, _, _]) rfl).trans (Ent.under ?_ [_, _, _, _, _])
  refine (sh_of_own rfl).trans ?_
  refine (StC.was_ent (A := sh r bs :: kvS c'.has) (key := key)).trans ?_
  refine (Ent.perm ?_).trans (Ent.under kvS_put (kvS c'.has))
  exact perm_laid
theorem put_spec_s (F : List HP) (s : Nat) (src : Value) (c : StC) (key : ByteArray) (v : Value) (bs : List Nat) (find : ByteArray → List Nat × Int) (hs : SrcG Tryd.prog F src find) (hl : ∀ k, (find k).1.length ≤ 1099511627776) (hw : c.wf)
    (_ : SlV v bs.length) (hr : RdS F v bs.length (bvs bs)) (_ : bs.length ≤ 1099511627776) (hst : c.steps.length ≤ 1099511627776) :
    SpecF Tryd.prog 35 [.pointer (some ⟨s, 0, none⟩), .string key, v] F (c.pieces 139 s src) (fun r L =>
      (mayI key bs.length ≠ 0 ∧ r = .int .i64 (mayI key bs.length) ∧ L = c.pieces 139 s src) ∨
      (mayI key bs.length = 0 ∧ askE find c key ≠ 0 ∧ r = .int .i64 (askE find c key) ∧ L = c.pieces 139 s src) ∨
      (mayI key bs.length = 0 ∧ askE find c key = 0 ∧ ∃ c' x sv, AskOk find c key c' ∧ SlV x bs.length ∧ r = .int .i64 0 ∧ L = (c'.put key x bs sv).pieces 139 s src)) := put_spec_r F s src c key v bs find hs hl hw hr hst
end Go.Proofs.YthdpknlnpeaiiaaDoor
