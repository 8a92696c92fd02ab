import Derived.Test.YtnbcbdlbejdkpaaDoorRc
import Derived.Test.YtnbcbdlbejdkpaaDoorZWl
import Derived.Test.YtnbcbdlbejdkpaaDoorZSp
import Derived.Test.YtnbcbdlbejdkpaaDoorZTk
import Derived.Test.YtnbcbdlbejdkpaaDoorZPk
namespace Go.Proofs.YtnbcbdlbejdkpaaDoor
open Go Go.Sl
theorem bytesT : ElT Tryd.prog 91 5 1 1 := .of (by kernel_rfl)
theorem clone_spec (F : List HP) (v : Value) (bs : List Nat) (hm : bs.length ≤ 4398046511104) (hv : RdS F v bs.length (bvs bs)) :
    SpecF Tryd.prog 87 [v] F [] (fun r L => SlV r bs.length ∧ L = [own 1 r bs.length (bvs bs)] ∧ (r = .slice none 0 0 ↔ v = .slice none 0 0)) := by
  refine fun87.spec rfl ?_
  conv=>whnf
  refine NilG.rd hv fun b hb => ?_
  conv=>whnf
  refine CondG.split (fun h => ?_) (fun h => ?_)
  · have e := hb.1 h
    subst e
    have hz : bs = [] := by
      exact List.eq_nil_of_length_eq_zero (hv.nilE rfl).1
    subst hz
    conv=>whnf
    refine ⟨[own 1 (.slice none 0 0) 0 []], fun w G hs => Sat.own_nil hs, ?_⟩
    exact ⟨.inl ⟨rfl, rfl⟩, rfl, by simp [retV]⟩
  · conv=>whnf
    refine BuildG.of rfl ?_
    conv=>whnf
    intro b1
    conv=>whnf
    refine DoesG.ent (own_of_cel (sz := 1) (n := 0) rfl (by decide)) ?_
    refine app_own bytesT 91 (hv.tl) (by simp [bvs]) (bvs_one _) (by simp only [maxLen]; omega) (by omega) fun r hr hlen hnil => ?_
    conv=>whnf
    refine ret_here ⟨?_, ?_, ?_⟩
    · simpa [retV] using hr
    · simp [retV]
    · have : ¬ v = .slice none 0 0 := fun e => by rw [hb.2 e] at h; cases h
      simp [retV, this, hnil]
structure RdParts (F : List HP) (v : Value) (ps : List (List Nat)) : Prop where
  out : ∃ us : List Value, RdS F v ps.length us ∧ us.length = ps.length ∧ ∀ i (h : i < ps.length), ∃ u, us[i]? = some u ∧ RdS F u (ps[i].length) (bvs ps[i])
theorem RdParts.one {F : List HP} {b : Nat} {t : TypeId} {u : Value} {bs : List Nat} (hu : RdS F u bs.length (bvs bs)) : RdParts (cel b t [u] :: F) (.slice (some ⟨b, 0, none⟩) 1 1) [bs] :=
  ⟨[u], .mk _ _ _ _ _ (Nat.le_refl _) .all, rfl, fun i h => by
    obtain rfl : i = 0 := by simpa using h
    exact ⟨u, rfl, hu.tl⟩⟩
def sumL (ps : List (List Nat)) : Nat := ps.flatten.length
theorem isZero_spec (F : List HP) (ws : List Nat) (hw : ws.length = 4) : SpecF Tryd.prog 52 [.agg ⟨uvs ws⟩] F [] (fun r L => r = .bool (decide (ws = List.replicate 4 0)) ∧ L = []) := by
  refine fun52.spec rfl ?_
  conv=>whnf
  intro b
  conv=>whnf
  refine LoadNG.at (vs := uvs ws) (by simp [uvs, hw]) .all ?_
  conv=>whnf
  refine BuildG.of rfl ?_
  conv=>whnf
  refine DoesG.eqv 4 (List.replicate 4 (.int .u64)) (by kernel_rfl) (by decide) (by kernel_rfl) (by kernel_rfl) (wt_uvs hw) (wt_uvs (ws := List.replicate 4 0) rfl) ?_
  conv=>whnf
  exact ⟨[], Ent.nil _, congrArg Value.bool (decide_eq_decide.2 (uvs_inj (m := List.replicate 4 0))), rfl⟩
end Go.Proofs.YtnbcbdlbejdkpaaDoor
namespace Go.Proofs.YtnbcbdlbejdkpaaDoor
open Go Go.Sl
theorem strT : KeyT Tryd.prog 9 Value.string (fun _ => True) := .str (by kernel_rfl)
theorem mapT : (Tryd.prog).underlying 124 = some (.map 9 91) := by kernel_rfl
theorem zeroB : ∀ w, (zeroValue 91).run Tryd.prog w = .ok (.slice none 0 0) w := run_zeroV (by kernel_rfl)
theorem mayI_len {key : ByteArray} {n : Nat} (h : mayI key n = 0) : n ≤ 4096 := by
  unfold mayI at h
  split at h
  · cases h
  · split at h
    · cases h
    · omega
theorem stepsT : ElT Tryd.prog 125 129 3 48 := .of (by kernel_rfl)
theorem smay_spec_r (F : List HP) (key : ByteArray) (v : Value) (n : Nat) (hv : ∃ a c, v = .slice a n c) : SpecF Tryd.prog 85 [.string key, v] F [] (fun r L => r = .int .i64 (mayI key n) ∧ L = []) := by
  obtain ⟨va, vc, rfl⟩ := hv
  refine fun85.spec rfl ?_
  conv=>whnf
  refine CondG.split (fun h1 => ?_) (fun h1 => ?_)
  · (conv=>whnf); repeat ((with_reducible first | refine .tt ?_ | refine .ff ?_); conv=>whnf)
    refine ret_here ⟨congrArg (Value.int .i64) ?_, rfl⟩
    have e : key = ⟨#[]⟩ := of_decide_eq_true h1
    subst e
    rfl
  have h1' : ¬ key = ⟨#[]⟩ := of_decide_eq_false h1
  have h0 : ¬ key.size = 0 := fun h => h1' (by
    obtain ⟨⟨l⟩⟩ := key
    have : l = [] := List.eq_nil_of_length_eq_zero h
    rw [this])
  (conv=>whnf); repeat ((with_reducible first | refine .tt ?_ | refine .ff ?_); conv=>whnf)
  refine CondG.dec (fun h2 => ?_) (fun h2 => ?_)
  · conv=>whnf
    refine ret_here ⟨congrArg (Value.int .i64) ?_, rfl⟩
    unfold mayI
    rw [if_pos (.inr (by omega))]
  conv=>whnf
  refine LenG.lit ?_
  conv=>whnf
  refine CondG.dec (fun h3 => ?_) (fun h3 => ?_)
  · conv=>whnf
    refine ret_here ⟨congrArg (Value.int .i64) ?_, rfl⟩
    unfold mayI
    rw [if_neg (by omega), if_pos (by omega)]
  conv=>whnf
  refine ret_here ⟨congrArg (Value.int .i64) ?_, rfl⟩
  unfold mayI
  rw [if_neg (by omega), if_neg (by omega)]
theorem smay_spec (F : List HP) (key : ByteArray) (v : Value) (n : Nat) (hv : SlV v n) (_ : n ≤ 4611686018427387904) : SpecF Tryd.prog 85 [.string key, v] F [] (fun r L => r = .int .i64 (mayI key n) ∧ L = []) := smay_spec_r F key v n hv.len
theorem ask_spec (F : List HP) (s : Nat) (src : Value) (c : StC) (key : ByteArray) (find : ByteArray → List Nat × Int) (hs : SrcG Tryd.prog F src find) (hl : ∀ k, (find k).1.length ≤ 1099511627776) :
    SpecF Tryd.prog 86 [.pointer (some ⟨s, 0, none⟩), .string key] F (c.pieces 127 s src) (fun r L =>
      ((∃ vb, getK c.has key = some vb) ∧ r = .int .i64 0 ∧ L = c.pieces 127 s src) ∨
      (getK c.has key = none ∧ (find key).2 ≠ 0 ∧ r = .int .i64 (find key).2 ∧ L = c.pieces 127 s src) ∨
      (getK c.has key = none ∧ (find key).2 = 0 ∧ 4096 < (find key).1.length ∧ r = .int .i64 71 ∧ L = c.pieces 127 s src) ∨
      (getK c.has key = none ∧ (find key).2 = 0 ∧ (find key).1.length ≤ 4096 ∧ r = .int .i64 0 ∧ ∃ x, SlV x (find key).1.length ∧ L = { c with has := putK c.has key x (find key).1 }.pieces 127 s src)) := by
  obtain ⟨t, u, f, r0, rfl, hm, hc, hspec⟩ := hs.out
  refine fun86.spec rfl ?_
  conv=>whnf
  refine LoadG.at (.here rfl) ?_
  conv=>whnf
  refine DoesG.look strT mapT zeroB trivial (MapG.left (.tl .here) F) true ?_
  rw [getM_kv]
  conv=>whnf
  refine CondG.split (fun h1 => ?_) (fun h1 => ?_)
  · conv=>whnf
    refine ret_here (.inl ⟨?_, rfl, rfl⟩)
    cases hg : getK c.has key with
    | none => rw [hg] at h1; cases h1
    | some vb => exact ⟨vb, rfl⟩
  have hg : getK c.has key = none := by
    cases hg : getK c.has key with
    | none => rfl
    | some vb => rw [hg] at h1; cases h1
  conv=>whnf
  refine LoadG.at (.here rfl) ?_
  conv=>whnf
  refine InvG.mk f r0 hm hc ?_
  refine CallG.pure (hspec key _) ?_
  rintro _ _ ⟨x, hx, rfl, rfl⟩
  conv=>whnf
  refine CondG.ndec (fun h2 => ?_) (fun h2 => ?_)
  · conv=>whnf
    exact ⟨_, Ent.drop _, .inr (.inl ⟨hg, h2, rfl, rfl⟩)⟩
  conv=>whnf
  refine LenG.sl hx ?_
  conv=>whnf
  refine CondG.dec (fun h3 => ?_) (fun h3 => ?_)
  · conv=>whnf
    exact ⟨_, Ent.drop _, .inr (.inr (.inl ⟨hg, h2, by omega, rfl, rfl⟩))⟩
  conv=>whnf
  refine DrawG.mk 7 (c.pieces 127 s (.iface t u)) [own 1 x (find key).1.length (bvs (find key).1)] (Ent.refl _) ?_
  conv=>whnf
  refine .take 0 ?_
  conv=>whnf
  refine ⟨rfl, ?_⟩
  conv=>whnf
  refine .take 1 ?_
  conv=>whnf
  refine ⟨rfl, ?_⟩
  conv=>whnf
  refine .take 2 ?_
  conv=>whnf
  refine ⟨rfl, ?_⟩
  conv=>whnf
  refine .take 3 ?_
  conv=>whnf
  refine ⟨rfl, ?_⟩
  conv=>whnf
  refine LoadG.at (.here rfl) ?_
  conv=>whnf
  refine .take 4 ?_
  conv=>whnf
  refine ⟨rfl, ?_⟩
  conv=>whnf
  refine .take 5 ?_
  conv=>whnf
  refine ⟨rfl, ?_⟩
  conv=>whnf
  refine .all ?_
  conv=>whnf
  refine ⟨by decide, ?_⟩
  conv=>whnf
  have hlk := hl key
  refine CallG.pure (clone_spec _ x (find key).1 (by omega) ((own_rd hx (by simp [bvs])).left _)) ?_
  rintro r _ ⟨hr, rfl, _⟩
  conv=>whnf
  refine .all ?_
  conv=>whnf
  refine ⟨by decide, ?_⟩
  conv=>whnf
  refine ⟨rfl, ?_⟩
  conv=>whnf
  refine DoesG.ent (Ent.front 3 rfl) ?_
  refine DoesG.upd strT mapT trivial ?_
  rw [putM_kv c.has key r (find key).1]
  conv=>whnf
  refine ⟨rfl, ?_⟩
  conv=>whnf
  refine ⟨_, (Ent.sel (T := kvS c.has ++ (kvS c.now ++ stepsS c.steps)) [3, 0, 4, 5, 6, 1] (A := [_, _, _, _, _, _, _]) rfl).trans (Ent.under ((sh_of_own rfl).trans kvS_put) [_, _, _, _, _]), .inr (.inr (.inr ⟨hg, h2, by omega, rfl, r, hr, rfl⟩))⟩
theorem ask_spec' (F : List HP) (s : Nat) (src : Value) (c : StC) (key : ByteArray) (find : ByteArray → List Nat × Int) (hs : SrcG Tryd.prog F src find) (hl : ∀ k, (find k).1.length ≤ 1099511627776) :
    SpecF Tryd.prog 86 [.pointer (some ⟨s, 0, none⟩), .string key] F (c.pieces 127 s src) (fun r L =>
      (askE find c key ≠ 0 ∧ r = .int .i64 (askE find c key) ∧ L = c.pieces 127 s src) ∨
      (askE find c key = 0 ∧ r = .int .i64 0 ∧ ∃ c', AskOk find c key c' ∧ L = c'.pieces 127 s src)) := by
  intro w hw
  refine (ask_spec F s src c key find hs hl w hw).mono ?_
  rintro e w' ⟨v, L, rfl, hR, hx, hs'⟩
  refine ⟨v, L, rfl, ?_, hx, hs'⟩
  rcases hR with ⟨⟨vb, h1⟩, rfl, rfl⟩ | ⟨h1, h2, rfl, rfl⟩ | ⟨h1, h2, h3, rfl, rfl⟩ | ⟨h1, h2, h3, rfl, x, hx, rfl⟩
  · exact .inr ⟨by simp [askE, h1], rfl, c, ⟨.inl ⟨by rw [h1]; rfl, rfl⟩⟩, rfl⟩
  · have e : askE find c key = (find key).2 := by unfold askE; rw [h1]; simp [h2]
    rw [e]
    exact .inl ⟨h2, rfl, rfl⟩
  · have e : askE find c key = 71 := by unfold askE; rw [h1]; simp [h2, h3]
    rw [e]
    exact .inl ⟨by decide, rfl, rfl⟩
  · have e : askE find c key = 0 := by unfold askE; rw [h1]; simp [h2]; exact h3
    exact .inr ⟨e, rfl, _, ⟨.inr ⟨h1, x, hx, h3, rfl⟩⟩, rfl⟩
theorem value_spec (F : List HP) (s : Nat) (src : Value) (c : StC) (key : ByteArray) (L0 : List HP) : SpecF Tryd.prog 88 [.pointer (some ⟨s, 0, none⟩), .string key] (c.pieces 127 s src ++ F) [] (fun r L => r = c.valV key ∧ L = []) := by
  refine fun88.spec rfl ?_
  conv=>whnf
  refine LoadG.atF (.left (.here rfl) F) ?_
  conv=>whnf
  refine DoesG.look strT mapT zeroB trivial (MapG.right (MapG.left (.tl (.tl .here)) F) _) true ?_
  rw [getM_kv]
  conv=>whnf
  refine CondG.split (fun h1 => ?_) (fun h1 => ?_)
  · conv=>whnf
    refine ret_here ⟨?_, rfl⟩
    cases hg : getK c.now key with
    | none => rw [hg] at h1; cases h1
    | some p => simp [StC.valV, hg, retV]
  · conv=>whnf
    refine LoadG.atF (.left (.here rfl) F) ?_
    conv=>whnf
    refine DoesG.look strT mapT zeroB trivial (MapG.right (MapG.left (.tl .here) F) _) false ?_
    rw [getM_kv]
    conv=>whnf
    refine ret_here ⟨?_, rfl⟩
    cases hg : getK c.now key with
    | some p => rw [hg] at h1; cases h1
    | none => simp [StC.valV, hg, retV]
theorem get_spec (F : List HP) (s : Nat) (src : Value) (c : StC) (key : ByteArray) (find : ByteArray → List Nat × Int) (hs : SrcG Tryd.prog F src find) (hl : ∀ k, (find k).1.length ≤ 1099511627776) (hw : c.wf) :
    SpecF Tryd.prog 40 [.pointer (some ⟨s, 0, none⟩), .string key] F (c.pieces 127 s src) (fun r L =>
      (mayI key 0 ≠ 0 ∧ r = .tuple #[.slice none 0 0, .int .i64 (mayI key 0)] ∧ L = c.pieces 127 s src) ∨
      (mayI key 0 = 0 ∧ askE find c key ≠ 0 ∧ r = .tuple #[.slice none 0 0, .int .i64 (askE find c key)] ∧ L = c.pieces 127 s src) ∨
      (mayI key 0 = 0 ∧ askE find c key = 0 ∧ ∃ c' x, AskOk find c key c' ∧ SlV x (c'.val key).length ∧ r = .tuple #[x, .int .i64 0] ∧ L = own 1 x (c'.val key).length (bvs (c'.val key)) :: c'.pieces 127 s src)) := by
  refine fun40.spec rfl ?_
  conv=>whnf
  refine CallG.pure (smay_spec _ key (.slice none 0 0) 0 (.inl ⟨rfl, rfl⟩) (by decide)) ?_
  rintro _ _ ⟨rfl, rfl⟩
  conv=>whnf
  refine CondG.ndec (fun h1 => ?_) (fun h1 => ?_)
  · conv=>whnf
    exact ret_here (.inl ⟨h1, rfl, rfl⟩)
  conv=>whnf
  refine CallG.of (rest := []) (ask_spec' _ s src c key find (hs.left []) hl) (by rw [List.append_nil]; exact Ent.refl _) ?_
  rintro _ _ (⟨h2, rfl, rfl⟩ | ⟨h2, rfl, c', hc', rfl⟩)
  · conv=>whnf
    refine CondG.ndec (fun _ => ?_) (fun h => absurd h h2)
    conv=>whnf
    exact ⟨_, by rw [List.append_nil]; exact Ent.refl _, .inr (.inl ⟨h1, h2, rfl, rfl⟩)⟩
  conv=>whnf
  refine CondG.ff ?_
  conv=>whnf
  rw [List.append_nil]
  refine CallG.pure (value_spec _ s src c' key []) ?_
  rintro _ _ ⟨rfl, rfl⟩
  conv=>whnf
  obtain ⟨hrd, hsl, hle⟩ := StC.rd (T := 127) (s := s) (src := src) (key := key) (hc'.wf hw)
  refine CallG.pure (clone_spec _ (c'.valV key) (c'.val key) (by omega) (.left hrd F)) ?_
  rintro x _ ⟨hx, rfl, _⟩
  conv=>whnf
  exact ret_here (.inr (.inr ⟨h1, h2, c', x, hc', hx, rfl, rfl⟩))
theorem perm_laid {a b : HP} {H N S : List HP} : (a :: b :: (H ++ (N ++ S))).Perm (H ++ (b :: (N ++ (S ++ [a])))) := by
  refine (List.perm_append_comm (l₁ := [a]) (l₂ := b :: (H ++ (N ++ S)))).trans ?_
  have e : (b :: (H ++ (N ++ S))) ++ [a] = b :: (H ++ (N ++ (S ++ [a]))) := by simp
  rw [e]
  exact List.perm_middle.symm
theorem put_spec_r (F : List HP) (s : Nat) (src : Value) (c : StC) (key : ByteArray) (v : Value) (bs : List Nat) (find : ByteArray → List Nat × Int) (hs : SrcG Tryd.prog F src find) (hl : ∀ k, (find k).1.length ≤ 1099511627776) (hw : c.wf)
    (hr : RdS F v bs.length (bvs bs)) (hst : c.steps.length ≤ 4398046511104) :
    SpecF Tryd.prog 39 [.pointer (some ⟨s, 0, none⟩), .string key, v] F (c.pieces 127 s src) (fun r L =>
      (mayI key bs.length ≠ 0 ∧ r = .int .i64 (mayI key bs.length) ∧ L = c.pieces 127 s src) ∨
      (mayI key bs.length = 0 ∧ askE find c key ≠ 0 ∧ r = .int .i64 (askE find c key) ∧ L = c.pieces 127 s src) ∨
      (mayI key bs.length = 0 ∧ askE find c key = 0 ∧ ∃ c' x sv, AskOk find c key c' ∧ SlV x bs.length ∧ r = .int .i64 0 ∧ L = (c'.put key x bs sv).pieces 127 s src)) := by
  refine fun39.spec rfl ?_
  conv=>whnf
  refine CallG.pure (smay_spec_r _ key v bs.length hr.len) ?_
  rintro _ _ ⟨rfl, rfl⟩
  conv=>whnf
  refine CondG.ndec (fun h1 => ?_) (fun h1 => ?_)
  · conv=>whnf
    exact ret_here (.inl ⟨h1, rfl, rfl⟩)
  conv=>whnf
  refine CallG.of (rest := []) (ask_spec' _ s src c key find (hs.left []) hl) (by rw [List.append_nil]; exact Ent.refl _) ?_
  rintro _ _ (⟨h2, rfl, rfl⟩ | ⟨h2, rfl, c', hc', rfl⟩)
  · conv=>whnf
    refine CondG.ndec (fun _ => ?_) (fun h => absurd h h2)
    conv=>whnf
    exact ⟨_, by rw [List.append_nil]; exact Ent.refl _, .inr (.inl ⟨h1, h2, rfl, rfl⟩)⟩
  conv=>whnf
  refine CondG.ff ?_
  conv=>whnf
  rw [List.append_nil]
  obtain ⟨e1, e2, e3, e4⟩ := hc'.val
  have hst' : c'.steps.length ≤ 4398046511104 := by rw [e2]; exact hst
  have hw' := hc'.wf hw
  refine LoadG.at (.here rfl) ?_
  conv=>whnf
  refine DoesG.look strT mapT zeroB trivial (MapG.left (.tl (.tl .here)) F) true ?_
  rw [getM_kv]
  have ew : ((Option.map (fun x => x.1) (getK c'.now key)).getD (.slice none 0 0)) = (c'.was key).was := by
    unfold StC.was
    cases getK c'.now key <;> rfl
  have el : (Option.map (fun x => x.1) (getK c'.now key)).isSome = (c'.was key).laid := by
    unfold StC.was
    cases getK c'.now key <;> rfl
  rw [ew, el]
  obtain ⟨ra, rc, hre⟩ := (StC.was_wf (key := key) hw').1.len
  conv=>whnf
  refine LoadG.at (.here rfl) ?_
  conv=>whnf
  refine BuildG.of (cs := (c'.was key).cells) ?_ ?_
  · have ek : (c'.was key).key = key := by
      unfold StC.was
      cases getK c'.now key <;> rfl
    simp only [StepC.cells, ek, hre]
    rfl
  conv=>whnf
  refine BuildG.of (cs := (c'.was key).cells) rfl ?_
  conv=>whnf
  intro b1
  conv=>whnf
  refine DoesG.ent (Ent.front 4 rfl) ?_
  refine app_ownW stepsT 125 (m := 1) (ys := (c'.was key).cells) (.mk _ _ _ _ _ (by decide) (.tl (.left .all _))) rfl (by simp [StepC.cells, hre, Value.oneCell']) (by simp only [maxLen]; omega) (.wide (by omega)) fun sv hsv hsl hnil => ?_
  obtain ⟨sa, sc, hse⟩ := hsv.len
  subst hse
  rw [← stepsC_app] at hsl ⊢
  conv=>whnf
  refine StoreG.at rfl (Upd.tl (Upd.tl (Upd.here (by simp) rfl))) ?_
  conv=>whnf
  refine DrawG.mk 7 _ [] (Ent.refl _) ?_
  conv=>whnf
  refine .take 0 ?_
  conv=>whnf
  refine ⟨rfl, ?_⟩
  conv=>whnf
  refine .take 1 ?_
  conv=>whnf
  refine ⟨rfl, ?_⟩
  conv=>whnf
  refine .take 2 ?_
  conv=>whnf
  refine ⟨rfl, ?_⟩
  conv=>whnf
  refine .take 3 ?_
  conv=>whnf
  refine ⟨rfl, ?_⟩
  conv=>whnf
  refine LoadG.at (.tl (.tl (.here rfl))) ?_
  conv=>whnf
  refine .take 4 ?_
  conv=>whnf
  refine ⟨rfl, ?_⟩
  conv=>whnf
  refine .take 5 ?_
  conv=>whnf
  refine ⟨rfl, ?_⟩
  conv=>whnf
  refine .all ?_
  conv=>whnf
  refine ⟨by decide, ?_⟩
  conv=>whnf
  refine CallG.pure (clone_spec _ v bs (by have := mayI_len h1; omega) (.right (.right hr _) _)) ?_
  rintro r _ ⟨hr', rfl, _⟩
  conv=>whnf
  refine .all ?_
  conv=>whnf
  refine ⟨by decide, ?_⟩
  conv=>whnf
  refine ⟨rfl, ?_⟩
  conv=>whnf
  refine DoesG.ent (Ent.front 5 rfl) ?_
  refine DoesG.upd strT mapT trivial ?_
  rw [putM_kv c'.now key r bs]
  conv=>whnf
  refine ⟨rfl, ?_⟩
  conv=>whnf
  refine ⟨(c'.put key r bs (.slice sa (c'.steps.length + 1) sc)).pieces 127 s src, ?_, .inr (.inr ⟨h1, h2, c', r, _, hc', hr', rfl, rfl⟩)⟩
  have e5 : stepsS (c'.steps ++ [c'.was key]) = stepsS c'.steps ++ [sh (c'.was key).was (c'.was key).bs] := by simp [stepsS]
  have e6 : (c'.steps ++ [c'.was key]).length = c'.steps.length + 1 := by simp
  simp only [StC.pieces, StC.put, e5, e6]
  refine (Ent.sel (T := kvS c'.has ++ (kvS c'.now ++ stepsS c'.steps)) [4, 5, 0, 2, 6, 1] (A := [_, _, _, _, _, _, _]) rfl).trans (Ent.under ?_ [_, _, _, _, _])
  refine (sh_of_own rfl).trans ?_
  refine (StC.was_ent (A := sh r bs :: kvS c'.has) (key := key)).trans ?_
  refine (Ent.perm ?_).trans (Ent.under kvS_put (kvS c'.has))
  exact perm_laid
theorem put_spec_s (F : List HP) (s : Nat) (src : Value) (c : StC) (key : ByteArray) (v : Value) (bs : List Nat) (find : ByteArray → List Nat × Int) (hs : SrcG Tryd.prog F src find) (hl : ∀ k, (find k).1.length ≤ 1099511627776) (hw : c.wf)
    (_ : SlV v bs.length) (hr : RdS F v bs.length (bvs bs)) (_ : bs.length ≤ 1099511627776) (hst : c.steps.length ≤ 4398046511104) :
    SpecF Tryd.prog 39 [.pointer (some ⟨s, 0, none⟩), .string key, v] F (c.pieces 127 s src) (fun r L =>
      (mayI key bs.length ≠ 0 ∧ r = .int .i64 (mayI key bs.length) ∧ L = c.pieces 127 s src) ∨
      (mayI key bs.length = 0 ∧ askE find c key ≠ 0 ∧ r = .int .i64 (askE find c key) ∧ L = c.pieces 127 s src) ∨
      (mayI key bs.length = 0 ∧ askE find c key = 0 ∧ ∃ c' x sv, AskOk find c key c' ∧ SlV x bs.length ∧ r = .int .i64 0 ∧ L = (c'.put key x bs sv).pieces 127 s src)) := put_spec_r F s src c key v bs find hs hl hw hr hst
end Go.Proofs.YtnbcbdlbejdkpaaDoor
namespace Go.Proofs.YtnbcbdlbejdkpaaDoor
open Go Go.Sl
theorem find_spec (F : List HP) (t vb : Nat) (vals : List (KV ByteArray)) (key : ByteArray) (h0 : Cel F t 0 (.map (some vb))) (hm : MapG Value.string (fun _ => True) F vb (kvM vals))
    (hv : ∀ p ∈ vals, SlV p.2.1 p.2.2.length ∧ p.2.2.length ≤ 4096 ∧ RdS F p.2.1 p.2.2.length (bvs p.2.2)) :
    SpecF Tryd.prog 42 [.pointer (some ⟨t, 0, none⟩), .string key] F [] (fun v L => ∃ x, SlV x (tabFind vals key).1.length ∧ v = .tuple #[x, .int .i64 (tabFind vals key).2] ∧ L = [own 1 x (tabFind vals key).1.length (bvs (tabFind vals key).1)]) := by
  refine fun42.spec rfl ?_
  conv=>whnf
  refine CallG.pure (smay_spec _ key (.slice none 0 0) 0 (.inl ⟨rfl, rfl⟩) (by decide)) ?_
  rintro _ _ ⟨rfl, rfl⟩
  conv=>whnf
  refine CondG.ndec (fun h1 => ?_) (fun h1 => ?_)
  · conv=>whnf
    have e : tabFind vals key = ([], mayI key 0) := by unfold tabFind; rw [if_pos h1]
    rw [e]
    exact ⟨[own 1 (.slice none 0 0) 0 []], fun w G hs => Sat.own_nil hs, .slice none 0 0, .inl ⟨rfl, rfl⟩, rfl, rfl⟩
  conv=>whnf
  refine LoadG.atF h0 ?_
  conv=>whnf
  refine DoesG.look strT mapT zeroB trivial (MapG.right hm _) false ?_
  rw [getM_kv]
  have e : tabFind vals key = (((getK vals key).map (·.2)).getD [], 0) := by unfold tabFind; rw [if_neg (by omega)]
  rw [e]
  cases hg : getK vals key with
  | none =>
    conv=>whnf
    refine CallG.pure (clone_spec _ (.slice none 0 0) [] (by simp) .nil) ?_
    rintro r _ ⟨hr, rfl, _⟩
    conv=>whnf
    exact ret_here ⟨r, hr, rfl, rfl⟩
  | some p =>
    obtain ⟨h2, h3, h4⟩ := hv _ (getK_mem hg)
    conv=>whnf
    refine CallG.pure (clone_spec _ p.1 p.2 (by have h5 : p.2.length ≤ 4096 := h3; omega) (.right h4 _)) ?_
    rintro r _ ⟨hr, rfl, _⟩
    conv=>whnf
    exact ret_here ⟨r, hr, rfl, rfl⟩
theorem find_method (v : Value) (w : World) : (method ((Tryd.prog).types.size + Made.depth) 87 v "Find").run Tryd.prog w = .ok (42, v) w := by kernel_rfl
theorem tabFind_len {vals : List (KV ByteArray)} (hv : ∀ p ∈ vals, p.2.2.length ≤ 4096) (key : ByteArray) : (tabFind vals key).1.length ≤ 4096 := by
  unfold tabFind
  split
  · simp
  · cases hg : getK vals key with
    | none => simp
    | some p => simpa using hv _ (getK_mem hg)
theorem tab_src (F : List HP) (t vb : Nat) (vals : List (KV ByteArray)) (h0 : Cel F t 0 (.map (some vb))) (hm : MapG Value.string (fun _ => True) F vb (kvM vals))
    (hv : ∀ p ∈ vals, SlV p.2.1 p.2.2.length ∧ p.2.2.length ≤ 4096 ∧ RdS F p.2.1 p.2.2.length (bvs p.2.2)) : SrcG Tryd.prog F (.iface 87 (.pointer (some ⟨t, 0, none⟩))) (tabFind vals) :=
  ⟨87, .pointer (some ⟨t, 0, none⟩), 42, .pointer (some ⟨t, 0, none⟩), rfl, find_method _, by kernel_rfl, fun key L =>
    find_spec (L ++ F) t vb vals key (h0.right L) (hm.right L) (fun p hp => ⟨(hv p hp).1, (hv p hp).2.1, (hv p hp).2.2.right L⟩)⟩
theorem snew_spec (F : List HP) : SpecF Tryd.prog 91 [] F [] (fun v L => ∃ q, v = .pointer (some ⟨q, 0, none⟩) ∧ L = [cel q 177 [.pointer none, .int .i64 0]]) := by
  refine fun91.spec rfl ?_
  conv=>whnf
  refine BuildG.of rfl ?_
  conv=>whnf
  intro q
  conv=>whnf
  exact ret_here ⟨q, rfl, rfl⟩
theorem newTable_spec (F : List HP) : SpecF Tryd.prog 45 [] F [] (fun v L => ∃ t, v = .pointer (some ⟨t, 0, none⟩) ∧ ∃ vb q ob, L = emptyL 154 177 t vb q ob) := by
  refine fun45.spec rfl ?_
  conv=>whnf
  intro vb
  conv=>whnf
  refine CallG.pure (snew_spec _) ?_
  rintro _ _ ⟨q, rfl, rfl⟩
  conv=>whnf
  intro ob
  conv=>whnf
  refine BuildG.of rfl ?_
  conv=>whnf
  intro t
  conv=>whnf
  refine ⟨emptyL 154 177 t vb q ob, ?_, t, rfl, vb, q, ob, rfl⟩
  intro w G hs
  have h1 : Sat w (blk vb (.map #[] 0) :: (blk ob (.map #[] 0) :: cel t 154 [.map (some vb), .pointer (some ⟨q, 0, none⟩), .map (some ob)] :: cel q 177 [.pointer none, .int .i64 0] :: G)) :=
    Ent.sel (T := []) (A := [_, _, _, _]) [3, 1, 0, 2] rfl w G hs
  have h2 := mapP_new (kv := Value.string) (ok := fun _ => True) w h1
  have h3 : Sat w (blk ob (.map #[] 0) :: (mapP Value.string (fun _ => True) vb [] :: cel t 154 [.map (some vb), .pointer (some ⟨q, 0, none⟩), .map (some ob)] :: cel q 177 [.pointer none, .int .i64 0] :: G)) := h2.perm (List.Perm.swap _ _ _)
  have h4 := mapP_new (kv := digV) (ok := digOk) w h3
  exact Ent.sel (T := []) (A := [_, _, _, _]) [2, 1, 0, 3] rfl w G h4
theorem over_spec (F : List HP) (u : Nat) (v : Value) : SpecF Tryd.prog 38 [.iface u v] F [] (fun r L => ∃ s, r = .tuple #[.pointer (some ⟨s, 0, none⟩), .int .i64 0] ∧ ∃ hb nb, L = (StC.mk [] [] [] [] hb nb (.slice none 0 0) (.slice none 0 0)).pieces 127 s (.iface u v)) := by
  refine fun38.spec rfl ?_
  (conv=>whnf); repeat ((with_reducible first | refine .tt ?_ | refine .ff ?_); conv=>whnf)
  intro hb
  conv=>whnf
  intro nb
  conv=>whnf
  refine BuildG.of rfl ?_
  conv=>whnf
  intro s
  conv=>whnf
  refine ⟨(StC.mk [] [] [] [] hb nb (.slice none 0 0) (.slice none 0 0)).pieces 127 s (.iface u v), ?_, s, rfl, hb, nb, rfl⟩
  intro w G hs
  have h1 : Sat w (blk hb (.map #[] 0) :: (blk nb (.map #[] 0) :: cel s 127 [.iface u v, .map (some hb), .map (some nb), .slice none 0 0, .slice none 0 0] :: G)) :=
    Ent.sel (T := []) (A := [_, _, _]) [2, 1, 0] rfl w G hs
  have h2 := mapP_new (kv := Value.string) (ok := fun _ => True) w h1
  have h3 := mapP_new (kv := Value.string) (ok := fun _ => True) w (h2.perm (List.Perm.swap _ _ _))
  have h4 : Sat w (own 1 (.slice none 0 0) 0 [] :: own 3 (.slice none 0 0) 0 [] :: mapS nb [] :: mapS hb [] :: cel s 127 [.iface u v, .map (some hb), .map (some nb), .slice none 0 0, .slice none 0 0] :: G) := Sat.own_nil (Sat.own_nil h3)
  exact Ent.sel (T := []) (A := [_, _, _, _, _]) [4, 3, 2, 1, 0] rfl w G h4
theorem fresh_nil (F : List HP) : SpecF Tryd.prog 32 [.slice none 0 0] F [] (fun r L => ∃ s t vb q ob hb nb, r = .pointer (some ⟨s, 0, none⟩) ∧
    L = (StC.mk [] [] [] [] hb nb (.slice none 0 0) (.slice none 0 0)).pieces 127 s (.iface 87 (.pointer (some ⟨t, 0, none⟩))) ++ emptyL 154 177 t vb q ob) := by
  refine fun32.spec rfl ?_
  conv=>whnf
  refine CallG.pure (newTable_spec _) ?_
  rintro _ _ ⟨t, rfl, vb, q, ob, rfl⟩
  (conv=>whnf); repeat ((with_reducible first | refine .tt ?_ | refine .ff ?_); conv=>whnf)
  refine LoopG.mk (fun m ev L => ev = [(0, .slice none 0 0), (3, .pointer (some ⟨t, 0, none⟩)), (4, .int .i64 0)] ∧ L = emptyL 154 177 t vb q ob ++ []) 0 [(0, .slice none 0 0), (3, .pointer (some ⟨t, 0, none⟩)), (4, .int .i64 0)] _ ⟨rfl, rfl, rfl, trivial⟩ (Ent.refl _) ⟨rfl, rfl⟩ ?_
  rintro m ev L ⟨rfl, rfl⟩
  conv=>whnf
  refine LenG.lit ?_
  conv=>whnf
  refine CondG.ff ?_
  conv=>whnf
  refine CallG.pure (over_spec _ _ _) ?_
  rintro _ _ ⟨s, rfl, hb, nb, rfl⟩
  conv=>whnf
  refine CondG.ff ?_
  conv=>whnf
  exact ret_here ⟨s, t, vb, q, ob, hb, nb, rfl, by rw [List.append_nil]⟩
end Go.Proofs.YtnbcbdlbejdkpaaDoor
namespace Go.Proofs.YtnbcbdlbejdkpaaDoor
open Go Go.Sl
theorem eight_spec (F : List HP) (n : Nat) (hn : n < 9223372036854775808) :
    SpecF Tryd.prog 103 [.int .i64 n] F [] (fun r L => SlV r 8 ∧ r ≠ .slice none 0 0 ∧ L = [own 1 r 8 (bvs (be n 8))]) := by
  refine fun103.spec rfl ?_
  conv=>whnf
  intro b
  conv=>whnf
  refine LoopG.mk (fun m e L => ∃ i, i ≤ 8 ∧ m = 8 - i ∧ e = [(0, .int .i64 n), (3, .pointer (some ⟨b, 0, none⟩)), (5, .int .i64 i)] ∧ L = [cel b 190 (bvs (fillB (fun i => n / 256 ^ (7 - i) % 256) 8 i))]) 8
    [(0, .int .i64 n), (3, .pointer (some ⟨b, 0, none⟩)), (5, .int .i64 0)] _ ⟨rfl, rfl, rfl, trivial⟩ (Ent.refl _) ⟨0, by omega, rfl, rfl, by rw [fillB_zero]; rfl⟩ ?_
  rintro m e L ⟨i, hi, rfl, rfl, rfl⟩
  conv=>whnf
  refine CondG.dec (fun h => ?_) (fun h => ?_)
  · have hi8 : i < 8 := by omega
    conv=>whnf
    refine ArithG.i64 (by omega) ?_
    conv=>whnf
    refine ArithG.i64 (by omega) ?_
    conv=>whnf
    refine SideG.of (by omega) ?_
    conv=>whnf
    refine ArithG.all ?_
    conv=>whnf
    refine SideG.of (by omega) ?_
    conv=>whnf
    have e1 := shr_be n i hi8
    refine StoreG.at rfl (Upd.here (by simp [bvs_len, fillB_len]; omega) rfl) ?_
    conv=>whnf
    refine ArithG.i64 (by omega) ?_
    conv=>whnf
    refine ⟨8 - (i + 1), _, _, by omega, ?_, Ent.refl _, i + 1, by omega, rfl, rfl, ?_⟩
    · exact ⟨rfl, rfl, rfl, trivial⟩
    rw [← fillB_set _ hi8]
    have e2 : (0 : Nat) + (i : Int).toNat * 1 = i := by simp
    rw [e2]
    show [cel b 190 ((bvs (fillB (fun i => n / 256 ^ (7 - i) % 256) 8 i)).set i (.int .u8 (IntKind.u8.wrap ((n : Int).fdiv (2 ^ (min (56 - 8 * (i : Int)).toNat 64))))))] = _
    rw [e1]
    rfl
  · obtain rfl : i = 8 := by omega
    conv=>whnf
    refine SideG.of (by decide) ?_
    conv=>whnf
    refine SliceG.zero ?_
    conv=>whnf
    rw [fillB_all, be_range n 8]
    exact ⟨[own 1 (.slice (some ⟨b, 0, none⟩) 8 8) 8 (bvs (be n 8))], own_of_cel (by simp [bvs_len, be_len]) (by decide), .inr ⟨b, 8, rfl, by decide⟩, by simp [retV], rfl⟩
theorem key_spec (F : List HP) (n : Nat) (hn : n < 9223372036854775808) : SpecF Tryd.prog 101 [.int .i64 n] F [] (fun r L => r = .string (tkey n) ∧ L = []) := by
  refine fun101.spec rfl ?_
  conv=>whnf
  refine CallG.pure (eight_spec _ n hn) ?_
  rintro r _ ⟨hr, _, rfl⟩
  conv=>whnf
  refine DoesG.toStr (e := 5) (bs := be n 8) (by kernel_rfl) (by kernel_rfl) (by kernel_rfl) (.left (own_rd hr (by simp [bvs_len, be_len])) F) (be_len n 8) ?_
  conv=>whnf
  refine DoesG.cat (by rw [strB_size, be_len]; decide) ?_
  conv=>whnf
  exact ⟨[], Ent.nil _, rfl, rfl⟩
theorem wbytes_spec (F : List HP) (ws : List Nat) (hw : ws.length = 4) : SpecF Tryd.prog 93 [.agg ⟨uvs ws⟩] F [] (fun r L => SlV r 32 ∧ L = [own 1 r 32 (bvs (wideB ws))]) := by
  refine fun93.spec rfl ?_
  conv=>whnf
  intro b1
  conv=>whnf
  refine DoesG.make0 bytesT .i64 .i64 (by decide) (by decide) fun v0 hv0 _ => ?_
  conv=>whnf
  refine LoopG.mk (fun m e L => ∃ i v, i ≤ 4 ∧ SlV v (8 * i) ∧ m = 4 - i ∧ e = [(1, .pointer (some ⟨b1, 0, none⟩)), (3, v), (4, .int .i64 (3 - i))] ∧ L = [own 1 v (8 * i) (bvs ((wideB ws).take (8 * i))), cel b1 25 (uvs ws)]) 4
    [(1, .pointer (some ⟨b1, 0, none⟩)), (3, v0), (4, .int .i64 3)] _ ⟨rfl, rfl, rfl, trivial⟩ (Ent.refl _) ⟨0, v0, by omega, hv0, rfl, rfl, rfl⟩ ?_
  rintro m e L ⟨i, v, hi, hvi, rfl, rfl, rfl⟩
  conv=>whnf
  refine CondG.dec (fun h => ?_) (fun h => ?_)
  · have hi4 : i < 4 := by omega
    conv=>whnf
    refine LoopG.mk (fun m e L => ∃ j v, j ≤ 8 ∧ SlV v (8 * i + j) ∧ m = 8 - j ∧ e = [(1, .pointer (some ⟨b1, 0, none⟩)), (3, v), (4, .int .i64 (3 - i)), (5, .int .i64 (56 - 8 * j))] ∧ L = [own 1 v (8 * i + j) (bvs ((wideB ws).take (8 * i + j))), cel b1 25 (uvs ws)]) 8
      [(1, .pointer (some ⟨b1, 0, none⟩)), (3, v), (4, .int .i64 (3 - i)), (5, .int .i64 56)] _ ⟨rfl, rfl, rfl, rfl, trivial⟩ (Ent.refl _) ⟨0, v, by omega, hvi, rfl, rfl, rfl⟩ ?_
    rintro m e L ⟨j, v, hj, hvj, rfl, rfl, rfl⟩
    conv=>whnf
    refine CondG.dec (fun h2 => ?_) (fun h2 => ?_)
    · have hj8 : j < 8 := by omega
      conv=>whnf
      refine SideG.of (by omega) ?_
      conv=>whnf
      have hg : (uvs ws)[0 + (3 - (i : Int)).toNat * 1]? = some (uv (ws.getD (3 - i) 0)) := by
        have e1 : 0 + (3 - (i : Int)).toNat * 1 = 3 - i := by omega
        rw [e1]
        have hlt : 3 - i < ws.length := by omega
        simp [uvs, List.getD, List.getElem?_eq_getElem hlt]
      refine LoadG.at (v := uv (ws.getD (3 - i) 0)) (.tl (.here hg)) ?_
      conv=>whnf
      refine SideG.of (by omega) ?_
      conv=>whnf
      refine ArithG.all ?_
      conv=>whnf
      refine BuildG.of rfl ?_
      conv=>whnf
      intro b2
      conv=>whnf
      refine DoesG.ent (Ent.front 1 rfl) ?_
      have e1 := shr_be (ws.getD (3 - i) 0) j hj8
      refine app_own bytesT 91 (m := 1) (ys := [bv (ws.getD (3 - i) 0 / 256 ^ (7 - j) % 256)]) (.mk _ _ _ _ _ (by decide) (.tl (.left (fun w hs => CelN.all w (by
        have e2 : (List.take 0 [Value.int .u8 0] ++ (Value.int .u8 (IntKind.u8.wrap (((ws.getD (3 - i) 0 : Nat) : Int).fdiv (2 ^ (min (56 - 8 * (j : Int)).toNat 64))))).cells.toList ++ List.drop (0 + 1) [Value.int .u8 0]) = [bv (ws.getD (3 - i) 0 / 256 ^ (7 - j) % 256)] := by
          rw [e1]; rfl
        rw [← e2]
        exact hs)) _))) rfl (by simp [bv, Value.oneCell']) (by simp only [maxLen]; omega) (by omega) fun r hr hlen hnil => ?_
      have e3 : bvs ((wideB ws).take (8 * i + j)) ++ [bv (ws.getD (3 - i) 0 / 256 ^ (7 - j) % 256)] = bvs ((wideB ws).take (8 * i + (j + 1))) := by
        have := wide_take ws (8 * i + j) (by omega)
        have q1 : (8 * i + j) / 8 = i := by omega
        have q2 : (8 * i + j) % 8 = j := by omega
        rw [q1, q2] at this
        rw [show 8 * i + (j + 1) = 8 * i + j + 1 by omega, this, ← bvs_append]
        rfl
      rw [e3]
      obtain ⟨ra, rc, hre⟩ := hr.len
      subst hre
      conv=>whnf
      refine ArithG.i64 (by omega) ?_
      conv=>whnf
      refine ⟨8 - (j + 1), [(1, .pointer (some ⟨b1, 0, none⟩)), (3, .slice ra (8 * i + j + 1) rc), (4, .int .i64 (3 - i)), (5, .int .i64 (56 - 8 * ((j + 1 : Nat) : Int)))], _, by omega, ?_, Ent.sel (T := []) [0, 2] (A := [_, _, _]) rfl, j + 1, _, by omega, hr, rfl, rfl, rfl⟩
      refine ⟨rfl, rfl, rfl, ?_, trivial⟩
      show some (Value.int .i64 (56 - 8 * (j : Int) - 8)) = _
      congr 2
      omega
    · obtain rfl : j = 8 := by omega
      conv=>whnf
      refine ArithG.i64 (by omega) ?_
      conv=>whnf
      refine ⟨4 - (i + 1), [(1, .pointer (some ⟨b1, 0, none⟩)), (3, v), (4, .int .i64 (3 - ((i + 1 : Nat) : Int)))], _, by omega, ?_, Ent.refl _, i + 1, v, by omega, hvj, rfl, rfl, rfl⟩
      refine ⟨rfl, rfl, ?_, trivial⟩
      show some (Value.int .i64 (3 - (i : Int) - 1)) = _
      congr 2
      omega
  · obtain rfl : i = 4 := by omega
    conv=>whnf
    refine ⟨[own 1 v 32 (bvs (wideB ws))], ?_, hvi, rfl⟩
    have e : (wideB ws).take (8 * 4) = wideB ws := List.take_of_length_le (by rw [wide_len]; decide)
    rw [e]
    exact Ent.dropL [own 1 v 32 (bvs (wideB ws))] [cel b1 25 (uvs ws)]
theorem number_spec_t (F : List HP) (v : Value) (bs : List Nat) (hb : bs.length ≤ 1152921504606846976) (hv : RdS F v bs.length (bvs bs)) : SpecF Tryd.prog 106 [v] F [] (fun r L => r = .int .i64 (numF bs) ∧ L = []) := by
  refine fun106.spec rfl ?_
  conv=>whnf
  refine LenG.rd hv ?_
  conv=>whnf
  refine LoopG.mk (fun m e L => ∃ i, i ≤ bs.length ∧ m = bs.length - i ∧ e = [(3, .int .i64 (numF (bs.take i))), (6, v), (7, .int .i64 bs.length), (8, .int .i64 i)] ∧ L = []) bs.length
    [(3, .int .i64 0), (6, v), (7, .int .i64 bs.length), (8, .int .i64 0)] _ ⟨rfl, rfl, rfl, rfl, trivial⟩ (Ent.refl _) ⟨0, by omega, rfl, rfl, rfl⟩ ?_
  rintro m e L ⟨i, hi, rfl, rfl, rfl⟩
  conv=>whnf
  refine CondG.dec (fun h => ?_) (fun h => ?_)
  · have hlt : i < bs.length := by omega
    conv=>whnf
    refine IdxG.rd hv (by omega) fun b o hc => ?_
    conv=>whnf
    refine LoadG.atF (v := bv bs[i]) (hc.one (i := (i : Int).toNat * 1) (by simpa using bvs_get hlt)) ?_
    conv=>whnf
    refine SideG.of (by decide) ?_
    conv=>whnf
    refine ArithG.all ?_
    conv=>whnf
    refine ArithG.all ?_
    conv=>whnf
    refine ArithG.i64 (by omega) ?_
    conv=>whnf
    refine ⟨bs.length - (i + 1), [(3, .int .i64 (numF (bs.take (i + 1)))), (6, v), (7, .int .i64 bs.length), (8, .int .i64 ((i + 1 : Nat)))], _, by omega, ?_, Ent.refl _, i + 1, by omega, rfl, rfl, rfl⟩
    refine ⟨?_, rfl, rfl, rfl, trivial⟩
    rw [numF_take bs i hlt]
    rfl
  · obtain rfl : i = bs.length := by omega
    rw [List.take_length]
    conv=>whnf
    exact ret_here ⟨rfl, rfl⟩
theorem wread_spec (F : List HP) (v : Value) (bs : List Nat) (hb : bs.length = 32) (hv : RdS F v 32 (bvs bs)) : SpecF Tryd.prog 63 [v] F [] (fun r L => r = .tuple #[.agg ⟨ivs (wordsF bs 0 [0, 0, 0, 0])⟩, .int .i64 0] ∧ L = []) := by
  refine fun63.spec rfl ?_
  conv=>whnf
  intro b2
  conv=>whnf
  intro b4
  conv=>whnf
  refine LenG.rd hv ?_
  conv=>whnf
  refine CondG.ff ?_
  conv=>whnf
  refine LenG.rd hv ?_
  conv=>whnf
  refine LoopG.mk (fun m e L => ∃ i, i ≤ 32 ∧ m = 32 - i ∧ e = [(2, .pointer (some ⟨b2, 0, none⟩)), (4, .pointer (some ⟨b4, 0, none⟩)), (11, v), (12, .int .i64 32), (13, .int .i64 i)] ∧
    L = [cel b4 25 (ivs (wordsF (bs.take i) 0 [0, 0, 0, 0])), cel b2 25 (ivs [0, 0, 0, 0])]) 32
    [(2, .pointer (some ⟨b2, 0, none⟩)), (4, .pointer (some ⟨b4, 0, none⟩)), (11, v), (12, .int .i64 32), (13, .int .i64 0)] _ ⟨rfl, rfl, rfl, rfl, rfl, trivial⟩ (Ent.refl _) ⟨0, by omega, rfl, rfl, rfl⟩ ?_
  rintro m e L ⟨i, hi, rfl, rfl, rfl⟩
  conv=>whnf
  refine CondG.dec (fun h => ?_) (fun h => ?_)
  · have hlt : i < 32 := by omega
    have hq : (i : Int).tdiv 8 = ((i / 8 : Nat) : Int) := rfl
    have hwl : (wordsF (bs.take i) 0 [0, 0, 0, 0]).length = 4 := wordsF_len _ _ _
    conv=>whnf
    refine IdxG.rd hv (by omega) fun b o hc => ?_
    conv=>whnf
    refine LoadG.atF (v := bv (bs[i]'(by omega))) (hc.one (i := (i : Int).toNat * 1) (by simpa using bvs_get (by omega))) ?_
    conv=>whnf
    refine SideG.of (by decide) ?_
    conv=>whnf
    refine ArithG.i64' _ hq (by omega) ?_
    conv=>whnf
    refine ArithG.i64 (by omega) ?_
    conv=>whnf
    refine SideG.of (by decide) ?_
    conv=>whnf
    refine ArithG.i64' _ hq (by omega) ?_
    conv=>whnf
    refine ArithG.i64 (by omega) ?_
    conv=>whnf
    refine SideG.of (by omega) ?_
    conv=>whnf
    have e1 : 0 + (3 - ((i / 8 : Nat) : Int)).toNat * 1 = 3 - i / 8 := by omega
    have hg : (ivs (wordsF (bs.take i) 0 [0, 0, 0, 0]))[0 + (3 - ((i / 8 : Nat) : Int)).toNat * 1]? = some (.int .u64 ((wordsF (bs.take i) 0 [0, 0, 0, 0]).getD (3 - i / 8) 0)) := by
      rw [e1]
      have hl4 : 3 - i / 8 < (wordsF (bs.take i) 0 [0, 0, 0, 0]).length := by omega
      simp [ivs, List.getD, List.getElem?_eq_getElem hl4]
    refine LoadG.at (v := .int .u64 ((wordsF (bs.take i) 0 [0, 0, 0, 0]).getD (3 - i / 8) 0)) (.here hg) ?_
    conv=>whnf
    refine SideG.of (by decide) ?_
    conv=>whnf
    refine ArithG.all ?_
    conv=>whnf
    refine ArithG.all ?_
    conv=>whnf
    refine SideG.of (by omega) ?_
    conv=>whnf
    refine StoreG.at rfl (Upd.here (by rw [e1]; simp [ivs, hwl]; omega) rfl) ?_
    conv=>whnf
    refine ArithG.i64 (by omega) ?_
    conv=>whnf
    refine ⟨32 - (i + 1), _, _, by omega, ?_, Ent.refl _, i + 1, by omega, rfl, rfl, ?_⟩
    · exact ⟨rfl, rfl, rfl, rfl, rfl, trivial⟩
    rw [wordsF_take bs 0 i _ (by omega), wordsStep]
    simp only [Nat.zero_add]
    rw [show (3 - ((i / 8 : Nat) : Int)).toNat * 1 = 3 - i / 8 by omega]
    simp only [ivs, List.map_set]
    rfl
  · obtain rfl : i = 32 := by omega
    rw [List.take_of_length_le (by omega)]
    conv=>whnf
    refine LoadNG.at (vs := ivs (wordsF bs 0 [0, 0, 0, 0])) (by simp [ivs, wordsF_len]) .all ?_
    conv=>whnf
    refine StoreG.at (by simp [ivs, wordsF_len]) (Upd.tl (Upd.whole (by simp [ivs, wordsF_len]) (by intro u hu; obtain ⟨z, _, rfl⟩ := List.mem_map.1 hu; rfl))) ?_
    conv=>whnf
    refine LoadNG.at (vs := ivs (wordsF bs 0 [0, 0, 0, 0])) (by simp [ivs, wordsF_len]) (.tl .all) ?_
    conv=>whnf
    exact ⟨[], Ent.nil _, rfl, rfl⟩
theorem tmay_spec (F : List HP) (t : TicketD) (ht : t.wf) : SpecF Tryd.prog 100 [.agg ⟨t.cells⟩] F [] (fun v L => v = .bool (decide t.may) ∧ L = []) := by
  refine fun100.spec rfl ?_
  conv=>whnf
  intro b
  conv=>whnf
  refine LoadG.at (v := .int .i64 t.ent) (.here rfl) ?_
  conv=>whnf
  refine CondG.dec (fun h1 => ?_) (fun h1 => ?_)
  rotate_left
  · (conv=>whnf); repeat ((with_reducible first | refine .tt ?_ | refine .ff ?_); conv=>whnf)
    exact ⟨[], Ent.nil _, congrArg Value.bool (decide_eq_false fun h => h1 h.1.1).symm, rfl⟩
  (conv=>whnf); repeat ((with_reducible first | refine .tt ?_ | refine .ff ?_); conv=>whnf)
  refine LoadG.at (v := .int .i64 t.ent) (.here rfl) ?_
  (conv=>whnf); repeat ((with_reducible first | refine .tt ?_ | refine .ff ?_); conv=>whnf)
  refine CondG.dec (fun h2 => ?_) (fun h2 => ?_)
  rotate_left
  · (conv=>whnf); repeat ((with_reducible first | refine .tt ?_ | refine .ff ?_); conv=>whnf)
    exact ⟨[], Ent.nil _, congrArg Value.bool (decide_eq_false fun h => h2 h.1.2).symm, rfl⟩
  (conv=>whnf); repeat ((with_reducible first | refine .tt ?_ | refine .ff ?_); conv=>whnf)
  refine LoadG.at (v := .int .i64 t.tok) (.here (TicketD.tok_at ht)) ?_
  (conv=>whnf); repeat ((with_reducible first | refine .tt ?_ | refine .ff ?_); conv=>whnf)
  refine CondG.dec (fun h3 => ?_) (fun h3 => ?_)
  rotate_left
  · (conv=>whnf); repeat ((with_reducible first | refine .tt ?_ | refine .ff ?_); conv=>whnf)
    exact ⟨[], Ent.nil _, congrArg Value.bool (decide_eq_false fun h => h3 h.2.1.1).symm, rfl⟩
  (conv=>whnf); repeat ((with_reducible first | refine .tt ?_ | refine .ff ?_); conv=>whnf)
  refine LoadG.at (v := .int .i64 t.tok) (.here (TicketD.tok_at ht)) ?_
  (conv=>whnf); repeat ((with_reducible first | refine .tt ?_ | refine .ff ?_); conv=>whnf)
  refine CondG.dec (fun h4 => ?_) (fun h4 => ?_)
  rotate_left
  · (conv=>whnf); repeat ((with_reducible first | refine .tt ?_ | refine .ff ?_); conv=>whnf)
    exact ⟨[], Ent.nil _, congrArg Value.bool (decide_eq_false fun h => h4 h.2.1.2).symm, rfl⟩
  (conv=>whnf); repeat ((with_reducible first | refine .tt ?_ | refine .ff ?_); conv=>whnf)
  refine LoadNG.at (vs := uvs t.amt) (by rw [uvs_len, ht.amt]) (CelN.here (TicketD.amt_at ht)) ?_
  (conv=>whnf); repeat ((with_reducible first | refine .tt ?_ | refine .ff ?_); conv=>whnf)
  refine CallG.pure (isZero_spec _ _ ht.amt) ?_
  rintro _ _ ⟨rfl, rfl⟩
  (conv=>whnf); repeat ((with_reducible first | refine .tt ?_ | refine .ff ?_); conv=>whnf)
  refine ⟨[], Ent.nil _, congrArg Value.bool ?_, rfl⟩
  by_cases h5 : t.amt = List.replicate 4 0
  · rw [decide_eq_true h5]
    exact (decide_eq_false fun h => h.2.2 h5).symm
  · rw [decide_eq_false h5]
    exact (decide_eq_true ⟨⟨h1, h2⟩, ⟨h3, h4⟩, h5⟩).symm
theorem tvalue_spec (F : List HP) (t : TicketD) (ht : t.wf) (he : 0 ≤ t.ent ∧ t.ent < 9223372036854775808) (hk : 0 ≤ t.tok ∧ t.tok < 256) : SpecF Tryd.prog 102 [.agg ⟨t.cells⟩] F [] (fun r L => SlV r t.value.length ∧ L = [own 1 r t.value.length (bvs t.value)]) := by
  obtain ⟨n, hn⟩ : ∃ n : Nat, t.ent = n := ⟨t.ent.toNat, (Int.toNat_of_nonneg he.1).symm⟩
  have hb1 : (bvs t.snd).length = 20 := by rw [bvs_len, ht.snd]
  have hb2 : (bvs t.to).length = 20 := by rw [bvs_len, ht.to]
  refine fun102.spec rfl ?_
  conv=>whnf
  intro b
  conv=>whnf
  refine DrawG.mk 7 [cel b 82 t.cells] [] (Ent.refl _) ?_
  conv=>whnf
  refine .take 0 ?_
  conv=>whnf
  refine ⟨rfl, ?_⟩
  conv=>whnf
  refine .take 1 ?_
  conv=>whnf
  refine ⟨rfl, ?_⟩
  conv=>whnf
  refine LoadG.at (v := .int .i64 n) (.here (congrArg (fun z => some (Value.int .i64 z)) hn)) ?_
  conv=>whnf
  refine .take 3 ?_
  conv=>whnf
  refine ⟨rfl, ?_⟩
  conv=>whnf
  refine .take 4 ?_
  conv=>whnf
  refine ⟨rfl, ?_⟩
  conv=>whnf
  refine SideG.of (by decide) ?_
  conv=>whnf
  refine SliceG.zero ?_
  conv=>whnf
  refine .all ?_
  conv=>whnf
  refine ⟨by decide, ?_⟩
  conv=>whnf
  refine CallG.pure (eight_spec _ n (by omega)) ?_
  rintro r _ ⟨hr, _, rfl⟩
  conv=>whnf
  refine .all ?_
  conv=>whnf
  refine ⟨by decide, ?_⟩
  conv=>whnf
  refine app_own bytesT 91 (m := 20) (ys := bvs t.snd) (.mk _ _ _ _ _ (by decide) (.tl (.right (.left (CelN.here (by rw [hb1]; exact hb1 ▸ t.snd_at)) F) _))) (by rw [hb1]) (bvs_one _) (by decide) (by decide) fun r1 hr1 hl1 hn1 => ?_
  rw [bvs_append] at hl1 ⊢
  conv=>whnf
  refine .take 6 ?_
  conv=>whnf
  refine ⟨rfl, ?_⟩
  conv=>whnf
  refine ⟨rfl, ?_⟩
  conv=>whnf
  refine DrawG.mk 10 [cel b 82 t.cells] [own 1 r1 (8 + 20) (bvs (be n 8 ++ t.snd))] (Ent.refl _) ?_
  conv=>whnf
  refine .take 0 ?_
  conv=>whnf
  refine ⟨rfl, ?_⟩
  conv=>whnf
  refine .take 1 ?_
  conv=>whnf
  refine ⟨rfl, ?_⟩
  conv=>whnf
  refine .take 2 ?_
  conv=>whnf
  refine ⟨rfl, ?_⟩
  conv=>whnf
  refine LoadG.at (v := .int .i64 t.tok) (.here (TicketD.tok_at ht)) ?_
  conv=>whnf
  refine .take 3 ?_
  conv=>whnf
  refine ⟨rfl, ?_⟩
  conv=>whnf
  refine ArithG.u8 (by omega) ?_
  conv=>whnf
  refine .take 6 ?_
  conv=>whnf
  refine ⟨rfl, ?_⟩
  conv=>whnf
  refine .take 7 ?_
  conv=>whnf
  refine ⟨rfl, ?_⟩
  conv=>whnf
  refine SideG.of (by decide) ?_
  conv=>whnf
  refine SliceG.zero ?_
  conv=>whnf
  refine .all ?_
  conv=>whnf
  refine ⟨by decide, ?_⟩
  conv=>whnf
  refine BuildG.of rfl ?_
  conv=>whnf
  intro b4
  conv=>whnf
  refine .all ?_
  conv=>whnf
  refine ⟨by decide, ?_⟩
  conv=>whnf
  refine DoesG.ent (Ent.front 1 rfl) ?_
  have hk2 : (Value.int .u8 t.tok) = bv t.tok.toNat := by
    unfold bv
    rw [Int.toNat_of_nonneg hk.1]
  refine app_own bytesT 91 (m := 1) (ys := bvs [t.tok.toNat]) (.mk _ _ _ _ _ (by decide) (.tl (.left (CelN.here (by rw [hk2]; rfl)) _))) rfl (bvs_one _) (by decide) (by decide) fun r2 hr2 hl2 hn2 => ?_
  rw [bvs_append] at hl2 ⊢
  conv=>whnf
  refine .all ?_
  conv=>whnf
  refine ⟨by decide, ?_⟩
  conv=>whnf
  refine app_own bytesT 91 (m := 20) (ys := bvs t.to) (.mk _ _ _ _ _ (by decide) (.tl (.right (.left (CelN.here (by rw [hb2]; exact hb2 ▸ TicketD.to_at ht)) F) _))) (by rw [hb2]) (bvs_one _) (by decide) (by decide) fun r3 hr3 hl3 hn3 => ?_
  rw [bvs_append] at hl3 ⊢
  conv=>whnf
  refine .take 9 ?_
  conv=>whnf
  refine ⟨rfl, ?_⟩
  conv=>whnf
  refine ⟨rfl, ?_⟩
  conv=>whnf
  refine LoadNG.at (vs := uvs t.amt) (by rw [uvs_len, ht.amt]) (.tl (.tl (CelN.here (TicketD.amt_at ht)))) ?_
  conv=>whnf
  refine CallG.pure (wbytes_spec _ _ ht.amt) ?_
  rintro r4 _ ⟨hr4, rfl⟩
  conv=>whnf
  refine DoesG.ent (Ent.front 1 rfl) ?_
  refine app_own bytesT 91 (m := 32) (ys := bvs (wideB t.amt)) (.tl (.left (own_rd hr4 (by rw [bvs_len, wide_len])) _)) (by rw [bvs_len, wide_len]) (bvs_one _) (by decide) (by decide) fun r5 hr5 hl5 hn5 => ?_
  rw [bvs_append] at hl5 ⊢
  conv=>whnf
  have e : be n 8 ++ t.snd ++ [t.tok.toNat] ++ t.to ++ wideB t.amt = t.value := by simp only [TicketD.value, hn, Int.toNat_natCast]
  rw [e] at *
  have hl : t.value.length = 8 + 20 + 1 + 20 + 32 := by rw [TicketD.value_len ht]
  rw [hl]
  exact ⟨_, Ent.dropL [own 1 r5 (8 + 20 + 1 + 20 + 32) (bvs t.value)] _, hr5, rfl⟩
theorem cut_spec (F A : List HP) (q n m : Nat) (v : Value) (bs : List Nat) (hn : n ≤ m) (hm : bs.length = m) (hv : RdS A v m (bvs bs)) (hb : m ≤ 1152921504606846976) :
    SpecF Tryd.prog 117 [.int .i64 n, .pointer (some ⟨q, 0, none⟩)] F [cel q 91 [v]] (fun r L => RdS A r n (bvs (bs.take n)) ∧ ∃ v', RdS A v' (m - n) (bvs (bs.drop n)) ∧ L = [cel q 91 [v']]) := by
  refine fun117.spec rfl ?_
  conv=>whnf
  refine LoadG.at (.here rfl) ?_
  conv=>whnf
  refine SlcG.rd hv fun a cap ha hc => ?_
  subst ha
  conv=>whnf
  refine SideG.of (by omega) ?_
  conv=>whnf
  refine SliceG.rd (n := m) hv (by simp) (by simpa using hn) (by simp; omega) (by simp) fun r hr _ => ?_
  conv=>whnf
  refine LoadG.at (.here rfl) ?_
  conv=>whnf
  refine SlcG.lit ?_
  conv=>whnf
  refine SideG.of (by omega) ?_
  conv=>whnf
  refine SliceG.rd (n := m) hv (by simpa using hn) (by simp) (by simp; omega) (by simp) fun v' hv' _ => ?_
  obtain ⟨va, vc, hve⟩ := hv'.len
  subst hve
  conv=>whnf
  refine StoreG.at rfl (Upd.whole rfl (by simp [Value.oneCell'])) ?_
  conv=>whnf
  refine ret_here ⟨?_, _, ?_, rfl⟩
  · have e1 : ((n : Int).toNat - (0 : Int).toNat) = n := by simp
    have e2 : ((bvs bs).drop ((0 : Int).toNat * 1)).take (((n : Int).toNat - (0 : Int).toNat) * 1) = bvs (bs.take n) := by simp [bvs]
    rw [e2, e1] at hr
    exact hr
  · have e1 : ((m : Int).toNat - (n : Int).toNat) = m - n := by simp
    have e2 : ((bvs bs).drop ((n : Int).toNat * 1)).take (((m : Int).toNat - (n : Int).toNat) * 1) = bvs (bs.drop n) := by
      simp only [Int.toNat_natCast, Nat.mul_one]
      rw [List.take_of_length_le (by simp [bvs]; omega)]
      simp [bvs]
    rw [e2, e1] at hv'
    simpa using hv'
end Go.Proofs.YtnbcbdlbejdkpaaDoor
namespace Go.Proofs.YtnbcbdlbejdkpaaDoor
open Go Go.Sl
section
variable {find : ByteArray → List Nat × Int}
theorem get_ok (F : List HP) (s : Nat) (src : Value) (c : StC) (key : ByteArray) (hs : SrcG Tryd.prog F src find) (ho : SrcOk find) (hw : c.wf) (hk : mayI key 0 = 0) :
    SpecF Tryd.prog 40 [.pointer (some ⟨s, 0, none⟩), .string key] F (c.pieces 127 s src) (fun r L => ∃ c' x, Same find c c' ∧ SlV x (lv find c key).length ∧ (lv find c key).length ≤ 4096 ∧ r = .tuple #[x, .int .i64 0] ∧ L = own 1 x (lv find c key).length (bvs (lv find c key)) :: c'.pieces 127 s src) := by
  intro w hw'
  refine (get_spec F s src c key find hs (fun k => by have := ho.len k; omega) hw w hw').mono ?_
  rintro e w' ⟨v, L, rfl, hR, hx, hs'⟩
  refine ⟨v, L, rfl, ?_, hx, hs'⟩
  rcases hR with ⟨h1, _⟩ | ⟨_, h2, _⟩ | ⟨_, _, c', x, hc', hx, rfl, rfl⟩
  · exact absurd hk h1
  · exact absurd (ho.ask hk) h2
  · have ht := hc'.tells hw
    have h4 := (StC.rd (T := 0) (s := 0) (src := .nilIface) (key := key) (hc'.wf hw)).2.2
    rw [ht] at hx h4 ⊢
    exact ⟨c', x, hc'.same hw, hx, h4, rfl, rfl⟩
theorem put_ok (F : List HP) (s : Nat) (src : Value) (c : StC) (key : ByteArray) (v : Value) (bs : List Nat) (hs : SrcG Tryd.prog F src find) (ho : SrcOk find) (hw : c.wf) (hk : mayI key bs.length = 0)
    (hv : SlV v bs.length) (hr : RdS F v bs.length (bvs bs)) (hst : c.steps.length ≤ 4398046511104) :
    SpecF Tryd.prog 39 [.pointer (some ⟨s, 0, none⟩), .string key, v] F (c.pieces 127 s src) (fun r L => ∃ c', Laid find c key bs c' ∧ r = .int .i64 0 ∧ L = c'.pieces 127 s src) := by
  obtain ⟨hb, hk0⟩ := mayI_le hk
  intro w hw'
  refine (put_spec_s F s src c key v bs find hs (fun k => by have := ho.len k; omega) hw hv hr (by omega) hst w hw').mono ?_
  rintro e w' ⟨v, L, rfl, hR, hx, hs'⟩
  refine ⟨v, L, rfl, ?_, hx, hs'⟩
  rcases hR with ⟨h1, _⟩ | ⟨_, h2, _⟩ | ⟨_, _, c', x, sv, hc', hx, rfl, rfl⟩
  · exact absurd hk h1
  · exact absurd (ho.ask hk0) h2
  · exact ⟨_, hc'.laid hw hx hb, rfl, rfl⟩
theorem get_at (F : List HP) (s : Nat) (src : Value) (V : View) (n : Nat) (key : ByteArray) (hs : SrcG Tryd.prog F src find) (ho : SrcOk find) (hk : mayI key 0 = 0) :
    SpecF Tryd.prog 40 [.pointer (some ⟨s, 0, none⟩), .string key] F [stP 127 s src find V n] (fun r L => ∃ x, SlV x (V key).length ∧ (V key).length ≤ 4096 ∧ r = .tuple #[x, .int .i64 0] ∧ L = [own 1 x (V key).length (bvs (V key)), stP 127 s src find V n]) :=
  SpecF.unpack0 fun c hc => (get_ok F s src c key hs ho hc.wf hk).turn fun v L ⟨c', x, hs', hx, hl, hv, hL⟩ => by
    rw [hc.lv key] at hx hl hL
    subst hL
    exact ⟨_, ⟨x, hx, hl, hv, rfl⟩, Ent.under (Ent.pack0 (ls := fun c => StC.pieces 127 s src c) (hc.same hs')) [_]⟩
theorem put_at (F : List HP) (s : Nat) (src : Value) (V : View) (n : Nat) (key : ByteArray) (v : Value) (bs : List Nat) (hs : SrcG Tryd.prog F src find) (ho : SrcOk find) (hk : mayI key bs.length = 0) (hv : SlV v bs.length) (hr : RdS F v bs.length (bvs bs)) (hn : n ≤ 4398046511104) :
    SpecF Tryd.prog 39 [.pointer (some ⟨s, 0, none⟩), .string key, v] F [stP 127 s src find V n] (fun r L => r = .int .i64 0 ∧ L = [stP 127 s src find (upd V key bs) (n + 1)]) :=
  SpecF.unpack0 fun c hc => (put_ok F s src c key v bs hs ho hc.wf hk hv hr (Nat.le_trans hc.steps hn)).turn fun v L ⟨c', hs', hv, hL⟩ => by
    subst hL
    exact ⟨_, ⟨hv, rfl⟩, Ent.pack0 (ls := fun c => StC.pieces 127 s src c) (hc.laid hs')⟩
end
end Go.Proofs.YtnbcbdlbejdkpaaDoor
