import Derived.Test.YtnbcbdlbejdkpaaGreatDoorSo
import Derived.Test.YtnbcbdlbejdkpaaGreatDoorZQk
import Derived.Test.YtnbcbdlbejdkpaaGreatDoorR7
import Derived.Test.YtnbcbdlbejdkpaaGreatDoorZBv
/-
  A state's functions, of a state that stands as plain lists say, over a source that may turn.
-/
namespace Go.Proofs.YtnbcbdlbejdkpaaGreatDoor
open Go Go.Sl Go.Sort
section
variable {R : RSt} {T : List HP} {Φ : List HP → Prop} {f : List Nat × Int}
theorem ask_h (F : List HP) (s : Nat) (src : Value) (c : StC) (hc : IsR R c) (key : ByteArray) (hk : mayI key 0 = 0) (hs : (atL R.told key).isSome = false → SrcH Tryz.prog F src key T f Φ) :
    SpecF Tryz.prog 110 [.pointer (some ⟨s, 0, none⟩), .string key] F (c.pieces 118 s src ++ T) (fun r L => ∃ c' T', behind R key T Φ T' ∧ IsR (askQ f R key) c' ∧ r = .int .i64 (askI f R key) ∧ L = c'.pieces 118 s src ++ T') := by
  refine fun110.spec rfl ?_
  conv => whnf
  refine LoadG.at (.here rfl) ?_
  conv => whnf
  refine DoesG.look strT mapT zeroB trivial (MapG.left (.tl .here) F) true ?_
  rw [getM_kv]
  conv => whnf
  have hto := hc.told key
  refine CondG.split (fun h1 => ?_) (fun h1 => ?_)
  · have h1' : (atL R.told key).isSome = true := by rw [← hto]; simpa using h1
    have e0 : askI f R key = 0 := by unfold askI; rw [if_pos h1']
    have e1 : askQ f R key = R := by unfold askQ; rw [if_pos h1']
    have e2 : behind R key T Φ T := by unfold behind asksQ; rw [h1']; simp
    conv => whnf
    rw [e0, e1]
    exact ret_here ⟨c, T, e2, hc, rfl, rfl⟩
  have hg : getK c.has key = none := by
    cases hg : getK c.has key with
    | none => rfl
    | some vb => rw [hg] at h1; cases h1
  have h1' : (atL R.told key).isSome = false := by rw [← hto, hg]; rfl
  obtain ⟨t, u, g, r0, rfl, hm, hcO, hspec⟩ := (hs h1').out
  have e2 : ∀ T', Φ T' → behind R key T Φ T' := fun T' h => by unfold behind asksQ; rw [h1', hk]; simpa using h
  conv => whnf
  refine LoadG.at (.here rfl) ?_
  conv => whnf
  refine InvG.mk g r0 hm hcO ?_
  refine CallG.of (pre := T) (rest := c.pieces 118 s (.iface t u)) (hspec _) (swapE (c.pieces 118 s (.iface t u)) T) ?_
  rintro _ _ ⟨x, D, T', hT', rfl, hrx, rfl⟩
  conv => whnf
  refine CondG.ndec (fun h2 => ?_) (fun h2 => ?_)
  · have e0 : askI f R key = f.2 := by unfold askI; rw [if_neg (by rw [h1']; decide), if_pos h2]
    have e1 := askQ_fail (R := R) (k := key) (find := f) (by rw [e0]; exact h2)
    conv => whnf
    rw [e0]
    refine ⟨_, ?_, c, T', e2 T' hT', by rw [e1]; exact hc.bad _, rfl, rfl⟩
    rw [List.append_assoc]
    exact (Ent.dropR D (T' ++ c.pieces 118 s (.iface t u))).trans (swapE T' (c.pieces 118 s (.iface t u)))
  have hrx := hrx h2
  conv => whnf
  refine LenG.rd hrx ?_
  conv => whnf
  refine CondG.dec (fun h3 => ?_) (fun h3 => ?_)
  · have e0 : askI f R key = 71 := by unfold askI; rw [if_neg (by rw [h1']; decide), if_neg (fun h => h h2), if_pos (by omega)]
    have e1 := askQ_fail (R := R) (k := key) (find := f) (by rw [e0]; decide)
    conv => whnf
    rw [e0]
    refine ⟨_, ?_, c, T', e2 T' hT', by rw [e1]; exact hc.bad _, rfl, rfl⟩
    rw [List.append_assoc]
    exact (Ent.dropR D (T' ++ c.pieces 118 s (.iface t u))).trans (swapE T' (c.pieces 118 s (.iface t u)))
  have e0 : askI f R key = 0 := by unfold askI; rw [if_neg (by rw [h1']; decide), if_neg (fun h => h h2), if_neg (by omega)]
  conv => whnf
  refine DrawG.mk 7 (c.pieces 118 s (.iface t u)) (D ++ T') (Ent.refl _) ?_
  conv => whnf
  refine .take 0 ?_
  conv => whnf
  refine ⟨rfl, ?_⟩
  conv => whnf
  refine .take 1 ?_
  conv => whnf
  refine ⟨rfl, ?_⟩
  conv => whnf
  refine .take 2 ?_
  conv => whnf
  refine ⟨rfl, ?_⟩
  conv => whnf
  refine .take 3 ?_
  conv => whnf
  refine ⟨rfl, ?_⟩
  conv => whnf
  refine LoadG.at (.here rfl) ?_
  conv => whnf
  refine .take 4 ?_
  conv => whnf
  refine ⟨rfl, ?_⟩
  conv => whnf
  refine .take 5 ?_
  conv => whnf
  refine ⟨rfl, ?_⟩
  conv => whnf
  refine .all ?_
  conv => whnf
  refine ⟨by decide, ?_⟩
  conv => whnf
  refine CallG.pure (clone_spec _ x f.1 (by omega) (hrx.left _)) ?_
  rintro r _ ⟨hr, rfl, _⟩
  conv => whnf
  refine .all ?_
  conv => whnf
  refine ⟨by decide, ?_⟩
  conv => whnf
  refine ⟨rfl, ?_⟩
  conv => whnf
  refine DoesG.ent (Ent.cons _ (swapE (D ++ T') (c.pieces 118 s (.iface t u)))) ?_
  refine DoesG.ent (Ent.front 2 rfl) ?_
  refine DoesG.upd strT mapT trivial ?_
  rw [putM_kv c.has key r f.1]
  conv => whnf
  refine ⟨rfl, ?_⟩
  conv => whnf
  have hask : AskOk (fun _ => f) c key { c with has := putK c.has key r f.1 } := ⟨.inr ⟨hg, r, hr, by omega, rfl⟩⟩
  rw [e0]
  refine ⟨_, ?_, _, T', e2 T' hT', hc.ask (find := fun _ => f) hk e0 hask, rfl, rfl⟩
  refine (Ent.sel (T := (kvS c.has ++ (kvS c.now ++ stepsS c.steps)) ++ (D ++ T')) (A := [_, _, _, _, _, _]) [2, 0, 3, 4, 5, 1] rfl).trans (Ent.under ?_ [_, _, _, _, _])
  exact (Ent.under (Ent.dropR D T') (own 1 r f.1.length (bvs f.1) :: (kvS c.has ++ (kvS c.now ++ stepsS c.steps)))).trans (Ent.app ((sh_of_own rfl).trans kvS_put) T')
theorem value_h (F : List HP) (s : Nat) (src : Value) (c : StC) (key : ByteArray) (M : List HP) : SpecF Tryz.prog 82 [.pointer (some ⟨s, 0, none⟩), .string key] ((c.pieces 118 s src ++ M) ++ F) [] (fun r L => r = c.valV key ∧ L = []) := by
  rw [List.append_assoc]
  exact value_spec (M ++ F) s src c key []
theorem get_h (F : List HP) (s : Nat) (src : Value) (key : ByteArray) (hs : mayI key 0 = 0 → (atL R.told key).isSome = false → SrcH Tryz.prog F src key T f Φ) :
    SpecF Tryz.prog 56 [.pointer (some ⟨s, 0, none⟩), .string key] F (stR 118 s src R :: T) (fun r L => ∃ x T', behind R key T Φ T' ∧ SlV x (getQ f R key).1.1.length ∧ r = .tuple #[x, .int .i64 (getQ f R key).1.2] ∧
      L = own 1 x (getQ f R key).1.1.length (bvs (getQ f R key).1.1) :: stR 118 s src (getQ f R key).2 :: T') := by
  refine SpecF.unpack fun c hc => ?_
  refine fun56.spec rfl ?_
  conv => whnf
  refine CallG.pure (smay_spec _ key (.slice none 0 0) 0 (.inl ⟨rfl, rfl⟩) (by decide)) ?_
  rintro _ _ ⟨rfl, rfl⟩
  conv => whnf
  refine CondG.ndec (fun h1 => ?_) (fun h1 => ?_)
  · have e1 : getQ f R key = (([], mayI key 0), R) := by unfold getQ; rw [if_pos h1]
    have e2 : behind R key T Φ T := by unfold behind asksQ; rw [decide_eq_false h1]; simp
    conv => whnf
    rw [e1]
    exact ⟨_, fun w G hs => Sat.own_nil (Ent.pack (ls := fun c => StC.pieces 118 s src c) hc w G hs), .slice none 0 0, T, e2, .inl ⟨rfl, rfl⟩, rfl, rfl⟩
  conv => whnf
  refine CallG.of (rest := []) (ask_h F s src c hc key h1 (hs h1)) (by rw [List.append_nil]; exact Ent.refl _) ?_
  rintro _ _ ⟨c', T2, hT2, hc', rfl, rfl⟩
  rw [List.append_nil]
  conv => whnf
  refine CondG.ndec (fun h2 => ?_) (fun h2 => ?_)
  · have e1 : getQ f R key = (([], askI f R key), askQ f R key) := by unfold getQ; rw [if_neg (fun h => h h1), if_neg h2]
    conv => whnf
    rw [e1]
    exact ⟨_, fun w G hs => Sat.own_nil (Ent.pack (ls := fun c => StC.pieces 118 s src c) hc' w G hs), .slice none 0 0, T2, hT2, .inl ⟨rfl, rfl⟩, rfl, rfl⟩
  have e1 : getQ f R key = (((askQ f R key).val key, askI f R key), askQ f R key) := by unfold getQ; rw [if_neg (fun h => h h1), if_pos h2]
  rw [e1]
  conv => whnf
  refine CallG.pure (value_h F s src c' key T2) ?_
  rintro _ _ ⟨rfl, rfl⟩
  conv => whnf
  obtain ⟨hrd, hsl, hle⟩ := StC.rd (T := 118) (s := s) (src := src) (key := key) hc'.wf
  rw [hc'.val] at hrd hsl hle
  refine CallG.pure (clone_spec _ (c'.valV key) ((askQ f R key).val key) (by omega) (.left (.left hrd _) F)) ?_
  rintro x _ ⟨hx, rfl, _⟩
  conv => whnf
  rw [h2]
  exact ⟨_, Ent.cons _ (Ent.pack (ls := fun c => StC.pieces 118 s src c) hc'), x, T2, hT2, hx, rfl, rfl⟩
theorem put_h (F : List HP) (s : Nat) (src : Value) (key : ByteArray) (v : Value) (bs : List Nat) (hs : mayI key 0 = 0 → (atL R.told key).isSome = false → SrcH Tryz.prog F src key T f Φ) (hr : RdS F v bs.length (bvs bs)) (hst : R.steps.length ≤ 4398046511104) :
    SpecF Tryz.prog 61 [.pointer (some ⟨s, 0, none⟩), .string key, v] F (stR 118 s src R :: T) (fun r L => ∃ T', (if mayI key bs.length = 0 then behind R key T Φ T' else T' = T) ∧ r = .int .i64 (putQ f R key bs).1 ∧ L = stR 118 s src (putQ f R key bs).2 :: T') := by
  refine SpecF.unpack fun c hc => ?_
  refine fun61.spec rfl ?_
  conv => whnf
  refine CallG.pure (smay_spec_r _ key v bs.length hr.len) ?_
  rintro _ _ ⟨rfl, rfl⟩
  conv => whnf
  refine CondG.ndec (fun h1 => ?_) (fun h1 => ?_)
  · have e1 : putQ f R key bs = (mayI key bs.length, R) := by unfold putQ; rw [if_pos h1]
    conv => whnf
    rw [e1]
    exact ⟨_, Ent.pack (ls := fun c => StC.pieces 118 s src c) hc, T, by rw [if_neg h1], rfl, rfl⟩
  obtain ⟨hbl, hk0⟩ := mayI_le h1
  conv => whnf
  refine CallG.of (rest := []) (ask_h F s src c hc key hk0 (hs hk0)) (by rw [List.append_nil]; exact Ent.refl _) ?_
  rintro _ _ ⟨c', T2, hT2, hc', rfl, rfl⟩
  rw [List.append_nil]
  conv => whnf
  refine CondG.ndec (fun h2 => ?_) (fun h2 => ?_)
  · have e1 : putQ f R key bs = (askI f R key, askQ f R key) := by unfold putQ; rw [if_neg (fun h => h h1), if_neg h2]
    conv => whnf
    rw [e1]
    exact ⟨_, Ent.pack (ls := fun c => StC.pieces 118 s src c) hc', T2, by rw [if_pos h1]; exact hT2, rfl, rfl⟩
  have e1 : putQ f R key bs = (askI f R key, { askQ f R key with steps := (askQ f R key).steps ++ [(key, bs)] }) := by unfold putQ; rw [if_neg (fun h => h h1), if_pos h2]
  rw [e1, h2]
  have hst' : c'.steps.length ≤ 4398046511104 := by
    rw [hc'.len]
    rw [(askQ_steps (R := R) (f := f) (key := key)).1]
    exact hst
  have hw' := hc'.wf
  conv => whnf
  refine LoadG.at (.here rfl) ?_
  conv => whnf
  refine DoesG.look strT mapT zeroB trivial (MapG.left (.tl (.tl .here)) F) true ?_
  rw [getM_kv]
  have ew : ((Option.map (fun x => x.1) (getK c'.now key)).getD (.slice none 0 0)) = (c'.was key).was := by
    unfold StC.was
    cases getK c'.now key <;> rfl
  have el : (Option.map (fun x => x.1) (getK c'.now key)).isSome = (c'.was key).laid := by
    unfold StC.was
    cases getK c'.now key <;> rfl
  rw [ew, el]
  obtain ⟨ra, rc, hre⟩ := (StC.was_wf (key := key) hw').1.len
  conv => whnf
  refine LoadG.at (.here rfl) ?_
  conv => whnf
  refine BuildG.of (cs := (c'.was key).cells) ?_ ?_
  · have ek : (c'.was key).key = key := by
      unfold StC.was
      cases getK c'.now key <;> rfl
    simp only [StepC.cells, ek, hre]
    rfl
  conv => whnf
  refine BuildG.of (cs := (c'.was key).cells) rfl ?_
  conv => whnf
  intro b1
  conv => whnf
  refine DoesG.ent (Ent.front 4 rfl) ?_
  refine app_ownW stepsT 116 (m := 1) (ys := (c'.was key).cells) (.mk _ _ _ _ _ (by decide) (.tl (.left .all _))) rfl (by simp [StepC.cells, hre, Value.oneCell']) (by simp only [maxLen]; omega) (.wide (by omega)) fun sv hsv hsl hnil => ?_
  obtain ⟨sa, sc, hse⟩ := hsv.len
  subst hse
  rw [← stepsC_app] at hsl ⊢
  conv => whnf
  refine StoreG.at rfl (Upd.tl (Upd.tl (Upd.here (by simp) rfl))) ?_
  conv => whnf
  refine DrawG.mk 7 _ [] (Ent.refl _) ?_
  conv => whnf
  refine .take 0 ?_
  conv => whnf
  refine ⟨rfl, ?_⟩
  conv => whnf
  refine .take 1 ?_
  conv => whnf
  refine ⟨rfl, ?_⟩
  conv => whnf
  refine .take 2 ?_
  conv => whnf
  refine ⟨rfl, ?_⟩
  conv => whnf
  refine .take 3 ?_
  conv => whnf
  refine ⟨rfl, ?_⟩
  conv => whnf
  refine LoadG.at (.tl (.tl (.here rfl))) ?_
  conv => whnf
  refine .take 4 ?_
  conv => whnf
  refine ⟨rfl, ?_⟩
  conv => whnf
  refine .take 5 ?_
  conv => whnf
  refine ⟨rfl, ?_⟩
  conv => whnf
  refine .all ?_
  conv => whnf
  refine ⟨by decide, ?_⟩
  conv => whnf
  refine CallG.pure (clone_spec _ v bs (by omega) (.right (.right hr _) _)) ?_
  rintro r _ ⟨hr', rfl, _⟩
  conv => whnf
  refine .all ?_
  conv => whnf
  refine ⟨by decide, ?_⟩
  conv => whnf
  refine ⟨rfl, ?_⟩
  conv => whnf
  refine DoesG.ent (Ent.front 5 rfl) ?_
  refine DoesG.upd strT mapT trivial ?_
  rw [putM_kv c'.now key r bs]
  conv => whnf
  refine ⟨rfl, ?_⟩
  conv => whnf
  have hat : IsR { askQ f R key with steps := (askQ f R key).steps ++ [(key, bs)] } (c'.put key r bs (.slice sa (c'.steps.length + 1) sc)) := hc'.put hr' hbl
  refine ⟨_, Ent.trans ?_ (Ent.pack (ls := fun c => StC.pieces 118 s src c) hat), T2, by rw [if_pos h1]; exact hT2, rfl, rfl⟩
  have e5 : stepsS (c'.steps ++ [c'.was key]) = stepsS c'.steps ++ [sh (c'.was key).was (c'.was key).bs] := by simp [stepsS]
  have e6 : (c'.steps ++ [c'.was key]).length = c'.steps.length + 1 := by simp
  simp only [StC.pieces, StC.put, e5, e6]
  refine (Ent.sel (T := (kvS c'.has ++ (kvS c'.now ++ stepsS c'.steps)) ++ T2) [4, 5, 0, 2, 6, 1] (A := [_, _, _, _, _, _, _]) rfl).trans (Ent.under ?_ [_, _, _, _, _])
  refine Ent.app (l := own 1 r bs.length (bvs bs) :: (kvS c'.has ++ (kvS c'.now ++ stepsS c'.steps))) ?_ T2
  refine (sh_of_own rfl).trans ?_
  refine (StC.was_ent (A := sh r bs :: kvS c'.has) (key := key)).trans ?_
  refine (Ent.perm ?_).trans (Ent.under kvS_put (kvS c'.has))
  exact perm_laid
end
end Go.Proofs.YtnbcbdlbejdkpaaGreatDoor
/-
  Marks, steps taken back, what was asked and what has changed, of a state that stands as plain lists say.
-/
namespace Go.Proofs.YtnbcbdlbejdkpaaGreatDoor
open Go Go.Sl Go.Sort
section
variable {R : RSt}
theorem mark_h (F : List HP) (s : Nat) (src : Value) (hn : R.steps.length ≤ 4398046511104) (hh : R.marks.length ≤ 4398046511104) :
    SpecF Tryz.prog 49 [.pointer (some ⟨s, 0, none⟩)] F [stR 118 s src R] (fun r L => r = .int .i64 (markQ R).1 ∧ L = [stR 118 s src (markQ R).2]) := by
  refine SpecF.unpack0 fun c hc => ?_
  refine SpecF.ownV 3 rfl fun hsv _ => ?_
  refine SpecF.ownV 4 rfl fun hmv hml => ?_
  have hst := hc.len
  have hmk : c.marks.length = R.marks.length := by rw [hc.marks]
  refine fun49.spec rfl ?_
  conv => whnf
  refine DrawG.mk 14 (cel s 118 [src, .map (some c.hb), .map (some c.nb), c.sv, c.mv] :: mapS c.hb (kvM c.has) :: mapS c.nb (kvM c.now) :: own 3 c.sv c.steps.length (stepsC c.steps) :: (kvS c.has ++ (kvS c.now ++ stepsS c.steps))) [own 1 c.mv c.marks.length (c.marks.map fun n : Nat => Value.int .i64 n)] (Ent.front 4 rfl) ?_
  conv => whnf
  refine .take 0 ?_
  conv => whnf
  refine ⟨rfl, ?_⟩
  conv => whnf
  refine .take 1 ?_
  conv => whnf
  refine ⟨rfl, ?_⟩
  conv => whnf
  refine .take 2 ?_
  conv => whnf
  refine ⟨rfl, ?_⟩
  conv => whnf
  refine .take 3 ?_
  conv => whnf
  refine ⟨rfl, ?_⟩
  conv => whnf
  refine .take 4 ?_
  conv => whnf
  refine ⟨rfl, ?_⟩
  conv => whnf
  refine LoadG.at (.here rfl) ?_
  conv => whnf
  refine .take 5 ?_
  conv => whnf
  refine ⟨rfl, ?_⟩
  conv => whnf
  refine .take 6 ?_
  conv => whnf
  refine ⟨rfl, ?_⟩
  conv => whnf
  refine .take 7 ?_
  conv => whnf
  refine ⟨rfl, ?_⟩
  conv => whnf
  refine .take 8 ?_
  conv => whnf
  refine ⟨rfl, ?_⟩
  conv => whnf
  refine LoadG.at (.here rfl) ?_
  conv => whnf
  refine .take 9 ?_
  conv => whnf
  refine ⟨rfl, ?_⟩
  conv => whnf
  refine LenG.sl hsv ?_
  conv => whnf
  refine .all ?_
  conv => whnf
  refine ⟨by decide, ?_⟩
  conv => whnf
  refine BuildG.of rfl ?_
  conv => whnf
  intro b
  conv => whnf
  refine .all ?_
  conv => whnf
  refine ⟨by decide, ?_⟩
  conv => whnf
  refine DoesG.ent (Ent.front 1 rfl) ?_
  refine app_own intsK 31 (m := 1) (ys := [.int .i64 c.steps.length]) (.mk _ _ _ _ _ (Nat.le_refl _) (.tl (.left .all _))) rfl (by simp [Value.oneCell']) (by simp only [maxLen]; omega) (by omega) fun mv hmv' hml' _ => ?_
  conv => whnf
  refine .all ?_
  conv => whnf
  refine ⟨by decide, ?_⟩
  conv => whnf
  refine .all ?_
  conv => whnf
  refine ⟨by decide, ?_⟩
  conv => whnf
  refine .all ?_
  conv => whnf
  refine ⟨by decide, ?_⟩
  conv => whnf
  refine ⟨rfl, ?_⟩
  obtain ⟨ma, mc, rfl⟩ := hmv'.len
  conv => whnf
  refine StoreG.at rfl (Upd.tl (Upd.tl (Upd.here (by simp) rfl))) ?_
  conv => whnf
  refine ⟨rfl, ?_⟩
  conv => whnf
  refine LoadG.at (.tl (.tl (.here rfl))) ?_
  conv => whnf
  refine LenG.lit ?_
  conv => whnf
  refine ArithG.i64' (R.marks.length : Int) (by rw [hmk]; omega) (by omega) ?_
  conv => whnf
  obtain ⟨c', hc'⟩ : ∃ z, z = { c with marks := c.marks ++ [c.steps.length], mv := .slice ma (c.marks.length + 1) mc } := ⟨_, rfl⟩
  have hat : IsR (markQ R).2 c' := hc.mark (by rw [hc']) (by rw [hc']) (by rw [hc']) (by rw [hc']) (by rw [hc']; exact ⟨hc.wf.has, hc.wf.now, hc.wf.steps⟩)
  refine ⟨_, ?_, rfl, rfl⟩
  refine Ent.trans ?_ (Ent.pack0 (ls := fun c => StC.pieces 118 s src c) hat)
  rw [hc']
  simp only [StC.pieces, List.length_append, List.length_cons, List.length_nil, List.map_append, List.map_cons, List.map_nil]
  exact Ent.sel (T := kvS c.has ++ (kvS c.now ++ stepsS c.steps)) (A := [_, _, _, _, _, _]) [2, 3, 4, 5, 0] rfl
theorem back_h (F : List HP) (s : Nat) (src : Value) (hn : R.steps.length ≤ 4398046511104) (hh : R.marks.length ≤ 4398046511104) (m : Int) (hm1 : -9223372036854775808 ≤ m) (hm2 : m ≤ 9223372036854775807) :
    SpecF Tryz.prog 50 [.pointer (some ⟨s, 0, none⟩), .int .i64 m] F [stR 118 s src R] (fun r L => r = .int .i64 (backQ R m).1 ∧ L = [stR 118 s src (backQ R m).2]) := by
  refine SpecF.unpack0 fun c hc => ?_
  refine SpecF.ownV 3 rfl fun hsv hsl => ?_
  refine SpecF.ownV 4 rfl fun hmv hml => ?_
  have hst := hc.len
  have hmk : c.marks.length = R.marks.length := by rw [hc.marks]
  obtain ⟨sa, sc, hsv2⟩ := hsv.len
  obtain ⟨ma, mc, hmv2⟩ := hmv.len
  refine fun50.spec rfl ?_
  conv => whnf
  refine CondG.dec (fun h1 => ?_) (fun h1 => ?_)
  · have e1 : backQ R m = (72, R) := by unfold backQ; rw [if_pos (.inl h1)]
    rw [e1]
    (conv => whnf); repeat ((with_reducible first | refine .tt ?_ | refine .ff ?_ | refine .ntt ?_ | refine .nff ?_); conv => whnf)
    exact ⟨_, Ent.pack0 (ls := fun c => StC.pieces 118 s src c) hc, rfl, rfl⟩
  (conv => whnf); repeat ((with_reducible first | refine .tt ?_ | refine .ff ?_ | refine .ntt ?_ | refine .nff ?_); conv => whnf)
  refine LoadG.at (.here rfl) ?_
  (conv => whnf); repeat ((with_reducible first | refine .tt ?_ | refine .ff ?_ | refine .ntt ?_ | refine .nff ?_); conv => whnf)
  refine LenG.sl hmv ?_
  (conv => whnf); repeat ((with_reducible first | refine .tt ?_ | refine .ff ?_ | refine .ntt ?_ | refine .nff ?_); conv => whnf)
  refine CondG.dec (fun h2 => ?_) (fun h2 => ?_)
  · have e1 : backQ R m = (72, R) := by unfold backQ; rw [if_pos (.inr (by omega))]
    rw [e1]
    conv => whnf
    exact ⟨_, Ent.pack0 (ls := fun c => StC.pieces 118 s src c) hc, rfl, rfl⟩
  have hlt : m.toNat < c.marks.length := by omega
  obtain ⟨k, rfl⟩ : ∃ k : Nat, m = k := ⟨m.toNat, (Int.toNat_of_nonneg (by omega)).symm⟩
  rw [Int.toNat_natCast] at hlt
  obtain ⟨at_, hat⟩ : ∃ a, c.marks[k]? = some a := ⟨c.marks[k], List.getElem?_eq_getElem hlt⟩
  have hle : at_ ≤ c.steps.length := by
    rw [hst]
    exact hc.top at_ (by rw [← hc.marks]; exact List.mem_of_getElem? hat)
  conv => whnf
  refine LoadG.at (.here rfl) ?_
  conv => whnf
  refine IdxG.rd (L := c.pieces 118 s src) (.tl (.tl (.tl (.tl (own_rd hmv hml))))) (by omega) fun b o hcl => ?_
  conv => whnf
  refine LoadG.at (hcl.one (u := .int .i64 at_) (by rw [Int.toNat_natCast, Nat.mul_one, List.getElem?_map, hat]; rfl)) ?_
  conv => whnf
  refine LoadG.at (.here rfl) ?_
  conv => whnf
  refine LenG.sl hsv ?_
  conv => whnf
  refine ArithG.i64 (by omega) ?_
  conv => whnf
  refine LoopG.mk (fun i ev L => ∃ (nw : List (KV ByteArray)), at_ ≤ i ∧ i ≤ c.steps.length ∧ nowFun nw = undoTo c.steps i c.nowF ∧ (∀ p ∈ nw, SlV p.2.1 p.2.2.length ∧ p.2.2.length ≤ 4096) ∧
      ev = [(0, .pointer (some ⟨s, 0, none⟩)), (1, .int .i64 k), (4, .int .i64 0), (5, .int .i64 at_), (6, .int .i64 ((i : Int) - 1))] ∧ L = ({ c with now := nw } : StC).pieces 118 s src) c.steps.length
    [(0, .pointer (some ⟨s, 0, none⟩)), (1, .int .i64 k), (4, .int .i64 0), (5, .int .i64 at_), (6, .int .i64 ((c.steps.length : Int) - 1))] _ ⟨rfl, rfl, rfl, rfl, rfl, trivial⟩ (Ent.refl _)
    ⟨c.now, hle, Nat.le_refl _, (undoTo_all (Nat.le_refl _) _).symm, hc.wf.now, rfl, rfl⟩ ?_
  rintro i ev L ⟨nw, hi1, hi2, hnw, hwn, rfl, rfl⟩
  conv => whnf
  refine CondG.dec (fun h3 => ?_) (fun h3 => ?_)
  · obtain ⟨j, rfl⟩ : ∃ j, i = j + 1 := ⟨i - 1, by omega⟩
    obtain ⟨x, hx⟩ : ∃ x, c.steps[j]? = some x := ⟨c.steps[j], List.getElem?_eq_getElem (by omega)⟩
    have hxm := List.mem_of_getElem? hx
    obtain ⟨hxs, hxl⟩ := hc.wf.steps x hxm
    have hback : nowFun (backK x nw) = undoTo c.steps j c.nowF := by rw [backK_fun, hnw, ← undoTo_step hx]
    conv => whnf
    refine LoadG.at (.here rfl) ?_
    conv => whnf
    refine IdxG.rd (L := ({ c with now := nw } : StC).pieces 118 s src) (n := c.steps.length) (cs := stepsC c.steps) (.tl (.tl (.tl (own_rd hsv hsl)))) (by omega) fun b o hcl => ?_
    conv => whnf
    have hjn : (((j + 1 : Nat) : Int) - 1).toNat = j := by omega
    refine LoadNG.at (vs := x.cells) rfl (by rw [hjn]; exact hcl.part (i := j * 3) (stepsC_at hx)) ?_
    conv => whnf
    intro b7
    conv => whnf
    obtain ⟨xa, xc, hxw⟩ := hxs.len
    refine StoreG.at (cs := x.cells) rfl (Upd.whole (by rfl) (by simp [StepC.cells, Value.oneCell', hxw])) ?_
    conv => whnf
    refine LoadG.at (v := .bool x.laid) (.here rfl) ?_
    conv => whnf
    refine CondG.split (fun hld => ?_) (fun hld => ?_)
    · conv => whnf
      refine DrawG.mk 8 _ [] (Ent.refl _) ?_
      conv => whnf
      refine .take 0 ?_
      conv => whnf
      refine ⟨rfl, ?_⟩
      conv => whnf
      refine .take 1 ?_
      conv => whnf
      refine ⟨rfl, ?_⟩
      conv => whnf
      refine .take 2 ?_
      conv => whnf
      refine ⟨rfl, ?_⟩
      conv => whnf
      refine .take 3 ?_
      conv => whnf
      refine ⟨rfl, ?_⟩
      conv => whnf
      refine LoadG.at (.tl (.here rfl)) ?_
      conv => whnf
      refine .take 4 ?_
      conv => whnf
      refine ⟨rfl, ?_⟩
      conv => whnf
      refine .take 5 ?_
      conv => whnf
      refine ⟨rfl, ?_⟩
      conv => whnf
      refine LoadG.at (v := .string x.key) (.here rfl) ?_
      conv => whnf
      refine .take 6 ?_
      conv => whnf
      refine ⟨rfl, ?_⟩
      conv => whnf
      refine .take 7 ?_
      conv => whnf
      refine ⟨rfl, ?_⟩
      conv => whnf
      refine LoadG.at (v := x.was) (.here rfl) ?_
      conv => whnf
      refine .all ?_
      conv => whnf
      refine ⟨by decide, ?_⟩
      conv => whnf
      refine ⟨rfl, ?_⟩
      conv => whnf
      refine DoesG.ent (Ent.front 3 rfl) ?_
      refine DoesG.upd strT mapT trivial ?_
      rw [putM_kv nw x.key x.was x.bs]
      conv => whnf
      refine ⟨rfl, ?_⟩
      conv => whnf
      refine ArithG.i64' ((j : Int) - 1) (by omega) (by omega) ?_
      conv => whnf
      refine ⟨j, [(0, .pointer (some ⟨s, 0, none⟩)), (1, .int .i64 k), (4, .int .i64 0), (5, .int .i64 at_), (6, .int .i64 ((j : Int) - 1))], ({ c with now := putK nw x.key x.was x.bs } : StC).pieces 118 s src, by omega, ⟨rfl, rfl, rfl, rfl, rfl, trivial⟩, ?_, putK nw x.key x.was x.bs, by omega, by omega, ?_, putK_all hwn ⟨hxs, hxl⟩, rfl, rfl⟩
      · refine (Ent.under (Ent.under (back_put hxm) (kvS c.has)) [_, _, _, _, _, _]).trans ?_
        exact Ent.sel (T := kvS c.has ++ (kvS (putK nw x.key x.was x.bs) ++ stepsS c.steps)) (A := [_, _, _, _, _, _]) [2, 3, 0, 4, 5] rfl
      · rw [← hback]
        unfold backK
        rw [if_pos hld]
    · conv => whnf
      refine DrawG.mk 7 (cel b7 155 x.cells :: cel s 118 [src, .map (some c.hb), .map (some c.nb), c.sv, c.mv] :: mapS c.hb (kvM c.has) :: own 3 c.sv c.steps.length (stepsC c.steps) :: own 1 c.mv c.marks.length (c.marks.map fun n : Nat => Value.int .i64 n) :: (kvS c.has ++ (kvS nw ++ stepsS c.steps))) [mapS c.nb (kvM nw)] (Ent.front 3 rfl) ?_
      conv => whnf
      refine .take 0 ?_
      conv => whnf
      refine ⟨rfl, ?_⟩
      conv => whnf
      refine .take 1 ?_
      conv => whnf
      refine ⟨rfl, ?_⟩
      conv => whnf
      refine .take 2 ?_
      conv => whnf
      refine ⟨rfl, ?_⟩
      conv => whnf
      refine .take 3 ?_
      conv => whnf
      refine ⟨rfl, ?_⟩
      conv => whnf
      refine LoadG.at (.tl (.here rfl)) ?_
      conv => whnf
      refine .take 4 ?_
      conv => whnf
      refine ⟨rfl, ?_⟩
      conv => whnf
      refine .take 5 ?_
      conv => whnf
      refine ⟨rfl, ?_⟩
      conv => whnf
      refine LoadG.at (v := .string x.key) (.here rfl) ?_
      conv => whnf
      refine .all ?_
      conv => whnf
      refine ⟨by decide, ?_⟩
      conv => whnf
      refine DoesG.delM strT mapT trivial ?_
      rw [delM_kv nw x.key]
      conv => whnf
      refine ⟨rfl, ?_⟩
      conv => whnf
      refine ArithG.i64' ((j : Int) - 1) (by omega) (by omega) ?_
      conv => whnf
      refine ⟨j, [(0, .pointer (some ⟨s, 0, none⟩)), (1, .int .i64 k), (4, .int .i64 0), (5, .int .i64 at_), (6, .int .i64 ((j : Int) - 1))], ({ c with now := delK nw x.key } : StC).pieces 118 s src, by omega, ⟨rfl, rfl, rfl, rfl, rfl, trivial⟩, ?_, delK nw x.key, by omega, by omega, ?_, fun p hp => hwn p (List.mem_filter.1 hp).1, rfl, rfl⟩
      · refine (Ent.under (Ent.under (kvS_del (x := x.key)) (kvS c.has)) [_, _, _, _, _, _]).trans ?_
        exact Ent.sel (T := kvS c.has ++ (kvS (delK nw x.key) ++ stepsS c.steps)) (A := [_, _, _, _, _, _]) [2, 3, 0, 4, 5] rfl
      · rw [← hback]
        unfold backK
        rw [if_neg (by simp [hld])]
  · obtain rfl : at_ = i := by omega
    conv => whnf
    refine LoadG.at (.here rfl) ?_
    rw [hsv2]
    rw [hsv2] at hsv
    conv => whnf
    refine SlcG.lit ?_
    have hcap : c.steps.length ≤ sc := by
      rcases hsv with ⟨h, h0⟩ | ⟨g, cap, h, hn⟩
      · omega
      · cases h; exact hn
    conv => whnf
    refine SideG.of (by omega) ?_
    conv => whnf
    refine SliceG.zero ?_
    conv => whnf
    refine StoreG.at rfl (Upd.here (by simp) rfl) ?_
    conv => whnf
    refine LoadG.at (.here rfl) ?_
    rw [hmv2]
    rw [hmv2] at hmv
    conv => whnf
    refine ArithG.i64' ((k + 1 : Nat) : Int) (by omega) (by omega) ?_
    conv => whnf
    refine SlcG.lit ?_
    have hcap2 : c.marks.length ≤ mc := by
      rcases hmv with ⟨h, h0⟩ | ⟨g, cap, h, hn⟩
      · omega
      · cases h; exact hn
    conv => whnf
    refine SideG.of (by omega) ?_
    conv => whnf
    refine SliceG.zero ?_
    conv => whnf
    refine StoreG.at rfl (Upd.here (by simp) rfl) ?_
    conv => whnf
    have e1 : (backQ R k).1 = 0 := by unfold backQ; rw [if_neg (by omega)]
    obtain ⟨c', hc'⟩ : ∃ z, z = ({ c with now := nw, steps := c.steps.take at_, marks := c.marks.take (k + 1), sv := .slice sa at_ sc, mv := .slice ma (k + 1) mc } : StC) := ⟨_, rfl⟩
    have hg : Gone c k at_ c' := by
      rw [hc']
      exact ⟨rfl, hnw, rfl, rfl, ⟨hc.wf.has, hwn, fun x hx => hc.wf.steps x (List.mem_of_mem_take hx)⟩⟩
    have hat2 := hc.back hat hg
    rw [e1]
    refine ⟨_, ?_, rfl, rfl⟩
    refine Ent.trans ?_ (Ent.pack0 (ls := fun c => StC.pieces 118 s src c) hat2)
    rw [hc']
    have a1 : (c.steps.take at_).length = at_ := by rw [List.length_take]; omega
    have a2 : (c.marks.take (k + 1)).length = k + 1 := by rw [List.length_take]; omega
    simp only [StC.pieces, a1, a2]
    rw [← stepsC_take, List.map_take]
    refine (Ent.under (own_take hle) [_, _, _]).trans ?_
    refine (Ent.under (own_take (k := k + 1) (by omega)) [_, _, _, _]).trans ?_
    rw [Nat.mul_one]
    exact Ent.under (Ent.under (Ent.under steps_take (kvS nw)) (kvS c.has)) [_, _, _, _, _]
theorem told_nodup {c : StC} (hc : IsR R c) : (c.has.map fun p => p.1).Nodup := by
  have h := (hc.has.map fun p : KB => p.1).nodup_iff.1 hc.rise.nodup
  rw [List.map_map] at h
  exact h
theorem keys_told {c : StC} (hc : IsR R c) : ∀ p ∈ c.has, mayI p.1 0 = 0 := fun p hp => hc.keys (KV.kb p) (hc.has.mem_iff.2 (List.mem_map_of_mem hp))
theorem touched_h (F : List HP) (s : Nat) (src : Value) (hl : R.told.length ≤ 3500000000000) :
    SpecF Tryz.prog 24 [.pointer (some ⟨s, 0, none⟩)] F [stR 118 s src R] (fun r L => SlV r (touchedQ R).length ∧ L = [own 1 r (touchedQ R).length (keysB (touchedQ R)), stR 118 s src R]) := by
  refine SpecF.unpack0 fun c hc => (touched_c F s src c (by rw [hc.cnt]; omega) (keys_told hc)).turn fun v L h => ?_
  obtain ⟨ss, hv, hp, rfl⟩ := h
  have ht := hc.touched hp
  have e1 : (ss.mergeSort leB).map encStr = keysB (touchedQ R) := by
    rw [← ht, keysB, List.map_map]
    rfl
  have e2 : ss.length = (touchedQ R).length := by rw [← ht, List.length_map, List.length_mergeSort]
  rw [e1, e2]
  rw [e2] at hv
  exact ⟨_, ⟨hv, rfl⟩, Ent.cons _ (Ent.pack0 (ls := fun c => StC.pieces 118 s src c) hc)⟩
theorem touched_n (F : List HP) (s : Nat) (src : Value) (hl : R.told.length ≤ 3500000000000) :
    SpecF Tryz.prog 24 [.pointer (some ⟨s, 0, none⟩)] F [stR 118 s src R] (fun r L => (touchedQ R).Nodup ∧ SlV r (touchedQ R).length ∧ L = [own 1 r (touchedQ R).length (keysB (touchedQ R)), stR 118 s src R]) := by
  refine SpecF.fact (touchedQ R).Nodup (fun w hs => ?_) fun hn => (touched_h F s src hl).turn fun v L h => ⟨L, ⟨hn, h⟩, Ent.refl _⟩
  obtain ⟨c, hc, _⟩ := Sat.exL.1 hs
  exact hc.rise.nodup
theorem changes_h (F : List HP) (s : Nat) (src : Value) (hl : R.told.length ≤ 3500000000000) :
    SpecF Tryz.prog 34 [.pointer (some ⟨s, 0, none⟩)] F [stR 118 s src R] (fun r L => ∃ l : List ChD, l.map (fun d => (d.key, d.old, d.new)) = changesQ R ∧ SlV r l.length ∧ l.length ≤ R.told.length ∧ (∀ d ∈ l, SlV d.ov d.old.length ∧ SlV d.nv d.new.length) ∧
      L = stR 118 s src R :: own 3 r l.length (l.flatMap ChD.cells) :: chS l) := by
  refine SpecF.unpack0 fun c hc => (changes_c F s src c hc.wf (by rw [hc.cnt]; exact hl) (keys_told hc)).turn fun v L h => ?_
  obtain ⟨ss, l, hp, hv, hsv, hm, rfl⟩ := h
  rw [hc.changes hp] at hm
  have hcnt : l.length ≤ R.told.length := by
    have h1 := congrArg List.length hm
    rw [List.length_map, changesQ, List.length_map] at h1
    rw [h1]
    exact List.length_filter_le _ _
  exact ⟨_, ⟨l, hm, hv, hcnt, hsv, rfl⟩, Ent.pack (ls := fun c => StC.pieces 118 s src c) hc⟩
theorem over_h (F : List HP) (u : Nat) (v : Value) : SpecF Tryz.prog 20 [.iface u v] F [] (fun r L => ∃ s, r = .tuple #[.pointer (some ⟨s, 0, none⟩), .int .i64 0] ∧ L = [stR 118 s (.iface u v) ⟨[], [], [], 0⟩]) :=
  (over_spec F u v).turn fun r L ⟨s, hr, hb, nb, hL⟩ => by
    subst hL
    exact ⟨_, ⟨s, hr, rfl⟩, Ent.pack0 (φ := IsR ⟨[], [], [], 0⟩) (ls := fun c => StC.pieces 118 s (.iface u v) c)
      ⟨⟨fun p h => absurd h (List.not_mem_nil), fun p h => absurd h (List.not_mem_nil), fun p h => absurd h (List.not_mem_nil)⟩, List.Perm.nil, List.Pairwise.nil, fun p h => absurd h (List.not_mem_nil), fun k => rfl, rfl, fun i x h => by simp at h, rfl, List.Pairwise.nil, fun m h => absurd h (List.not_mem_nil)⟩⟩
end
end Go.Proofs.YtnbcbdlbejdkpaaGreatDoor
/-
  The statement's own helpers: bytes that are lent, looked at, written over.
-/
namespace Go.Proofs.YtnbcbdlbejdkpaaGreatDoor
open Go Go.Sl Go.Sort
theorem bytes_same7 (F : List HP) (va vb : Value) (a b : List Nat) (ha : RdS F va a.length (bvs a)) (hb : RdS F vb b.length (bvs b)) :
    SpecF Tryz.prog 58 [va, vb] F [] (fun r L => r = .bool (decide (strB a = strB b)) ∧ L = []) := by
  refine fun58.spec rfl ?_
  conv => whnf
  refine DoesG.toStr (e := 5) (bs := a) (by kernel_rfl) (by kernel_rfl) (by kernel_rfl) (.right ha []) rfl ?_
  conv => whnf
  refine DoesG.toStr (e := 5) (bs := b) (by kernel_rfl) (by kernel_rfl) (by kernel_rfl) (.right hb []) rfl ?_
  conv => whnf
  exact ret_here ⟨rfl, rfl⟩
theorem RdS.take {L : List HP} {a : Option Addr} {n c k : Nat} {cs : List Value} (h : RdS L (.slice a n c) n cs) (hk : k ≤ n) (hl : cs.length = n) : RdS L (.slice a k c) k (cs.take k) := by
  cases h with
  | nil =>
    obtain rfl : k = 0 := by omega
    exact .nil
  | zero a =>
    obtain rfl : k = 0 := by omega
    exact .zero a _
  | mk b o n _ cs hn h =>
    refine .mk b o k _ _ (by omega) fun w hs j u hj => ?_
    rw [List.getElem?_take] at hj
    split at hj
    · exact h w hs j u hj
    · cases hj
theorem put_mid {A zs : List Value} {i : Nat} {u : Value} (hA : A.length = i) : (A ++ zs.drop i).take i ++ [u] ++ (A ++ zs.drop i).drop (i + 1) = (A ++ [u]) ++ zs.drop (i + 1) := by
  rw [List.take_left' hA]
  congr 1
  rw [List.drop_append, hA, List.drop_eq_nil_of_le (by omega), List.nil_append, List.drop_drop]
  congr 1
  omega
def lentB (bs : List Nat) : List Nat := bs ++ List.replicate 40 201
theorem lentB_len (bs : List Nat) : (lentB bs).length = bs.length + 40 := by simp [lentB]
theorem lent_spec (F : List HP) (v : Value) (bs : List Nat) (hv : RdS F v bs.length (bvs bs)) (hl : bs.length ≤ 140737488355328) : SpecF Tryz.prog 60 [v] F [] (fun r L => SlV r (bs.length + 40) ∧ L = [own 1 r (bs.length + 40) (bvs (lentB bs))]) := by
  obtain ⟨va, vc, rfl⟩ := hv.len
  refine fun60.spec rfl ?_
  conv => whnf
  refine LenG.lit ?_
  conv => whnf
  refine ArithG.i64' ((bs.length + 40 : Nat) : Int) (by omega) (by omega) ?_
  conv => whnf
  refine DoesG.makeG (n := bs.length + 40) bytesT .i64 .i64 (by omega) (by simp only [maxLen]; omega) fun b zs hz => ?_
  conv => whnf
  have hz2 : (zs.drop bs.length).length = 40 := by rw [List.length_drop]; omega
  refine DoesG.copyS (o := 0) (cs := bvs bs) bytesT.und (by kernel_rfl) (.tl (.right hv _)) (bvs_len bs) (by omega) (by omega) (bvs_one _) (cur' := bvs bs ++ zs.drop bs.length) (by
    rw [List.take_zero, List.nil_append, Nat.zero_add]) ?_
  conv => whnf
  refine LenG.lit ?_
  conv => whnf
  refine LoopG.mk (fun m ev L => ∃ (j : Nat), j ≤ 40 ∧ m = 40 - j ∧
      ev = [(0, .slice va bs.length vc), (3, .slice (some ⟨b, 0, none⟩) (bs.length + 40) (bs.length + 40)), (4, .int .i64 ((bs.length + j : Nat) : Int))] ∧ L = [cel b 5 (bvs (bs ++ List.replicate j 201) ++ zs.drop (bs.length + j))]) 40
    [(0, .slice va bs.length vc), (3, .slice (some ⟨b, 0, none⟩) (bs.length + 40) (bs.length + 40)), (4, .int .i64 ((bs.length : Nat) : Int))] _ ⟨rfl, rfl, rfl, trivial⟩ (Ent.refl _) ⟨0, by omega, rfl, rfl, by simp⟩ ?_
  rintro m ev L ⟨j, hj, rfl, rfl, rfl⟩
  conv => whnf
  refine LenG.lit ?_
  conv => whnf
  refine CondG.dec (fun hlt => ?_) (fun hlt => ?_)
  · have hj2 : j < 40 := by omega
    conv => whnf
    refine ⟨b, 0, _, _, rfl, by omega, ?_⟩
    conv => whnf
    refine StoreG.at rfl (Upd.hereN (vs := [.int .u8 201]) (cs' := bvs (bs ++ List.replicate (j + 1) 201) ++ zs.drop (bs.length + (j + 1))) (by simp [bvs_len, List.length_drop]; omega) (by simp [Value.oneCell']) ?_) ?_
    · have e : 0 + ((bs.length + j : Nat) : Int).toNat * 1 = bs.length + j := by omega
      rw [e, List.length_singleton, put_mid (by simp [bvs_len]), ← List.replicate_append_replicate]
      simp [bvs, bv, Nat.add_assoc]
    conv => whnf
    refine ArithG.i64' ((bs.length + (j + 1) : Nat) : Int) (by omega) (by omega) ?_
    conv => whnf
    exact ⟨40 - (j + 1), [(0, .slice va bs.length vc), (3, .slice (some ⟨b, 0, none⟩) (bs.length + 40) (bs.length + 40)), (4, .int .i64 ((bs.length + (j + 1) : Nat) : Int))], _, by omega, ⟨rfl, rfl, rfl, trivial⟩, Ent.refl _, j + 1, by omega, rfl, rfl, rfl⟩
  · obtain rfl : j = 40 := by omega
    conv => whnf
    refine ⟨_, ?_, .inr ⟨b, bs.length + 40, rfl, Nat.le_refl _⟩, rfl⟩
    have e : zs.drop (bs.length + 40) = [] := List.drop_eq_nil_of_le (by omega)
    rw [e, List.append_nil]
    exact own_of_cel (n := bs.length + 40) (sz := 1) (by rw [bvs_len]; simp) (by simp only [maxLen]; omega)
theorem kept_spec (F : List HP) (v u : Value) (bs : List Nat) (hv : RdS F v (bs.length + 40) (bvs (lentB bs))) (hu : RdS F u bs.length (bvs bs)) (hl : bs.length ≤ 140737488355328) : SpecF Tryz.prog 22 [v, u] F [] (fun r L => r = .bool true ∧ L = []) := by
  obtain ⟨va, vc, rfl⟩ := hv.len
  obtain ⟨ua, uc, rfl⟩ := hu.len
  refine fun22.spec rfl ?_
  conv => whnf
  refine LenG.lit ?_
  conv => whnf
  refine LoopG.mk (fun m ev L => ∃ (j : Nat), j ≤ 40 ∧ m = 40 - j ∧
      ev = [(0, .slice va (bs.length + 40) vc), (1, .slice ua bs.length uc), (4, .bool false), (5, .int .i64 ((bs.length + j : Nat) : Int))] ∧ L = []) 40
    [(0, .slice va (bs.length + 40) vc), (1, .slice ua bs.length uc), (4, .bool false), (5, .int .i64 ((bs.length : Nat) : Int))] [] ⟨rfl, rfl, rfl, rfl, trivial⟩ (Ent.refl _) ⟨0, by omega, rfl, rfl, rfl⟩ ?_
  rintro m ev L ⟨j, hj, rfl, rfl, rfl⟩
  conv => whnf
  refine LenG.lit ?_
  conv => whnf
  refine CondG.dec (fun hlt => ?_) (fun hlt => ?_)
  · have hj2 : j < 40 := by omega
    have hj3 : ((bs.length + j : Nat) : Int).toNat * 1 = bs.length + j := by omega
    have hg : (bvs (lentB bs))[((bs.length + j : Nat) : Int).toNat * 1]? = some (.int .u8 201) := by
      rw [hj3, bvs, List.getElem?_map, lentB, List.getElem?_append_right (by omega), List.getElem?_replicate, if_pos (by omega)]
      rfl
    conv => whnf
    refine IdxG.rd hv (by omega) fun b o hc => ?_
    conv => whnf
    refine LoadG.atF (hc.one hg) ?_
    conv => whnf
    refine CondG.ndec (fun h => absurd rfl h) (fun _ => ?_)
    conv => whnf
    refine ArithG.i64' ((bs.length + (j + 1) : Nat) : Int) (by omega) (by omega) ?_
    conv => whnf
    exact ⟨40 - (j + 1), [(0, .slice va (bs.length + 40) vc), (1, .slice ua bs.length uc), (4, .bool false), (5, .int .i64 ((bs.length + (j + 1) : Nat) : Int))], _, by omega, ⟨rfl, rfl, rfl, rfl, trivial⟩, Ent.refl _, j + 1, by omega, rfl, rfl, rfl⟩
  · obtain rfl : j = 40 := by omega
    have hcap : bs.length + 40 ≤ vc := by
      cases hv
      assumption
    conv => whnf
    refine LenG.lit ?_
    conv => whnf
    refine SlcG.lit ?_
    conv => whnf
    refine SideG.of (by omega) ?_
    conv => whnf
    refine SliceG.zero ?_
    conv => whnf
    have h2 := RdS.take hv (k := bs.length) (by omega) (by rw [bvs_len, lentB_len])
    have e : (bvs (lentB bs)).take bs.length = bvs bs := by rw [bvs, ← List.map_take, lentB, List.take_left' rfl]; rfl
    rw [e] at h2
    refine CallG.pure (bytes_same7 _ _ _ bs bs (.right h2 _) (.right hu _)) ?_
    rintro _ _ ⟨rfl, rfl⟩
    conv => whnf
    exact ret_here ⟨by show Value.bool (decide _) = _; simp, rfl⟩
def ivs (l : List Int) : List Value := l.map fun i => .int .u8 i
theorem ivs_len (l : List Int) : (ivs l).length = l.length := by simp [ivs]
theorem bvs_ivs (l : List Nat) : bvs l = ivs (l.map Int.ofNat) := by simp [bvs, ivs, bv]
theorem ivs_set {m : List Int} {i : Nat} {x : Int} (h : i < m.length) : (ivs m).take i ++ [.int .u8 x] ++ (ivs m).drop (i + 1) = ivs (m.set i x) := by
  rw [List.set_eq_take_append_cons_drop, if_pos h]
  simp [ivs]
theorem slv_pos {v : Value} {n : Nat} (h : SlV v n) (h0 : 0 < n) : ∃ g cap, v = .slice (some ⟨g, 0, none⟩) n cap ∧ n ≤ cap := by
  rcases h with ⟨_, h⟩ | ⟨g, cap, h, hn⟩
  · omega
  · exact ⟨g, cap, h, hn⟩
theorem spoil_spec (F : List HP) (v : Value) (l : List Int) (hl : l.length ≤ 4611686018427387904) : SpecF Tryz.prog 23 [v] F [own 1 v l.length (ivs l)] (fun _ L => ∃ m : List Int, m.length = l.length ∧ L = [own 1 v m.length (ivs m)]) := by
  refine SpecF.ownV 0 rfl fun hv _ => ?_
  refine fun23.spec rfl ?_
  conv => whnf
  refine LoopG.mk (fun mm ev L => ∃ (i : Nat) (m : List Int), i ≤ l.length ∧ mm = l.length - i ∧ m.length = l.length ∧ ev = [(0, v), (2, .int .i64 i)] ∧ L = [own 1 v l.length (ivs m)]) l.length
    [(0, v), (2, .int .i64 0)] _ ⟨rfl, rfl, trivial⟩ (Ent.refl _) ⟨0, l, by omega, rfl, rfl, rfl, rfl⟩ ?_
  rintro mm ev L ⟨i, m, hi, rfl, hm, rfl, rfl⟩
  conv => whnf
  refine LenG.sl hv ?_
  conv => whnf
  refine CondG.dec (fun hlt => ?_) (fun hlt => ?_)
  · have hil : i < l.length := by omega
    obtain ⟨g, cap, rfl, hn⟩ := slv_pos hv (by omega)
    conv => whnf
    refine IdxG.rd (own_rd (L := []) hv (by rw [ivs_len, hm, Nat.mul_one])) (by omega) fun b o hc => ?_
    conv => whnf
    refine LoadG.at (hc.one (i := ((i : Nat) : Int).toNat * 1) (u := .int .u8 (m[i]'(by omega))) (by rw [Int.toNat_natCast, Nat.mul_one, ivs, List.getElem?_map, List.getElem?_eq_getElem (by omega)]; rfl)) ?_
    conv => whnf
    refine ⟨g, 0, _, _, rfl, by omega, ?_⟩
    conv => whnf
    have e0 : 0 + ((i : Nat) : Int).toNat * 1 = i := by omega
    refine StoreG.at rfl (Upd.own (cs' := ivs (m.set i (IntKind.u8.wrap ((BitVec.ofInt IntKind.u8.bits (m[i]'(by omega)) ^^^ BitVec.ofInt IntKind.u8.bits 165).toNat : Int)))) (by rw [e0, ivs_len, List.length_singleton]; omega) (by simp [Value.oneCell']) (by rw [e0, List.length_singleton]; exact ivs_set (by omega))) ?_
    conv => whnf
    refine ArithG.i64' ((i + 1 : Nat) : Int) (by omega) (by omega) ?_
    conv => whnf
    exact ⟨l.length - (i + 1), [(0, _), (2, .int .i64 ((i + 1 : Nat) : Int))], _, by omega, ⟨rfl, rfl, trivial⟩, Ent.refl _, i + 1, _, by omega, rfl, by rw [List.length_set]; exact hm, rfl, rfl⟩
  · conv => whnf
    exact ret_here ⟨m, hm, by rw [hm]⟩
def rep (n : Nat) (x : Int) : List Value := List.replicate n (Value.int .u8 x)
theorem rep_len (n : Nat) (x : Int) : (rep n x).length = n := by simp [rep]
theorem rep_app (n : Nat) (x : Int) : rep n x ++ [.int .u8 x] = rep (n + 1) x := by simp [rep, List.replicate_succ']
theorem rep_get {n i : Nat} {x : Int} (h : i < n) : (rep n x)[i]? = some (.int .u8 x) := by simp [rep, h]
theorem two_spec (F : List HP) (a b : Value) (n k : Nat) (ca cb : List Value) (hn : n ≤ 1099511627776) (hk : k ≤ 1099511627776) : SpecF Tryz.prog 59 [a, b] F [own 1 a n ca, own 1 b k cb] (fun r L => r = .bool true ∧ L = []) := by
  refine SpecF.ownV 0 rfl fun ha hac => ?_
  refine SpecF.ownV 1 rfl fun hb hbc => ?_
  rw [Nat.mul_one] at hac hbc
  refine fun59.spec rfl ?_
  conv => whnf
  refine LenG.sl ha ?_
  conv => whnf
  refine LenG.sl hb ?_
  conv => whnf
  refine LoopG.mk (fun mm ev L => ∃ i : Nat, i ≤ n ∧ mm = n - i ∧ ev = [(0, a), (1, b), (4, .bool false), (5, .int .i64 n), (6, .int .i64 k), (7, .int .i64 i)] ∧ L = [ own 1 a n (rep i 11 ++ ca.drop i) , own 1 b k cb]) n
    [(0, a), (1, b), (4, .bool false), (5, .int .i64 n), (6, .int .i64 k), (7, .int .i64 0)] _ ⟨rfl, rfl, rfl, rfl, rfl, rfl, trivial⟩ (Ent.refl _) ⟨0, by omega, rfl, rfl, rfl⟩ ?_
  rintro mm ev L ⟨i, hi, rfl, rfl, rfl⟩
  conv => whnf
  refine CondG.dec (fun hlt => ?_) (fun hlt => ?_)
  · obtain ⟨g, cap, rfl, hn⟩ := slv_pos ha (by omega)
    conv => whnf
    refine ⟨g, 0, _, _, rfl, by omega, ?_⟩
    conv => whnf
    have e0 : 0 + ((i : Nat) : Int).toNat * 1 = i := by omega
    refine StoreG.at rfl ((Upd.own (cs' := rep (i + 1) 11 ++ ca.drop (i + 1)) (by rw [e0, List.length_append, rep_len, List.length_drop, List.length_singleton]; omega) (by simp [Value.oneCell']) (by rw [e0, List.length_singleton, put_mid (rep_len _ _), rep_app]))) ?_
    conv => whnf
    refine ArithG.i64' ((i + 1 : Nat) : Int) (by omega) (by omega) ?_
    conv => whnf
    exact ⟨n - (i + 1), [(0, _), (1, _), (4, .bool false), (5, .int .i64 n), (6, .int .i64 k), (7, .int .i64 ((i + 1 : Nat) : Int))], _, by omega, ⟨rfl, rfl, rfl, rfl, rfl, rfl, trivial⟩, Ent.refl _, i + 1, by omega, rfl, rfl, rfl⟩
  obtain rfl : n = i := by omega
  rw [List.drop_eq_nil_of_le (by omega), List.append_nil]
  conv => whnf
  refine LoopG.mk (fun mm ev L => ∃ i : Nat, i ≤ k ∧ mm = k - i ∧ ev = [(0, a), (1, b), (4, .bool false), (5, .int .i64 n), (6, .int .i64 k), (8, .int .i64 i)] ∧ L = [own 1 a n (rep n 11), own 1 b k (rep i 22 ++ cb.drop i) ]) k
    [(0, a), (1, b), (4, .bool false), (5, .int .i64 n), (6, .int .i64 k), (8, .int .i64 0)] _ ⟨rfl, rfl, rfl, rfl, rfl, rfl, trivial⟩ (Ent.refl _) ⟨0, by omega, rfl, rfl, rfl⟩ ?_
  rintro mm ev L ⟨i, hi, rfl, rfl, rfl⟩
  conv => whnf
  refine CondG.dec (fun hlt => ?_) (fun hlt => ?_)
  · obtain ⟨g, cap, rfl, hn⟩ := slv_pos hb (by omega)
    conv => whnf
    refine ⟨g, 0, _, _, rfl, by omega, ?_⟩
    conv => whnf
    have e0 : 0 + ((i : Nat) : Int).toNat * 1 = i := by omega
    refine StoreG.at rfl (Upd.tl (Upd.own (cs' := rep (i + 1) 22 ++ cb.drop (i + 1)) (by rw [e0, List.length_append, rep_len, List.length_drop, List.length_singleton]; omega) (by simp [Value.oneCell']) (by rw [e0, List.length_singleton, put_mid (rep_len _ _), rep_app]))) ?_
    conv => whnf
    refine ArithG.i64' ((i + 1 : Nat) : Int) (by omega) (by omega) ?_
    conv => whnf
    exact ⟨k - (i + 1), [(0, _), (1, _), (4, .bool false), (5, .int .i64 n), (6, .int .i64 k), (8, .int .i64 ((i + 1 : Nat) : Int))], _, by omega, ⟨rfl, rfl, rfl, rfl, rfl, rfl, trivial⟩, Ent.refl _, i + 1, by omega, rfl, rfl, rfl⟩
  obtain rfl : k = i := by omega
  rw [List.drop_eq_nil_of_le (by omega), List.append_nil]
  clear hac hbc
  conv => whnf
  refine LoopG.mk (fun mm ev L => ∃ (i : Nat) (a : Value), i ≤ 20 ∧ mm = 20 - i ∧ SlV a (n + i) ∧ ev = [(0, a), (1, b), (4, .bool false), (5, .int .i64 n), (6, .int .i64 k), (9, .int .i64 i)] ∧ L = [own 1 a (n + i) (rep (n + i) 11), own 1 b k (rep k 22)]) 20
    [(0, a), (1, b), (4, .bool false), (5, .int .i64 n), (6, .int .i64 k), (9, .int .i64 0)] _ ⟨rfl, rfl, rfl, rfl, rfl, rfl, trivial⟩ (Ent.refl _) ⟨0, a, by omega, rfl, ha, rfl, rfl⟩ ?_
  clear ha a
  rintro mm ev L ⟨i, a, hi, rfl, ha, rfl, rfl⟩
  conv => whnf
  refine CondG.dec (fun hlt => ?_) (fun hlt => ?_)
  · conv => whnf
    refine BuildG.of (cs := [.int .u8 11]) rfl ?_
    conv => whnf
    intro b5
    conv => whnf
    refine DoesG.ent (Ent.front 1 rfl) ?_
    refine app_own bytesT 74 (m := 1) (ys := [.int .u8 11]) (.mk _ _ _ _ _ (Nat.le_refl _) (.tl (.left .all _))) rfl (by simp [Value.oneCell']) (by simp only [maxLen]; omega) (by omega) fun a2 ha2 _ _ => ?_
    conv => whnf
    refine ArithG.i64' ((i + 1 : Nat) : Int) (by omega) (by omega) ?_
    conv => whnf
    rw [rep_app]
    exact ⟨20 - (i + 1), [(0, a2), (1, b), (4, .bool false), (5, .int .i64 n), (6, .int .i64 k), (9, .int .i64 ((i + 1 : Nat) : Int))], _, by omega, ⟨rfl, rfl, rfl, rfl, rfl, rfl, trivial⟩, Ent.sel (T := []) (A := [_, _, _]) [0, 2] rfl, i + 1, a2, by omega, rfl, ha2, rfl, rfl⟩
  obtain rfl : 20 = i := by omega
  conv => whnf
  refine LoopG.mk (fun mm ev L => ∃ (i : Nat) (b : Value), i ≤ 20 ∧ mm = 20 - i ∧ SlV b (k + i) ∧ ev = [(0, a), (1, b), (4, .bool false), (5, .int .i64 n), (6, .int .i64 k), (10, .int .i64 i)] ∧ L = [own 1 a (n + 20) (rep (n + 20) 11), own 1 b (k + i) (rep (k + i) 22)]) 20
    [(0, a), (1, b), (4, .bool false), (5, .int .i64 n), (6, .int .i64 k), (10, .int .i64 0)] _ ⟨rfl, rfl, rfl, rfl, rfl, rfl, trivial⟩ (Ent.refl _) ⟨0, b, by omega, rfl, hb, rfl, rfl⟩ ?_
  clear hb b
  rintro mm ev L ⟨i, b, hi, rfl, hb, rfl, rfl⟩
  conv => whnf
  refine CondG.dec (fun hlt => ?_) (fun hlt => ?_)
  · conv => whnf
    refine BuildG.of (cs := [.int .u8 22]) rfl ?_
    conv => whnf
    intro b5
    conv => whnf
    refine DoesG.ent (Ent.front 2 rfl) ?_
    refine app_own bytesT 74 (m := 1) (ys := [.int .u8 22]) (.mk _ _ _ _ _ (Nat.le_refl _) (.tl (.left .all _))) rfl (by simp [Value.oneCell']) (by simp only [maxLen]; omega) (by omega) fun b2 hb2 _ _ => ?_
    conv => whnf
    refine ArithG.i64' ((i + 1 : Nat) : Int) (by omega) (by omega) ?_
    conv => whnf
    rw [rep_app]
    exact ⟨20 - (i + 1), [(0, a), (1, b2), (4, .bool false), (5, .int .i64 n), (6, .int .i64 k), (10, .int .i64 ((i + 1 : Nat) : Int))], _, by omega, ⟨rfl, rfl, rfl, rfl, rfl, rfl, trivial⟩, Ent.sel (T := []) (A := [_, _, _]) [2, 0] rfl, i + 1, b2, by omega, rfl, hb2, rfl, rfl⟩
  obtain rfl : 20 = i := by omega
  have ra : RdS [own 1 a (n + 20) (rep (n + 20) 11), own 1 b (k + 20) (rep (k + 20) 22)] a (n + 20) (rep (n + 20) 11) := own_rd ha (by rw [rep_len, Nat.mul_one])
  have rb : RdS [own 1 a (n + 20) (rep (n + 20) 11), own 1 b (k + 20) (rep (k + 20) 22)] b (k + 20) (rep (k + 20) 22) := .tl (own_rd hb (by rw [rep_len, Nat.mul_one]))
  conv => whnf
  refine LoopG.mk (fun mm ev L => ∃ i : Nat, i ≤ n + 20 ∧ mm = n + 20 - i ∧ ev = [(0, a), (1, b), (4, .bool false), (5, .int .i64 n), (6, .int .i64 k), (11, .int .i64 i)] ∧ L = [own 1 a (n + 20) (rep (n + 20) 11), own 1 b (k + 20) (rep (k + 20) 22)]) (n + 20)
    [(0, a), (1, b), (4, .bool false), (5, .int .i64 n), (6, .int .i64 k), (11, .int .i64 0)] _ ⟨rfl, rfl, rfl, rfl, rfl, rfl, trivial⟩ (Ent.refl _) ⟨0, by omega, rfl, rfl, rfl⟩ ?_
  rintro mm ev L ⟨i, hi, rfl, rfl, rfl⟩
  conv => whnf
  refine ArithG.i64' ((n + 20 : Nat) : Int) (by omega) (by omega) ?_
  conv => whnf
  refine CondG.dec (fun hlt => ?_) (fun hlt => ?_)
  · conv => whnf
    refine IdxG.rd ra (by omega) fun b9 o9 hc => ?_
    conv => whnf
    refine LoadG.at (hc.one (i := ((i : Nat) : Int).toNat * 1) (u := .int .u8 11) (by rw [Int.toNat_natCast, Nat.mul_one]; exact rep_get (by omega))) ?_
    conv => whnf
    refine CondG.ndec (fun h => absurd rfl h) (fun _ => ?_)
    conv => whnf
    refine ArithG.i64' ((i + 1 : Nat) : Int) (by omega) (by omega) ?_
    conv => whnf
    exact ⟨n + 20 - (i + 1), [(0, a), (1, b), (4, .bool false), (5, .int .i64 n), (6, .int .i64 k), (11, .int .i64 ((i + 1 : Nat) : Int))], _, by omega, ⟨rfl, rfl, rfl, rfl, rfl, rfl, trivial⟩, Ent.refl _, i + 1, by omega, rfl, rfl, rfl⟩
  obtain rfl : n + 20 = i := by omega
  conv => whnf
  refine LoopG.mk (fun mm ev L => ∃ i : Nat, i ≤ k + 20 ∧ mm = k + 20 - i ∧ ev = [(0, a), (1, b), (4, .bool false), (5, .int .i64 n), (6, .int .i64 k), (12, .int .i64 i)] ∧ L = [own 1 a (n + 20) (rep (n + 20) 11), own 1 b (k + 20) (rep (k + 20) 22)]) (k + 20)
    [(0, a), (1, b), (4, .bool false), (5, .int .i64 n), (6, .int .i64 k), (12, .int .i64 0)] _ ⟨rfl, rfl, rfl, rfl, rfl, rfl, trivial⟩ (Ent.refl _) ⟨0, by omega, rfl, rfl, rfl⟩ ?_
  rintro mm ev L ⟨i, hi, rfl, rfl, rfl⟩
  conv => whnf
  refine ArithG.i64' ((k + 20 : Nat) : Int) (by omega) (by omega) ?_
  conv => whnf
  refine CondG.dec (fun hlt => ?_) (fun hlt => ?_)
  · conv => whnf
    refine IdxG.rd rb (by omega) fun b9 o9 hc => ?_
    conv => whnf
    refine LoadG.at (hc.one (i := ((i : Nat) : Int).toNat * 1) (u := .int .u8 22) (by rw [Int.toNat_natCast, Nat.mul_one]; exact rep_get (by omega))) ?_
    conv => whnf
    refine CondG.ndec (fun h => absurd rfl h) (fun _ => ?_)
    conv => whnf
    refine ArithG.i64' ((i + 1 : Nat) : Int) (by omega) (by omega) ?_
    conv => whnf
    exact ⟨k + 20 - (i + 1), [(0, a), (1, b), (4, .bool false), (5, .int .i64 n), (6, .int .i64 k), (12, .int .i64 ((i + 1 : Nat) : Int))], _, by omega, ⟨rfl, rfl, rfl, rfl, rfl, rfl, trivial⟩, Ent.refl _, i + 1, by omega, rfl, rfl, rfl⟩
  obtain rfl : k + 20 = i := by omega
  conv => whnf
  exact ⟨[], Ent.nil _, rfl, rfl⟩
end Go.Proofs.YtnbcbdlbejdkpaaGreatDoor
/-
  StoreStates' own source: what it tells, what it notes.
-/
namespace Go.Proofs.YtnbcbdlbejdkpaaGreatDoor
open Go Go.Sl Go.Sort
theorem partsT : ElT Tryz.prog 62 74 1 24 := .of (by kernel_rfl)
theorem texts_same (F : List HP) (a b : Value) (ks : List ByteArray) (ha : RdS F a ks.length (keysB ks)) (hb : RdS F b ks.length (keysB ks)) (hl : ks.length ≤ 4611686018427387904) : SpecF Tryz.prog 26 [a, b] F [] (fun r L => r = .bool true ∧ L = []) := by
  have kB : ∀ i (h : i < ks.length), (keysB ks)[((i : Nat) : Int).toNat * 1]? = some (.string ks[i]) := fun i h => by rw [keysB, Int.toNat_natCast, Nat.mul_one, List.getElem?_map, List.getElem?_eq_getElem h]; rfl
  refine fun26.spec rfl ?_
  conv => whnf
  refine LenG.rd ha ?_
  conv => whnf
  refine LenG.rd hb ?_
  conv => whnf
  refine CondG.ndec (fun h => absurd rfl h) (fun _ => ?_)
  conv => whnf
  refine LoopG.mk (fun mm e L => ∃ q : Nat, q ≤ ks.length ∧ mm = ks.length - q ∧ e = [(0, a), (1, b), (4, .bool false), (5, .int .i64 q)] ∧ L = []) ks.length
    [(0, a), (1, b), (4, .bool false), (5, .int .i64 0)] _ ⟨rfl, rfl, rfl, rfl, trivial⟩ (Ent.refl _) ⟨0, by omega, rfl, rfl, rfl⟩ ?_
  rintro mm e L ⟨q, hq, rfl, rfl, rfl⟩
  conv => whnf
  refine LenG.rd ha ?_
  conv => whnf
  refine CondG.dec (fun h1 => ?_) (fun h1 => ?_)
  · have hql : q < ks.length := by omega
    conv => whnf
    refine DrawG.mk 9 [] [] (Ent.refl _) ?_
    conv => whnf
    refine .take 0 ?_
    conv => whnf
    refine ⟨rfl, ?_⟩
    conv => whnf
    refine .take 1 ?_
    conv => whnf
    refine ⟨rfl, ?_⟩
    conv => whnf
    refine .take 2 ?_
    conv => whnf
    refine ⟨rfl, ?_⟩
    conv => whnf
    refine IdxG.rd ha (by omega) fun c o hc => ?_
    conv => whnf
    refine .take 3 ?_
    conv => whnf
    refine ⟨rfl, ?_⟩
    conv => whnf
    refine LoadG.atF (hc.one (kB q hql)) ?_
    conv => whnf
    refine .take 4 ?_
    conv => whnf
    refine ⟨rfl, ?_⟩
    conv => whnf
    refine .take 5 ?_
    conv => whnf
    refine ⟨rfl, ?_⟩
    conv => whnf
    refine .take 6 ?_
    conv => whnf
    refine ⟨rfl, ?_⟩
    conv => whnf
    refine IdxG.rd hb (by omega) fun c o hc => ?_
    conv => whnf
    refine .take 7 ?_
    conv => whnf
    refine ⟨rfl, ?_⟩
    conv => whnf
    refine LoadG.atF (hc.one (kB q hql)) ?_
    conv => whnf
    refine .take 8 ?_
    conv => whnf
    refine ⟨rfl, ?_⟩
    conv => whnf
    refine ⟨rfl, ?_⟩
    conv => whnf
    refine CondG.ndec (fun h => absurd rfl h) (fun _ => ?_)
    conv => whnf
    refine ArithG.i64' ((q + 1 : Nat) : Int) (by omega) (by omega) ?_
    conv => whnf
    exact ⟨ks.length - (q + 1), [(0, a), (1, b), (4, .bool false), (5, .int .i64 ((q + 1 : Nat) : Int))], _, by omega, ⟨rfl, rfl, rfl, rfl, trivial⟩, Ent.refl _, q + 1, by omega, rfl, rfl, rfl⟩
  · conv => whnf
    exact ret_here ⟨rfl, rfl⟩
theorem having_spec (F : List HP) (lv : Value) (ls : List PairD) (hr : RdS F lv ls.length (pairsC ls)) (hok : ∀ p ∈ ls, ∃ a c, p.v = .slice a p.bs.length c) (key : ByteArray) (v : Value) (bs : List Nat) (hv : ∃ a c, v = .slice a bs.length c) (hl : ls.length ≤ 4611686018427387904) (hg : (1 + ls.length) * 40 ≤ 281474976710656) :
    SpecF Tryz.prog 65 [lv, .string key, v] F [] (fun r L => SlV r (1 + ls.length) ∧ L = [own 2 r (1 + ls.length) (pairsC (⟨key, v, bs⟩ :: ls))]) := by
  obtain ⟨va, vc, rfl⟩ := hv
  refine fun65.spec rfl ?_
  conv => whnf
  refine BuildG.of (cs := [.string key, .slice va bs.length vc]) rfl ?_
  conv => whnf
  refine BuildG.of (cs := [.string key, .slice va bs.length vc]) rfl ?_
  conv => whnf
  intro b
  conv => whnf
  refine DoesG.ent (own_of_cel (n := 1) (sz := 2) rfl (by decide)) ?_
  refine app_ownC pairsT 22 (m := ls.length) (ys := pairsC ls) (.tl (.right hr [])) (pairsC_len ls) (fun u hu => ?_) (by simp only [maxLen]; omega) ⟨hg, fun g cap he => by
    injection he with _ _ h3
    subst h3
    unfold Builtin.nextslicecap
    split
    · exact hg
    · rw [if_pos (by decide)]; decide⟩ fun r hr2 _ _ => ?_
  · obtain ⟨p, hp, hu⟩ := List.mem_flatMap.1 hu
    obtain ⟨a, c, e⟩ := hok p hp
    simp only [PairD.cells, List.mem_cons, List.not_mem_nil, or_false, e] at hu
    rcases hu with rfl | rfl <;> rfl
  conv => whnf
  exact ⟨_, Ent.refl _, hr2, rfl⟩
/-- The source's pieces. -/
def telL (t : Nat) (hv nv gv tv : Value) (no : List NoD) (good : List ByteArray) (told : List (Value × List Nat)) : List HP :=
  cel t 64 [hv, nv, gv, .bool false, tv] :: own 2 nv no.length (noC no) :: own 1 gv good.length (keysB good) :: own 1 tv told.length (told.map (·.1)) :: told.map fun p => own 1 p.1 (p.2.length + 40) (bvs (lentB p.2))
def countK (good : List ByteArray) (key : ByteArray) : Nat := good.countP fun k => decide (k = key)
theorem often_spec (F : List HP) (t : Nat) (hv nv gv tv : Value) (no : List NoD) (good : List ByteArray) (told : List (Value × List Nat)) (hg : SlV gv good.length) (hl : good.length ≤ 4611686018427387904) (key : ByteArray) :
    SpecF Tryz.prog 28 [.pointer (some ⟨t, 0, none⟩), .string key] (telL t hv nv gv tv no good told ++ F) [] (fun r L => r = .int .i64 (countK good key) ∧ L = []) := by
  have hrg : RdS (telL t hv nv gv tv no good told ++ F) gv good.length (keysB good) := .tl (.tl (own_rd hg (by rw [keysB, List.length_map, Nat.mul_one])))
  refine fun28.spec rfl ?_
  conv => whnf
  refine LoopG.mk (fun mm e L => ∃ q : Nat, q ≤ good.length ∧ mm = good.length - q ∧ e = [(0, .pointer (some ⟨t, 0, none⟩)), (1, .string key), (4, .int .i64 0), (5, .int .i64 (countK (good.take q) key)), (6, .int .i64 q)] ∧ L = []) good.length
    [(0, .pointer (some ⟨t, 0, none⟩)), (1, .string key), (4, .int .i64 0), (5, .int .i64 0), (6, .int .i64 0)] _ ⟨rfl, rfl, rfl, rfl, rfl, trivial⟩ (Ent.refl _) ⟨0, by omega, rfl, rfl, rfl⟩ ?_
  rintro mm e L ⟨q, hq, rfl, rfl, rfl⟩
  conv => whnf
  refine LoadG.atF (.here rfl) ?_
  conv => whnf
  refine LenG.sl hg ?_
  conv => whnf
  refine CondG.dec (fun h1 => ?_) (fun h1 => ?_)
  · have hql : q < good.length := by omega
    have hst : countK (good.take (q + 1)) key = countK (good.take q) key + (if good[q] = key then 1 else 0) := by
      unfold countK
      rw [List.take_succ_eq_append_getElem hql, List.countP_append, List.countP_singleton]
      simp
    have hle : countK (good.take q) key ≤ q := by
      unfold countK
      refine Nat.le_trans List.countP_le_length ?_
      rw [List.length_take]
      omega
    conv => whnf
    refine LoadG.atF (.here rfl) ?_
    conv => whnf
    refine IdxG.rd hrg (by omega) fun c o hc => ?_
    conv => whnf
    refine LoadG.atF (hc.one (i := ((q : Nat) : Int).toNat * 1) (u := .string good[q]) (by rw [keysB, Int.toNat_natCast, Nat.mul_one, List.getElem?_map, List.getElem?_eq_getElem hql]; rfl)) ?_
    conv => whnf
    refine CondG.dec (fun he => ?_) (fun he => ?_)
    · rw [if_pos he] at hst
      conv => whnf
      refine ArithG.i64' ((countK (good.take (q + 1)) key : Nat) : Int) (by omega) (by omega) ?_
      conv => whnf
      refine ArithG.i64' ((q + 1 : Nat) : Int) (by omega) (by omega) ?_
      conv => whnf
      exact ⟨good.length - (q + 1), [(0, .pointer (some ⟨t, 0, none⟩)), (1, .string key), (4, .int .i64 0), (5, .int .i64 (countK (good.take (q + 1)) key)), (6, .int .i64 ((q + 1 : Nat) : Int))], _, by omega, ⟨rfl, rfl, rfl, rfl, rfl, trivial⟩, Ent.refl _, q + 1, by omega, rfl, rfl, rfl⟩
    · rw [if_neg he] at hst
      have e9 : countK (good.take q) key = countK (good.take (q + 1)) key := by omega
      conv => whnf
      refine ArithG.i64' ((q + 1 : Nat) : Int) (by omega) (by omega) ?_
      conv => whnf
      rw [e9]
      exact ⟨good.length - (q + 1), [(0, .pointer (some ⟨t, 0, none⟩)), (1, .string key), (4, .int .i64 0), (5, .int .i64 (countK (good.take (q + 1)) key)), (6, .int .i64 ((q + 1 : Nat) : Int))], _, by omega, ⟨rfl, rfl, rfl, rfl, rfl, trivial⟩, Ent.refl _, q + 1, by omega, rfl, rfl, rfl⟩
  · obtain rfl : q = good.length := by omega
    rw [List.take_length]
    conv => whnf
    exact ret_here ⟨rfl, rfl⟩
/-- The source, once it was asked: n: so many lists told at most. -/
def TelΦ (t : Nat) (hv : Value) (no : List NoD) (good : List ByteArray) (n : Nat) (T : List HP) : Prop :=
  ∃ nv gv tv told, SlV nv no.length ∧ SlV gv good.length ∧ SlV tv told.length ∧ told.length ≤ n ∧ (∀ p ∈ told, SlV p.1 (p.2.length + 40) ∧ p.2.length ≤ 140737488355328) ∧ T = telL t hv nv gv tv no good told
theorem find_tel (F : List HP) (t : Nat) (hv nv gv tv : Value) (no : List NoD) (good : List ByteArray) (told : List (Value × List Nat)) (hnv : SlV nv no.length) (hg : SlV gv good.length) (htv : SlV tv told.length) (hto : ∀ p ∈ told, SlV p.1 (p.2.length + 40) ∧ p.2.length ≤ 140737488355328)
    (hs : List PairD) (hh : RdS F hv hs.length (pairsC hs)) (hhl : hs.length ≤ 4611686018427387904) (hhv : ∀ p ∈ hs, RdS F p.v p.bs.length (bvs p.bs) ∧ p.bs.length ≤ 140737488355328) (hnl : no.length ≤ 4611686018427387904) (hgl : good.length ≤ 4398046511104) (htl : told.length ≤ 4398046511104)
    (key : ByteArray) (hk : key ∉ good) :
    SpecF Tryz.prog 200 [.pointer (some ⟨t, 0, none⟩), .string key] F (telL t hv nv gv tv no good told) (fun v L' => ∃ x D T', TelΦ t hv no (if (refF (hs.map PairD.e) no false key).2 = 0 ∧ (refF (hs.map PairD.e) no false key).1.length ≤ 4096 then good ++ [key] else good) (told.length + 1) T' ∧
      v = .tuple #[x, .int .i64 (refF (hs.map PairD.e) no false key).2] ∧ ((refF (hs.map PairD.e) no false key).2 = 0 → RdS (D ++ T') x (refF (hs.map PairD.e) no false key).1.length (bvs (refF (hs.map PairD.e) no false key).1)) ∧ L' = D ++ T') := by
  obtain ⟨f, hf⟩ : ∃ f, f = refF (hs.map PairD.e) no false key := ⟨_, rfl⟩
  rw [← hf]
  have hc0 : countK good key = 0 := by
    unfold countK
    rw [List.countP_eq_zero]
    intro k hkm
    simp only [decide_eq_true_eq]
    exact fun e => hk (e ▸ hkm)
  obtain ⟨A, hA⟩ : ∃ A, A = telL t hv nv gv tv no good told := ⟨_, rfl⟩
  have hrn : RdS A nv no.length (noC no) := by rw [hA]; exact .tl (own_rd hnv (noC_len no))
  have c0 : Cel A t 0 hv := by rw [hA]; exact .here rfl
  have c1 : Cel A t 1 nv := by rw [hA]; exact .here rfl
  have hof := often_spec F t hv nv gv tv no good told hg (by omega) key
  rw [← hA] at hof ⊢
  rw [hc0] at hof
  have same : TelΦ t hv no good (told.length + 1) A := ⟨nv, gv, tv, told, hnv, hg, htv, Nat.le_succ _, hto, hA⟩
  refine fun200.spec rfl ?_
  conv => whnf
  refine CallG.pure hof ?_
  rintro _ _ ⟨rfl, rfl⟩
  conv => whnf
  refine CondG.dec (fun h => absurd h (by decide)) (fun _ => ?_)
  conv => whnf
  refine LoopG.mk (fun m ev L => ∃ (i : Nat), i ≤ no.length ∧ m = no.length - i ∧ noF no key = noF (no.drop i) key ∧
      ev = [(0, .pointer (some ⟨t, 0, none⟩)), (1, .string key), (4, .slice none 0 0), (5, .int .i64 0), (6, .int .i64 0), (7, .int .i64 i)] ∧ A = L) no.length
    [(0, .pointer (some ⟨t, 0, none⟩)), (1, .string key), (4, .slice none 0 0), (5, .int .i64 0), (6, .int .i64 0), (7, .int .i64 0)] A ⟨rfl, rfl, rfl, rfl, rfl, rfl, trivial⟩ (Ent.refl _) ⟨0, Nat.zero_le _, rfl, rfl, rfl, rfl⟩ ?_
  rintro m ev L ⟨i, hi, rfl, hw, rfl, rfl⟩
  conv => whnf
  refine LoadG.at c1 ?_
  conv => whnf
  refine LenG.rd hrn ?_
  conv => whnf
  refine CondG.dec (fun hlt => ?_) (fun hlt => ?_)
  · have hi' : i < no.length := by omega
    obtain ⟨p, hp⟩ : ∃ p, no[i]? = some p := ⟨no[i], List.getElem?_eq_getElem hi'⟩
    obtain ⟨hp1, hp2⟩ := noC_get hp
    rw [noF_step hp] at hw
    conv => whnf
    refine LoadG.at c1 ?_
    conv => whnf
    refine IdxG.rd hrn (by omega) fun b9 o9 hc9 => ?_
    conv => whnf
    refine LoadG.at (hc9.one (i := i * 2) (u := .string p.1) hp1) ?_
    conv => whnf
    refine CondG.dec (fun he => ?_) (fun he => ?_)
    · (conv => whnf); repeat ((with_reducible first | refine .tt ?_ | refine .ff ?_ | refine .ntt ?_ | refine .nff ?_); conv => whnf)
      refine LoadG.at c1 ?_
      (conv => whnf); repeat ((with_reducible first | refine .tt ?_ | refine .ff ?_ | refine .ntt ?_ | refine .nff ?_); conv => whnf)
      refine IdxG.rd hrn (by omega) fun b8 o8 hc8 => ?_
      (conv => whnf); repeat ((with_reducible first | refine .tt ?_ | refine .ff ?_ | refine .ntt ?_ | refine .nff ?_); conv => whnf)
      refine LoadG.at (hc8.one (i := i * 2 + 1) (u := .int .i64 p.2) hp2) ?_
      (conv => whnf); repeat ((with_reducible first | refine .tt ?_ | refine .ff ?_ | refine .ntt ?_ | refine .nff ?_); conv => whnf)
      refine CondG.ndec (fun h0 => ?_) (fun h0 => ?_)
      · rw [if_pos ⟨he, h0⟩] at hw
        have e2 : f.2 = p.2 := by rw [hf]; unfold refF; rw [hw, if_pos h0]
        conv => whnf
        refine DrawG.mk 11 A [] (Ent.refl _) ?_
        conv => whnf
        refine .take 2 ?_
        conv => whnf
        refine ⟨rfl, ?_⟩
        conv => whnf
        refine .take 3 ?_
        conv => whnf
        refine ⟨rfl, ?_⟩
        conv => whnf
        refine .take 4 ?_
        conv => whnf
        refine ⟨rfl, ?_⟩
        conv => whnf
        refine .take 5 ?_
        conv => whnf
        refine ⟨rfl, ?_⟩
        conv => whnf
        refine LoadG.at c1 ?_
        conv => whnf
        refine .take 6 ?_
        conv => whnf
        refine ⟨rfl, ?_⟩
        conv => whnf
        refine .take 7 ?_
        conv => whnf
        refine ⟨rfl, ?_⟩
        conv => whnf
        refine IdxG.rd hrn (by omega) fun b6 o6 hc6 => ?_
        conv => whnf
        refine .take 8 ?_
        conv => whnf
        refine ⟨rfl, ?_⟩
        conv => whnf
        refine .take 9 ?_
        conv => whnf
        refine ⟨rfl, ?_⟩
        conv => whnf
        refine LoadG.at (hc6.one (i := i * 2 + 1) (u := .int .i64 p.2) hp2) ?_
        conv => whnf
        refine .all ?_
        conv => whnf
        refine ⟨by decide, ?_⟩
        conv => whnf
        refine BuildG.of rfl ?_
        conv => whnf
        intro b7
        conv => whnf
        refine .all ?_
        conv => whnf
        refine ⟨by decide, ?_⟩
        conv => whnf
        refine DoesG.constB (e := 5) (by kernel_rfl) (by kernel_rfl) ?_
        conv => whnf
        refine .all ?_
        conv => whnf
        refine ⟨by decide, ?_⟩
        conv => whnf
        refine .all ?_
        conv => whnf
        refine ⟨by decide, ?_⟩
        conv => whnf
        refine ⟨rfl, ?_⟩
        conv => whnf
        refine ⟨rfl, ?_⟩
        conv => whnf
        exact ⟨_, Ent.drop _, _, [], A, by rw [if_neg (fun h => h0 (e2.symm.trans h.1))]; exact same, by rw [e2]; rfl, fun h => absurd (e2.symm.trans h) h0, rfl⟩
      · rw [if_neg (fun h => h.2 h0)] at hw
        conv => whnf
        refine ArithG.i64' ((i + 1 : Nat) : Int) (by omega) (by omega) ?_
        conv => whnf
        exact ⟨no.length - (i + 1), [(0, .pointer (some ⟨t, 0, none⟩)), (1, .string key), (4, .slice none 0 0), (5, .int .i64 0), (6, .int .i64 0), (7, .int .i64 ((i + 1 : Nat) : Int))], _, by omega, ⟨rfl, rfl, rfl, rfl, rfl, rfl, trivial⟩, Ent.refl _, i + 1, by omega, rfl, hw, rfl, rfl⟩
    · rw [if_neg (fun h => he h.1)] at hw
      (conv => whnf); repeat ((with_reducible first | refine .tt ?_ | refine .ff ?_ | refine .ntt ?_ | refine .nff ?_); conv => whnf)
      refine ArithG.i64' ((i + 1 : Nat) : Int) (by omega) (by omega) ?_
      conv => whnf
      exact ⟨no.length - (i + 1), [(0, .pointer (some ⟨t, 0, none⟩)), (1, .string key), (4, .slice none 0 0), (5, .int .i64 0), (6, .int .i64 0), (7, .int .i64 ((i + 1 : Nat) : Int))], _, by omega, ⟨rfl, rfl, rfl, rfl, rfl, rfl, trivial⟩, Ent.refl _, i + 1, by omega, rfl, hw, rfl, rfl⟩
  obtain rfl : i = no.length := by omega
  rw [List.drop_length] at hw
  have hn0 : noF no key = 0 := by rw [hw]; rfl
  have hf1 : f = ((atL (hs.map PairD.e) key).getD [], 0) := by
    rw [hf]; unfold refF; rw [hn0, if_neg (fun h => h rfl)]; simp
  conv => whnf
  refine LoopG.mk (fun m ev L => ∃ (i : Nat), i ≤ hs.length ∧ m = hs.length - i ∧ atD hs key = atD (hs.drop i) key ∧
      ev = [(0, .pointer (some ⟨t, 0, none⟩)), (1, .string key), (4, .slice none 0 0), (5, .int .i64 0), (6, .int .i64 0), (8, .int .i64 i)] ∧ A = L) hs.length
    [(0, .pointer (some ⟨t, 0, none⟩)), (1, .string key), (4, .slice none 0 0), (5, .int .i64 0), (6, .int .i64 0), (8, .int .i64 0)] A ⟨rfl, rfl, rfl, rfl, rfl, rfl, trivial⟩ (Ent.refl _) ⟨0, Nat.zero_le _, rfl, rfl, rfl, rfl⟩ ?_
  clear hw hlt hi
  rintro m ev L ⟨i, hi, rfl, hw, rfl, rfl⟩
  conv => whnf
  refine LoadG.at c0 ?_
  conv => whnf
  refine LenG.rd hh ?_
  conv => whnf
  refine CondG.dec (fun hlt => ?_) (fun hlt => ?_)
  · have hi' : i < hs.length := by omega
    obtain ⟨p, hp⟩ : ∃ p, hs[i]? = some p := ⟨hs[i], List.getElem?_eq_getElem hi'⟩
    obtain ⟨hp1, hp2⟩ := pairsC_get hp
    have hpm := List.mem_of_getElem? hp
    obtain ⟨hpr, hpl⟩ := hhv p hpm
    rw [atD_step hp] at hw
    conv => whnf
    refine LoadG.at c0 ?_
    conv => whnf
    refine IdxG.rd hh (by omega) fun b9 o9 hc9 => ?_
    conv => whnf
    refine LoadG.atF (hc9.one (i := i * 2) (u := .string p.key) hp1) ?_
    conv => whnf
    refine CondG.dec (fun he => ?_) (fun he => ?_)
    · rw [if_pos he] at hw
      have hfp : f = (p.bs, 0) := by rw [hf1, ← atD_atL, hw]; rfl
      conv => whnf
      refine LoadG.at c0 ?_
      conv => whnf
      refine IdxG.rd hh (by omega) fun b8 o8 hc8 => ?_
      conv => whnf
      refine LoadG.atF (hc8.one (i := i * 2 + 1) (u := p.v) hp2) ?_
      conv => whnf
      refine CallG.pure (lent_spec _ p.v p.bs (.right hpr _) hpl) ?_
      rintro r _ ⟨hr, rfl⟩
      conv => whnf
      rw [hA]
      refine LoadG.at (.tl (.here rfl)) ?_
      conv => whnf
      obtain ⟨ra, rc, rfl⟩ := hr.len
      refine BuildG.of (cs := [.slice ra (p.bs.length + 40) rc]) rfl ?_
      conv => whnf
      intro b5
      conv => whnf
      refine DoesG.ent (Ent.front 5 rfl) ?_
      refine app_own partsT 62 (m := 1) (ys := [.slice ra (p.bs.length + 40) rc]) (.mk _ _ _ _ _ (Nat.le_refl _) (.tl (.left .all _))) rfl (by simp [Value.oneCell']) (by simp only [maxLen]; omega) (by omega) fun tv2 htv2 _ _ => ?_
      conv => whnf
      obtain ⟨ta, tc, rfl⟩ := htv2.len
      refine StoreG.at rfl (Upd.tl (Upd.tl (Upd.tl (Upd.here (by simp) rfl)))) ?_
      conv => whnf
      have hcap : p.bs.length + 40 ≤ rc := by
        rcases hr with ⟨h, h0⟩ | ⟨g, cap, h, hn⟩
        · omega
        · cases h; exact hn
      refine LoadG.at (.tl (.tl (.tl (.here rfl)))) ?_
      conv => whnf
      refine IdxG.rd hh (by omega) fun b6 o6 hc6 => ?_
      conv => whnf
      refine LoadG.atF (hc6.one (i := i * 2 + 1) (u := p.v) hp2) ?_
      conv => whnf
      refine LenG.rd hpr ?_
      conv => whnf
      refine CondG.dec (fun h4 => ?_) (fun h4 => ?_)
      · conv => whnf
        refine LoadG.at (.tl (.tl (.tl (.here rfl)))) ?_
        conv => whnf
        refine BuildG.of (cs := [.string key]) rfl ?_
        conv => whnf
        intro b4
        conv => whnf
        refine DoesG.ent (Ent.front 6 rfl) ?_
        refine app_own strs7 61 (m := 1) (ys := [.string key]) (.mk _ _ _ _ _ (Nat.le_refl _) (.tl (.left .all _))) rfl (by simp [Value.oneCell']) (by simp only [maxLen]; omega) (by omega) fun gv2 hgv2 _ _ => ?_
        conv => whnf
        obtain ⟨ga, gc, rfl⟩ := hgv2.len
        refine StoreG.at rfl (Upd.tl (Upd.tl (Upd.tl (Upd.tl (Upd.tl (Upd.here (by simp) rfl)))))) ?_
        have ek : keysB good ++ [.string key] = keysB (good ++ [key]) := by simp [keysB]
        have el : (good ++ [key]).length = good.length + 1 := by simp
        rw [ek, ← el]
        rw [← el] at hgv2
        conv => whnf
        refine LoadG.at (.tl (.tl (.tl (.tl (.tl (.here rfl)))))) ?_
        conv => whnf
        refine IdxG.rd hh (by omega) fun b6 o6 hc6 => ?_
        conv => whnf
        refine LoadG.atF (hc6.one (i := i * 2 + 1) (u := p.v) hp2) ?_
        conv => whnf
        refine LenG.rd hpr ?_
        conv => whnf
        refine SlcG.lit ?_
        conv => whnf
        refine SideG.of (by omega) ?_
        conv => whnf
        refine SliceG.zero ?_
        conv => whnf
        rw [hfp]
        refine ⟨_, ?_, .slice ra p.bs.length rc, [], telL t hv nv (.slice ga (good ++ [key]).length gc) (.slice ta (told.length + 1) tc) no (good ++ [key]) (told ++ [(.slice ra (p.bs.length + 40) rc, p.bs)]), ?_, rfl, fun _ => ?_, rfl⟩
        · unfold telL
          simp only [List.length_append, List.length_singleton, List.map_append, List.map_cons, List.map_nil]
          refine (Ent.sel (T := told.map fun p => own 1 p.1 (p.2.length + 40) (bvs (lentB p.2))) (A := [_, _, _, _, _, _, _]) [5, 6, 0, 2, 4] rfl).trans (Ent.under (Ent.perm ?_) [_, _, _, _])
          exact List.perm_append_comm (l₁ := [own 1 (.slice ra (p.bs.length + 40) rc) (p.bs.length + 40) (bvs (lentB p.bs))]) (l₂ := told.map fun p => own 1 p.1 (p.2.length + 40) (bvs (lentB p.2)))
        · rw [if_pos ⟨rfl, show p.bs.length ≤ 4096 by omega⟩]
          refine ⟨nv, _, _, _, hnv, hgv2, ?_, ?_, ?_, rfl⟩
          · rw [List.length_append]; exact htv2
          · rw [List.length_append]; exact Nat.le_refl _
          · intro q hq
            rcases List.mem_append.1 hq with hq | hq
            · exact hto q hq
            · rw [List.mem_singleton.1 hq]; exact ⟨hr, hpl⟩
        · have h3 : RdS (telL t hv nv (.slice ga (good ++ [key]).length gc) (.slice ta (told.length + 1) tc) no (good ++ [key]) (told ++ [(.slice ra (p.bs.length + 40) rc, p.bs)])) (.slice ra (p.bs.length + 40) rc) (p.bs.length + 40) (bvs (lentB p.bs)) := by
            have hm : ((told ++ [((Value.slice ra (p.bs.length + 40) rc), p.bs)]).map fun p : Value × List Nat => own 1 p.1 (p.2.length + 40) (bvs (lentB p.2))) = (told.map fun p => own 1 p.1 (p.2.length + 40) (bvs (lentB p.2))) ++ [own 1 (.slice ra (p.bs.length + 40) rc) (p.bs.length + 40) (bvs (lentB p.bs))] := by rw [List.map_append]; rfl
            unfold telL
            rw [hm]
            exact .tl (.tl (.tl (.tl (.right (own_rd hr (by rw [bvs_len, lentB_len, Nat.mul_one])) _))))
          have h4 := RdS.take h3 (k := p.bs.length) (by omega) (by rw [bvs_len, lentB_len])
          have e : (bvs (lentB p.bs)).take p.bs.length = bvs p.bs := by rw [bvs, ← List.map_take, lentB, List.take_left' rfl]; rfl
          rw [e] at h4
          exact h4
      · conv => whnf
        refine LoadG.at (.tl (.tl (.tl (.here rfl)))) ?_
        conv => whnf
        refine IdxG.rd hh (by omega) fun b6 o6 hc6 => ?_
        conv => whnf
        refine LoadG.atF (hc6.one (i := i * 2 + 1) (u := p.v) hp2) ?_
        conv => whnf
        refine LenG.rd hpr ?_
        conv => whnf
        refine SlcG.lit ?_
        conv => whnf
        refine SideG.of (by omega) ?_
        conv => whnf
        refine SliceG.zero ?_
        conv => whnf
        rw [hfp]
        refine ⟨_, ?_, .slice ra p.bs.length rc, [], telL t hv nv gv (.slice ta (told.length + 1) tc) no good (told ++ [(.slice ra (p.bs.length + 40) rc, p.bs)]), ?_, rfl, fun _ => ?_, rfl⟩
        · unfold telL
          simp only [List.length_append, List.length_singleton, List.map_append, List.map_cons, List.map_nil]
          refine (Ent.sel (T := told.map fun p => own 1 p.1 (p.2.length + 40) (bvs (lentB p.2))) (A := [_, _, _, _, _, _]) [3, 4, 5, 0, 2] rfl).trans (Ent.under (Ent.perm ?_) [_, _, _, _])
          exact List.perm_append_comm (l₁ := [own 1 (.slice ra (p.bs.length + 40) rc) (p.bs.length + 40) (bvs (lentB p.bs))]) (l₂ := told.map fun p => own 1 p.1 (p.2.length + 40) (bvs (lentB p.2)))
        · rw [if_neg (fun h => h4 (by have h5 : p.bs.length ≤ 4096 := h.2; omega))]
          refine ⟨nv, _, _, _, hnv, hg, ?_, ?_, ?_, rfl⟩
          · rw [List.length_append]; exact htv2
          · rw [List.length_append]; exact Nat.le_refl _
          · intro q hq
            rcases List.mem_append.1 hq with hq | hq
            · exact hto q hq
            · rw [List.mem_singleton.1 hq]; exact ⟨hr, hpl⟩
        · have h3 : RdS (telL t hv nv gv (.slice ta (told.length + 1) tc) no good (told ++ [(.slice ra (p.bs.length + 40) rc, p.bs)])) (.slice ra (p.bs.length + 40) rc) (p.bs.length + 40) (bvs (lentB p.bs)) := by
            have hm : ((told ++ [((Value.slice ra (p.bs.length + 40) rc), p.bs)]).map fun p : Value × List Nat => own 1 p.1 (p.2.length + 40) (bvs (lentB p.2))) = (told.map fun p => own 1 p.1 (p.2.length + 40) (bvs (lentB p.2))) ++ [own 1 (.slice ra (p.bs.length + 40) rc) (p.bs.length + 40) (bvs (lentB p.bs))] := by rw [List.map_append]; rfl
            unfold telL
            rw [hm]
            exact .tl (.tl (.tl (.tl (.right (own_rd hr (by rw [bvs_len, lentB_len, Nat.mul_one])) _))))
          have h4 := RdS.take h3 (k := p.bs.length) (by omega) (by rw [bvs_len, lentB_len])
          have e : (bvs (lentB p.bs)).take p.bs.length = bvs p.bs := by rw [bvs, ← List.map_take, lentB, List.take_left' rfl]; rfl
          rw [e] at h4
          exact h4
    · rw [if_neg he] at hw
      conv => whnf
      refine ArithG.i64' ((i + 1 : Nat) : Int) (by omega) (by omega) ?_
      conv => whnf
      exact ⟨hs.length - (i + 1), [(0, .pointer (some ⟨t, 0, none⟩)), (1, .string key), (4, .slice none 0 0), (5, .int .i64 0), (6, .int .i64 0), (8, .int .i64 ((i + 1 : Nat) : Int))], _, by omega, ⟨rfl, rfl, rfl, rfl, rfl, rfl, trivial⟩, Ent.refl _, i + 1, by omega, rfl, hw, rfl, rfl⟩
  · obtain rfl : i = hs.length := by omega
    rw [List.drop_length] at hw
    have hfp : f = ([], 0) := by rw [hf1, ← atD_atL, hw]; rfl
    conv => whnf
    rw [hA]
    refine LoadG.at (.here rfl) ?_
    conv => whnf
    refine BuildG.of (cs := [.string key]) rfl ?_
    conv => whnf
    intro b5
    conv => whnf
    refine DoesG.ent (Ent.front 3 rfl) ?_
    refine app_own strs7 61 (m := 1) (ys := [.string key]) (.mk _ _ _ _ _ (Nat.le_refl _) (.tl (.left .all _))) rfl (by simp [Value.oneCell']) (by simp only [maxLen]; omega) (by omega) fun gv2 hgv2 _ _ => ?_
    conv => whnf
    obtain ⟨ga, gc, rfl⟩ := hgv2.len
    refine StoreG.at rfl (Upd.tl (Upd.tl (Upd.here (by simp) rfl))) ?_
    conv => whnf
    have ek : keysB good ++ [.string key] = keysB (good ++ [key]) := by simp [keysB]
    have el : (good ++ [key]).length = good.length + 1 := by simp
    rw [hfp]
    refine ⟨_, ?_, .slice none 0 0, [], telL t hv nv (.slice ga (good.length + 1) gc) tv no (good ++ [key]) told, ?_, rfl, fun _ => .nil, rfl⟩
    · rw [ek]
      unfold telL
      rw [el]
      exact Ent.sel (T := told.map fun p => own 1 p.1 (p.2.length + 40) (bvs (lentB p.2))) (A := [_, _, _, _, _]) [2, 3, 0, 4] rfl
    · rw [if_pos ⟨rfl, Nat.zero_le _⟩]
      exact ⟨nv, _, tv, told, hnv, by rw [el]; exact hgv2, htv, Nat.le_succ _, hto, rfl⟩
end Go.Proofs.YtnbcbdlbejdkpaaGreatDoor
