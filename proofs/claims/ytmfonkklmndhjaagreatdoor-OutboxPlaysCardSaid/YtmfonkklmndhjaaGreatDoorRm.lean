import Derived.Test.YtmfonkklmndhjaaGreatDoorSc
import Derived.Test.YtmfonkklmndhjaaGreatDoorZTw
namespace Go.Proofs.YtmfonkklmndhjaaGreatDoor
open Go Go.Sl Go.Sort
section
variable {R : RSt} {T : List HP} {Φ : List HP → Prop} {f : List Nat × Int}
theorem ask_h (F : List HP) (s : Nat) (src : Value) (c : StC) (hc : IsR R c) (key : ByteArray) (hk : mayI key 0 = 0) (hs : (atL R.told key).isSome = false → SrcH Tryz.prog F src key T f Φ) :
 SpecF Tryz.prog 69 [.pointer (some ⟨s, 0, none⟩), .string key] F (c.pieces 70 s src ++ T) (fun r L => ∃ c' T', behind R key T Φ T' ∧ IsR (askQ f R key) c' ∧ r = .int .i64 (askI f R key) ∧ L = c'.pieces 70 s src ++ T') := by
 refine fun69.spec rfl ?_
 conv=>whnf
 refine LoadG.at (.here rfl) ?_
 conv=>whnf
 refine DoesG.look strT mapT zeroB trivial (MapG.left (.tl .here) F) true ?_
 rw [getM_kv]
 conv=>whnf
 have hto := hc.told key
 refine CondG.split (fun h1 => ?_) (fun h1 => ?_)
 ·have h1' : (atL R.told key).isSome = true := by rw [← hto]; simpa using h1
  have e0 : askI f R key = 0 := by unfold askI; rw [if_pos h1']
  have e1 : askQ f R key = R := by unfold askQ; rw [if_pos h1']
  have e2 : behind R key T Φ T := by unfold behind asksQ; rw [h1']; simp
  conv=>whnf
  rw [e0, e1]
  exact ret_here ⟨c, T, e2, hc, rfl, rfl⟩
 have hg : getK c.has key = none := by
  cases hg : getK c.has key with
  | none => rfl
  | some vb => rw [hg] at h1; cases h1
 have h1' : (atL R.told key).isSome = false := by rw [← hto, hg]; rfl
 obtain ⟨t, u, g, r0, rfl, hm, hcO, hspec⟩ := (hs h1').out
 have e2 : ∀ T', Φ T' → behind R key T Φ T' := fun T' h => by unfold behind asksQ; rw [h1', hk]; simpa using h
 conv=>whnf
 refine LoadG.at (.here rfl) ?_
 conv=>whnf
 refine InvG.mk g r0 hm hcO ?_
 refine CallG.of (pre := T) (rest := c.pieces 70 s (.iface t u)) (hspec _) (swapE (c.pieces 70 s (.iface t u)) T) ?_
 rintro _ _ ⟨x, D, T', hT', rfl, hrx, rfl⟩
 conv=>whnf
 refine CondG.ndec (fun h2 => ?_) (fun h2 => ?_)
 ·have e0 : askI f R key = f.2 := by unfold askI; rw [if_neg (by rw [h1']; decide), if_pos h2]
  have e1 := askQ_fail (R := R) (k := key) (find := f) (by rw [e0]; exact h2)
  conv=>whnf
  rw [e0]
  refine ⟨_, ?_, c, T', e2 T' hT', by rw [e1]; exact hc.bad _, rfl, rfl⟩
  rw [List.append_assoc]
  exact (Ent.dropR D (T' ++ c.pieces 70 s (.iface t u))).trans (swapE T' (c.pieces 70 s (.iface t u)))
 have hrx := hrx h2
 conv=>whnf
 refine LenG.rd hrx ?_
 conv=>whnf
 refine CondG.dec (fun h3 => ?_) (fun h3 => ?_)
 ·have e0 : askI f R key = 71 := by unfold askI; rw [if_neg (by rw [h1']; decide), if_neg (fun h => h h2), if_pos (by omega)]
  have e1 := askQ_fail (R := R) (k := key) (find := f) (by rw [e0]; decide)
  conv=>whnf
  rw [e0]
  refine ⟨_, ?_, c, T', e2 T' hT', by rw [e1]; exact hc.bad _, rfl, rfl⟩
  rw [List.append_assoc]
  exact (Ent.dropR D (T' ++ c.pieces 70 s (.iface t u))).trans (swapE T' (c.pieces 70 s (.iface t u)))
 have e0 : askI f R key = 0 := by unfold askI; rw [if_neg (by rw [h1']; decide), if_neg (fun h => h h2), if_neg (by omega)]
 conv=>whnf
 refine DrawG.mk 7 (c.pieces 70 s (.iface t u)) (D ++ T') (Ent.refl _) ?_
 conv=>whnf
 refine .take 0 ?_
 conv=>whnf
 refine ⟨rfl, ?_⟩
 conv=>whnf
 refine .take 1 ?_
 conv=>whnf
 refine ⟨rfl, ?_⟩
 conv=>whnf
 refine .take 2 ?_
 conv=>whnf
 refine ⟨rfl, ?_⟩
 conv=>whnf
 refine .take 3 ?_
 conv=>whnf
 refine ⟨rfl, ?_⟩
 conv=>whnf
 refine LoadG.at (.here rfl) ?_
 conv=>whnf
 refine .take 4 ?_
 conv=>whnf
 refine ⟨rfl, ?_⟩
 conv=>whnf
 refine .take 5 ?_
 conv=>whnf
 refine ⟨rfl, ?_⟩
 conv=>whnf
 refine .all ?_
 conv=>whnf
 refine ⟨by decide, ?_⟩
 conv=>whnf
 refine CallG.pure (clone_spec _ x f.1 (by omega) (hrx.left _)) ?_
 rintro r _ ⟨hr, rfl, _⟩
 conv=>whnf
 refine .all ?_
 conv=>whnf
 refine ⟨by decide, ?_⟩
 conv=>whnf
 refine ⟨rfl, ?_⟩
 conv=>whnf
 refine DoesG.ent (Ent.cons _ (swapE (D ++ T') (c.pieces 70 s (.iface t u)))) ?_
 refine DoesG.ent (Ent.front 2 rfl) ?_
 refine DoesG.upd strT mapT trivial ?_
 rw [putM_kv c.has key r f.1]
 conv=>whnf
 refine ⟨rfl, ?_⟩
 conv=>whnf
 have hask : AskOk (fun _ => f) c key { c with has := putK c.has key r f.1 } := ⟨.inr ⟨hg, r, hr, by omega, rfl⟩⟩
 rw [e0]
 refine ⟨_, ?_, _, T', e2 T' hT', hc.ask (find := fun _ => f) hk e0 hask, rfl, rfl⟩
 refine (Ent.sel (T := (kvS c.has ++ (kvS c.now ++ stepsS c.steps)) ++ (D ++ T')) (A := [_, _, _, _, _, _]) [2, 0, 3, 4, 5, 1] rfl).trans (Ent.under ?_ [_, _, _, _, _])
 exact (Ent.under (Ent.dropR D T') (own 1 r f.1.length (bvs f.1) :: (kvS c.has ++ (kvS c.now ++ stepsS c.steps)))).trans (Ent.app ((sh_of_own rfl).trans kvS_put) T')
theorem value_h (F : List HP) (s : Nat) (src : Value) (c : StC) (key : ByteArray) (M : List HP) : SpecF Tryz.prog 52 [.pointer (some ⟨s, 0, none⟩), .string key] ((c.pieces 70 s src ++ M) ++ F) [] (fun r L => r = c.valV key ∧ L = []) := by
 rw [List.append_assoc]
 exact value_spec (M ++ F) s src c key []
theorem get_h (F : List HP) (s : Nat) (src : Value) (key : ByteArray) (hs : mayI key 0 = 0 → (atL R.told key).isSome = false → SrcH Tryz.prog F src key T f Φ) :
 SpecF Tryz.prog 62 [.pointer (some ⟨s, 0, none⟩), .string key] F (stR 70 s src R :: T) (fun r L => ∃ x T', behind R key T Φ T' ∧ SlV x (getQ f R key).1.1.length ∧ r = .tuple #[x, .int .i64 (getQ f R key).1.2] ∧
  L = own 1 x (getQ f R key).1.1.length (bvs (getQ f R key).1.1) :: stR 70 s src (getQ f R key).2 :: T') := by
 refine SpecF.unpack fun c hc => ?_
 refine fun62.spec rfl ?_
 conv=>whnf
 refine CallG.pure (smay_spec _ key (.slice none 0 0) 0 (.inl ⟨rfl, rfl⟩) (by decide)) ?_
 rintro _ _ ⟨rfl, rfl⟩
 conv=>whnf
 refine CondG.ndec (fun h1 => ?_) (fun h1 => ?_)
 ·have e1 : getQ f R key = (([], mayI key 0), R) := by unfold getQ; rw [if_pos h1]
  have e2 : behind R key T Φ T := by unfold behind asksQ; rw [decide_eq_false h1]; simp
  conv=>whnf
  rw [e1]
  exact ⟨_, fun w G hs => Sat.own_nil (Ent.pack (ls := fun c => StC.pieces 70 s src c) hc w G hs), .slice none 0 0, T, e2, .inl ⟨rfl, rfl⟩, rfl, rfl⟩
 conv=>whnf
 refine CallG.of (rest := []) (ask_h F s src c hc key h1 (hs h1)) (by rw [List.append_nil]; exact Ent.refl _) ?_
 rintro _ _ ⟨c', T2, hT2, hc', rfl, rfl⟩
 rw [List.append_nil]
 conv=>whnf
 refine CondG.ndec (fun h2 => ?_) (fun h2 => ?_)
 ·have e1 : getQ f R key = (([], askI f R key), askQ f R key) := by unfold getQ; rw [if_neg (fun h => h h1), if_neg h2]
  conv=>whnf
  rw [e1]
  exact ⟨_, fun w G hs => Sat.own_nil (Ent.pack (ls := fun c => StC.pieces 70 s src c) hc' w G hs), .slice none 0 0, T2, hT2, .inl ⟨rfl, rfl⟩, rfl, rfl⟩
 have e1 : getQ f R key = (((askQ f R key).val key, askI f R key), askQ f R key) := by unfold getQ; rw [if_neg (fun h => h h1), if_pos h2]
 rw [e1]
 conv=>whnf
 refine CallG.pure (value_h F s src c' key T2) ?_
 rintro _ _ ⟨rfl, rfl⟩
 conv=>whnf
 obtain ⟨hrd, hsl, hle⟩ := StC.rd (T := 70) (s := s) (src := src) (key := key) hc'.wf
 rw [hc'.val] at hrd hsl hle
 refine CallG.pure (clone_spec _ (c'.valV key) ((askQ f R key).val key) (by omega) (.left (.left hrd _) F)) ?_
 rintro x _ ⟨hx, rfl, _⟩
 conv=>whnf
 rw [h2]
 exact ⟨_, Ent.cons _ (Ent.pack (ls := fun c => StC.pieces 70 s src c) hc'), x, T2, hT2, hx, rfl, rfl⟩
theorem put_h (F : List HP) (s : Nat) (src : Value) (key : ByteArray) (v : Value) (bs : List Nat) (hs : mayI key 0 = 0 → (atL R.told key).isSome = false → SrcH Tryz.prog F src key T f Φ) (hr : RdS F v bs.length (bvs bs)) (hst : R.steps.length ≤ 4398046511104) :
 SpecF Tryz.prog 40 [.pointer (some ⟨s, 0, none⟩), .string key, v] F (stR 70 s src R :: T) (fun r L => ∃ T', (if mayI key bs.length = 0 then behind R key T Φ T' else T' = T) ∧ r = .int .i64 (putQ f R key bs).1 ∧ L = stR 70 s src (putQ f R key bs).2 :: T') := by
 refine SpecF.unpack fun c hc => ?_
 refine fun40.spec rfl ?_
 conv=>whnf
 refine CallG.pure (smay_spec_r _ key v bs.length hr.len) ?_
 rintro _ _ ⟨rfl, rfl⟩
 conv=>whnf
 refine CondG.ndec (fun h1 => ?_) (fun h1 => ?_)
 ·have e1 : putQ f R key bs = (mayI key bs.length, R) := by unfold putQ; rw [if_pos h1]
  conv=>whnf
  rw [e1]
  exact ⟨_, Ent.pack (ls := fun c => StC.pieces 70 s src c) hc, T, by rw [if_neg h1], rfl, rfl⟩
 obtain ⟨hbl, hk0⟩ := mayI_le h1
 conv=>whnf
 refine CallG.of (rest := []) (ask_h F s src c hc key hk0 (hs hk0)) (by rw [List.append_nil]; exact Ent.refl _) ?_
 rintro _ _ ⟨c', T2, hT2, hc', rfl, rfl⟩
 rw [List.append_nil]
 conv=>whnf
 refine CondG.ndec (fun h2 => ?_) (fun h2 => ?_)
 ·have e1 : putQ f R key bs = (askI f R key, askQ f R key) := by unfold putQ; rw [if_neg (fun h => h h1), if_neg h2]
  conv=>whnf
  rw [e1]
  exact ⟨_, Ent.pack (ls := fun c => StC.pieces 70 s src c) hc', T2, by rw [if_pos h1]; exact hT2, rfl, rfl⟩
 have e1 : putQ f R key bs = (askI f R key, { askQ f R key with steps := (askQ f R key).steps ++ [(key, bs)] }) := by unfold putQ; rw [if_neg (fun h => h h1), if_pos h2]
 rw [e1, h2]
 have hst' : c'.steps.length ≤ 4398046511104 := by
  rw [hc'.len]
  rw [(askQ_steps (R := R) (f := f) (key := key)).1]
  exact hst
 have hw' := hc'.wf
 conv=>whnf
 refine LoadG.at (.here rfl) ?_
 conv=>whnf
 refine DoesG.look strT mapT zeroB trivial (MapG.left (.tl (.tl .here)) F) true ?_
 rw [getM_kv]
 have ew : ((Option.map (fun x => x.1) (getK c'.now key)).getD (.slice none 0 0)) = (c'.was key).was := by
  unfold StC.was
  cases getK c'.now key <;> rfl
 have el : (Option.map (fun x => x.1) (getK c'.now key)).isSome = (c'.was key).laid := by
  unfold StC.was
  cases getK c'.now key <;> rfl
 rw [ew, el]
 obtain ⟨ra, rc, hre⟩ := (StC.was_wf (key := key) hw').1.len
 conv=>whnf
 refine LoadG.at (.here rfl) ?_
 conv=>whnf
 refine BuildG.of (cs := (c'.was key).cells) ?_ ?_
 ·have ek : (c'.was key).key = key := by
   unfold StC.was
   cases getK c'.now key <;> rfl
  simp only [StepC.cells, ek, hre]
  rfl
 conv=>whnf
 refine BuildG.of (cs := (c'.was key).cells) rfl ?_
 conv=>whnf
 intro b1
 conv=>whnf
 refine DoesG.ent (Ent.front 4 rfl) ?_
 refine app_ownW stepsT 67 (m := 1) (ys := (c'.was key).cells) (.mk _ _ _ _ _ (by decide) (.tl (.left .all _))) rfl (by simp [StepC.cells, hre, Value.oneCell']) (by simp only [maxLen]; omega) (.wide (by omega)) fun sv hsv hsl hnil => ?_
 obtain ⟨sa, sc, hse⟩ := hsv.len
 subst hse
 rw [← stepsC_app] at hsl ⊢
 conv=>whnf
 refine StoreG.at rfl (Upd.tl (Upd.tl (Upd.here (by simp) rfl))) ?_
 conv=>whnf
 refine DrawG.mk 7 _ [] (Ent.refl _) ?_
 conv=>whnf
 refine .take 0 ?_
 conv=>whnf
 refine ⟨rfl, ?_⟩
 conv=>whnf
 refine .take 1 ?_
 conv=>whnf
 refine ⟨rfl, ?_⟩
 conv=>whnf
 refine .take 2 ?_
 conv=>whnf
 refine ⟨rfl, ?_⟩
 conv=>whnf
 refine .take 3 ?_
 conv=>whnf
 refine ⟨rfl, ?_⟩
 conv=>whnf
 refine LoadG.at (.tl (.tl (.here rfl))) ?_
 conv=>whnf
 refine .take 4 ?_
 conv=>whnf
 refine ⟨rfl, ?_⟩
 conv=>whnf
 refine .take 5 ?_
 conv=>whnf
 refine ⟨rfl, ?_⟩
 conv=>whnf
 refine .all ?_
 conv=>whnf
 refine ⟨by decide, ?_⟩
 conv=>whnf
 refine CallG.pure (clone_spec _ v bs (by omega) (.right (.right hr _) _)) ?_
 rintro r _ ⟨hr', rfl, _⟩
 conv=>whnf
 refine .all ?_
 conv=>whnf
 refine ⟨by decide, ?_⟩
 conv=>whnf
 refine ⟨rfl, ?_⟩
 conv=>whnf
 refine DoesG.ent (Ent.front 5 rfl) ?_
 refine DoesG.upd strT mapT trivial ?_
 rw [putM_kv c'.now key r bs]
 conv=>whnf
 refine ⟨rfl, ?_⟩
 conv=>whnf
 have hat : IsR { askQ f R key with steps := (askQ f R key).steps ++ [(key, bs)] } (c'.put key r bs (.slice sa (c'.steps.length + 1) sc)) := hc'.put hr' hbl
 refine ⟨_, Ent.trans ?_ (Ent.pack (ls := fun c => StC.pieces 70 s src c) hat), T2, by rw [if_pos h1]; exact hT2, rfl, rfl⟩
 have e5 : stepsS (c'.steps ++ [c'.was key]) = stepsS c'.steps ++ [sh (c'.was key).was (c'.was key).bs] := by simp [stepsS]
 have e6 : (c'.steps ++ [c'.was key]).length = c'.steps.length + 1 := by simp
 simp only [StC.pieces, StC.put, e5, e6]
 refine (Ent.sel (T := (kvS c'.has ++ (kvS c'.now ++ stepsS c'.steps)) ++ T2) [4, 5, 0, 2, 6, 1] (A := [_, _, _, _, _, _, _]) rfl).trans (Ent.under ?_ [_, _, _, _, _])
 refine Ent.app (l := own 1 r bs.length (bvs bs) :: (kvS c'.has ++ (kvS c'.now ++ stepsS c'.steps))) ?_ T2
 refine (sh_of_own rfl).trans ?_
 refine (StC.was_ent (A := sh r bs :: kvS c'.has) (key := key)).trans ?_
 refine (Ent.perm ?_).trans (Ent.under kvS_put (kvS c'.has))
 exact perm_laid
end
end Go.Proofs.YtmfonkklmndhjaaGreatDoor
namespace Go.Proofs.YtmfonkklmndhjaaGreatDoor
open Go Go.Sl Go.Sort
section
variable {R : RSt}
theorem mark_h (F : List HP) (s : Nat) (src : Value) (hn : R.steps.length ≤ 4398046511104) (hh : R.marks.length ≤ 4398046511104) :
 SpecF Tryz.prog 22 [.pointer (some ⟨s, 0, none⟩)] F [stR 70 s src R] (fun r L => r = .int .i64 (markQ R).1 ∧ L = [stR 70 s src (markQ R).2]) := by
 refine SpecF.unpack0 fun c hc => ?_
 refine SpecF.ownV 3 rfl fun hsv _ => ?_
 refine SpecF.ownV 4 rfl fun hmv hml => ?_
 have hst := hc.len
 have hmk : c.marks.length = R.marks.length := by rw [hc.marks]
 refine fun22.spec rfl ?_
 conv=>whnf
 refine DrawG.mk 14 (cel s 70 [src, .map (some c.hb), .map (some c.nb), c.sv, c.mv] :: mapS c.hb (kvM c.has) :: mapS c.nb (kvM c.now) :: own 3 c.sv c.steps.length (stepsC c.steps) :: (kvS c.has ++ (kvS c.now ++ stepsS c.steps))) [own 1 c.mv c.marks.length (c.marks.map fun n : Nat => Value.int .i64 n)] (Ent.front 4 rfl) ?_
 conv=>whnf
 refine .take 0 ?_
 conv=>whnf
 refine ⟨rfl, ?_⟩
 conv=>whnf
 refine .take 1 ?_
 conv=>whnf
 refine ⟨rfl, ?_⟩
 conv=>whnf
 refine .take 2 ?_
 conv=>whnf
 refine ⟨rfl, ?_⟩
 conv=>whnf
 refine .take 3 ?_
 conv=>whnf
 refine ⟨rfl, ?_⟩
 conv=>whnf
 refine .take 4 ?_
 conv=>whnf
 refine ⟨rfl, ?_⟩
 conv=>whnf
 refine LoadG.at (.here rfl) ?_
 conv=>whnf
 refine .take 5 ?_
 conv=>whnf
 refine ⟨rfl, ?_⟩
 conv=>whnf
 refine .take 6 ?_
 conv=>whnf
 refine ⟨rfl, ?_⟩
 conv=>whnf
 refine .take 7 ?_
 conv=>whnf
 refine ⟨rfl, ?_⟩
 conv=>whnf
 refine .take 8 ?_
 conv=>whnf
 refine ⟨rfl, ?_⟩
 conv=>whnf
 refine LoadG.at (.here rfl) ?_
 conv=>whnf
 refine .take 9 ?_
 conv=>whnf
 refine ⟨rfl, ?_⟩
 conv=>whnf
 refine LenG.sl hsv ?_
 conv=>whnf
 refine .all ?_
 conv=>whnf
 refine ⟨by decide, ?_⟩
 conv=>whnf
 refine BuildG.of rfl ?_
 conv=>whnf
 intro b
 conv=>whnf
 refine .all ?_
 conv=>whnf
 refine ⟨by decide, ?_⟩
 conv=>whnf
 refine DoesG.ent (Ent.front 1 rfl) ?_
 refine app_own intsK 68 (m := 1) (ys := [.int .i64 c.steps.length]) (.mk _ _ _ _ _ (Nat.le_refl _) (.tl (.left .all _))) rfl (by simp [Value.oneCell']) (by simp only [maxLen]; omega) (by omega) fun mv hmv' hml' _ => ?_
 conv=>whnf
 refine .all ?_
 conv=>whnf
 refine ⟨by decide, ?_⟩
 conv=>whnf
 refine .all ?_
 conv=>whnf
 refine ⟨by decide, ?_⟩
 conv=>whnf
 refine .all ?_
 conv=>whnf
 refine ⟨by decide, ?_⟩
 conv=>whnf
 refine ⟨rfl, ?_⟩
 obtain ⟨ma, mc, rfl⟩ := hmv'.len
 conv=>whnf
 refine StoreG.at rfl (Upd.tl (Upd.tl (Upd.here (by simp) rfl))) ?_
 conv=>whnf
 refine ⟨rfl, ?_⟩
 conv=>whnf
 refine LoadG.at (.tl (.tl (.here rfl))) ?_
 conv=>whnf
 refine LenG.lit ?_
 conv=>whnf
 refine ArithG.i64' (R.marks.length : Int) (by rw [hmk]; omega) (by omega) ?_
 conv=>whnf
 obtain ⟨c', hc'⟩ : ∃ z, z = { c with marks := c.marks ++ [c.steps.length], mv := .slice ma (c.marks.length + 1) mc } := ⟨_, rfl⟩
 have hat : IsR (markQ R).2 c' := hc.mark (by rw [hc']) (by rw [hc']) (by rw [hc']) (by rw [hc']) (by rw [hc']; exact ⟨hc.wf.has, hc.wf.now, hc.wf.steps⟩)
 refine ⟨_, ?_, rfl, rfl⟩
 refine Ent.trans ?_ (Ent.pack0 (ls := fun c => StC.pieces 70 s src c) hat)
 rw [hc']
 simp only [StC.pieces, List.length_append, List.length_cons, List.length_nil, List.map_append, List.map_cons, List.map_nil]
 exact Ent.sel (T := kvS c.has ++ (kvS c.now ++ stepsS c.steps)) (A := [_, _, _, _, _, _]) [2, 3, 4, 5, 0] rfl
theorem back_h (F : List HP) (s : Nat) (src : Value) (hn : R.steps.length ≤ 4398046511104) (hh : R.marks.length ≤ 4398046511104) (m : Int) (hm1 : -9223372036854775808 ≤ m) (hm2 : m ≤ 9223372036854775807) :
 SpecF Tryz.prog 24 [.pointer (some ⟨s, 0, none⟩), .int .i64 m] F [stR 70 s src R] (fun r L => r = .int .i64 (backQ R m).1 ∧ L = [stR 70 s src (backQ R m).2]) := by
 refine SpecF.unpack0 fun c hc => ?_
 refine SpecF.ownV 3 rfl fun hsv hsl => ?_
 refine SpecF.ownV 4 rfl fun hmv hml => ?_
 have hst := hc.len
 have hmk : c.marks.length = R.marks.length := by rw [hc.marks]
 obtain ⟨sa, sc, hsv2⟩ := hsv.len
 obtain ⟨ma, mc, hmv2⟩ := hmv.len
 refine fun24.spec rfl ?_
 conv=>whnf
 refine CondG.dec (fun h1 => ?_) (fun h1 => ?_)
 ·have e1 : backQ R m = (72, R) := by unfold backQ; rw [if_pos (.inl h1)]
  rw [e1]
  (conv=>whnf);refine .tt ?_;(conv=>whnf);refine .tt ?_;(conv=>whnf);refine .tt ?_;(conv=>whnf);refine .tt ?_;(conv=>whnf);refine .tt ?_;(conv=>whnf);refine .tt ?_;(conv=>whnf);refine .tt ?_;(conv=>whnf);refine .tt ?_;(conv=>whnf)
  exact ⟨_, Ent.pack0 (ls := fun c => StC.pieces 70 s src c) hc, rfl, rfl⟩
 (conv=>whnf);refine .ff ?_;(conv=>whnf);refine .ff ?_;(conv=>whnf);refine .ff ?_;(conv=>whnf);refine .ff ?_;(conv=>whnf)
 refine LoadG.at (.here rfl) ?_
 (conv=>whnf);refine .ff ?_;(conv=>whnf)
 refine LenG.sl hmv ?_
 (conv=>whnf);refine .ff ?_;(conv=>whnf);refine .ff ?_;(conv=>whnf)
 refine CondG.dec (fun h2 => ?_) (fun h2 => ?_)
 ·have e1 : backQ R m = (72, R) := by unfold backQ; rw [if_pos (.inr (by omega))]
  rw [e1]
  conv=>whnf
  exact ⟨_, Ent.pack0 (ls := fun c => StC.pieces 70 s src c) hc, rfl, rfl⟩
 have hlt : m.toNat < c.marks.length := by omega
 obtain ⟨k, rfl⟩ : ∃ k : Nat, m = k := ⟨m.toNat, (Int.toNat_of_nonneg (by omega)).symm⟩
 rw [Int.toNat_natCast] at hlt
 obtain ⟨at_, hat⟩ : ∃ a, c.marks[k]? = some a := ⟨c.marks[k], List.getElem?_eq_getElem hlt⟩
 have hle : at_ ≤ c.steps.length := by
  rw [hst]
  exact hc.top at_ (by rw [← hc.marks]; exact List.mem_of_getElem? hat)
 conv=>whnf
 refine LoadG.at (.here rfl) ?_
 conv=>whnf
 refine IdxG.rd (L := c.pieces 70 s src) (.tl (.tl (.tl (.tl (own_rd hmv hml))))) (by omega) fun b o hcl => ?_
 conv=>whnf
 refine LoadG.at (hcl.one (u := .int .i64 at_) (by rw [Int.toNat_natCast, Nat.mul_one, List.getElem?_map, hat]; rfl)) ?_
 conv=>whnf
 refine LoadG.at (.here rfl) ?_
 conv=>whnf
 refine LenG.sl hsv ?_
 conv=>whnf
 refine ArithG.i64 (by omega) ?_
 conv=>whnf
 refine LoopG.mk (fun i ev L => ∃ (nw : List (KV ByteArray)), at_ ≤ i ∧ i ≤ c.steps.length ∧ nowFun nw = undoTo c.steps i c.nowF ∧ (∀ p ∈ nw, SlV p.2.1 p.2.2.length ∧ p.2.2.length ≤ 4096) ∧
  ev = [(0, .pointer (some ⟨s, 0, none⟩)), (1, .int .i64 k), (4, .int .i64 0), (5, .int .i64 at_), (6, .int .i64 ((i : Int) - 1))] ∧ L = ({ c with now := nw } : StC).pieces 70 s src) c.steps.length
  [(0, .pointer (some ⟨s, 0, none⟩)), (1, .int .i64 k), (4, .int .i64 0), (5, .int .i64 at_), (6, .int .i64 ((c.steps.length : Int) - 1))] _ ⟨rfl, rfl, rfl, rfl, rfl, trivial⟩ (Ent.refl _)
  ⟨c.now, hle, Nat.le_refl _, (undoTo_all (Nat.le_refl _) _).symm, hc.wf.now, rfl, rfl⟩ ?_
 rintro i ev L ⟨nw, hi1, hi2, hnw, hwn, rfl, rfl⟩
 conv=>whnf
 refine CondG.dec (fun h3 => ?_) (fun h3 => ?_)
 ·obtain ⟨j, rfl⟩ : ∃ j, i = j + 1 := ⟨i - 1, by omega⟩
  obtain ⟨x, hx⟩ : ∃ x, c.steps[j]? = some x := ⟨c.steps[j], List.getElem?_eq_getElem (by omega)⟩
  have hxm := List.mem_of_getElem? hx
  obtain ⟨hxs, hxl⟩ := hc.wf.steps x hxm
  have hback : nowFun (backK x nw) = undoTo c.steps j c.nowF := by rw [backK_fun, hnw, ← undoTo_step hx]
  conv=>whnf
  refine LoadG.at (.here rfl) ?_
  conv=>whnf
  refine IdxG.rd (L := ({ c with now := nw } : StC).pieces 70 s src) (n := c.steps.length) (cs := stepsC c.steps) (.tl (.tl (.tl (own_rd hsv hsl)))) (by omega) fun b o hcl => ?_
  conv=>whnf
  have hjn : (((j + 1 : Nat) : Int) - 1).toNat = j := by omega
  refine LoadNG.at (vs := x.cells) rfl (by rw [hjn]; exact hcl.part (i := j * 3) (stepsC_at hx)) ?_
  conv=>whnf
  intro b7
  conv=>whnf
  obtain ⟨xa, xc, hxw⟩ := hxs.len
  refine StoreG.at (cs := x.cells) rfl (Upd.whole (by rfl) (by simp [StepC.cells, Value.oneCell', hxw])) ?_
  conv=>whnf
  refine LoadG.at (v := .bool x.laid) (.here rfl) ?_
  conv=>whnf
  refine CondG.split (fun hld => ?_) (fun hld => ?_)
  ·conv=>whnf
   refine DrawG.mk 8 _ [] (Ent.refl _) ?_
   conv=>whnf
   refine .take 0 ?_
   conv=>whnf
   refine ⟨rfl, ?_⟩
   conv=>whnf
   refine .take 1 ?_
   conv=>whnf
   refine ⟨rfl, ?_⟩
   conv=>whnf
   refine .take 2 ?_
   conv=>whnf
   refine ⟨rfl, ?_⟩
   conv=>whnf
   refine .take 3 ?_
   conv=>whnf
   refine ⟨rfl, ?_⟩
   conv=>whnf
   refine LoadG.at (.tl (.here rfl)) ?_
   conv=>whnf
   refine .take 4 ?_
   conv=>whnf
   refine ⟨rfl, ?_⟩
   conv=>whnf
   refine .take 5 ?_
   conv=>whnf
   refine ⟨rfl, ?_⟩
   conv=>whnf
   refine LoadG.at (v := .string x.key) (.here rfl) ?_
   conv=>whnf
   refine .take 6 ?_
   conv=>whnf
   refine ⟨rfl, ?_⟩
   conv=>whnf
   refine .take 7 ?_
   conv=>whnf
   refine ⟨rfl, ?_⟩
   conv=>whnf
   refine LoadG.at (v := x.was) (.here rfl) ?_
   conv=>whnf
   refine .all ?_
   conv=>whnf
   refine ⟨by decide, ?_⟩
   conv=>whnf
   refine ⟨rfl, ?_⟩
   conv=>whnf
   refine DoesG.ent (Ent.front 3 rfl) ?_
   refine DoesG.upd strT mapT trivial ?_
   rw [putM_kv nw x.key x.was x.bs]
   conv=>whnf
   refine ⟨rfl, ?_⟩
   conv=>whnf
   refine ArithG.i64' ((j : Int) - 1) (by omega) (by omega) ?_
   conv=>whnf
   refine ⟨j, [(0, .pointer (some ⟨s, 0, none⟩)), (1, .int .i64 k), (4, .int .i64 0), (5, .int .i64 at_), (6, .int .i64 ((j : Int) - 1))], ({ c with now := putK nw x.key x.was x.bs } : StC).pieces 70 s src, by omega, ⟨rfl, rfl, rfl, rfl, rfl, trivial⟩, ?_, putK nw x.key x.was x.bs, by omega, by omega, ?_, putK_all hwn ⟨hxs, hxl⟩, rfl, rfl⟩
   ·refine (Ent.under (Ent.under (back_put hxm) (kvS c.has)) [_, _, _, _, _, _]).trans ?_
    exact Ent.sel (T := kvS c.has ++ (kvS (putK nw x.key x.was x.bs) ++ stepsS c.steps)) (A := [_, _, _, _, _, _]) [2, 3, 0, 4, 5] rfl
   ·rw [← hback]
    unfold backK
    rw [if_pos hld]
  ·conv=>whnf
   refine DrawG.mk 7 (cel b7 121 x.cells :: cel s 70 [src, .map (some c.hb), .map (some c.nb), c.sv, c.mv] :: mapS c.hb (kvM c.has) :: own 3 c.sv c.steps.length (stepsC c.steps) :: own 1 c.mv c.marks.length (c.marks.map fun n : Nat => Value.int .i64 n) :: (kvS c.has ++ (kvS nw ++ stepsS c.steps))) [mapS c.nb (kvM nw)] (Ent.front 3 rfl) ?_
   conv=>whnf
   refine .take 0 ?_
   conv=>whnf
   refine ⟨rfl, ?_⟩
   conv=>whnf
   refine .take 1 ?_
   conv=>whnf
   refine ⟨rfl, ?_⟩
   conv=>whnf
   refine .take 2 ?_
   conv=>whnf
   refine ⟨rfl, ?_⟩
   conv=>whnf
   refine .take 3 ?_
   conv=>whnf
   refine ⟨rfl, ?_⟩
   conv=>whnf
   refine LoadG.at (.tl (.here rfl)) ?_
   conv=>whnf
   refine .take 4 ?_
   conv=>whnf
   refine ⟨rfl, ?_⟩
   conv=>whnf
   refine .take 5 ?_
   conv=>whnf
   refine ⟨rfl, ?_⟩
   conv=>whnf
   refine LoadG.at (v := .string x.key) (.here rfl) ?_
   conv=>whnf
   refine .all ?_
   conv=>whnf
   refine ⟨by decide, ?_⟩
   conv=>whnf
   refine DoesG.delM strT mapT trivial ?_
   rw [delM_kv nw x.key]
   conv=>whnf
   refine ⟨rfl, ?_⟩
   conv=>whnf
   refine ArithG.i64' ((j : Int) - 1) (by omega) (by omega) ?_
   conv=>whnf
   refine ⟨j, [(0, .pointer (some ⟨s, 0, none⟩)), (1, .int .i64 k), (4, .int .i64 0), (5, .int .i64 at_), (6, .int .i64 ((j : Int) - 1))], ({ c with now := delK nw x.key } : StC).pieces 70 s src, by omega, ⟨rfl, rfl, rfl, rfl, rfl, trivial⟩, ?_, delK nw x.key, by omega, by omega, ?_, fun p hp => hwn p (List.mem_filter.1 hp).1, rfl, rfl⟩
   ·refine (Ent.under (Ent.under (kvS_del (x := x.key)) (kvS c.has)) [_, _, _, _, _, _]).trans ?_
    exact Ent.sel (T := kvS c.has ++ (kvS (delK nw x.key) ++ stepsS c.steps)) (A := [_, _, _, _, _, _]) [2, 3, 0, 4, 5] rfl
   ·rw [← hback]
    unfold backK
    rw [if_neg (by simp [hld])]
 ·obtain rfl : at_ = i := by omega
  conv=>whnf
  refine LoadG.at (.here rfl) ?_
  rw [hsv2]
  rw [hsv2] at hsv
  conv=>whnf
  refine SlcG.lit ?_
  have hcap : c.steps.length ≤ sc := by
   rcases hsv with ⟨h, h0⟩ | ⟨g, cap, h, hn⟩
   ·omega
   ·cases h; exact hn
  conv=>whnf
  refine SideG.of (by omega) ?_
  conv=>whnf
  refine SliceG.zero ?_
  conv=>whnf
  refine StoreG.at rfl (Upd.here (by simp) rfl) ?_
  conv=>whnf
  refine LoadG.at (.here rfl) ?_
  rw [hmv2]
  rw [hmv2] at hmv
  conv=>whnf
  refine ArithG.i64' ((k + 1 : Nat) : Int) (by omega) (by omega) ?_
  conv=>whnf
  refine SlcG.lit ?_
  have hcap2 : c.marks.length ≤ mc := by
   rcases hmv with ⟨h, h0⟩ | ⟨g, cap, h, hn⟩
   ·omega
   ·cases h; exact hn
  conv=>whnf
  refine SideG.of (by omega) ?_
  conv=>whnf
  refine SliceG.zero ?_
  conv=>whnf
  refine StoreG.at rfl (Upd.here (by simp) rfl) ?_
  conv=>whnf
  have e1 : (backQ R k).1 = 0 := by unfold backQ; rw [if_neg (by omega)]
  obtain ⟨c', hc'⟩ : ∃ z, z = ({ c with now := nw, steps := c.steps.take at_, marks := c.marks.take (k + 1), sv := .slice sa at_ sc, mv := .slice ma (k + 1) mc } : StC) := ⟨_, rfl⟩
  have hg : Gone c k at_ c' := by
   rw [hc']
   exact ⟨rfl, hnw, rfl, rfl, ⟨hc.wf.has, hwn, fun x hx => hc.wf.steps x (List.mem_of_mem_take hx)⟩⟩
  have hat2 := hc.back hat hg
  rw [e1]
  refine ⟨_, ?_, rfl, rfl⟩
  refine Ent.trans ?_ (Ent.pack0 (ls := fun c => StC.pieces 70 s src c) hat2)
  rw [hc']
  have a1 : (c.steps.take at_).length = at_ := by rw [List.length_take]; omega
  have a2 : (c.marks.take (k + 1)).length = k + 1 := by rw [List.length_take]; omega
  simp only [StC.pieces, a1, a2]
  rw [← stepsC_take, List.map_take]
  refine (Ent.under (own_take hle) [_, _, _]).trans ?_
  refine (Ent.under (own_take (k := k + 1) (by omega)) [_, _, _, _]).trans ?_
  rw [Nat.mul_one]
  exact Ent.under (Ent.under (Ent.under steps_take (kvS nw)) (kvS c.has)) [_, _, _, _, _]
theorem keys_told {c : StC} (hc : IsR R c) : ∀ p ∈ c.has, mayI p.1 0 = 0 := fun p hp => hc.keys (KV.kb p) (hc.has.mem_iff.2 (List.mem_map_of_mem hp))
theorem touched_h (F : List HP) (s : Nat) (src : Value) (hl : R.told.length ≤ 3500000000000) :
 SpecF Tryz.prog 26 [.pointer (some ⟨s, 0, none⟩)] F [stR 70 s src R] (fun r L => SlV r (touchedQ R).length ∧ L = [own 1 r (touchedQ R).length (keysB (touchedQ R)), stR 70 s src R]) := by
 refine SpecF.unpack0 fun c hc => (touched_c F s src c (by rw [hc.cnt]; omega) (keys_told hc)).turn fun v L h => ?_
 obtain ⟨ss, hv, hp, rfl⟩ := h
 have ht := hc.touched hp
 have e1 : (ss.mergeSort leB).map encStr = keysB (touchedQ R) := by
  rw [← ht, keysB, List.map_map]
  rfl
 have e2 : ss.length = (touchedQ R).length := by rw [← ht, List.length_map, List.length_mergeSort]
 rw [e1, e2]
 rw [e2] at hv
 exact ⟨_, ⟨hv, rfl⟩, Ent.cons _ (Ent.pack0 (ls := fun c => StC.pieces 70 s src c) hc)⟩
theorem changes_h (F : List HP) (s : Nat) (src : Value) (hl : R.told.length ≤ 3500000000000) :
 SpecF Tryz.prog 28 [.pointer (some ⟨s, 0, none⟩)] F [stR 70 s src R] (fun r L => ∃ l : List ChD, l.map (fun d => (d.key, d.old, d.new)) = changesQ R ∧ SlV r l.length ∧ l.length ≤ R.told.length ∧ (∀ d ∈ l, SlV d.ov d.old.length ∧ SlV d.nv d.new.length) ∧
  L = stR 70 s src R :: own 3 r l.length (l.flatMap ChD.cells) :: chS l) := by
 refine SpecF.unpack0 fun c hc => (changes_c F s src c hc.wf (by rw [hc.cnt]; exact hl) (keys_told hc)).turn fun v L h => ?_
 obtain ⟨ss, l, hp, hv, hsv, hm, rfl⟩ := h
 rw [hc.changes hp] at hm
 have hcnt : l.length ≤ R.told.length := by
  have h1 := congrArg List.length hm
  rw [List.length_map, changesQ, List.length_map] at h1
  rw [h1]
  exact List.length_filter_le _ _
 exact ⟨_, ⟨l, hm, hv, hcnt, hsv, rfl⟩, Ent.pack (ls := fun c => StC.pieces 70 s src c) hc⟩
theorem over_h (F : List HP) (u : Nat) (v : Value) : SpecF Tryz.prog 6 [.iface u v] F [] (fun r L => ∃ s, r = .tuple #[.pointer (some ⟨s, 0, none⟩), .int .i64 0] ∧ L = [stR 70 s (.iface u v) ⟨[], [], [], 0⟩]) :=
 (over_spec F u v).turn fun r L ⟨s, hr, hb, nb, hL⟩ => by
  subst hL
  exact ⟨_, ⟨s, hr, rfl⟩, Ent.pack0 (φ := IsR ⟨[], [], [], 0⟩) (ls := fun c => StC.pieces 70 s (.iface u v) c)
   ⟨⟨fun p h => absurd h (List.not_mem_nil), fun p h => absurd h (List.not_mem_nil), fun p h => absurd h (List.not_mem_nil)⟩, List.Perm.nil, List.Pairwise.nil, fun p h => absurd h (List.not_mem_nil), fun k => rfl, rfl, fun i x h => by simp at h, rfl, List.Pairwise.nil, fun m h => absurd h (List.not_mem_nil)⟩⟩
end
end Go.Proofs.YtmfonkklmndhjaaGreatDoor
