import Derived.Test.YtnbcbdlbejdkpaaGreatDoorSw
import Derived.Test.YtnbcbdlbejdkpaaGreatDoorSo
import Derived.Test.YtnbcbdlbejdkpaaGreatDoorZBv
/-
  What a state and the document's tell to have changed, asked twice; the lists are their asker's.
-/
namespace Go.Proofs.YtnbcbdlbejdkpaaGreatDoor
open Go Go.Sl Go.Sort
theorem flat_set {l : List ChD} {i : Nat} {d : ChD} (k : ByteArray) (h : l[i]? = some d) : (l.flatMap ChD.cells).take (i * 3) ++ [.string k] ++ (l.flatMap ChD.cells).drop (i * 3 + 1) = (l.set i { d with key := k }).flatMap ChD.cells := by
  induction l generalizing i with
  | nil => simp at h
  | cons y l ih =>
    cases i with
    | zero =>
      simp only [List.getElem?_cons_zero, Option.some.injEq] at h
      subst h
      rfl
    | succ i =>
      have h2 := ih (i := i) (by simpa using h)
      rw [List.set_cons_succ, List.flatMap_cons, List.flatMap_cons, ← h2]
      have e1 : (i + 1) * 3 = y.cells.length + i * 3 := by
        show (i + 1) * 3 = 3 + i * 3
        omega
      have e2 : (i + 1) * 3 + 1 = y.cells.length + (i * 3 + 1) := by rw [e1]; omega
      rw [e2, e1, List.take_length_add_append, List.drop_length_add_append]
      simp
theorem mid2 {x y : HP} {A B : List HP} : (A ++ (x :: y :: B)).Perm (y :: x :: (A ++ B)) :=
  (List.perm_middle (l₁ := A)).trans (((List.perm_middle (l₁ := A)).cons x).trans (List.Perm.swap _ _ _))
theorem chS_step {l : List ChD} {i : Nat} {d : ChD} (h : l[i]? = some d) : chS (l.drop i) = own 1 d.ov d.old.length (bvs d.old) :: own 1 d.nv d.new.length (bvs d.new) :: chS (l.drop (i + 1)) := by
  obtain ⟨h1, rfl⟩ := List.getElem?_eq_some_iff.1 h
  rw [List.drop_eq_getElem_cons h1]
  rfl
section
variable {R : RSt}
theorem told_vals (F : List HP) (s : Nat) (src : Value) (M : List HP) : ∀ w, Sat w (stR 118 s src R :: M ++ F) → ∀ p ∈ R.told, p.2.length ≤ 4096 := fun w hs => by
  obtain ⟨c, hc, _⟩ := Sat.exL.1 hs
  exact hc.vals
theorem changes_law (F : List HP) (s d : Nat) (src : Value) (hv : Value) (part : Bool) (nv : Value) (hl : R.told.length ≤ 3400000000000) (hst : R.steps.length ≤ 4611686018427387904) (hlv : ∀ k, (R.val k).length ≤ 4096) (htv : ∀ p ∈ R.told, p.2.length ≤ 4096) :
    SpecF Tryz.prog 27 [.pointer (some ⟨s, 0, none⟩), .pointer (some ⟨d, 0, none⟩)] F [stR 118 s src R, refR 70 d hv part nv R] (fun r L => r = .bool true ∧ L = [stR 118 s src R, refR 70 d hv part nv R]) := by
  have hch : ∀ {l : List ChD}, l.map (fun d => (d.key, d.old, d.new)) = changesQ R → ∀ e ∈ l, e.old.length ≤ 4096 ∧ e.new.length ≤ 4096 := fun {l} h e he => by
    have h1 : (e.key, e.old, e.new) ∈ changesQ R := by rw [← h]; exact List.mem_map.2 ⟨e, he, rfl⟩
    obtain ⟨p, hp, e2⟩ := List.mem_map.1 h1
    simp only [Prod.mk.injEq] at e2
    obtain ⟨_, e3, e4⟩ := e2
    exact ⟨by rw [← e3]; exact htv p (List.mem_filter.1 hp).1, by rw [← e4]; exact hlv _⟩
  have hle : ∀ {l m : List ChD}, l.map (fun d => (d.key, d.old, d.new)) = changesQ R → m.map (fun d => (d.key, d.old, d.new)) = changesQ R → l.length = m.length := fun {l m} h1 h2 => by
    have := congrArg List.length (h1.trans h2.symm)
    simpa using this
  refine fun27.spec rfl ?_
  conv => whnf
  refine CallG.of (pre := [stR 118 s src R]) (rest := [refR 70 d hv part nv R]) (changes_h _ s src (by omega)) (Ent.refl _) ?_
  rintro av _ ⟨l1, hm1, hav, hl1, hs1, rfl⟩
  conv => whnf
  refine CallG.of (pre := [stR 118 s src R]) (rest := own 3 av l1.length (l1.flatMap ChD.cells) :: (chS l1 ++ [refR 70 d hv part nv R])) (changes_h _ s src (by omega)) (Ent.refl _) ?_
  rintro bv _ ⟨l2, hm2, hbv, hl2, hs2, rfl⟩
  conv => whnf
  refine CallG.of (pre := [refR 70 d hv part nv R]) (rest := stR 118 s src R :: own 3 bv l2.length (l2.flatMap ChD.cells) :: (chS l2 ++ (own 3 av l1.length (l1.flatMap ChD.cells) :: chS l1))) (changes7_spec _ d hv part nv (by omega) hst) (Ent.perm (by classical exact List.perm_iff_count.2 fun x => by simp only [List.append_eq, List.count_append, List.count_cons, List.count_nil]; omega)) ?_
  rintro wv _ ⟨l3, hm3, hwv, hl3, hs3, rfl⟩
  have e12 := hle hm1 hm2
  have e13 := hle hm1 hm3
  have rdl : ∀ {l : List ChD} {v : Value}, SlV v l.length → (∀ d ∈ l, SlV d.ov d.old.length ∧ SlV d.nv d.new.length) → RdS (own 3 v l.length (l.flatMap ChD.cells) :: chS l) v l.length (l.flatMap ChD.cells) ∧ ChRd (own 3 v l.length (l.flatMap ChD.cells) :: chS l) l := fun {l v} h1 h2 => by
    have h := chS_rd (M := []) h2
    rw [List.append_nil] at h
    exact ⟨own_rd h1 (chC_len l), fun x hx => ⟨.tl (h x hx).1, .tl (h x hx).2⟩⟩
  have rw1 := rdl hav hs1
  have rw2 := rdl hbv hs2
  have rw3 := rdl hwv hs3
  conv => whnf
  refine CallG.pure (changes_same _ av wv l1 l3 (by omega) (hm1.trans hm3.symm) (.left (.right (.tl (.tl (.right rw1.1 (chS l2)))) _) F) (.left (.left (.tl rw3.1) _) F) (fun x hx => ⟨.left (.right (.tl (.tl (.right (rw1.2 x hx).1 (chS l2)))) _) F, .left (.right (.tl (.tl (.right (rw1.2 x hx).2 (chS l2)))) _) F⟩) (fun x hx => ⟨.left (.left (.tl (rw3.2 x hx).1) _) F, .left (.left (.tl (rw3.2 x hx).2) _) F⟩)) ?_
  rintro _ _ ⟨rfl, rfl⟩
  conv => whnf
  refine CallG.pure (changes_same _ bv wv l2 l3 (by omega) (hm2.trans hm3.symm) (.left (.right (.tl (.left rw2.1 _)) _) F) (.left (.left (.tl rw3.1) _) F) (fun x hx => ⟨.left (.right (.tl (.left (rw2.2 x hx).1 _)) _) F, .left (.right (.tl (.left (rw2.2 x hx).2 _)) _) F⟩) (fun x hx => ⟨.left (.left (.tl (rw3.2 x hx).1) _) F, .left (.left (.tl (rw3.2 x hx).2) _) F⟩)) ?_
  rintro _ _ ⟨rfl, rfl⟩
  (conv => whnf); repeat ((with_reducible first | refine .tt ?_ | refine .ff ?_ | refine .ntt ?_ | refine .nff ?_); conv => whnf)
  obtain ⟨Z, hZ⟩ : ∃ Z, Z = stR 118 s src R :: refR 70 d hv part nv R :: own 3 wv l3.length (l3.flatMap ChD.cells) :: chS l3 := ⟨_, rfl⟩
  refine LoopG.mk (fun mm e L => ∃ (i : Nat) (lm : List ChD), i ≤ l1.length ∧ mm = l1.length - i ∧ lm.length = l1.length ∧ (∀ j, i ≤ j → lm[j]? = l1[j]?) ∧
      e = [(0, .pointer (some ⟨s, 0, none⟩)), (1, .pointer (some ⟨d, 0, none⟩)), (4, .bool false), (5, av), (6, bv), (7, wv), (10, .int .i64 i)] ∧ L = chS (l1.drop i) ++ (chS (l2.drop i) ++ (own 3 av l1.length (lm.flatMap ChD.cells) :: own 3 bv l2.length (l2.flatMap ChD.cells) :: Z))) l1.length
    [(0, .pointer (some ⟨s, 0, none⟩)), (1, .pointer (some ⟨d, 0, none⟩)), (4, .bool false), (5, av), (6, bv), (7, wv), (10, .int .i64 0)] (chS l1 ++ (chS l2 ++ (own 3 av l1.length (l1.flatMap ChD.cells) :: own 3 bv l2.length (l2.flatMap ChD.cells) :: Z))) ⟨rfl, rfl, rfl, rfl, rfl, rfl, rfl, trivial⟩ ?_
    ⟨0, l1, by omega, rfl, rfl, fun _ _ => rfl, rfl, rfl⟩ ?_
  · rw [hZ]
    exact Ent.perm (by classical exact List.perm_iff_count.2 fun x => by simp only [List.append_eq, List.count_append, List.count_cons, List.count_nil]; omega)
  rintro mm e L ⟨i, lm, hi, rfl, hlm, hlj, rfl, rfl⟩
  conv => whnf
  refine LenG.sl hav ?_
  conv => whnf
  refine CondG.dec (fun h1 => ?_) (fun h1 => ?_)
  · have hil : i < l1.length := by omega
    obtain ⟨x, hx⟩ : ∃ x, l1[i]? = some x := ⟨l1[i], List.getElem?_eq_getElem hil⟩
    obtain ⟨y, hy⟩ : ∃ y, l2[i]? = some y := ⟨l2[i]'(by omega), List.getElem?_eq_getElem _⟩
    have hxm := List.mem_of_getElem? hx
    have hym := List.mem_of_getElem? hy
    have hlx : lm[i]? = some x := by rw [hlj i (Nat.le_refl _)]; exact hx
    obtain ⟨c0, c1, c2⟩ := chC_at hlx
    obtain ⟨k0, k1, k2⟩ := chC_at hy
    have bx := hch hm1 x hxm
    have by' := hch hm2 y hym
    rw [chS_step hx, chS_step hy]
    obtain ⟨X, hX⟩ : ∃ X, X = chS (l1.drop (i + 1)) := ⟨_, rfl⟩
    obtain ⟨Y, hY⟩ : ∃ Y, Y = chS (l2.drop (i + 1)) := ⟨_, rfl⟩
    rw [← hX, ← hY]
    have hra : RdS (own 3 av l1.length (lm.flatMap ChD.cells) :: own 3 bv l2.length (l2.flatMap ChD.cells) :: Z) av l1.length (lm.flatMap ChD.cells) := own_rd hav (by rw [chC_len, hlm])
    have hrb : RdS (own 3 av l1.length (lm.flatMap ChD.cells) :: own 3 bv l2.length (l2.flatMap ChD.cells) :: Z) bv l2.length (l2.flatMap ChD.cells) := .tl (own_rd hbv (chC_len l2))
    obtain ⟨M, hM⟩ : ∃ M, M = own 3 av l1.length (lm.flatMap ChD.cells) :: own 3 bv l2.length (l2.flatMap ChD.cells) :: Z := ⟨_, rfl⟩
    rw [← hM] at hra hrb ⊢
    have hra1 : RdS (X ++ (own 1 y.ov y.old.length (bvs y.old) :: own 1 y.nv y.new.length (bvs y.new) :: (Y ++ M))) av l1.length (lm.flatMap ChD.cells) := .right (.tl (.tl (.right hra Y))) X
    have hrb1 : RdS (X ++ (Y ++ M)) bv l2.length (l2.flatMap ChD.cells) := .right (.right hrb Y) X
    conv => whnf
    refine DrawG.mk 12 (X ++ (own 1 y.ov y.old.length (bvs y.old) :: own 1 y.nv y.new.length (bvs y.new) :: (Y ++ M))) [own 1 x.ov x.old.length (bvs x.old), own 1 x.nv x.new.length (bvs x.new)] (Ent.perm (by classical exact List.perm_iff_count.2 fun x => by simp only [List.append_eq, List.count_append, List.count_cons, List.count_nil]; omega)) ?_
    conv => whnf
    refine .take 0 ?_
    conv => whnf
    refine ⟨rfl, ?_⟩
    conv => whnf
    refine .take 1 ?_
    conv => whnf
    refine ⟨rfl, ?_⟩
    conv => whnf
    refine .take 2 ?_
    conv => whnf
    refine ⟨rfl, ?_⟩
    conv => whnf
    refine IdxG.rd hra1 (by omega) fun c o hc => ?_
    conv => whnf
    refine .take 3 ?_
    conv => whnf
    refine ⟨rfl, ?_⟩
    conv => whnf
    refine .take 4 ?_
    conv => whnf
    refine ⟨rfl, ?_⟩
    conv => whnf
    refine LoadG.at (hc.one (i := i * 3 + 1) (u := x.ov) c1) ?_
    conv => whnf
    refine .take 5 ?_
    conv => whnf
    refine ⟨rfl, ?_⟩
    conv => whnf
    refine .take 6 ?_
    conv => whnf
    refine ⟨rfl, ?_⟩
    conv => whnf
    refine .take 7 ?_
    conv => whnf
    refine ⟨rfl, ?_⟩
    conv => whnf
    refine IdxG.rd hra1 (by omega) fun c o hc => ?_
    conv => whnf
    refine .take 8 ?_
    conv => whnf
    refine ⟨rfl, ?_⟩
    conv => whnf
    refine .take 9 ?_
    conv => whnf
    refine ⟨rfl, ?_⟩
    conv => whnf
    refine LoadG.at (hc.one (i := i * 3 + 2) (u := x.nv) c2) ?_
    conv => whnf
    refine .all ?_
    conv => whnf
    refine ⟨by decide, ?_⟩
    conv => whnf
    refine CallG.of (pre := [own 1 x.ov x.old.length (bvs x.old), own 1 x.nv x.new.length (bvs x.new)]) (rest := []) (two_spec _ x.ov x.nv _ _ _ _ (by omega) (by omega)) (Ent.refl _) ?_
    rintro _ _ ⟨rfl, rfl⟩
    conv => whnf
    refine .all ?_
    conv => whnf
    refine ⟨by decide, ?_⟩
    conv => whnf
    refine ⟨rfl, ?_⟩
    conv => whnf
    refine DrawG.mk 12 (X ++ (Y ++ M)) [own 1 y.nv y.new.length (bvs y.new), own 1 y.ov y.old.length (bvs y.old)] (Ent.perm (by classical exact List.perm_iff_count.2 fun x => by simp only [List.append_eq, List.count_append, List.count_cons, List.count_nil]; omega)) ?_
    conv => whnf
    refine .take 0 ?_
    conv => whnf
    refine ⟨rfl, ?_⟩
    conv => whnf
    refine .take 1 ?_
    conv => whnf
    refine ⟨rfl, ?_⟩
    conv => whnf
    refine .take 2 ?_
    conv => whnf
    refine ⟨rfl, ?_⟩
    conv => whnf
    refine IdxG.rd hrb1 (by omega) fun c o hc => ?_
    conv => whnf
    refine .take 3 ?_
    conv => whnf
    refine ⟨rfl, ?_⟩
    conv => whnf
    refine .take 4 ?_
    conv => whnf
    refine ⟨rfl, ?_⟩
    conv => whnf
    refine LoadG.at (hc.one (i := i * 3 + 2) (u := y.nv) k2) ?_
    conv => whnf
    refine .take 5 ?_
    conv => whnf
    refine ⟨rfl, ?_⟩
    conv => whnf
    refine .take 6 ?_
    conv => whnf
    refine ⟨rfl, ?_⟩
    conv => whnf
    refine .take 7 ?_
    conv => whnf
    refine ⟨rfl, ?_⟩
    conv => whnf
    refine IdxG.rd hrb1 (by omega) fun c o hc => ?_
    conv => whnf
    refine .take 8 ?_
    conv => whnf
    refine ⟨rfl, ?_⟩
    conv => whnf
    refine .take 9 ?_
    conv => whnf
    refine ⟨rfl, ?_⟩
    conv => whnf
    refine LoadG.at (hc.one (i := i * 3 + 1) (u := y.ov) k1) ?_
    conv => whnf
    refine .all ?_
    conv => whnf
    refine ⟨by decide, ?_⟩
    conv => whnf
    refine CallG.of (pre := [own 1 y.nv y.new.length (bvs y.new), own 1 y.ov y.old.length (bvs y.old)]) (rest := []) (two_spec _ y.nv y.ov _ _ _ _ (by omega) (by omega)) (Ent.refl _) ?_
    rintro _ _ ⟨rfl, rfl⟩
    conv => whnf
    refine .all ?_
    conv => whnf
    refine ⟨by decide, ?_⟩
    conv => whnf
    refine ⟨rfl, ?_⟩
    (conv => whnf); repeat ((with_reducible first | refine .tt ?_ | refine .ff ?_ | refine .ntt ?_ | refine .nff ?_); conv => whnf)
    obtain ⟨g, cap, rfl, hn⟩ := slv_pos hav (by omega)
    refine ⟨g, 0, _, _, rfl, by omega, ?_⟩
    conv => whnf
    have e0 : 0 + ((i : Nat) : Int).toNat * 3 + 0 = i * 3 := by omega
    rw [hM]
    refine StoreG.ent (M := own 3 (.slice (some ⟨g, 0, none⟩) l1.length cap) l1.length (lm.flatMap ChD.cells) :: (X ++ (Y ++ (own 3 bv l2.length (l2.flatMap ChD.cells) :: Z)))) (Ent.perm (by classical exact List.perm_iff_count.2 fun x => by simp only [List.append_eq, List.count_append, List.count_cons, List.count_nil]; omega)) ?_
    refine StoreG.at rfl (Upd.own (cs' := (lm.set i { x with key := ⟨#[109, 105, 110, 101]⟩ }).flatMap ChD.cells) (by rw [e0, chC_len, List.length_singleton]; omega) (by simp [Value.oneCell']) (by rw [e0, List.length_singleton]; exact flat_set _ hlx)) ?_
    conv => whnf
    refine ArithG.i64' ((i + 1 : Nat) : Int) (by omega) (by omega) ?_
    conv => whnf
    refine ⟨l1.length - (i + 1), [(0, .pointer (some ⟨s, 0, none⟩)), (1, .pointer (some ⟨d, 0, none⟩)), (4, .bool false), (5, _), (6, bv), (7, wv), (10, .int .i64 ((i + 1 : Nat) : Int))], _, by omega, ⟨rfl, rfl, rfl, rfl, rfl, rfl, rfl, trivial⟩, ?_, i + 1, lm.set i { x with key := ⟨#[109, 105, 110, 101]⟩ }, by omega, rfl, by rw [List.length_set]; exact hlm, fun j hj => ?_, rfl, rfl⟩
    · rw [hX, hY]
      exact Ent.perm (by classical exact List.perm_iff_count.2 fun x => by simp only [List.append_eq, List.count_append, List.count_cons, List.count_nil]; omega)
    · rw [List.getElem?_set_ne (by omega)]
      exact hlj j (by omega)
  obtain rfl : l1.length = i := by omega
  have d1 : l1.drop l1.length = [] := List.drop_length
  have d2 : l2.drop l1.length = [] := List.drop_eq_nil_of_le (by omega)
  rw [d1, d2]
  conv => whnf
  refine BuildG.of (cs := [.string ⟨#[109, 111, 114, 101]⟩, .slice none 0 0, .slice none 0 0]) rfl ?_
  conv => whnf
  refine BuildG.of (cs := [.string ⟨#[109, 111, 114, 101]⟩, .slice none 0 0, .slice none 0 0]) rfl ?_
  conv => whnf
  intro b5
  conv => whnf
  refine DoesG.ent (Ent.front 1 rfl) ?_
  refine app_ownW changes7T 89 (m := 1) (ys := [.string ⟨#[109, 111, 114, 101]⟩, .slice none 0 0, .slice none 0 0]) (.mk _ _ _ _ _ (Nat.le_refl _) (.tl (.left .all _))) rfl (by simp [Value.oneCell']) (by simp only [maxLen]; omega) (.wide (by omega)) fun av2 hav2 _ _ => ?_
  conv => whnf
  rw [hZ]
  refine CallG.of (pre := [stR 118 s src R]) (rest := refR 70 d hv part nv R :: own 3 wv l3.length (l3.flatMap ChD.cells) :: chS l3) (changes_h _ s src (by omega)) (Ent.sel (T := chS l3) (A := [_, _, _, _, _, _]) [3, 4, 5] rfl) ?_
  rintro cv _ ⟨l4, hm4, hcv, hl4, hs4, rfl⟩
  have rw4 := rdl hcv hs4
  conv => whnf
  refine LenG.sl hav2 ?_
  conv => whnf
  refine LenG.sl hwv ?_
  conv => whnf
  refine ArithG.i64' ((l3.length + 1 : Nat) : Int) (by omega) (by omega) ?_
  conv => whnf
  refine CondG.dec (fun _ => ?_) (fun h => absurd (by rw [e13]) h)
  (conv => whnf); repeat ((with_reducible first | refine .tt ?_ | refine .ff ?_ | refine .ntt ?_ | refine .nff ?_); conv => whnf)
  refine CallG.pure (changes_same _ cv wv l4 l3 (by omega) (hm4.trans hm3.symm) (.left (.left (.tl rw4.1) _) F) (.left (.right (.tl rw3.1) _) F) (fun x hx => ⟨.left (.left (.tl (rw4.2 x hx).1) _) F, .left (.left (.tl (rw4.2 x hx).2) _) F⟩) (fun x hx => ⟨.left (.right (.tl (rw3.2 x hx).1) _) F, .left (.right (.tl (rw3.2 x hx).2) _) F⟩)) ?_
  rintro _ _ ⟨rfl, rfl⟩
  (conv => whnf); repeat ((with_reducible first | refine .tt ?_ | refine .ff ?_ | refine .ntt ?_ | refine .nff ?_); conv => whnf)
  refine ⟨_, ?_, rfl, rfl⟩
  refine Ent.trans (Ent.perm (?_ : List.Perm _ (stR 118 s src R :: refR 70 d hv part nv R :: (own 3 cv l4.length (l4.flatMap ChD.cells) :: (chS l4 ++ (own 3 wv l3.length (l3.flatMap ChD.cells) :: chS l3)))))) (Ent.dropL [stR 118 s src R, refR 70 d hv part nv R] _)
  exact (by classical exact List.perm_iff_count.2 fun x => by simp only [List.append_eq, List.count_append, List.count_cons, List.count_nil]; omega)
end
end Go.Proofs.YtnbcbdlbejdkpaaGreatDoor
/-
  StoreStates: one step, by the program and by the document.
-/
namespace Go.Proofs.YtnbcbdlbejdkpaaGreatDoor
open Go Go.Sl Go.Sort
theorem TelΦ.more {t : Nat} {hv : Value} {no : List NoD} {good : List ByteArray} {n m : Nat} {T : List HP} (h : TelΦ t hv no good n T) (hm : n ≤ m) : TelΦ t hv no good m T := by
  obtain ⟨nv, gv, tv, told, h1, h2, h3, h4, h5, h6⟩ := h
  exact ⟨nv, gv, tv, told, h1, h2, h3, by omega, h5, h6⟩
theorem tel_method (v : Value) (w : World) : (method ((Tryz.prog).types.size + Made.depth) 60 v "Find").run Tryz.prog w = .ok (200, v) w := by kernel_rfl
theorem tel_src (F : List HP) (t : Nat) (hv : Value) (no : List NoD) (good : List ByteArray) (n : Nat) (T : List HP) (hT : TelΦ t hv no good n T) (hs : List PairD) (hh : RdS F hv hs.length (pairsC hs)) (hhl : hs.length ≤ 4611686018427387904) (hhv : ∀ p ∈ hs, RdS F p.v p.bs.length (bvs p.bs) ∧ p.bs.length ≤ 140737488355328) (hnl : no.length ≤ 4611686018427387904) (hgl : good.length ≤ 4398046511104) (hn : n ≤ 4398046511104)
    (key : ByteArray) (hk : key ∉ good) :
    SrcH Tryz.prog F (.iface 60 (.pointer (some ⟨t, 0, none⟩))) key T (refF (hs.map PairD.e) no false key) (TelΦ t hv no (if (refF (hs.map PairD.e) no false key).2 = 0 ∧ (refF (hs.map PairD.e) no false key).1.length ≤ 4096 then good ++ [key] else good) (n + 1)) := by
  obtain ⟨nv, gv, tv, told, h1, h2, h3, h4, h5, rfl⟩ := hT
  refine ⟨_, _, 200, .pointer (some ⟨t, 0, none⟩), rfl, fun w => tel_method _ w, by kernel_rfl, fun L => ?_⟩
  · refine (find_tel (L ++ F) t hv nv gv tv no good told h1 h2 h3 h5 hs (hh.right L) hhl (fun p hp => ⟨(hhv p hp).1.right L, (hhv p hp).2⟩) hnl hgl (by omega) key hk).turn fun v L' h => ?_
    obtain ⟨x, D, T', hT', hv', hr, hL⟩ := h
    exact ⟨L', ⟨x, D, T', hT'.more (by omega), hv', hr, hL⟩, Ent.refl _⟩
theorem ask_good {t : Nat} {hv : Value} {no : List NoD} {good : List ByteArray} {n : Nat} {T T' : List HP} {f : List Nat × Int} {R : RSt} {key : ByteArray} (hT : TelΦ t hv no good n T) (hg : good.Perm (touchedQ R)) (hm : mayI key 0 = 0)
    (hb : behind R key T (TelΦ t hv no (if f.2 = 0 ∧ f.1.length ≤ 4096 then good ++ [key] else good) (n + 1)) T') : ∃ good', TelΦ t hv no good' (n + 1) T' ∧ good'.Perm (touchedQ (askQ f R key)) := by
  unfold behind asksQ at hb
  by_cases ht : (atL R.told key).isSome = true
  · rw [ht] at hb
    simp only [Bool.not_true, Bool.and_false, Bool.false_eq_true, if_false] at hb
    rw [hb, askQ_there ht]
    exact ⟨good, hT.more (by omega), hg⟩
  · have hn : (atL R.told key).isSome = false := by simpa using ht
    rw [hn, decide_eq_true hm] at hb
    simp only [Bool.not_false, Bool.and_true, if_true] at hb
    by_cases h0 : askI f R key = 0
    · have h1 := askI_ok h0 hn
      rw [if_pos h1] at hb
      refine ⟨_, hb, ?_⟩
      have e : askQ f R key = { R with told := insL R.told key f.1 } := by unfold askQ; rw [if_neg ht, if_pos h0]
      have hk : key ∉ R.told.map (·.1) := by rw [← atL_none]; simpa using ht
      rw [e]
      have h2 := (insL_perm (v := f.1) hk).map (·.1)
      rw [List.map_append] at h2
      exact (hg.append_right [key]).trans h2.symm
    · rw [askQ_fail h0]
      have h1 : ¬(f.2 = 0 ∧ f.1.length ≤ 4096) := fun h => h0 (by unfold askI; rw [if_neg ht, if_neg (fun h2 => h2 h.1), if_neg (by omega)])
      rw [if_neg h1] at hb
      exact ⟨good, hb, hg⟩
theorem asks_new {R : RSt} {good : List ByteArray} {key : ByteArray} (hg : good.Perm (touchedQ R)) (h : (atL R.told key).isSome = false) : key ∉ good := fun hk => by
  have h1 : key ∈ R.told.map (·.1) := hg.mem_iff.1 hk
  have h2 : atL R.told key = none := by simpa using h
  exact (atL_none.1 h2) h1
section
variable {R : RSt} {T : List HP}
theorem get_tel (F : List HP) (s t : Nat) (hv : Value) (no : List NoD) (good : List ByteArray) (n : Nat) (hT : TelΦ t hv no good n T) (hg : good.Perm (touchedQ R)) (hs : List PairD) (hh : RdS F hv hs.length (pairsC hs)) (hhl : hs.length ≤ 4611686018427387904) (hhv : ∀ p ∈ hs, RdS F p.v p.bs.length (bvs p.bs) ∧ p.bs.length ≤ 140737488355328) (hnl : no.length ≤ 4611686018427387904) (htl : R.told.length ≤ 4398046511104) (hn : n ≤ 4398046511104) (key : ByteArray) :
    SpecF Tryz.prog 56 [.pointer (some ⟨s, 0, none⟩), .string key] F (stR 118 s (.iface 60 (.pointer (some ⟨t, 0, none⟩))) R :: T) (fun r L => ∃ x T' good', TelΦ t hv no good' (n + 1) T' ∧ good'.Perm (touchedQ (getQ (refF (hs.map PairD.e) no false key) R key).2) ∧
      SlV x (getQ (refF (hs.map PairD.e) no false key) R key).1.1.length ∧ r = .tuple #[x, .int .i64 (getQ (refF (hs.map PairD.e) no false key) R key).1.2] ∧
      L = own 1 x (getQ (refF (hs.map PairD.e) no false key) R key).1.1.length (bvs (getQ (refF (hs.map PairD.e) no false key) R key).1.1) :: stR 118 s (.iface 60 (.pointer (some ⟨t, 0, none⟩))) (getQ (refF (hs.map PairD.e) no false key) R key).2 :: T') := by
  have hgl : good.length ≤ 4398046511104 := by rw [hg.length_eq, touchedQ, List.length_map]; exact htl
  refine (get_h (Φ := TelΦ t hv no (if (refF (hs.map PairD.e) no false key).2 = 0 ∧ (refF (hs.map PairD.e) no false key).1.length ≤ 4096 then good ++ [key] else good) (n + 1)) F s _ key (fun _ ht => tel_src F t hv no good n T hT hs hh hhl hhv hnl hgl hn key (asks_new hg ht))).turn fun v L h => ?_
  obtain ⟨x, T', hb, hx, hr, hL⟩ := h
  by_cases hm : mayI key 0 = 0
  · obtain ⟨good', h1, h2⟩ := ask_good hT hg hm hb
    refine ⟨L, ⟨x, T', good', h1, ?_, hx, hr, hL⟩, Ent.refl _⟩
    rw [getQ_state, if_pos hm]
    exact h2
  · have e : T' = T := by
      unfold behind asksQ at hb
      rw [decide_eq_false hm] at hb
      simpa using hb
    refine ⟨L, ⟨x, T', good, by rw [e]; exact hT.more (by omega), ?_, hx, hr, hL⟩, Ent.refl _⟩
    rw [getQ_state, if_neg hm]
    exact hg
theorem put_tel (F : List HP) (s t : Nat) (hv : Value) (no : List NoD) (good : List ByteArray) (n : Nat) (hT : TelΦ t hv no good n T) (hg : good.Perm (touchedQ R)) (hs : List PairD) (hh : RdS F hv hs.length (pairsC hs)) (hhl : hs.length ≤ 4611686018427387904) (hhv : ∀ p ∈ hs, RdS F p.v p.bs.length (bvs p.bs) ∧ p.bs.length ≤ 140737488355328) (hnl : no.length ≤ 4611686018427387904) (htl : R.told.length ≤ 4398046511104) (hn : n ≤ 4398046511104) (key : ByteArray)
    (v : Value) (bs : List Nat) (hr : RdS F v bs.length (bvs bs)) (hst : R.steps.length ≤ 4398046511104) :
    SpecF Tryz.prog 61 [.pointer (some ⟨s, 0, none⟩), .string key, v] F (stR 118 s (.iface 60 (.pointer (some ⟨t, 0, none⟩))) R :: T) (fun r L => ∃ T' good', TelΦ t hv no good' (n + 1) T' ∧ good'.Perm (touchedQ (putQ (refF (hs.map PairD.e) no false key) R key bs).2) ∧
      r = .int .i64 (putQ (refF (hs.map PairD.e) no false key) R key bs).1 ∧ L = stR 118 s (.iface 60 (.pointer (some ⟨t, 0, none⟩))) (putQ (refF (hs.map PairD.e) no false key) R key bs).2 :: T') := by
  have hgl : good.length ≤ 4398046511104 := by rw [hg.length_eq, touchedQ, List.length_map]; exact htl
  refine (put_h (Φ := TelΦ t hv no (if (refF (hs.map PairD.e) no false key).2 = 0 ∧ (refF (hs.map PairD.e) no false key).1.length ≤ 4096 then good ++ [key] else good) (n + 1)) F s _ key v bs (fun _ ht => tel_src F t hv no good n T hT hs hh hhl hhv hnl hgl hn key (asks_new hg ht)) hr hst).turn fun v L h => ?_
  obtain ⟨T', hb, hr, hL⟩ := h
  by_cases hm : mayI key bs.length = 0
  · rw [if_pos hm] at hb
    obtain ⟨good', h1, h2⟩ := ask_good hT hg (mayI_le hm).2 hb
    refine ⟨L, ⟨T', good', h1, ?_, hr, hL⟩, Ent.refl _⟩
    have e : touchedQ (putQ (refF (hs.map PairD.e) no false key) R key bs).2 = touchedQ (askQ (refF (hs.map PairD.e) no false key) R key) := by
      unfold putQ
      rw [if_neg (fun h => h hm)]
      show touchedQ (if _ then _ else _) = _
      split <;> rfl
    rw [e]
    exact h2
  · rw [if_neg hm] at hb
    refine ⟨L, ⟨T', good, by rw [hb]; exact hT.more (by omega), ?_, hr, hL⟩, Ent.refl _⟩
    have e : putQ (refF (hs.map PairD.e) no false key) R key bs = (mayI key bs.length, R) := by unfold putQ; rw [if_pos hm]
    rw [e]
    exact hg
end
theorem rd_mid {A H B F : List HP} {v : Value} {n : Nat} {cs : List Value} (h : RdS (H ++ F) v n cs) : RdS ((A ++ (H ++ B)) ++ F) v n cs :=
  h.ent fun w hs => (hs.perm (show List.Perm ((A ++ (H ++ B)) ++ F) ((A ++ B) ++ (H ++ F)) from (by classical exact List.perm_iff_count.2 fun x => by simp only [List.append_eq, List.count_append, List.count_cons, List.count_nil]; omega))).right
theorem rd_end {A H F : List HP} {v : Value} {n : Nat} {cs : List Value} (h : RdS (H ++ F) v n cs) : RdS ((A ++ H) ++ F) v n cs := by
  rw [List.append_assoc]
  exact h.right A
theorem rd_perm {A H L F : List HP} {v : Value} {n : Nat} {cs : List Value} (h : RdS (H ++ F) v n cs) (hp : L.Perm (A ++ H)) : RdS (L ++ F) v n cs :=
  h.ent fun w hs => by
    have h2 := hs.perm (hp.append_right F)
    rw [List.append_assoc] at h2
    exact h2.right
/-- How the statement's two states and its source stand. -/
structure StS (F : List HP) (t m : Nat) (R : RSt) (hv hv2 nv2 : Value) (no : List NoD) (hs : List PairD) (good : List ByteArray) (T H H2 : List HP) (n : Nat) : Prop where
  tel : TelΦ t hv no good n T
  rh : RdS (H ++ F) hv hs.length (pairsC hs)
  rh2 : RdS (H2 ++ F) hv2 hs.length (pairsC hs)
  snv : SlV nv2 no.length
  perm : good.Perm (touchedQ R)
  vals : ∀ p ∈ hs, RdS F p.v p.bs.length (bvs p.bs) ∧ p.bs.length ≤ 140737488355328
  small : R.small
  tl : R.told.length ≤ m
  sl : R.steps.length ≤ m
  ml : R.marks.length ≤ m
  hl : hs.length ≤ 3518437208882 + m
  nl : no.length ≤ 5864062014806
def stS (s t d : Nat) (R : RSt) (hv2 nv2 : Value) (no : List NoD) (T H H2 : List HP) : List HP :=
  refR 70 d hv2 false nv2 R :: (stR 118 s (.iface 60 (.pointer (some ⟨t, 0, none⟩))) R :: (T ++ (own 2 nv2 no.length (noC no) :: (H ++ H2))))
theorem play_spec (F : List HP) (s t d m : Nat) (hm : m < 2513169434916) (R : RSt) (hv hv2 nv2 : Value) (no : List NoD) (hs : List PairD) (good : List ByteArray) (T H H2 : List HP) (h : StS F t m R hv hv2 nv2 no hs good T H H2 0) (o : StepS) (ho : RdS F o.v o.bs.length (bvs o.bs)) (hob : o.bs.length ≤ 140737488355328) (hmk : -9223372036854775808 ≤ o.mark ∧ o.mark ≤ 9223372036854775807) :
    SpecF Tryz.prog 21 [.pointer (some ⟨t, 0, none⟩), .pointer (some ⟨s, 0, none⟩), .pointer (some ⟨d, 0, none⟩), .agg ⟨o.cells⟩] F (stS s t d R hv2 nv2 no T H H2) (fun r L => r = .bool true ∧ ∃ R' hv' hv2' nv2' no' hs' good' T' H' H2', StS F t (m + 1) R' hv' hv2' nv2' no' hs' good' T' H' H2' 2 ∧ L = stS s t d R' hv2' nv2' no' T' H' H2') := by
  obtain ⟨src, hsrc⟩ : ∃ src, src = Value.iface 60 (.pointer (some ⟨t, 0, none⟩)) := ⟨_, rfl⟩
  unfold stS
  rw [← hsrc]
  obtain ⟨N, hN⟩ : ∃ N, N = own 2 nv2 no.length (noC no) := ⟨_, rfl⟩
  rw [← hN]
  refine SpecF.unpack fun dd hq => ?_
  have hpk : ∀ M, Ent (dd.pieces 70 d hv2 false nv2 R.bad ++ M) (refR 70 d hv2 false nv2 R :: M) := fun M => Ent.pack (ls := fun d' => RfD.pieces 70 d hv2 false nv2 R.bad d') hq
  obtain ⟨ova, ovc, hov⟩ := ho.len
  have ht3 := h.tl
  have hs3 := h.sl
  have hm3 := h.ml
  have hh3 := h.hl
  have hn3 := h.nl
  refine fun21.spec rfl ?_
  conv => whnf
  intro b
  conv => whnf
  obtain ⟨cb, hcb⟩ : ∃ cb, cb = cel b 76 o.cells := ⟨_, rfl⟩
  have k0 : Cel [cb] b 0 (.int .i64 o.kind) := by rw [hcb]; exact .here rfl
  have k1 : Cel [cb] b 1 (.string o.key) := by rw [hcb]; exact .here rfl
  have k2 : Cel [cb] b 2 o.v := by rw [hcb]; exact .here rfl
  have k3 : Cel [cb] b 3 (.int .i64 o.mark) := by rw [hcb]; exact .here rfl
  rw [← hcb]
  obtain ⟨f, hf⟩ : ∃ f, f = refF (hs.map PairD.e) no false o.key := ⟨_, rfl⟩
  obtain ⟨Q, hQ⟩ : ∃ Q : RSt → HP, Q = fun R => refR 70 d hv2 false nv2 R := ⟨_, rfl⟩
  obtain ⟨S, hS⟩ : ∃ S : RSt → HP, S = fun R => stR 118 s src R := ⟨_, rfl⟩
  have hpk2 : Ent (cb :: (dd.pieces 70 d hv2 false nv2 R.bad ++ (S R :: (T ++ (N :: (H ++ H2)))))) (cb :: Q R :: S R :: (T ++ (N :: (H ++ H2)))) := by
    rw [hQ]
    exact Ent.cons cb (hpk _)
  have rN : ∀ L, RdS (N :: L) nv2 no.length (noC no) := fun L => by rw [hN]; exact own_rd h.snv (noC_len no)
  have vz : ∀ L, ∀ p ∈ hs, RdS (L ++ F) p.v p.bs.length (bvs p.bs) ∧ p.bs.length ≤ 140737488355328 := fun L p hp => ⟨(h.vals p hp).1.right L, (h.vals p hp).2⟩
  have hget : ∀ (L : List HP) (n : Nat) (R : RSt) (T : List HP) (good : List ByteArray), n ≤ 4 → R.told.length ≤ m + 1 → TelΦ t hv no good n T → good.Perm (touchedQ R) → RdS (L ++ F) hv hs.length (pairsC hs) →
      SpecF Tryz.prog 56 [.pointer (some ⟨s, 0, none⟩), .string o.key] (L ++ F) (S R :: T) (fun r L' => ∃ x T' good', TelΦ t hv no good' (n + 1) T' ∧ good'.Perm (touchedQ (getQ f R o.key).2) ∧ SlV x (getQ f R o.key).1.1.length ∧ r = .tuple #[x, .int .i64 (getQ f R o.key).1.2] ∧ L' = own 1 x (getQ f R o.key).1.1.length (bvs (getQ f R o.key).1.1) :: S (getQ f R o.key).2 :: T') := fun L n R T good hn hr h1 h2 h3 => by
    rw [hS, hsrc, hf]
    exact get_tel (L ++ F) s t hv no good n h1 h2 hs h3 (by omega) (vz L) (by omega) (by omega) (by omega) o.key
  have gq := getQ_bounds (f := f) (R := R) (k := o.key)
  have gs := h.small.get f o.key
  have pq := putQ_bounds (f := f) (R := R) (k := o.key) (bs := o.bs)
  have hS2 : stR 118 s src = S := by rw [hS]
  have hQ2 : refR 70 d hv2 false nv2 = Q := by rw [hQ]
  have rx : ∀ (A : List HP) (q : Value) (bs : List Nat), SlV q bs.length → RdS (own 1 q bs.length (bvs bs) :: A) q bs.length (bvs bs) := fun A q bs h => own_rd h (by rw [bvs_len, Nat.mul_one])
  have href : ∀ (L : List HP), RdS (L ++ F) hv2 hs.length (pairsC hs) → RdS (L ++ F) nv2 no.length (noC no) → SpecF Tryz.prog 57 [.pointer (some ⟨d, 0, none⟩), .string o.key] (L ++ F) [Q R] (fun r L' => ∃ x, SlV x (getQ f R o.key).1.1.length ∧ r = .tuple #[x, .int .i64 (getQ f R o.key).1.2] ∧ L' = [own 1 x (getQ f R o.key).1.1.length (bvs (getQ f R o.key).1.1), Q (getQ f R o.key).2]) := fun L h1 h2 => by
    rw [hQ, hf]
    exact get7_spec (L ++ F) d hv2 false nv2 hs no h1 (by omega) (fun p hp => (vz L p hp).1) h2 (by omega) (by omega) (by omega) o.key
  have hput : ∀ (L : List HP) (v : Value), RdS (L ++ F) v o.bs.length (bvs o.bs) → RdS (L ++ F) hv hs.length (pairsC hs) →
      SpecF Tryz.prog 61 [.pointer (some ⟨s, 0, none⟩), .string o.key, v] (L ++ F) (S R :: T) (fun r L' => ∃ T' good', TelΦ t hv no good' (0 + 1) T' ∧ good'.Perm (touchedQ (putQ f R o.key o.bs).2) ∧ r = .int .i64 (putQ f R o.key o.bs).1 ∧ L' = S (putQ f R o.key o.bs).2 :: T') := fun L v h1 h3 => by
    rw [hS, hsrc, hf]
    exact put_tel (L ++ F) s t hv no good 0 h.tel h.perm hs h3 (by omega) (vz L) (by omega) (by omega) (by omega) o.key v o.bs h1 (by omega)
  have hrep : ∀ (L : List HP), RdS (L ++ F) hv2 hs.length (pairsC hs) → RdS (L ++ F) nv2 no.length (noC no) → SpecF Tryz.prog 62 [.pointer (some ⟨d, 0, none⟩), .string o.key, o.v] (L ++ F) [Q R] (fun r L' => r = .int .i64 (putQ f R o.key o.bs).1 ∧ L' = [Q (putQ f R o.key o.bs).2]) := fun L h1 h2 => by
    rw [hQ, hf]
    exact put7s_spec (L ++ F) d hv2 false nv2 hs no h1 (by omega) (fun p hp => (vz L p hp).1) h2 (by omega) (by omega) (by omega) o.key o.v o.bs (.right ho L)
  have hmark : ∀ L, SpecF Tryz.prog 49 [.pointer (some ⟨s, 0, none⟩)] (L ++ F) [S R] (fun r L' => r = .int .i64 (markQ R).1 ∧ L' = [S (markQ R).2]) := fun L => by rw [hS]; exact mark_h (L ++ F) s src (by omega) (by omega)
  have hrmark : ∀ L, SpecF Tryz.prog 63 [.pointer (some ⟨d, 0, none⟩)] (L ++ F) [Q R] (fun r L' => r = .int .i64 (markQ R).1 ∧ L' = [Q (markQ R).2]) := fun L => by rw [hQ]; exact mark7_spec (L ++ F) d hv2 false nv2 (by omega) (by omega)
  have hback : ∀ L, SpecF Tryz.prog 50 [.pointer (some ⟨s, 0, none⟩), .int .i64 o.mark] (L ++ F) [S R] (fun r L' => r = .int .i64 (backQ R o.mark).1 ∧ L' = [S (backQ R o.mark).2]) := fun L => by rw [hS]; exact back_h (L ++ F) s src (by omega) (by omega) o.mark hmk.1 hmk.2
  have hrback : ∀ L, SpecF Tryz.prog 64 [.pointer (some ⟨d, 0, none⟩), .int .i64 o.mark] (L ++ F) [Q R] (fun r L' => r = .int .i64 (backQ R o.mark).1 ∧ L' = [Q (backQ R o.mark).2]) := fun L => by rw [hQ]; exact back7_spec (L ++ F) d hv2 false nv2 (by omega) (by omega) o.mark hmk.1 hmk.2
  have htouch : ∀ L, SpecF Tryz.prog 24 [.pointer (some ⟨s, 0, none⟩)] (L ++ F) [S R] (fun r L' => SlV r (touchedQ R).length ∧ L' = [own 1 r (touchedQ R).length (keysB (touchedQ R)), S R]) := fun L => by rw [hS]; exact touched_h (L ++ F) s src (by omega)
  have hrtouch : ∀ L, SpecF Tryz.prog 25 [.pointer (some ⟨d, 0, none⟩)] (L ++ F) [Q R] (fun r L' => SlV r (touchedQ R).length ∧ L' = [own 1 r (touchedQ R).length (keysB (touchedQ R)), Q R]) := fun L => by rw [hQ]; exact touched7_spec (L ++ F) d hv2 false nv2 (by omega)
  have hlaw : ∀ L, SpecF Tryz.prog 27 [.pointer (some ⟨s, 0, none⟩), .pointer (some ⟨d, 0, none⟩)] (L ++ F) [S R, Q R] (fun r L' => r = .bool true ∧ L' = [S R, Q R]) := fun L => by rw [hS, hQ]; exact changes_law (L ++ F) s d src hv2 false nv2 (by omega) (by omega) h.small.val h.small.told
  have done : ∀ (R' : RSt) (T' : List HP) (good' : List ByteArray), StS F t (m + 1) R' hv hv2 nv2 no hs good' T' H H2 2 → ∀ L, Ent L (Q R' :: S R' :: (T' ++ (N :: (H ++ H2)))) → RetG L (.bool true) (fun r L => r = .bool true ∧ ∃ R' hv' hv2' nv2' no' hs' good' T' H' H2', StS F t (m + 1) R' hv' hv2' nv2' no' hs' good' T' H' H2' 2 ∧ L = refR 70 d hv2' false nv2' R' :: (stR 118 s src R' :: (T' ++ (own 2 nv2' no'.length (noC no') :: (H' ++ H2'))))) := fun R' T' good' h1 L hL => ⟨_, hL, rfl, R', hv, hv2, nv2, no, hs, good', T', H, H2, h1, by rw [hQ, hS, hN]⟩
  rw [show stR 118 s src R = S R from by rw [hS]]
  refine LoadG.at (k0.left _) ?_
  conv => whnf
  refine CondG.dec (fun c1 => ?_) (fun c1 => ?_)
  · conv => whnf
    refine LoadG.at (k1.left _) ?_
    conv => whnf
    refine CallG.of (pre := S R :: T) (rest := Q R :: cb :: N :: (H ++ H2)) (hget _ 0 R T good (by omega) (by omega) h.tel h.perm (rd_mid (A := [Q R, cb, N]) h.rh)) (hpk2.trans (Ent.perm (by classical exact List.perm_iff_count.2 fun x => by simp only [List.append_eq, List.count_append, List.count_cons, List.count_nil]; omega))) ?_
    rintro _ _ ⟨x, T1, good1, hT1, hg1, hx, rfl, rfl⟩
    obtain ⟨v, hv1⟩ : ∃ v, v = (getQ f R o.key).1.1 := ⟨_, rfl⟩
    obtain ⟨R1, hR1⟩ : ∃ R1, R1 = (getQ f R o.key).2 := ⟨_, rfl⟩
    rw [← hv1] at hx
    rw [← hR1] at hg1 gq gs
    rw [← hv1, ← hR1]
    have hg2 := hget (own 1 x v.length (bvs v) :: Q R :: cb :: N :: (H ++ H2)) 1 R1 T1 good1 (by omega) (by omega) hT1 hg1 (rd_mid (A := [own 1 x v.length (bvs v), Q R, cb, N]) h.rh)
    rw [hR1, getQ_twice, ← hR1, ← hv1] at hg2
    conv => whnf
    refine LoadG.at (.right (.tl (k1.left _)) (own 1 x v.length (bvs v) :: S R1 :: T1)) ?_
    conv => whnf
    refine CallG.of (pre := S R1 :: T1) (rest := own 1 x v.length (bvs v) :: Q R :: cb :: N :: (H ++ H2)) hg2 (Ent.perm (by classical exact List.perm_iff_count.2 fun x => by simp only [List.append_eq, List.count_append, List.count_cons, List.count_nil]; omega)) ?_
    rintro _ _ ⟨y, T2, good2, hT2, hg3, hy, rfl, rfl⟩
    conv => whnf
    refine LoadG.at (.right (.tl (.tl (k1.left _))) (own 1 y v.length (bvs v) :: S R1 :: T2)) ?_
    conv => whnf
    refine CallG.of (pre := [Q R]) (rest := own 1 y v.length (bvs v) :: S R1 :: (T2 ++ (own 1 x v.length (bvs v) :: cb :: N :: (H ++ H2)))) (href _ (rd_perm (A := own 1 y v.length (bvs v) :: S R1 :: (T2 ++ (own 1 x v.length (bvs v) :: cb :: N :: H))) h.rh2 (by classical exact List.perm_iff_count.2 fun x => by simp only [List.append_eq, List.count_append, List.count_cons, List.count_nil]; omega)) (.left (.tl (.tl (.right (.tl (.tl (rN _))) T2))) F)) (Ent.perm (by classical exact List.perm_iff_count.2 fun x => by simp only [List.append_eq, List.count_append, List.count_cons, List.count_nil]; omega)) ?_
    rintro _ _ ⟨z, hz, rfl, rfl⟩
    rw [← hv1] at hz
    rw [← hv1, ← hR1]
    conv => whnf
    refine CallG.pure (bytes_same7 _ x z v v (.left (.tl (.tl (.tl (.tl (.right (rx _ x v hx) T2))))) F) (.left (rx _ z v hz) F)) ?_
    rintro _ _ ⟨rfl, rfl⟩
    have ev : decide (strB v = strB v) = true := by simp
    rw [ev]
    conv => whnf
    refine CallG.pure (bytes_same7 _ y z v v (.left (.tl (.tl (rx _ y v hy))) F) (.left (rx _ z v hz) F)) ?_
    rintro _ _ ⟨rfl, rfl⟩
    rw [ev]
    conv => whnf
    refine CallG.of (pre := [own 1 x v.length (bvs v), own 1 y v.length (bvs v)]) (rest := own 1 z v.length (bvs v) :: Q R1 :: S R1 :: (T2 ++ (cb :: N :: (H ++ H2)))) (two_spec _ x y _ _ _ _ (by rw [hv1]; omega) (by rw [hv1]; omega)) (Ent.perm (by classical exact List.perm_iff_count.2 fun x => by simp only [List.append_eq, List.count_append, List.count_cons, List.count_nil]; omega)) ?_
    rintro _ _ ⟨rfl, rfl⟩
    (conv => whnf); repeat ((with_reducible first | refine .tt ?_ | refine .ff ?_ | refine .ntt ?_ | refine .nff ?_); conv => whnf)
    rw [show decide ((getQ f R o.key).1.2 = (getQ f R o.key).1.2) = true from by simp]
    exact done R1 T2 good2 ⟨hT2, h.rh, h.rh2, h.snv, hg3, h.vals, gs.1, by omega, by rw [gq.2.1]; omega, by rw [gq.2.2]; omega, by omega, h.nl⟩ _ (Ent.trans (Ent.perm (by classical exact List.perm_iff_count.2 fun x => by simp only [List.append_eq, List.count_append, List.count_cons, List.count_nil]; omega)) (Ent.dropL (Q R1 :: S R1 :: (T2 ++ (N :: (H ++ H2)))) [own 1 z v.length (bvs v), cb]))
  conv => whnf
  refine CondG.dec (fun c2 => ?_) (fun c2 => ?_)
  · conv => whnf
    refine LoadG.at (k2.left _) ?_
    conv => whnf
    refine CallG.pure (lent_spec _ o.v o.bs (.right ho _) hob) ?_
    rintro r _ ⟨hr, rfl⟩
    obtain ⟨ra, rc, rfl⟩ := hr.len
    conv => whnf
    refine DrawG.mk 10 (own 1 (.slice ra (o.bs.length + 40) rc) (o.bs.length + 40) (bvs (lentB o.bs)) :: Q R :: cb :: N :: (H ++ H2)) (S R :: T) ((Ent.cons _ hpk2).trans (Ent.perm (by classical exact List.perm_iff_count.2 fun x => by simp only [List.append_eq, List.count_append, List.count_cons, List.count_nil]; omega))) ?_
    conv => whnf
    refine .take 0 ?_
    conv => whnf
    refine ⟨rfl, ?_⟩
    conv => whnf
    refine .take 1 ?_
    conv => whnf
    refine ⟨rfl, ?_⟩
    conv => whnf
    refine .take 2 ?_
    conv => whnf
    refine ⟨rfl, ?_⟩
    conv => whnf
    refine LoadG.at (.tl (.tl (k1.left _))) ?_
    conv => whnf
    refine .take 3 ?_
    conv => whnf
    refine ⟨rfl, ?_⟩
    conv => whnf
    refine .take 4 ?_
    conv => whnf
    refine ⟨rfl, ?_⟩
    conv => whnf
    refine .take 5 ?_
    conv => whnf
    refine ⟨rfl, ?_⟩
    conv => whnf
    refine LoadG.at (.tl (.tl (k2.left _))) ?_
    conv => whnf
    refine .take 6 ?_
    conv => whnf
    refine ⟨rfl, ?_⟩
    conv => whnf
    refine LenG.rd ho ?_
    conv => whnf
    refine .take 7 ?_
    conv => whnf
    refine ⟨rfl, ?_⟩
    conv => whnf
    have hcap : o.bs.length + 40 ≤ rc := by
      rcases hr with ⟨h5, h6⟩ | ⟨g, cap, h5, h6⟩
      · omega
      · cases h5; exact h6
    have hro : ∀ A, RdS (own 1 (.slice ra (o.bs.length + 40) rc) (o.bs.length + 40) (bvs (lentB o.bs)) :: A) (.slice ra (o.bs.length + 40) rc) (o.bs.length + 40) (bvs (lentB o.bs)) := fun A => own_rd hr (by rw [bvs_len, lentB_len, Nat.mul_one])
    have hcut : ∀ A, RdS (own 1 (.slice ra (o.bs.length + 40) rc) (o.bs.length + 40) (bvs (lentB o.bs)) :: A) (.slice ra o.bs.length rc) o.bs.length (bvs o.bs) := fun A => by
      have h4 := RdS.take (hro A) (k := o.bs.length) (by omega) (by rw [bvs_len, lentB_len])
      have e : (bvs (lentB o.bs)).take o.bs.length = bvs o.bs := by rw [bvs, ← List.map_take, lentB, List.take_left' rfl]; rfl
      rw [e] at h4
      exact h4
    refine SlcG.lit ?_
    conv => whnf
    refine SideG.of (by omega) ?_
    conv => whnf
    refine SliceG.zero ?_
    conv => whnf
    refine .all ?_
    conv => whnf
    refine ⟨by decide, ?_⟩
    conv => whnf
    refine CallG.of (pre := S R :: T) (rest := []) (hput _ _ (.left (hcut _) F) (rd_mid (A := [own 1 (.slice ra (o.bs.length + 40) rc) (o.bs.length + 40) (bvs (lentB o.bs)), Q R, cb, N]) h.rh)) (by rw [List.append_nil]; exact Ent.refl _) ?_
    rintro _ _ ⟨T1, good1, hT1, hg1, rfl, rfl⟩
    obtain ⟨R1, hR1⟩ : ∃ R1, R1 = (putQ f R o.key o.bs).2 := ⟨_, rfl⟩
    rw [← hR1] at hg1 pq
    rw [← hR1]
    conv => whnf
    refine .all ?_
    conv => whnf
    refine ⟨by decide, ?_⟩
    conv => whnf
    refine ⟨rfl, ?_⟩
    conv => whnf
    rw [List.append_nil]
    refine LoadG.at (.right (.tl (.tl (k2.left _))) (S R1 :: T1)) ?_
    conv => whnf
    refine CallG.pure (kept_spec _ (.slice ra (o.bs.length + 40) rc) o.v o.bs (.left (.right (hro _) (S R1 :: T1)) F) (.right ho _) hob) ?_
    rintro _ _ ⟨rfl, rfl⟩
    conv => whnf
    obtain ⟨l, hl⟩ : ∃ l, l = (lentB o.bs).map Int.ofNat := ⟨_, rfl⟩
    have hll : l.length = o.bs.length + 40 := by rw [hl, List.length_map, lentB_len]
    refine CallG.of (pre := [own 1 (.slice ra (o.bs.length + 40) rc) l.length (ivs l)]) (rest := Q R :: S R1 :: (T1 ++ (cb :: N :: (H ++ H2)))) (spoil_spec _ (.slice ra (o.bs.length + 40) rc) l (by omega)) (by rw [hll, hl, ← bvs_ivs]; exact Ent.perm (by classical exact List.perm_iff_count.2 fun x => by simp only [List.append_eq, List.count_append, List.count_cons, List.count_nil]; omega)) ?_
    rintro _ _ ⟨m2, hm2, rfl⟩
    conv => whnf
    refine LoadG.at (.tl (.tl (.tl (.right (k1.left _) T1)))) ?_
    conv => whnf
    refine LoadG.at (.tl (.tl (.tl (.right (k2.left _) T1)))) ?_
    conv => whnf
    refine CallG.of (pre := [Q R]) (rest := own 1 (.slice ra (o.bs.length + 40) rc) m2.length (ivs m2) :: S R1 :: (T1 ++ (cb :: N :: (H ++ H2)))) (hrep _ (rd_perm (A := own 1 (.slice ra (o.bs.length + 40) rc) m2.length (ivs m2) :: S R1 :: (T1 ++ (cb :: N :: H))) h.rh2 (by classical exact List.perm_iff_count.2 fun x => by simp only [List.append_eq, List.count_append, List.count_cons, List.count_nil]; omega)) (.left (.tl (.tl (.right (.tl (rN _)) T1))) F)) (Ent.perm (by classical exact List.perm_iff_count.2 fun x => by simp only [List.append_eq, List.count_append, List.count_cons, List.count_nil]; omega)) ?_
    rintro _ _ ⟨rfl, rfl⟩
    rw [← hR1]
    (conv => whnf); repeat ((with_reducible first | refine .tt ?_ | refine .ff ?_ | refine .ntt ?_ | refine .nff ?_); conv => whnf)
    rw [show decide ((putQ f R o.key o.bs).1 = (putQ f R o.key o.bs).1) = true from by simp]
    exact done R1 T1 good1 ⟨hT1.more (by decide), h.rh, h.rh2, h.snv, hg1, h.vals, by rw [hR1]; exact h.small.put f o.key o.bs, by omega, by omega, by rw [pq.2.2]; omega, by omega, h.nl⟩ _ (Ent.trans (Ent.perm (by classical exact List.perm_iff_count.2 fun x => by simp only [List.append_eq, List.count_append, List.count_cons, List.count_nil]; omega)) (Ent.dropL (Q R1 :: S R1 :: (T1 ++ (N :: (H ++ H2)))) [own 1 (.slice ra (o.bs.length + 40) rc) m2.length (ivs m2), cb]))
  conv => whnf
  refine CondG.dec (fun c3 => ?_) (fun c3 => ?_)
  · conv => whnf
    refine CallG.of (pre := [S R]) (rest := Q R :: (T ++ (cb :: N :: (H ++ H2)))) (hmark _) (hpk2.trans (Ent.perm (by classical exact List.perm_iff_count.2 fun x => by simp only [List.append_eq, List.count_append, List.count_cons, List.count_nil]; omega))) ?_
    rintro _ _ ⟨rfl, rfl⟩
    conv => whnf
    refine CallG.of (pre := [Q R]) (rest := S (markQ R).2 :: (T ++ (cb :: N :: (H ++ H2)))) (hrmark _) (Ent.perm (by classical exact List.perm_iff_count.2 fun x => by simp only [List.append_eq, List.count_append, List.count_cons, List.count_nil]; omega)) ?_
    rintro _ _ ⟨rfl, rfl⟩
    conv => whnf
    rw [show decide ((markQ R).1 = (markQ R).1) = true from by simp]
    exact done (markQ R).2 T good ⟨h.tel.more (by decide), h.rh, h.rh2, h.snv, h.perm, h.vals, h.small.mark, by show R.told.length ≤ _; omega, by show R.steps.length ≤ _; omega, by show (R.marks ++ [R.steps.length]).length ≤ _; rw [List.length_append, List.length_singleton]; omega, by omega, h.nl⟩ _ (Ent.trans (Ent.perm (by classical exact List.perm_iff_count.2 fun x => by simp only [List.append_eq, List.count_append, List.count_cons, List.count_nil]; omega)) (Ent.dropL (Q (markQ R).2 :: S (markQ R).2 :: (T ++ (N :: (H ++ H2)))) [cb]))
  conv => whnf
  refine CondG.dec (fun c4 => ?_) (fun c4 => ?_)
  · have bq := backQ_bounds (R := R) (m := o.mark)
    conv => whnf
    refine LoadG.at (k3.left _) ?_
    conv => whnf
    refine CallG.of (pre := [S R]) (rest := Q R :: (T ++ (cb :: N :: (H ++ H2)))) (hback _) (hpk2.trans (Ent.perm (by classical exact List.perm_iff_count.2 fun x => by simp only [List.append_eq, List.count_append, List.count_cons, List.count_nil]; omega))) ?_
    rintro _ _ ⟨rfl, rfl⟩
    conv => whnf
    refine LoadG.at (.tl (.tl (.right (k3.left _) T))) ?_
    conv => whnf
    refine CallG.of (pre := [Q R]) (rest := S (backQ R o.mark).2 :: (T ++ (cb :: N :: (H ++ H2)))) (hrback _) (Ent.perm (by classical exact List.perm_iff_count.2 fun x => by simp only [List.append_eq, List.count_append, List.count_cons, List.count_nil]; omega)) ?_
    rintro _ _ ⟨rfl, rfl⟩
    conv => whnf
    rw [show decide ((backQ R o.mark).1 = (backQ R o.mark).1) = true from by simp]
    exact done (backQ R o.mark).2 T good ⟨h.tel.more (by decide), h.rh, h.rh2, h.snv, by unfold touchedQ; rw [bq.1]; exact h.perm, h.vals, h.small.back o.mark, by rw [bq.1]; omega, by omega, by omega, by omega, h.nl⟩ _ (Ent.trans (Ent.perm (by classical exact List.perm_iff_count.2 fun x => by simp only [List.append_eq, List.count_append, List.count_cons, List.count_nil]; omega)) (Ent.dropL (Q (backQ R o.mark).2 :: S (backQ R o.mark).2 :: (T ++ (N :: (H ++ H2)))) [cb]))
  have same : StS F t (m + 1) R hv hv2 nv2 no hs good T H H2 2 := ⟨h.tel.more (by decide), h.rh, h.rh2, h.snv, h.perm, h.vals, h.small, by omega, by omega, by omega, by omega, h.nl⟩
  conv => whnf
  refine CondG.dec (fun c5 => ?_) (fun c5 => ?_)
  · conv => whnf
    refine CallG.of (pre := [S R]) (rest := Q R :: (T ++ (cb :: N :: (H ++ H2)))) (htouch _) (hpk2.trans (Ent.perm (by classical exact List.perm_iff_count.2 fun x => by simp only [List.append_eq, List.count_append, List.count_cons, List.count_nil]; omega))) ?_
    rintro av _ ⟨hav, rfl⟩
    conv => whnf
    refine CallG.of (pre := [Q R]) (rest := own 1 av (touchedQ R).length (keysB (touchedQ R)) :: S R :: (T ++ (cb :: N :: (H ++ H2)))) (hrtouch _) (Ent.perm (by classical exact List.perm_iff_count.2 fun x => by simp only [List.append_eq, List.count_append, List.count_cons, List.count_nil]; omega)) ?_
    rintro bv _ ⟨hbv, rfl⟩
    conv => whnf
    refine CallG.pure (texts_same _ av bv (touchedQ R) (.left (.tl (.tl (own_rd hav (by rw [keysB, List.length_map, Nat.mul_one])))) F) (.left (own_rd hbv (by rw [keysB, List.length_map, Nat.mul_one])) F) (by rw [touchedQ, List.length_map]; omega)) ?_
    rintro _ _ ⟨rfl, rfl⟩
    conv => whnf
    exact done R T good same _ (Ent.trans (Ent.perm (by classical exact List.perm_iff_count.2 fun x => by simp only [List.append_eq, List.count_append, List.count_cons, List.count_nil]; omega)) (Ent.dropL (Q R :: S R :: (T ++ (N :: (H ++ H2)))) [own 1 bv (touchedQ R).length (keysB (touchedQ R)), own 1 av (touchedQ R).length (keysB (touchedQ R)), cb]))
  conv => whnf
  refine CondG.dec (fun c6 => ?_) (fun c6 => ?_)
  · conv => whnf
    refine CallG.of (pre := [S R, Q R]) (rest := T ++ (cb :: N :: (H ++ H2))) (hlaw _) (hpk2.trans (Ent.perm (by classical exact List.perm_iff_count.2 fun x => by simp only [List.append_eq, List.count_append, List.count_cons, List.count_nil]; omega))) ?_
    rintro _ _ ⟨rfl, rfl⟩
    conv => whnf
    exact done R T good same _ (Ent.trans (Ent.perm (by classical exact List.perm_iff_count.2 fun x => by simp only [List.append_eq, List.count_append, List.count_cons, List.count_nil]; omega)) (Ent.dropL (Q R :: S R :: (T ++ (N :: (H ++ H2)))) [cb]))
  conv => whnf
  refine CondG.dec (fun c7 => ?_) (fun c7 => ?_)
  · conv => whnf
    obtain ⟨nv, gv, tv, told, hn1, hn2, hn4, hn5, hn6, hT⟩ := h.tel
    obtain ⟨TT, hTT⟩ : ∃ TT, TT = own 1 gv good.length (keysB good) :: own 1 tv told.length (told.map (·.1)) :: told.map fun p : Value × List Nat => own 1 p.1 (p.2.length + 40) (bvs (lentB p.2)) := ⟨_, rfl⟩
    obtain ⟨DD, hDD⟩ : ∃ DD, DD = own 2 dd.tv dd.ts.length (pairsC dd.ts) :: own 2 dd.sv dd.ss.length (pairsC dd.ss) :: own 1 dd.mv dd.marks.length (dd.marks.map fun n : Nat => Value.int .i64 n) :: (pdS dd.ts ++ pdS dd.ss) := ⟨_, rfl⟩
    have eT : ∀ nl : List NoD, telL t hv nv gv tv nl good told = cel t 64 [hv, nv, gv, .bool false, tv] :: own 2 nv nl.length (noC nl) :: TT := fun nl => by rw [hTT]; rfl
    have eD : dd.pieces 70 d hv2 false nv2 R.bad = cel d 70 [hv2, .bool false, nv2, dd.tv, dd.sv, dd.mv, .int .i64 R.bad] :: DD := by rw [hDD]; rfl
    obtain ⟨Z, hZ⟩ : ∃ Z, Z = DD ++ (S R :: (TT ++ (H ++ H2))) := ⟨_, rfl⟩
    have hsnv := h.snv
    refine LoopG.mk (fun mm e L => ∃ (i : Nat) (nl : List NoD), i ≤ no.length ∧ mm = no.length - i ∧ nl.length = no.length ∧
        e = [(0, .pointer (some ⟨t, 0, none⟩)), (2, .pointer (some ⟨d, 0, none⟩)), (7, .pointer (some ⟨b, 0, none⟩)), (8, .bool false), (28, .int .i64 i)] ∧ L = cb :: cel t 64 [hv, nv, gv, .bool false, tv] :: own 2 nv no.length (noC nl) :: own 2 nv2 no.length (noC nl) :: cel d 70 [hv2, .bool false, nv2, dd.tv, dd.sv, dd.mv, .int .i64 R.bad] :: Z) no.length
      [(0, .pointer (some ⟨t, 0, none⟩)), (2, .pointer (some ⟨d, 0, none⟩)), (7, .pointer (some ⟨b, 0, none⟩)), (8, .bool false), (28, .int .i64 0)] (cb :: cel t 64 [hv, nv, gv, .bool false, tv] :: own 2 nv no.length (noC no) :: own 2 nv2 no.length (noC no) :: cel d 70 [hv2, .bool false, nv2, dd.tv, dd.sv, dd.mv, .int .i64 R.bad] :: Z) ⟨rfl, rfl, rfl, rfl, rfl, trivial⟩ ?_
      ⟨0, no, by omega, rfl, rfl, rfl, rfl⟩ ?_
    · rw [hT, eT, eD, hN, hZ]
      exact Ent.perm (by classical exact List.perm_iff_count.2 fun x => by simp only [List.append_eq, List.count_append, List.count_cons, List.count_nil]; omega)
    rintro mm e L ⟨i, nl, hi, rfl, hnl, rfl, rfl⟩
    have r1 : ∀ A, RdS (own 2 nv no.length (noC nl) :: A) nv no.length (noC nl) := fun A => own_rd hn1 (by rw [noC_len, hnl])
    have r2 : ∀ A, RdS (own 2 nv2 no.length (noC nl) :: A) nv2 no.length (noC nl) := fun A => own_rd hsnv (by rw [noC_len, hnl])
    conv => whnf
    refine LoadG.at (.tl (.here rfl)) ?_
    conv => whnf
    refine LenG.sl hn1 ?_
    conv => whnf
    refine CondG.dec (fun hlt => ?_) (fun hlt => ?_)
    · obtain ⟨p, hp⟩ : ∃ p, nl[i]? = some p := ⟨nl[i]'(by omega), List.getElem?_eq_getElem _⟩
      obtain ⟨hp1, hp2⟩ := noC_get hp
      have hidx : RdS (cb :: cel t 64 [hv, nv, gv, .bool false, tv] :: own 2 nv no.length (noC nl) :: own 2 nv2 no.length (noC nl) :: cel d 70 [hv2, .bool false, nv2, dd.tv, dd.sv, dd.mv, .int .i64 R.bad] :: Z) nv no.length (noC nl) := .tl (.tl (r1 _))
      conv => whnf
      refine DrawG.mk 11 (cb :: cel t 64 [hv, nv, gv, .bool false, tv] :: own 2 nv no.length (noC nl) :: own 2 nv2 no.length (noC nl) :: cel d 70 [hv2, .bool false, nv2, dd.tv, dd.sv, dd.mv, .int .i64 R.bad] :: Z) [] (Ent.refl _) ?_
      conv => whnf
      refine .take 0 ?_
      conv => whnf
      refine ⟨rfl, ?_⟩
      conv => whnf
      refine .take 1 ?_
      conv => whnf
      refine ⟨rfl, ?_⟩
      conv => whnf
      refine .take 2 ?_
      conv => whnf
      refine ⟨rfl, ?_⟩
      conv => whnf
      refine .take 3 ?_
      conv => whnf
      refine ⟨rfl, ?_⟩
      conv => whnf
      refine LoadG.at (.tl (.here rfl)) ?_
      conv => whnf
      refine .take 4 ?_
      conv => whnf
      refine ⟨rfl, ?_⟩
      conv => whnf
      refine .take 5 ?_
      conv => whnf
      refine ⟨rfl, ?_⟩
      conv => whnf
      refine IdxG.rd hidx (by omega) fun c9 o9 hc9 => ?_
      conv => whnf
      refine .take 6 ?_
      conv => whnf
      refine ⟨rfl, ?_⟩
      conv => whnf
      refine .take 7 ?_
      conv => whnf
      refine ⟨rfl, ?_⟩
      conv => whnf
      refine LoadG.at (hc9.one (i := i * 2) (u := .string p.1) hp1) ?_
      conv => whnf
      refine .take 8 ?_
      conv => whnf
      refine ⟨rfl, ?_⟩
      conv => whnf
      refine .take 9 ?_
      conv => whnf
      refine ⟨rfl, ?_⟩
      conv => whnf
      refine LoadG.at (k1.left _) ?_
      conv => whnf
      refine .take 10 ?_
      conv => whnf
      refine ⟨rfl, ?_⟩
      conv => whnf
      refine ⟨rfl, ?_⟩
      conv => whnf
      refine CondG.dec (fun he => ?_) (fun he => ?_)
      · obtain ⟨g1, cap1, e1, hc1⟩ := slv_pos hn1 (by omega)
        obtain ⟨g2, cap2, e2, hc2⟩ := slv_pos hsnv (by omega)
        conv => whnf
        refine LoadG.at (.tl (.here rfl)) ?_
        conv => whnf
        refine ⟨g1, 0, _, _, e1, by omega, ?_⟩
        conv => whnf
        have e0 : 0 + ((i : Nat) : Int).toNat * 2 + 1 = i * 2 + 1 := by omega
        rw [e1]
        refine StoreG.at rfl (Upd.tl (Upd.tl (Upd.own (cs' := noC (nl.set i (p.1, 0))) (by rw [e0, noC_len, List.length_singleton]; omega) (by simp [Value.oneCell']) (by rw [e0, List.length_singleton]; exact noC_set hp)))) ?_
        conv => whnf
        refine LoadG.at (.tl (.tl (.tl (.tl (.here rfl))))) ?_
        conv => whnf
        refine ⟨g2, 0, _, _, e2, by omega, ?_⟩
        conv => whnf
        rw [e2]
        refine StoreG.at rfl (Upd.tl (Upd.tl (Upd.tl (Upd.own (cs' := noC (nl.set i (p.1, 0))) (by rw [e0, noC_len, List.length_singleton]; omega) (by simp [Value.oneCell']) (by rw [e0, List.length_singleton]; exact noC_set hp))))) ?_
        conv => whnf
        refine ArithG.i64' ((i + 1 : Nat) : Int) (by omega) (by omega) ?_
        conv => whnf
        rw [← e1, ← e2]
        exact ⟨no.length - (i + 1), [(0, .pointer (some ⟨t, 0, none⟩)), (2, .pointer (some ⟨d, 0, none⟩)), (7, .pointer (some ⟨b, 0, none⟩)), (8, .bool false), (28, .int .i64 ((i + 1 : Nat) : Int))], _, by omega, ⟨rfl, rfl, rfl, rfl, rfl, trivial⟩, Ent.refl _, i + 1, nl.set i (p.1, 0), by omega, rfl, by rw [List.length_set]; exact hnl, rfl, rfl⟩
      · conv => whnf
        refine ArithG.i64' ((i + 1 : Nat) : Int) (by omega) (by omega) ?_
        conv => whnf
        exact ⟨no.length - (i + 1), [(0, .pointer (some ⟨t, 0, none⟩)), (2, .pointer (some ⟨d, 0, none⟩)), (7, .pointer (some ⟨b, 0, none⟩)), (8, .bool false), (28, .int .i64 ((i + 1 : Nat) : Int))], _, by omega, ⟨rfl, rfl, rfl, rfl, rfl, trivial⟩, Ent.refl _, i + 1, nl, by omega, rfl, hnl, rfl, rfl⟩
    · conv => whnf
      have st : StS F t (m + 1) R hv hv2 nv2 nl hs good (telL t hv nv gv tv nl good told) H H2 2 := ⟨⟨nv, gv, tv, told, by rw [hnl]; exact hn1, hn2, hn4, by omega, hn6, rfl⟩, h.rh, h.rh2, by rw [hnl]; exact hsnv, h.perm, h.vals, h.small, by omega, by omega, by omega, by omega, by omega⟩
      refine ⟨_, ?_, rfl, R, hv, hv2, nv2, nl, hs, good, _, H, H2, st, rfl⟩
      refine Ent.trans ?_ (hpk (stR 118 s src R :: (telL t hv nv gv tv nl good told ++ (own 2 nv2 nl.length (noC nl) :: (H ++ H2)))))
      rw [eT, eD, hZ, hS, hnl]
      exact Ent.trans (Ent.perm (by classical exact List.perm_iff_count.2 fun x => by simp only [List.append_eq, List.count_append, List.count_cons, List.count_nil]; omega)) (Ent.dropL ((cel d 70 [hv2, .bool false, nv2, dd.tv, dd.sv, dd.mv, .int .i64 R.bad] :: DD) ++ (stR 118 s src R :: (cel t 64 [hv, nv, gv, .bool false, tv] :: own 2 nv no.length (noC nl) :: TT ++ (own 2 nv2 no.length (noC nl) :: (H ++ H2))))) [cb])
  conv => whnf
  refine CondG.dec (fun c8 => ?_) (fun c8 => ?_)
  · conv => whnf
    obtain ⟨nv, gv, tv, told, hn1, hn2, hn4, hn5, hn6, hT⟩ := h.tel
    obtain ⟨TT, hTT⟩ : ∃ TT, TT = own 2 nv no.length (noC no) :: own 1 gv good.length (keysB good) :: own 1 tv told.length (told.map (·.1)) :: told.map fun p : Value × List Nat => own 1 p.1 (p.2.length + 40) (bvs (lentB p.2)) := ⟨_, rfl⟩
    obtain ⟨DD, hDD⟩ : ∃ DD, DD = own 2 dd.tv dd.ts.length (pairsC dd.ts) :: own 2 dd.sv dd.ss.length (pairsC dd.ss) :: own 1 dd.mv dd.marks.length (dd.marks.map fun n : Nat => Value.int .i64 n) :: (pdS dd.ts ++ pdS dd.ss) := ⟨_, rfl⟩
    have eT : ∀ hv, telL t hv nv gv tv no good told = cel t 64 [hv, nv, gv, .bool false, tv] :: TT := fun hv => by rw [hTT]; rfl
    have eD : ∀ hv2, dd.pieces 70 d hv2 false nv2 R.bad = cel d 70 [hv2, .bool false, nv2, dd.tv, dd.sv, dd.mv, .int .i64 R.bad] :: DD := fun hv2 => by rw [hDD]; rfl
    obtain ⟨Z, hZ⟩ : ∃ Z, Z = DD ++ (S R :: (TT ++ (N :: (H ++ H2)))) := ⟨_, rfl⟩
    have hpv : ∀ p ∈ hs, ∃ a c, p.v = .slice a p.bs.length c := fun p hp => (h.vals p hp).1.len
    refine DrawG.mk 12 (cel t 64 [hv, nv, gv, .bool false, tv] :: cb :: cel d 70 [hv2, .bool false, nv2, dd.tv, dd.sv, dd.mv, .int .i64 R.bad] :: Z) [] (by rw [hT, eT, eD, hZ]; exact Ent.perm (by classical exact List.perm_iff_count.2 fun x => by simp only [List.append_eq, List.count_append, List.count_cons, List.count_nil]; omega)) ?_
    conv => whnf
    refine .take 0 ?_
    conv => whnf
    refine ⟨rfl, ?_⟩
    conv => whnf
    refine .take 1 ?_
    conv => whnf
    refine ⟨rfl, ?_⟩
    conv => whnf
    refine .take 2 ?_
    conv => whnf
    refine ⟨rfl, ?_⟩
    conv => whnf
    refine .take 3 ?_
    conv => whnf
    refine ⟨rfl, ?_⟩
    conv => whnf
    refine .take 4 ?_
    conv => whnf
    refine ⟨rfl, ?_⟩
    conv => whnf
    refine LoadG.at (.here rfl) ?_
    conv => whnf
    refine .take 5 ?_
    conv => whnf
    refine ⟨rfl, ?_⟩
    conv => whnf
    refine .take 6 ?_
    conv => whnf
    refine ⟨rfl, ?_⟩
    conv => whnf
    refine LoadG.at (.tl (k1.left _)) ?_
    conv => whnf
    refine .take 7 ?_
    conv => whnf
    refine ⟨rfl, ?_⟩
    conv => whnf
    refine .take 8 ?_
    conv => whnf
    refine ⟨rfl, ?_⟩
    conv => whnf
    refine LoadG.at (.tl (k2.left _)) ?_
    conv => whnf
    refine .all ?_
    conv => whnf
    refine ⟨by decide, ?_⟩
    conv => whnf
    refine CallG.pure (having_spec _ hv hs (.right (rd_perm (A := cel t 64 [hv, nv, gv, .bool false, tv] :: cb :: cel d 70 [hv2, .bool false, nv2, dd.tv, dd.sv, dd.mv, .int .i64 R.bad] :: (DD ++ (S R :: (TT ++ (N :: H2))))) h.rh (by rw [hZ]; exact (by classical exact List.perm_iff_count.2 fun x => by simp only [List.append_eq, List.count_append, List.count_cons, List.count_nil]; omega))) []) hpv o.key o.v o.bs ⟨_, _, hov⟩ (by omega) (by omega)) ?_
    rintro r _ ⟨hr, rfl⟩
    obtain ⟨ra, rc, rfl⟩ := hr.len
    conv => whnf
    refine .all ?_
    conv => whnf
    refine ⟨by decide, ?_⟩
    conv => whnf
    refine .all ?_
    conv => whnf
    refine ⟨by decide, ?_⟩
    conv => whnf
    refine .all ?_
    conv => whnf
    refine ⟨by decide, ?_⟩
    conv => whnf
    refine ⟨rfl, ?_⟩
    conv => whnf
    refine StoreG.at rfl (Upd.tl (Upd.here (by simp) rfl)) ?_
    conv => whnf
    refine ⟨rfl, ?_⟩
    conv => whnf
    obtain ⟨r, hrr⟩ : ∃ r, r = Value.slice ra (1 + hs.length) rc := ⟨_, rfl⟩
    rw [← hrr] at hr ⊢
    refine DrawG.mk 12 (own 2 r (1 + hs.length) (pairsC (⟨o.key, o.v, o.bs⟩ :: hs)) :: cel t 64 [r, nv, gv, .bool false, tv] :: cb :: cel d 70 [hv2, .bool false, nv2, dd.tv, dd.sv, dd.mv, .int .i64 R.bad] :: Z) [] (Ent.refl _) ?_
    conv => whnf
    refine .take 0 ?_
    conv => whnf
    refine ⟨rfl, ?_⟩
    conv => whnf
    refine .take 1 ?_
    conv => whnf
    refine ⟨rfl, ?_⟩
    conv => whnf
    refine .take 2 ?_
    conv => whnf
    refine ⟨rfl, ?_⟩
    conv => whnf
    refine .take 3 ?_
    conv => whnf
    refine ⟨rfl, ?_⟩
    conv => whnf
    refine .take 4 ?_
    conv => whnf
    refine ⟨rfl, ?_⟩
    conv => whnf
    refine LoadG.at (.tl (.tl (.tl (.here rfl)))) ?_
    conv => whnf
    refine .take 5 ?_
    conv => whnf
    refine ⟨rfl, ?_⟩
    conv => whnf
    refine .take 6 ?_
    conv => whnf
    refine ⟨rfl, ?_⟩
    conv => whnf
    refine LoadG.at (.tl (.tl (k1.left _))) ?_
    conv => whnf
    refine .take 7 ?_
    conv => whnf
    refine ⟨rfl, ?_⟩
    conv => whnf
    refine .take 8 ?_
    conv => whnf
    refine ⟨rfl, ?_⟩
    conv => whnf
    refine LoadG.at (.tl (.tl (k2.left _))) ?_
    conv => whnf
    refine .all ?_
    conv => whnf
    refine ⟨by decide, ?_⟩
    conv => whnf
    refine CallG.pure (having_spec _ hv2 hs (.right (rd_perm (A := own 2 r (1 + hs.length) (pairsC (⟨o.key, o.v, o.bs⟩ :: hs)) :: cel t 64 [r, nv, gv, .bool false, tv] :: cb :: cel d 70 [hv2, .bool false, nv2, dd.tv, dd.sv, dd.mv, .int .i64 R.bad] :: (DD ++ (S R :: (TT ++ (N :: H))))) h.rh2 (by rw [hZ]; exact (by classical exact List.perm_iff_count.2 fun x => by simp only [List.append_eq, List.count_append, List.count_cons, List.count_nil]; omega))) []) hpv o.key o.v o.bs ⟨_, _, hov⟩ (by omega) (by omega)) ?_
    rintro r2 _ ⟨hr2, rfl⟩
    obtain ⟨ra2, rc2, rfl⟩ := hr2.len
    conv => whnf
    refine .all ?_
    conv => whnf
    refine ⟨by decide, ?_⟩
    conv => whnf
    refine .all ?_
    conv => whnf
    refine ⟨by decide, ?_⟩
    conv => whnf
    refine .all ?_
    conv => whnf
    refine ⟨by decide, ?_⟩
    conv => whnf
    refine ⟨rfl, ?_⟩
    conv => whnf
    refine StoreG.at rfl (Upd.tl (Upd.tl (Upd.tl (Upd.tl (Upd.here (by simp) rfl))))) ?_
    conv => whnf
    refine ⟨rfl, ?_⟩
    conv => whnf
    obtain ⟨r2, hrr2⟩ : ∃ r, r = Value.slice ra2 (1 + hs.length) rc2 := ⟨_, rfl⟩
    rw [← hrr2] at hr2 ⊢
    have el : (⟨o.key, o.v, o.bs⟩ :: hs : List PairD).length = 1 + hs.length := by rw [List.length_cons]; omega
    have rdn : ∀ q, SlV q (1 + hs.length) → RdS ([own 2 q (1 + hs.length) (pairsC (⟨o.key, o.v, o.bs⟩ :: hs))] ++ F) q (⟨o.key, o.v, o.bs⟩ :: hs : List PairD).length (pairsC (⟨o.key, o.v, o.bs⟩ :: hs)) := fun q hq2 => by
      rw [el]
      exact own_rd hq2 (by rw [pairsC_len, el])
    have st : StS F t (m + 1) R r r2 nv2 no (⟨o.key, o.v, o.bs⟩ :: hs) good (telL t r nv gv tv no good told) [own 2 r (1 + hs.length) (pairsC (⟨o.key, o.v, o.bs⟩ :: hs))] [own 2 r2 (1 + hs.length) (pairsC (⟨o.key, o.v, o.bs⟩ :: hs))] 2 :=
      ⟨⟨nv, gv, tv, told, hn1, hn2, hn4, by omega, hn6, rfl⟩, rdn r hr, rdn r2 hr2, h.snv, h.perm, fun p hp => by
        rcases List.mem_cons.1 hp with rfl | hp
        · exact ⟨ho, hob⟩
        · exact h.vals p hp, h.small, by omega, by omega, by omega, by rw [el]; omega, h.nl⟩
    refine ⟨_, ?_, rfl, R, r, r2, nv2, no, _, good, _, _, _, st, rfl⟩
    refine Ent.trans ?_ (Ent.pack (ls := fun d' => RfD.pieces 70 d r2 false nv2 R.bad d') hq)
    refine Ent.trans (Ent.refl (own 2 r2 (1 + hs.length) (pairsC (⟨o.key, o.v, o.bs⟩ :: hs)) :: own 2 r (1 + hs.length) (pairsC (⟨o.key, o.v, o.bs⟩ :: hs)) :: cel t 64 [r, nv, gv, .bool false, tv] :: cb :: cel d 70 [r2, .bool false, nv2, dd.tv, dd.sv, dd.mv, .int .i64 R.bad] :: Z)) ?_
    rw [eT, eD, hZ, hS, hN]
    exact Ent.trans (Ent.perm (by classical exact List.perm_iff_count.2 fun x => by simp only [List.append_eq, List.count_append, List.count_cons, List.count_nil]; omega)) (Ent.dropL ((cel d 70 [r2, .bool false, nv2, dd.tv, dd.sv, dd.mv, .int .i64 R.bad] :: DD) ++ (stR 118 s src R :: ((cel t 64 [r, nv, gv, .bool false, tv] :: TT) ++ (own 2 nv2 no.length (noC no) :: ([own 2 r (1 + hs.length) (pairsC (⟨o.key, o.v, o.bs⟩ :: hs))] ++ [own 2 r2 (1 + hs.length) (pairsC (⟨o.key, o.v, o.bs⟩ :: hs))]))))) (cb :: (H ++ H2)))
  · conv => whnf
    exact done R T good same _ (Ent.trans (hpk2.trans (Ent.perm (by classical exact List.perm_iff_count.2 fun x => by simp only [List.append_eq, List.count_append, List.count_cons, List.count_nil]; omega))) (Ent.dropL (Q R :: S R :: (T ++ (N :: (H ++ H2)))) [cb]))
end Go.Proofs.YtnbcbdlbejdkpaaGreatDoor
