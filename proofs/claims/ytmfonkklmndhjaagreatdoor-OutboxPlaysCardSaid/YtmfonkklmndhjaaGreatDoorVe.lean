import Derived.Test.YtmfonkklmndhjaaGreatDoorVb
import Derived.Test.YtmfonkklmndhjaaGreatDoorVd
import Derived.Test.YtmfonkklmndhjaaGreatDoorRm
import Derived.Test.YtmfonkklmndhjaaGreatDoorKn
import Derived.Test.YtmfonkklmndhjaaGreatDoorZKc
import Derived.Test.YtmfonkklmndhjaaGreatDoorZKy
import Derived.Test.YtmfonkklmndhjaaGreatDoorZBv
namespace Go.Proofs.YtmfonkklmndhjaaGreatDoor
open Go Go.Sl Go.Sort
def ChRdO (F : List HP) (l : List ChD) : Prop := ∀ d ∈ l, RdS F d.ov d.old.length (bvs d.old) ∧ RdS F d.nv d.new.length (bvs d.new)
theorem chC_lenO (l : List ChD) : (l.flatMap ChD.cells).length = l.length * 3 := flat_len fun _ _ => rfl
theorem chC_atO {l : List ChD} {i : Nat} {d : ChD} (h : l[i]? = some d) : (l.flatMap ChD.cells)[i * 3]? = some (.string d.key) ∧ (l.flatMap ChD.cells)[i * 3 + 1]? = some d.ov ∧ (l.flatMap ChD.cells)[i * 3 + 2]? = some d.nv := by
 obtain ⟨h1, rfl⟩ := List.getElem?_eq_some_iff.1 h
 have h2 : ((l.flatMap ChD.cells).drop (i * 3)).take 3 = l[i].cells := flat_get (cells := ChD.cells) (sz := 3) (fun _ _ => rfl) h1
 have h3 : ∀ j, j < 3 → (l.flatMap ChD.cells)[i * 3 + j]? = (l[i].cells)[j]? := fun j hj => by
  rw [← h2, List.getElem?_take, if_pos hj, List.getElem?_drop]
 exact ⟨h3 0 (by decide), h3 1 (by decide), h3 2 (by decide)⟩
theorem ch_rdO {l : List ChD} {v : Value} {M : List HP} (h1 : SlV v l.length) (h2 : ∀ d ∈ l, SlV d.ov d.old.length ∧ SlV d.nv d.new.length) : RdS (own 3 v l.length (l.flatMap ChD.cells) :: (chS l ++ M)) v l.length (l.flatMap ChD.cells) ∧ ChRdO (own 3 v l.length (l.flatMap ChD.cells) :: (chS l ++ M)) l :=
 ⟨own_rd h1 (chC_lenO l), fun x hx => ⟨.tl (chS_rd h2 x hx).1, .tl (chS_rd h2 x hx).2⟩⟩
theorem keysB_lenO (l : List ByteArray) : (keysB l).length = l.length * 1 := by rw [keysB, List.length_map, Nat.mul_one]
theorem sfind_spec (F : List HP) (t : Nat) (hv : Value) (hs : List PairD) (h0 : Cel F t 0 hv) (hh : RdS F hv hs.length (pairsC hs)) (hhl : hs.length ≤ 4611686018427387904) (hok : ∀ p ∈ hs, RdS F p.v p.bs.length (bvs p.bs) ∧ p.bs.length ≤ 140737488351232) (key : ByteArray) :
 SpecF Tryz.prog 155 [.pointer (some ⟨t, 0, none⟩), .string key] F [] (fun r L => ∃ x, SlV x (refF (hs.map PairD.e) [] true key).1.length ∧ r = .tuple #[x, .int .i64 (refF (hs.map PairD.e) [] true key).2] ∧ L = [own 1 x (refF (hs.map PairD.e) [] true key).1.length (bvs (refF (hs.map PairD.e) [] true key).1)]) := by
 have hF : refF (hs.map PairD.e) [] true key = ((atL (hs.map PairD.e) key).getD [], if (atL (hs.map PairD.e) key).isSome = false then 74 else 0) := by
  unfold refF
  rw [if_neg (show ¬ noF [] key ≠ 0 from fun h => h rfl)]
  simp
 rw [hF]
 refine fun155.spec rfl ?_
 conv=>whnf
 refine LoopG.mk (fun mm e L => ∃ i : Nat, i ≤ hs.length ∧ mm = hs.length - i ∧ atD hs key = atD (hs.drop i) key ∧ e = [(0, .pointer (some ⟨t, 0, none⟩)), (1, .string key), (4, .slice none 0 0), (5, .int .i64 0), (6, .int .i64 i)] ∧ L = []) hs.length
  [(0, .pointer (some ⟨t, 0, none⟩)), (1, .string key), (4, .slice none 0 0), (5, .int .i64 0), (6, .int .i64 0)] _ ⟨rfl, rfl, rfl, rfl, rfl, trivial⟩ (Ent.refl _) ⟨0, Nat.zero_le _, rfl, rfl, rfl, rfl⟩ ?_
 rintro mm e L ⟨i, hi, rfl, hw, rfl, rfl⟩
 conv=>whnf
 refine LoadG.atF h0 ?_
 conv=>whnf
 refine LenG.rd hh ?_
 conv=>whnf
 refine CondG.dec (fun hlt => ?_) (fun hlt => ?_)
 ·have hi' : i < hs.length := by omega
  obtain ⟨p, hp⟩ : ∃ p, hs[i]? = some p := ⟨hs[i], List.getElem?_eq_getElem hi'⟩
  obtain ⟨hp1, hp2⟩ := pairsC_get hp
  obtain ⟨hpr, hpl⟩ := hok p (List.mem_of_getElem? hp)
  rw [atD_step hp] at hw
  conv=>whnf
  refine LoadG.atF h0 ?_
  conv=>whnf
  refine IdxG.rd hh (by omega) fun b9 o9 hc9 => ?_
  conv=>whnf
  refine LoadG.atF (hc9.one (i := i * 2) (u := .string p.key) hp1) ?_
  conv=>whnf
  refine CondG.dec (fun he => ?_) (fun he => ?_)
  ·rw [if_pos he] at hw
   have e2 : atL (hs.map PairD.e) key = some p.bs := by rw [← atD_atL, hw]; rfl
   rw [e2]
   conv=>whnf
   refine BuildG.of (cs := bvs []) rfl ?_
   conv=>whnf
   intro b10
   conv=>whnf
   refine LoadG.atF h0 ?_
   conv=>whnf
   refine IdxG.rd hh (by omega) fun b8 o8 hc8 => ?_
   conv=>whnf
   refine LoadG.atG (v := p.v) ((hc8.one (i := i * 2 + 1) (u := p.v) hp2).right _) ?_
   conv=>whnf
   refine DoesG.ent (own_of_cel (n := 0) (sz := 1) rfl (by decide)) ?_
   refine app_own bytesT 22 (m := p.bs.length) (ys := bvs p.bs) (.tl (.right hpr _)) (by rw [bvs_len, Nat.mul_one]) (bvs_one _) (by simp only [maxLen]; omega) (by omega) fun q hq hql _ => ?_
   have e0 : 0 + p.bs.length = p.bs.length := Nat.zero_add _
   rw [e0] at hq hql ⊢
   conv=>whnf
   exact ⟨_, Ent.refl _, _, hq, rfl, rfl⟩
  ·rw [if_neg he] at hw
   conv=>whnf
   refine ArithG.i64' ((i + 1 : Nat) : Int) (by omega) (by omega) ?_
   conv=>whnf
   exact ⟨hs.length - (i + 1), [(0, .pointer (some ⟨t, 0, none⟩)), (1, .string key), (4, .slice none 0 0), (5, .int .i64 0), (6, .int .i64 ((i + 1 : Nat) : Int))], _, by omega, ⟨rfl, rfl, rfl, rfl, rfl, trivial⟩, Ent.refl _, i + 1, by omega, rfl, hw, rfl, rfl⟩
 ·obtain rfl : i = hs.length := by omega
  rw [List.drop_length] at hw
  have e2 : atL (hs.map PairD.e) key = none := by rw [← atD_atL, hw]; rfl
  rw [e2]
  conv=>whnf
  exact ⟨_, fun w G h => Sat.own_nil h, .slice none 0 0, .inl ⟨rfl, rfl⟩, rfl, rfl⟩
theorem sfind_method (v : Value) (w : World) : (method ((Tryz.prog).types.size + Made.depth) 33 v "Find").run Tryz.prog w = .ok (155, v) w := by kernel_rfl
theorem some_src (F : List HP) (t : Nat) (hv : Value) (hs : List PairD) (hh : RdS F hv hs.length (pairsC hs)) (hhl : hs.length ≤ 4611686018427387904) (hok : ∀ p ∈ hs, RdS F p.v p.bs.length (bvs p.bs) ∧ p.bs.length ≤ 140737488351232) :
 SrcG Tryz.prog (cel t 35 [hv] :: F) (.iface 33 (.pointer (some ⟨t, 0, none⟩))) (refF (hs.map PairD.e) [] true) :=
 ⟨33, .pointer (some ⟨t, 0, none⟩), 155, .pointer (some ⟨t, 0, none⟩), rfl, sfind_method _, by kernel_rfl, fun key L =>
  sfind_spec (L ++ (cel t 35 [hv] :: F)) t hv hs (Cel.right (.here rfl) L) ((RdS.tl hh).right L) hhl (fun p hp => ⟨((RdS.tl (hok p hp).1).right L), (hok p hp).2⟩) key⟩
theorem touched_o (F : List HP) (s d : Nat) (src hv nv : Value) (part : Bool) (R : RSt) (c1 : R.told.length ≤ 3500000000000) (c2 : R.steps.length ≤ 4000000000000) :
 SpecF Tryz.prog 9 [.pointer (some ⟨s, 0, none⟩), .pointer (some ⟨d, 0, none⟩)] F [stR 70 s src R, refR 73 d hv part nv R] (fun r L => r = .bool true) := by
 refine fun9.spec rfl ?_
 conv=>whnf
 refine CallG.of (pre := [stR 70 s src R]) (rest := [refR 73 d hv part nv R]) (touched_h _ s src (by omega)) (Ent.refl _) ?_
 rintro tv _ ⟨htv, rfl⟩
 conv=>whnf
 refine CallG.of (pre := [refR 73 d hv part nv R]) (rest := [own 1 tv (touchedQ R).length (keysB (touchedQ R)), stR 70 s src R]) (touched7_spec _ d hv part nv (by omega)) (Ent.sel (T := []) (A := [_, _, _]) [2, 0, 1] rfl) ?_
 rintro uv _ ⟨huv, rfl⟩
 conv=>whnf
 refine CallG.of (pre := [stR 70 s src R]) (rest := [own 1 uv (touchedQ R).length (keysB (touchedQ R)), own 1 tv (touchedQ R).length (keysB (touchedQ R)), refR 73 d hv part nv R]) (changes_h _ s src (by omega)) (Ent.sel (T := []) (A := [_, _, _, _]) [3, 0, 2, 1] rfl) ?_
 rintro va _ ⟨l, hm1, hav, hl1, hs1, rfl⟩
 conv=>whnf
 refine CallG.of (pre := [refR 73 d hv part nv R]) (rest := own 3 va l.length (l.flatMap ChD.cells) :: (chS l ++ [own 1 uv (touchedQ R).length (keysB (touchedQ R)), own 1 tv (touchedQ R).length (keysB (touchedQ R)), stR 70 s src R])) (changes7_spec _ d hv part nv (by omega) (by omega)) (Ent.perm (by classical exact List.perm_iff_count.2 fun x => by simp only [List.append_eq, List.count_append, List.count_cons, List.count_nil]; omega)) ?_
 rintro vb _ ⟨m, hm2, hbv, hl2, hs2, rfl⟩
 have hn : l.length ≤ 4611686018427387904 := by omega
 have he : l.map (fun d => (d.key, d.old, d.new)) = m.map (fun d => (d.key, d.old, d.new)) := hm1.trans hm2.symm
 have r1 := ch_rdO (M := [own 1 uv (touchedQ R).length (keysB (touchedQ R)), own 1 tv (touchedQ R).length (keysB (touchedQ R)), stR 70 s src R]) hav hs1
 have r2 := ch_rdO (M := own 3 va l.length (l.flatMap ChD.cells) :: (chS l ++ [own 1 uv (touchedQ R).length (keysB (touchedQ R)), own 1 tv (touchedQ R).length (keysB (touchedQ R)), stR 70 s src R])) hbv hs2
 have ru : RdS (own 1 uv (touchedQ R).length (keysB (touchedQ R)) :: own 1 tv (touchedQ R).length (keysB (touchedQ R)) :: [stR 70 s src R]) uv (touchedQ R).length (keysB (touchedQ R)) := own_rd huv (keysB_lenO _)
 have rt : RdS (own 1 uv (touchedQ R).length (keysB (touchedQ R)) :: own 1 tv (touchedQ R).length (keysB (touchedQ R)) :: [stR 70 s src R]) tv (touchedQ R).length (keysB (touchedQ R)) := .tl (own_rd htv (keysB_lenO _))
 obtain ⟨P, hP⟩ : ∃ P, P = refR 73 d hv part nv R :: own 3 vb m.length (m.flatMap ChD.cells) :: (chS m ++ (own 3 va l.length (l.flatMap ChD.cells) :: (chS l ++ [own 1 uv (touchedQ R).length (keysB (touchedQ R)), own 1 tv (touchedQ R).length (keysB (touchedQ R)), stR 70 s src R]))) := ⟨_, rfl⟩
 have hB : RdS (P ++ F) vb m.length (m.flatMap ChD.cells) := by rw [hP]; exact .left (.tl r2.1) F
 have hrb : ChRdO (P ++ F) m := by rw [hP]; exact fun y hy => ⟨.left (.tl (r2.2 y hy).1) F, .left (.tl (r2.2 y hy).2) F⟩
 have hA : RdS (P ++ F) va l.length (l.flatMap ChD.cells) := by rw [hP]; exact .left (.tl (.tl (.right r1.1 (chS m)))) F
 have hra : ChRdO (P ++ F) l := by rw [hP]; exact fun y hy => ⟨.left (.tl (.tl (.right (r1.2 y hy).1 (chS m)))) F, .left (.tl (.tl (.right (r1.2 y hy).2 (chS m)))) F⟩
 have hb : RdS (P ++ F) uv (touchedQ R).length (keysB (touchedQ R)) := by rw [hP]; exact .left (.tl (.tl (.right (.tl (.right ru (chS l))) (chS m)))) F
 have ha : RdS (P ++ F) tv (touchedQ R).length (keysB (touchedQ R)) := by rw [hP]; exact .left (.tl (.tl (.right (.tl (.right rt (chS l))) (chS m)))) F
 have hkl : (touchedQ R).length ≤ 4611686018427387904 := by rw [touchedQ, List.length_map]; omega
 obtain ⟨ks, hks⟩ : ∃ ks, ks = touchedQ R := ⟨_, rfl⟩
 rw [← hks] at ha hb hkl
 have kB : ∀ i (h : i < ks.length), (keysB ks)[((i : Nat) : Int).toNat * 1]? = some (.string ks[i]) := fun i h => by rw [keysB, Int.toNat_natCast, Nat.mul_one, List.getElem?_map, List.getElem?_eq_getElem h]; rfl
 have hl : l.length = m.length := by
  have := congrArg List.length he
  simpa using this
 conv=>whnf
 refine LenG.rd ha ?_
 conv=>whnf
 refine LenG.rd hb ?_
 conv=>whnf
 refine CondG.ndec (fun h => absurd rfl h) (fun _ => ?_)
 (conv=>whnf);refine .ff ?_;(conv=>whnf)
 refine LenG.rd hA ?_
 (conv=>whnf);refine .ff ?_;(conv=>whnf);refine .ff ?_;(conv=>whnf)
 refine LenG.rd hB ?_
 (conv=>whnf);refine .ff ?_;(conv=>whnf);refine .ff ?_;(conv=>whnf)
 refine CondG.ndec (fun h => absurd (by rw [hl]) h) (fun _ => ?_)
 conv=>whnf
 show _
 rw [show refR 73 d hv part nv R :: own 3 vb m.length (m.flatMap ChD.cells) :: chS m ++ (own 3 va l.length (l.flatMap ChD.cells) :: (chS l ++ [own 1 uv (touchedQ R).length (keysB (touchedQ R)), own 1 tv (touchedQ R).length (keysB (touchedQ R)), stR 70 s src R])) = P from hP.symm]
 refine LoopG.mk (fun mm e L => ∃ q : Nat, q ≤ ks.length ∧ mm = ks.length - q ∧ e = [(5, tv), (6, uv), (7, va), (8, vb), (9, .int .i64 q)] ∧ L = P) ks.length
  [(5, tv), (6, uv), (7, va), (8, vb), (9, .int .i64 0)] _ ⟨rfl, rfl, rfl, rfl, rfl, trivial⟩ (Ent.refl _) ⟨0, by omega, rfl, rfl, rfl⟩ ?_
 rintro mm e P ⟨q, hq, rfl, rfl, rfl⟩
 conv=>whnf
 refine LenG.rd ha ?_
 conv=>whnf
 refine CondG.dec (fun h1 => ?_) (fun h1 => ?_)
 ·have hql : q < ks.length := by omega
  conv=>whnf
  refine DrawG.mk 9 P [] (Ent.refl _) ?_
  conv=>whnf
  refine .take 0 ?_
  conv=>whnf
  refine ⟨rfl, ?_⟩
  conv=>whnf
  refine .take 1 ?_
  conv=>whnf
  refine ⟨rfl, ?_⟩
  conv=>whnf
  refine .take 2 ?_
  conv=>whnf
  refine ⟨rfl, ?_⟩
  conv=>whnf
  refine IdxG.rd ha (by omega) fun c o hc => ?_
  conv=>whnf
  refine .take 3 ?_
  conv=>whnf
  refine ⟨rfl, ?_⟩
  conv=>whnf
  refine LoadG.atG (hc.one (kB q hql)) ?_
  conv=>whnf
  refine .take 4 ?_
  conv=>whnf
  refine ⟨rfl, ?_⟩
  conv=>whnf
  refine .take 5 ?_
  conv=>whnf
  refine ⟨rfl, ?_⟩
  conv=>whnf
  refine .take 6 ?_
  conv=>whnf
  refine ⟨rfl, ?_⟩
  conv=>whnf
  refine IdxG.rd hb (by omega) fun c o hc => ?_
  conv=>whnf
  refine .take 7 ?_
  conv=>whnf
  refine ⟨rfl, ?_⟩
  conv=>whnf
  refine LoadG.atG (hc.one (kB q hql)) ?_
  conv=>whnf
  refine .take 8 ?_
  conv=>whnf
  refine ⟨rfl, ?_⟩
  conv=>whnf
  refine ⟨rfl, ?_⟩
  conv=>whnf
  refine CondG.ndec (fun h => absurd rfl h) (fun _ => ?_)
  conv=>whnf
  refine ArithG.i64' ((q + 1 : Nat) : Int) (by omega) (by omega) ?_
  conv=>whnf
  exact ⟨ks.length - (q + 1), [(5, tv), (6, uv), (7, va), (8, vb), (9, .int .i64 ((q + 1 : Nat) : Int))], _, by omega, ⟨rfl, rfl, rfl, rfl, rfl, trivial⟩, Ent.refl _, q + 1, by omega, rfl, rfl, rfl⟩
 obtain rfl : q = ks.length := by omega
 clear h1
 conv=>whnf
 refine LoopG.mk (fun mm e L => ∃ q : Nat, q ≤ l.length ∧ mm = l.length - q ∧ e = [(5, tv), (6, uv), (7, va), (8, vb), (10, .int .i64 q)] ∧ L = P) l.length
  [(5, tv), (6, uv), (7, va), (8, vb), (10, .int .i64 0)] _ ⟨rfl, rfl, rfl, rfl, rfl, trivial⟩ (Ent.refl _) ⟨0, by omega, rfl, rfl, rfl⟩ ?_
 rintro mm e P ⟨q, hq, rfl, rfl, rfl⟩
 conv=>whnf
 refine LenG.rd hA ?_
 conv=>whnf
 refine CondG.dec (fun h1 => ?_) (fun h1 => ?_)
 ·have hql : q < l.length := by omega
  have hqm : q < m.length := by omega
  obtain ⟨d, hd⟩ : ∃ d, l[q]? = some d := ⟨l[q], List.getElem?_eq_getElem hql⟩
  obtain ⟨f, hf⟩ : ∃ f, m[q]? = some f := ⟨m[q], List.getElem?_eq_getElem hqm⟩
  obtain ⟨d0, d1, d2⟩ := chC_atO hd
  obtain ⟨f0, f1, f2⟩ := chC_atO hf
  have hdm := List.mem_of_getElem? hd
  have hfm := List.mem_of_getElem? hf
  obtain ⟨ek, eo, en⟩ : d.key = f.key ∧ d.old = f.old ∧ d.new = f.new := by
   have h := congrArg (fun z => z[q]?) he
   simp only [List.getElem?_map, hd, hf, Option.map_some, Option.some.injEq, Prod.mk.injEq] at h
   exact h
  have e1 : (!decide (d.key = d.key)) = false := by simp
  have e2 : (!decide (strB d.old = strB f.old)) = false := by rw [eo]; simp
  have e3 : (!decide (strB d.new = strB f.new)) = false := by rw [en]; simp
  conv=>whnf
  refine DrawG.mk 41 P [] (Ent.refl _) ?_
  conv=>whnf
  refine .take 0 ?_
  conv=>whnf
  refine ⟨rfl, ?_⟩
  conv=>whnf
  refine .take 1 ?_
  conv=>whnf
  refine ⟨rfl, ?_⟩
  conv=>whnf
  refine .take 2 ?_
  conv=>whnf
  refine ⟨rfl, ?_⟩
  conv=>whnf
  refine IdxG.rd hA (by omega) fun cb o hcc => ?_
  conv=>whnf
  refine .take 3 ?_
  conv=>whnf
  refine ⟨rfl, ?_⟩
  conv=>whnf
  refine .take 4 ?_
  conv=>whnf
  refine ⟨rfl, ?_⟩
  conv=>whnf
  refine LoadG.atG (hcc.one (i := q * 3) (u := (.string d.key)) d0) ?_
  clear hcc
  conv=>whnf
  refine .take 5 ?_
  conv=>whnf
  refine ⟨rfl, ?_⟩
  conv=>whnf
  refine .take 6 ?_
  conv=>whnf
  refine ⟨rfl, ?_⟩
  conv=>whnf
  refine .take 7 ?_
  conv=>whnf
  refine ⟨rfl, ?_⟩
  conv=>whnf
  refine IdxG.rd hB (by omega) fun cb o hcc => ?_
  conv=>whnf
  refine .take 8 ?_
  conv=>whnf
  refine ⟨rfl, ?_⟩
  conv=>whnf
  refine .take 9 ?_
  conv=>whnf
  refine ⟨rfl, ?_⟩
  conv=>whnf
  refine LoadG.atG (hcc.one (i := q * 3) (u := (.string f.key)) f0) ?_
  clear hcc
  conv=>whnf
  refine .take 10 ?_
  conv=>whnf
  refine ⟨rfl, ?_⟩
  conv=>whnf
  rw [← ek, e1]
  refine .take 11 ?_
  conv=>whnf
  refine ⟨rfl, ?_⟩
  conv=>whnf
  refine .take 12 ?_
  conv=>whnf
  refine ⟨rfl, ?_⟩
  (conv=>whnf);refine .ff ?_;(conv=>whnf)
  refine .take 13 ?_
  conv=>whnf
  refine ⟨rfl, ?_⟩
  (conv=>whnf);refine .ff ?_;(conv=>whnf)
  refine .take 14 ?_
  conv=>whnf
  refine ⟨rfl, ?_⟩
  (conv=>whnf);refine .ff ?_;(conv=>whnf)
  refine IdxG.rd hA (by omega) fun cb o hcc => ?_
  conv=>whnf
  refine .take 15 ?_
  conv=>whnf
  refine ⟨rfl, ?_⟩
  (conv=>whnf);refine .ff ?_;(conv=>whnf)
  refine .take 16 ?_
  conv=>whnf
  refine ⟨rfl, ?_⟩
  (conv=>whnf);refine .ff ?_;(conv=>whnf)
  refine LoadG.atG (hcc.one (i := q * 3 + 1) (u := d.ov) d1) ?_
  clear hcc
  conv=>whnf
  refine .take 18 ?_
  conv=>whnf
  refine ⟨rfl, ?_⟩
  (conv=>whnf);refine .ff ?_;(conv=>whnf)
  refine .take 19 ?_
  conv=>whnf
  refine ⟨rfl, ?_⟩
  (conv=>whnf);refine .ff ?_;(conv=>whnf)
  refine .take 20 ?_
  conv=>whnf
  refine ⟨rfl, ?_⟩
  (conv=>whnf);refine .ff ?_;(conv=>whnf)
  refine IdxG.rd hB (by omega) fun cb o hcc => ?_
  conv=>whnf
  refine .take 21 ?_
  conv=>whnf
  refine ⟨rfl, ?_⟩
  (conv=>whnf);refine .ff ?_;(conv=>whnf)
  refine .take 22 ?_
  conv=>whnf
  refine ⟨rfl, ?_⟩
  (conv=>whnf);refine .ff ?_;(conv=>whnf)
  refine LoadG.atG (hcc.one (i := q * 3 + 1) (u := f.ov) f1) ?_
  clear hcc
  conv=>whnf
  refine .all ?_
  conv=>whnf
  refine ⟨by decide, ?_, ?_⟩
  ·(conv=>whnf);refine .ff ?_;(conv=>whnf)
   refine DoesG.toStr (e := 5) (bs := d.old) (by kernel_rfl) (by kernel_rfl) (by kernel_rfl) (((hra d hdm).1.right [])) rfl ?_
   conv=>whnf
   refine .all ?_
   conv=>whnf
   refine ⟨by decide, ?_⟩
   (conv=>whnf);refine .ff ?_;(conv=>whnf)
   refine DoesG.toStr (e := 5) (bs := f.old) (by kernel_rfl) (by kernel_rfl) (by kernel_rfl) (((hrb f hfm).1.right [])) rfl ?_
   conv=>whnf
   refine .take 24 ?_
   conv=>whnf
   refine ⟨rfl, ?_⟩
   (conv=>whnf);refine .ff ?_;(conv=>whnf)
   rw [e2]
   conv=>whnf
   refine .take 25 ?_
   conv=>whnf
   refine ⟨rfl, ?_⟩
   (conv=>whnf);refine .ff ?_;(conv=>whnf)
   refine .take 26 ?_
   conv=>whnf
   refine ⟨rfl, ?_⟩
   conv=>whnf
   refine .take 27 ?_
   conv=>whnf
   refine ⟨rfl, ?_⟩
   (conv=>whnf);refine .ff ?_;(conv=>whnf)
   refine .take 28 ?_
   conv=>whnf
   refine ⟨rfl, ?_⟩
   (conv=>whnf);refine .ff ?_;(conv=>whnf)
   refine .take 29 ?_
   conv=>whnf
   refine ⟨rfl, ?_⟩
   (conv=>whnf);refine .ff ?_;(conv=>whnf)
   refine IdxG.rd hA (by omega) fun cb o hcc => ?_
   conv=>whnf
   refine .take 30 ?_
   conv=>whnf
   refine ⟨rfl, ?_⟩
   (conv=>whnf);refine .ff ?_;(conv=>whnf)
   refine .take 31 ?_
   conv=>whnf
   refine ⟨rfl, ?_⟩
   (conv=>whnf);refine .ff ?_;(conv=>whnf)
   refine LoadG.atG (hcc.one (i := q * 3 + 2) (u := d.nv) d2) ?_
   clear hcc
   conv=>whnf
   refine .take 33 ?_
   conv=>whnf
   refine ⟨rfl, ?_⟩
   (conv=>whnf);refine .ff ?_;(conv=>whnf)
   refine .take 34 ?_
   conv=>whnf
   refine ⟨rfl, ?_⟩
   (conv=>whnf);refine .ff ?_;(conv=>whnf)
   refine .take 35 ?_
   conv=>whnf
   refine ⟨rfl, ?_⟩
   (conv=>whnf);refine .ff ?_;(conv=>whnf)
   refine IdxG.rd hB (by omega) fun cb o hcc => ?_
   conv=>whnf
   refine .take 36 ?_
   conv=>whnf
   refine ⟨rfl, ?_⟩
   (conv=>whnf);refine .ff ?_;(conv=>whnf)
   refine .take 37 ?_
   conv=>whnf
   refine ⟨rfl, ?_⟩
   (conv=>whnf);refine .ff ?_;(conv=>whnf)
   refine LoadG.atG (hcc.one (i := q * 3 + 2) (u := f.nv) f2) ?_
   clear hcc
   conv=>whnf
   refine .all ?_
   conv=>whnf
   refine ⟨by decide, ?_, ?_⟩
   ·(conv=>whnf);refine .ff ?_;(conv=>whnf)
    refine DoesG.toStr (e := 5) (bs := d.new) (by kernel_rfl) (by kernel_rfl) (by kernel_rfl) (((hra d hdm).2.right [])) rfl ?_
    conv=>whnf
    refine .all ?_
    conv=>whnf
    refine ⟨by decide, ?_⟩
    (conv=>whnf);refine .ff ?_;(conv=>whnf)
    refine DoesG.toStr (e := 5) (bs := f.new) (by kernel_rfl) (by kernel_rfl) (by kernel_rfl) (((hrb f hfm).2.right [])) rfl ?_
    conv=>whnf
    refine .take 39 ?_
    conv=>whnf
    refine ⟨rfl, ?_⟩
    (conv=>whnf);refine .ff ?_;(conv=>whnf)
    rw [e3]
    conv=>whnf
    refine .take 40 ?_
    conv=>whnf
    refine ⟨rfl, ?_⟩
    (conv=>whnf);refine .ff ?_;(conv=>whnf)
    refine ⟨rfl, ?_⟩
    (conv=>whnf);refine .ff ?_;(conv=>whnf)
    refine ArithG.i64' ((q + 1 : Nat) : Int) (by omega) (by omega) ?_
    conv=>whnf
    exact ⟨l.length - (q + 1), [(5, tv), (6, uv), (7, va), (8, vb), (10, .int .i64 ((q + 1 : Nat) : Int))], _, by omega, ⟨rfl, rfl, rfl, rfl, rfl, trivial⟩, Ent.refl _, q + 1, by omega, rfl, rfl, rfl⟩
   ·(conv=>whnf);refine .ff ?_;(conv=>whnf)
    refine DoesG.toStr (e := 5) (bs := f.new) (by kernel_rfl) (by kernel_rfl) (by kernel_rfl) (((hrb f hfm).2.right [])) rfl ?_
    conv=>whnf
    refine .all ?_
    conv=>whnf
    refine ⟨by decide, ?_⟩
    (conv=>whnf);refine .ff ?_;(conv=>whnf)
    refine DoesG.toStr (e := 5) (bs := d.new) (by kernel_rfl) (by kernel_rfl) (by kernel_rfl) (((hra d hdm).2.right [])) rfl ?_
    conv=>whnf
    refine .take 39 ?_
    conv=>whnf
    refine ⟨rfl, ?_⟩
    (conv=>whnf);refine .ff ?_;(conv=>whnf)
    rw [e3]
    conv=>whnf
    refine .take 40 ?_
    conv=>whnf
    refine ⟨rfl, ?_⟩
    (conv=>whnf);refine .ff ?_;(conv=>whnf)
    refine ⟨rfl, ?_⟩
    (conv=>whnf);refine .ff ?_;(conv=>whnf)
    refine ArithG.i64' ((q + 1 : Nat) : Int) (by omega) (by omega) ?_
    conv=>whnf
    exact ⟨l.length - (q + 1), [(5, tv), (6, uv), (7, va), (8, vb), (10, .int .i64 ((q + 1 : Nat) : Int))], _, by omega, ⟨rfl, rfl, rfl, rfl, rfl, trivial⟩, Ent.refl _, q + 1, by omega, rfl, rfl, rfl⟩
  ·(conv=>whnf);refine .ff ?_;(conv=>whnf)
   refine DoesG.toStr (e := 5) (bs := f.old) (by kernel_rfl) (by kernel_rfl) (by kernel_rfl) (((hrb f hfm).1.right [])) rfl ?_
   conv=>whnf
   refine .all ?_
   conv=>whnf
   refine ⟨by decide, ?_⟩
   (conv=>whnf);refine .ff ?_;(conv=>whnf)
   refine DoesG.toStr (e := 5) (bs := d.old) (by kernel_rfl) (by kernel_rfl) (by kernel_rfl) (((hra d hdm).1.right [])) rfl ?_
   conv=>whnf
   refine .take 24 ?_
   conv=>whnf
   refine ⟨rfl, ?_⟩
   (conv=>whnf);refine .ff ?_;(conv=>whnf)
   rw [e2]
   conv=>whnf
   refine .take 25 ?_
   conv=>whnf
   refine ⟨rfl, ?_⟩
   (conv=>whnf);refine .ff ?_;(conv=>whnf)
   refine .take 26 ?_
   conv=>whnf
   refine ⟨rfl, ?_⟩
   conv=>whnf
   refine .take 27 ?_
   conv=>whnf
   refine ⟨rfl, ?_⟩
   (conv=>whnf);refine .ff ?_;(conv=>whnf)
   refine .take 28 ?_
   conv=>whnf
   refine ⟨rfl, ?_⟩
   (conv=>whnf);refine .ff ?_;(conv=>whnf)
   refine .take 29 ?_
   conv=>whnf
   refine ⟨rfl, ?_⟩
   (conv=>whnf);refine .ff ?_;(conv=>whnf)
   refine IdxG.rd hA (by omega) fun cb o hcc => ?_
   conv=>whnf
   refine .take 30 ?_
   conv=>whnf
   refine ⟨rfl, ?_⟩
   (conv=>whnf);refine .ff ?_;(conv=>whnf)
   refine .take 31 ?_
   conv=>whnf
   refine ⟨rfl, ?_⟩
   (conv=>whnf);refine .ff ?_;(conv=>whnf)
   refine LoadG.atG (hcc.one (i := q * 3 + 2) (u := d.nv) d2) ?_
   clear hcc
   conv=>whnf
   refine .take 33 ?_
   conv=>whnf
   refine ⟨rfl, ?_⟩
   (conv=>whnf);refine .ff ?_;(conv=>whnf)
   refine .take 34 ?_
   conv=>whnf
   refine ⟨rfl, ?_⟩
   (conv=>whnf);refine .ff ?_;(conv=>whnf)
   refine .take 35 ?_
   conv=>whnf
   refine ⟨rfl, ?_⟩
   (conv=>whnf);refine .ff ?_;(conv=>whnf)
   refine IdxG.rd hB (by omega) fun cb o hcc => ?_
   conv=>whnf
   refine .take 36 ?_
   conv=>whnf
   refine ⟨rfl, ?_⟩
   (conv=>whnf);refine .ff ?_;(conv=>whnf)
   refine .take 37 ?_
   conv=>whnf
   refine ⟨rfl, ?_⟩
   (conv=>whnf);refine .ff ?_;(conv=>whnf)
   refine LoadG.atG (hcc.one (i := q * 3 + 2) (u := f.nv) f2) ?_
   clear hcc
   conv=>whnf
   refine .all ?_
   conv=>whnf
   refine ⟨by decide, ?_, ?_⟩
   ·(conv=>whnf);refine .ff ?_;(conv=>whnf)
    refine DoesG.toStr (e := 5) (bs := d.new) (by kernel_rfl) (by kernel_rfl) (by kernel_rfl) (((hra d hdm).2.right [])) rfl ?_
    conv=>whnf
    refine .all ?_
    conv=>whnf
    refine ⟨by decide, ?_⟩
    (conv=>whnf);refine .ff ?_;(conv=>whnf)
    refine DoesG.toStr (e := 5) (bs := f.new) (by kernel_rfl) (by kernel_rfl) (by kernel_rfl) (((hrb f hfm).2.right [])) rfl ?_
    conv=>whnf
    refine .take 39 ?_
    conv=>whnf
    refine ⟨rfl, ?_⟩
    (conv=>whnf);refine .ff ?_;(conv=>whnf)
    rw [e3]
    conv=>whnf
    refine .take 40 ?_
    conv=>whnf
    refine ⟨rfl, ?_⟩
    (conv=>whnf);refine .ff ?_;(conv=>whnf)
    refine ⟨rfl, ?_⟩
    (conv=>whnf);refine .ff ?_;(conv=>whnf)
    refine ArithG.i64' ((q + 1 : Nat) : Int) (by omega) (by omega) ?_
    conv=>whnf
    exact ⟨l.length - (q + 1), [(5, tv), (6, uv), (7, va), (8, vb), (10, .int .i64 ((q + 1 : Nat) : Int))], _, by omega, ⟨rfl, rfl, rfl, rfl, rfl, trivial⟩, Ent.refl _, q + 1, by omega, rfl, rfl, rfl⟩
   ·(conv=>whnf);refine .ff ?_;(conv=>whnf)
    refine DoesG.toStr (e := 5) (bs := f.new) (by kernel_rfl) (by kernel_rfl) (by kernel_rfl) (((hrb f hfm).2.right [])) rfl ?_
    conv=>whnf
    refine .all ?_
    conv=>whnf
    refine ⟨by decide, ?_⟩
    (conv=>whnf);refine .ff ?_;(conv=>whnf)
    refine DoesG.toStr (e := 5) (bs := d.new) (by kernel_rfl) (by kernel_rfl) (by kernel_rfl) (((hra d hdm).2.right [])) rfl ?_
    conv=>whnf
    refine .take 39 ?_
    conv=>whnf
    refine ⟨rfl, ?_⟩
    (conv=>whnf);refine .ff ?_;(conv=>whnf)
    rw [e3]
    conv=>whnf
    refine .take 40 ?_
    conv=>whnf
    refine ⟨rfl, ?_⟩
    (conv=>whnf);refine .ff ?_;(conv=>whnf)
    refine ⟨rfl, ?_⟩
    (conv=>whnf);refine .ff ?_;(conv=>whnf)
    refine ArithG.i64' ((q + 1 : Nat) : Int) (by omega) (by omega) ?_
    conv=>whnf
    exact ⟨l.length - (q + 1), [(5, tv), (6, uv), (7, va), (8, vb), (10, .int .i64 ((q + 1 : Nat) : Int))], _, by omega, ⟨rfl, rfl, rfl, rfl, rfl, trivial⟩, Ent.refl _, q + 1, by omega, rfl, rfl, rfl⟩
 ·conv=>whnf
  exact ret_here rfl
section
variable {find : SrcF} {hv nv src : Value} {part : Bool} {K : List W32} (hk : K.length = 64)
include hk
theorem stepped_o (F : List HP) (hK : CelN F 4 0 (wvs K)) (hT : CelN F 1 0 (bvs Lib.deBruijn64tab)) (hC' : CelN F 3 0 (wvs K)) (hB : CelN F 2 0 (wvs ivW)) (s d : Nat) (R : RSt) (x : OStep) (hx : x.wf) (hs : SrcG Tryz.prog F src find) (hd : DocF F hv nv part find) (hl : Lim R 2) (hm : R.marks.length ≤ 4398046511104) :
 SpecF Tryz.prog 8 [.pointer (some ⟨s, 0, none⟩), .pointer (some ⟨d, 0, none⟩), .agg ⟨x.cells⟩] F [stR 70 s src R, refR 73 d hv part nv R] (fun r L => r = .bool true ∧ L = [stR 70 s src (oStep find K R x), refR 73 d hv part nv (oStep find K R x)]) := by
 have hgb := (hl.get hd.1 oK).2
 have hst := hl.steps
 have hok := logQ_ok (R := R) hgb
 have hz32 : (rootQ find K R).1.1.length = 32 := by
  unfold rootQ
  simp only
  split
  ·rw [List.length_replicate]
  ·exact (rootL_ok K hok.fs).len
 have hz : (bvs (rootQ find K R).1.1).length = 32 := by rw [bvs_len, hz32]
 refine fun8.spec rfl ?_
 conv=>whnf
 intro b5
 conv=>whnf
 refine LoadG.at (v := .int .i64 x.what) (.here rfl) ?_
 conv=>whnf
 refine CallG.pure (pick_spec _ x.what 8 hx.w1 hx.w2 (by decide)) ?_
 rintro _ _ ⟨rfl, rfl⟩
 have hp := pickN_lt x.what (n := 8) (by decide)
 unfold oStep
 generalize pickN x.what 8 = w at hp ⊢
 conv=>whnf
 refine CondG.dec (fun w0 => ?_) (fun w0 => ?_)
 ·rw [if_pos (by omega)]
  (conv=>whnf);refine .tt ?_;(conv=>whnf)
  refine LoadNG.at (vs := x.leaf.cells) (LeafD.cells_len hx.leaf) (.here (OStep.leaf_at hx)) ?_
  conv=>whnf
  refine CallG.of (pre := [stR 70 s src R]) (rest := [cel b5 47 x.cells, refR 73 d hv part nv R]) (oadd_q K hk _ (.right hK _) (.right hT _) s src R x.leaf hx.leaf hx.to (hs.left _) hgb (by omega)) (Ent.sel (T := []) (A := [_, _, _]) [1, 0, 2] rfl) ?_
  rintro _ _ ⟨rfl, rfl⟩
  conv=>whnf
  refine LoadNG.at (vs := x.leaf.cells) (LeafD.cells_len hx.leaf) (.tl (.here (OStep.leaf_at hx))) ?_
  conv=>whnf
  refine CallG.of (pre := [refR 73 d hv part nv R]) (rest := [cel b5 47 x.cells, stR 70 s src (addQ find K R x.leaf).2]) (oadd9_q K hk _ (.right hC' _) (.right hB _) d R x.leaf hx.leaf hx.to hx.amt (hd.left _) hl) (Ent.sel (T := []) (A := [_, _, _]) [2, 1, 0] rfl) ?_
  rintro _ _ ⟨rfl, rfl⟩
  conv=>whnf
  refine CondG.decT rfl ?_
  (conv=>whnf);refine .tt ?_;(conv=>whnf);refine .tt ?_;(conv=>whnf);refine .tt ?_;(conv=>whnf)
  exact ⟨_, Ent.sel (T := []) (A := [_, _, _]) [2, 0] rfl, by simp [retV], rfl⟩
 conv=>whnf
 refine CondG.dec (fun w1 => ?_) (fun w1 => ?_)
 ·rw [if_pos (by omega)]
  (conv=>whnf);refine .tt ?_;(conv=>whnf)
  refine LoadNG.at (vs := x.leaf.cells) (LeafD.cells_len hx.leaf) (.here (OStep.leaf_at hx)) ?_
  conv=>whnf
  refine CallG.of (pre := [stR 70 s src R]) (rest := [cel b5 47 x.cells, refR 73 d hv part nv R]) (oadd_q K hk _ (.right hK _) (.right hT _) s src R x.leaf hx.leaf hx.to (hs.left _) hgb (by omega)) (Ent.sel (T := []) (A := [_, _, _]) [1, 0, 2] rfl) ?_
  rintro _ _ ⟨rfl, rfl⟩
  conv=>whnf
  refine LoadNG.at (vs := x.leaf.cells) (LeafD.cells_len hx.leaf) (.tl (.here (OStep.leaf_at hx))) ?_
  conv=>whnf
  refine CallG.of (pre := [refR 73 d hv part nv R]) (rest := [cel b5 47 x.cells, stR 70 s src (addQ find K R x.leaf).2]) (oadd9_q K hk _ (.right hC' _) (.right hB _) d R x.leaf hx.leaf hx.to hx.amt (hd.left _) hl) (Ent.sel (T := []) (A := [_, _, _]) [2, 1, 0] rfl) ?_
  rintro _ _ ⟨rfl, rfl⟩
  conv=>whnf
  refine CondG.decT rfl ?_
  (conv=>whnf);refine .tt ?_;(conv=>whnf);refine .tt ?_;(conv=>whnf);refine .tt ?_;(conv=>whnf)
  exact ⟨_, Ent.sel (T := []) (A := [_, _, _]) [2, 0] rfl, by simp [retV], rfl⟩
 conv=>whnf
 refine CondG.dec (fun w2 => ?_) (fun w2 => ?_)
 ·rw [if_pos (by omega)]
  conv=>whnf
  refine LoadNG.at (vs := x.leaf.cells) (LeafD.cells_len hx.leaf) (.here (OStep.leaf_at hx)) ?_
  conv=>whnf
  refine CallG.of (pre := [stR 70 s src R]) (rest := [cel b5 47 x.cells, refR 73 d hv part nv R]) (oadd_q K hk _ (.right hK _) (.right hT _) s src R x.leaf hx.leaf hx.to (hs.left _) hgb (by omega)) (Ent.sel (T := []) (A := [_, _, _]) [1, 0, 2] rfl) ?_
  rintro _ _ ⟨rfl, rfl⟩
  conv=>whnf
  refine LoadNG.at (vs := x.leaf.cells) (LeafD.cells_len hx.leaf) (.tl (.here (OStep.leaf_at hx))) ?_
  conv=>whnf
  refine CallG.of (pre := [refR 73 d hv part nv R]) (rest := [cel b5 47 x.cells, stR 70 s src (addQ find K R x.leaf).2]) (oadd9_q K hk _ (.right hC' _) (.right hB _) d R x.leaf hx.leaf hx.to hx.amt (hd.left _) hl) (Ent.sel (T := []) (A := [_, _, _]) [2, 1, 0] rfl) ?_
  rintro _ _ ⟨rfl, rfl⟩
  conv=>whnf
  refine CondG.decT rfl ?_
  (conv=>whnf);refine .tt ?_;(conv=>whnf);refine .tt ?_;(conv=>whnf);refine .tt ?_;(conv=>whnf)
  exact ⟨_, Ent.sel (T := []) (A := [_, _, _]) [2, 0] rfl, by simp [retV], rfl⟩
 conv=>whnf
 refine CondG.dec (fun w3 => ?_) (fun w3 => ?_)
 ·rw [if_neg (by omega), if_pos (by omega)]
  conv=>whnf
  refine CallG.of (pre := [stR 70 s src R]) (rest := [cel b5 47 x.cells, refR 73 d hv part nv R]) (osize_q _ s src R (hs.left _) hgb) (Ent.sel (T := []) (A := [_, _, _]) [1, 0, 2] rfl) ?_
  rintro _ _ ⟨rfl, rfl⟩
  conv=>whnf
  refine CallG.of (pre := [refR 73 d hv part nv R]) (rest := [cel b5 47 x.cells, stR 70 s src (sizeQ find R).2]) (osize9_q _ d R (hd.left _) (hl.mono (by decide))) (Ent.sel (T := []) (A := [_, _, _]) [2, 1, 0] rfl) ?_
  rintro _ _ ⟨rfl, rfl⟩
  conv=>whnf
  refine CondG.decT rfl ?_
  (conv=>whnf);refine .tt ?_;(conv=>whnf);refine .tt ?_;(conv=>whnf);refine .tt ?_;(conv=>whnf)
  exact ⟨_, Ent.sel (T := []) (A := [_, _, _]) [2, 0] rfl, by simp [retV], rfl⟩
 conv=>whnf
 refine CondG.dec (fun w4 => ?_) (fun w4 => ?_)
 ·rw [if_neg (by omega), if_neg (by omega), if_pos (by omega)]
  (conv=>whnf);refine .tt ?_;(conv=>whnf)
  refine CallG.of (pre := [stR 70 s src R]) (rest := [cel b5 47 x.cells, refR 73 d hv part nv R]) (oroot_q K hk _ (.right hK _) s src R (hs.left _) hgb) (Ent.sel (T := []) (A := [_, _, _]) [1, 0, 2] rfl) ?_
  rintro _ _ ⟨rfl, rfl⟩
  conv=>whnf
  intro b15
  conv=>whnf
  refine StoreG.at hz (Upd.whole (by rw [hz]; rfl) (bvs_one _)) ?_
  conv=>whnf
  refine CallG.of (pre := [refR 73 d hv part nv R]) (rest := [cel b15 81 (bvs (rootQ find K R).1.1), cel b5 47 x.cells, stR 70 s src (rootQ find K R).2]) (oroot9_q K hk _ (.right hC' _) (.right hB _) d R (hd.left _) (hl.mono (by decide))) (Ent.sel (T := []) (A := [_, _, _, _]) [3, 0, 2, 1] rfl) ?_
  rintro _ _ ⟨rfl, rfl⟩
  conv=>whnf
  intro b17
  conv=>whnf
  refine StoreG.at hz (Upd.whole (by rw [hz]; rfl) (bvs_one _)) ?_
  conv=>whnf
  refine LoadNG.at (vs := bvs (rootQ find K R).1.1) hz (.tl (.tl .all)) ?_
  conv=>whnf
  refine LoadNG.at (vs := bvs (rootQ find K R).1.1) hz .all ?_
  conv=>whnf
  refine DoesG.eqv 8 (List.replicate 32 (.int .u8)) (by kernel_rfl) (by decide) (by kernel_rfl) (by kernel_rfl) (wt_bvs hz32) (wt_bvs hz32) ?_
  conv=>whnf
  refine CondG.split (fun _ => ?_) (fun h => absurd h (by simp))
  (conv=>whnf);refine .tt ?_;(conv=>whnf);refine .tt ?_;(conv=>whnf);refine .tt ?_;(conv=>whnf)
  exact ⟨_, Ent.sel (T := []) (A := [_, _, _, _, _]) [4, 1] rfl, by simp [retV], rfl⟩
 conv=>whnf
 refine CondG.dec (fun w5 => ?_) (fun w5 => ?_)
 ·rw [if_neg (by omega), if_neg (by omega), if_pos (by omega)]
  conv=>whnf
  refine CallG.of (pre := [stR 70 s src R]) (rest := [cel b5 47 x.cells, refR 73 d hv part nv R]) (oroot_q K hk _ (.right hK _) s src R (hs.left _) hgb) (Ent.sel (T := []) (A := [_, _, _]) [1, 0, 2] rfl) ?_
  rintro _ _ ⟨rfl, rfl⟩
  conv=>whnf
  intro b15
  conv=>whnf
  refine StoreG.at hz (Upd.whole (by rw [hz]; rfl) (bvs_one _)) ?_
  conv=>whnf
  refine CallG.of (pre := [refR 73 d hv part nv R]) (rest := [cel b15 81 (bvs (rootQ find K R).1.1), cel b5 47 x.cells, stR 70 s src (rootQ find K R).2]) (oroot9_q K hk _ (.right hC' _) (.right hB _) d R (hd.left _) (hl.mono (by decide))) (Ent.sel (T := []) (A := [_, _, _, _]) [3, 0, 2, 1] rfl) ?_
  rintro _ _ ⟨rfl, rfl⟩
  conv=>whnf
  intro b17
  conv=>whnf
  refine StoreG.at hz (Upd.whole (by rw [hz]; rfl) (bvs_one _)) ?_
  conv=>whnf
  refine LoadNG.at (vs := bvs (rootQ find K R).1.1) hz (.tl (.tl .all)) ?_
  conv=>whnf
  refine LoadNG.at (vs := bvs (rootQ find K R).1.1) hz .all ?_
  conv=>whnf
  refine DoesG.eqv 8 (List.replicate 32 (.int .u8)) (by kernel_rfl) (by decide) (by kernel_rfl) (by kernel_rfl) (wt_bvs hz32) (wt_bvs hz32) ?_
  conv=>whnf
  refine CondG.split (fun _ => ?_) (fun h => absurd h (by simp))
  (conv=>whnf);refine .tt ?_;(conv=>whnf);refine .tt ?_;(conv=>whnf);refine .tt ?_;(conv=>whnf)
  exact ⟨_, Ent.sel (T := []) (A := [_, _, _, _, _]) [4, 1] rfl, by simp [retV], rfl⟩
 conv=>whnf
 refine CondG.dec (fun w6 => ?_) (fun w6 => ?_)
 ·rw [if_neg (by omega), if_neg (by omega), if_neg (by omega), if_pos (by omega)]
  conv=>whnf
  refine CallG.of (pre := [stR 70 s src R]) (rest := [cel b5 47 x.cells, refR 73 d hv part nv R]) (mark_h _ s src (by omega) hm) (Ent.sel (T := []) (A := [_, _, _]) [1, 0, 2] rfl) ?_
  rintro _ _ ⟨rfl, rfl⟩
  conv=>whnf
  refine CallG.of (pre := [refR 73 d hv part nv R]) (rest := [cel b5 47 x.cells, stR 70 s src (markQ R).2]) (mark7_spec _ d hv part nv (by omega) hm) (Ent.sel (T := []) (A := [_, _, _]) [2, 1, 0] rfl) ?_
  rintro _ _ ⟨rfl, rfl⟩
  conv=>whnf
  exact ⟨_, Ent.sel (T := []) (A := [_, _, _]) [2, 0] rfl, by simp [retV], rfl⟩
 rw [if_neg (by omega), if_neg (by omega), if_neg (by omega), if_neg (by omega)]
 conv=>whnf
 refine DrawG.mk 9 [cel b5 47 x.cells] [stR 70 s src R, refR 73 d hv part nv R] (Ent.sel (T := []) (A := [_, _, _]) [1, 2, 0] rfl) ?_
 conv=>whnf
 refine .take 0 ?_
 conv=>whnf
 refine ⟨rfl, ?_⟩
 conv=>whnf
 refine .take 1 ?_
 conv=>whnf
 refine ⟨rfl, ?_⟩
 conv=>whnf
 refine .take 2 ?_
 conv=>whnf
 refine ⟨rfl, ?_⟩
 conv=>whnf
 refine LoadG.at (v := .int .i64 x.n) (.here rfl) ?_
 conv=>whnf
 refine .take 4 ?_
 conv=>whnf
 refine ⟨rfl, ?_⟩
 conv=>whnf
 refine .take 5 ?_
 conv=>whnf
 refine ⟨rfl, ?_⟩
 conv=>whnf
 refine .take 6 ?_
 conv=>whnf
 refine ⟨rfl, ?_⟩
 conv=>whnf
 refine LoadG.at (v := .int .i64 x.n) (.here rfl) ?_
 conv=>whnf
 refine .all ?_
 conv=>whnf
 refine ⟨by decide, ?_⟩
 conv=>whnf
 refine CallG.of (pre := [stR 70 s src R]) (rest := [refR 73 d hv part nv R]) (back_h _ s src (by omega) hm x.n hx.n1 hx.n2) (Ent.refl _) ?_
 rintro _ _ ⟨rfl, rfl⟩
 conv=>whnf
 refine .all ?_
 conv=>whnf
 refine ⟨by decide, ?_⟩
 conv=>whnf
 refine CallG.of (pre := [refR 73 d hv part nv R]) (rest := [stR 70 s src (backQ R x.n).2]) (back7_spec _ d hv part nv (by omega) hm x.n hx.n1 hx.n2) (Ent.perm (.swap _ _ _)) ?_
 rintro _ _ ⟨rfl, rfl⟩
 conv=>whnf
 refine .take 8 ?_
 conv=>whnf
 refine ⟨rfl, ?_⟩
 conv=>whnf
 refine .all ?_
 conv=>whnf
 refine ⟨by decide, ?_⟩
 conv=>whnf
 refine ⟨rfl, ?_⟩
 conv=>whnf
 refine ⟨rfl, ?_⟩
 conv=>whnf
 exact ⟨_, Ent.sel (T := []) (A := [_, _, _]) [1, 0] rfl, by simp [retV], rfl⟩
end
end Go.Proofs.YtmfonkklmndhjaaGreatDoor
