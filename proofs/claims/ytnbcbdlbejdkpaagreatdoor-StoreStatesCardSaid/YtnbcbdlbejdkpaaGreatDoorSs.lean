/-
  StoreStates: the walk of the law's function.
-/
import Derived.Test.YtnbcbdlbejdkpaaGreatDoorSz
namespace Go.Proofs.YtnbcbdlbejdkpaaGreatDoor
open Go Go.Sl Go.Sort
theorem nosT : ElT Tryz.prog 56 68 2 24 := .of (by kernel_rfl)
theorem noC_at {l : List NoD} {i : Nat} {p : NoD} (h : l[i]? = some p) : ((noC l).drop (i * 2)).take 2 = NoD.cells p := by
  obtain ⟨h1, rfl⟩ := List.getElem?_eq_some_iff.1 h
  exact flat_get (cells := NoD.cells) (sz := 2) (fun _ _ => rfl) h1
theorem count_one {l : List ByteArray} (hn : l.Nodup) {k : ByteArray} (h : k ∈ l) : countK l k = 1 := by
  unfold countK
  induction l with
  | nil => cases h
  | cons a l ih =>
    rw [List.nodup_cons] at hn
    rw [List.countP_cons]
    by_cases ha : a = k
    · subst ha
      have h0 : List.countP (fun x => decide (x = a)) l = 0 := by
        rw [List.countP_eq_zero]
        intro x hx
        simp only [decide_eq_true_eq]
        exact fun e => hn.1 (e ▸ hx)
      rw [h0]
      simp
    · rcases List.mem_cons.1 h with e | h
      · exact absurd e.symm ha
      · rw [ih hn.2 h]
        simp [ha]
theorem SpecF.permF {f : FuncId} {args : List Value} {F1 F2 : List HP} {R : Value → List HP → Prop} (h : SpecF Tryz.prog f args F1 [] R) (hp : F2.Perm F1) : SpecF Tryz.prog f args F2 [] R := fun w hw => (h w (hw.perm hp)).mono fun e w' ⟨v, L, he, hv, hx, hs⟩ => ⟨v, L, he, hv, hx, hs.perm (hp.symm.append_left L)⟩
section
variable {K : List W32} (hk : K.length = 64)
include hk
theorem states_spec (F : List HP) (hK : CelN F 0 0 (wvs K)) (hv nv sv : Value) (hs : List PairD) (hr : RdS F hv hs.length (pairsC hs)) (hl : hs.length ≤ 3518437208882) (hok : ∀ p ∈ hs, RdS F p.v p.bs.length (bvs p.bs) ∧ p.bs.length ≤ 140737488355328)
    (no : List NoD) (hn : RdS F nv no.length (noC no)) (hnl : no.length ≤ 5864062014806)
    (xs : List StepS) (hx : RdS F sv xs.length (xs.flatMap StepS.cells)) (hxl : xs.length ≤ 2513169434916) (hxo : ∀ x ∈ xs, RdS F x.v x.bs.length (bvs x.bs) ∧ x.bs.length ≤ 140737488355328 ∧ -9223372036854775808 ≤ x.mark ∧ x.mark ≤ 9223372036854775807) :
    SpecF Tryz.prog 4 [.agg ⟨[hv, nv, sv]⟩] F [] (fun r _ => r = .bool true) := by
  obtain ⟨hva, hvc, hve⟩ := hr.len
  refine fun4.spec rfl ?_
  conv => whnf
  intro bx
  conv => whnf
  refine CallG.pure (awake_spec hk _ (.right hK _)) ?_
  rintro _ _ ⟨rfl, rfl⟩
  conv => whnf
  refine LoadG.at (.here rfl) ?_
  conv => whnf
  refine BuildG.of (cs := [hv, .slice none 0 0, .slice none 0 0, .bool false, .slice none 0 0]) (by rw [hve]; rfl) ?_
  conv => whnf
  intro t
  conv => whnf
  refine LoadG.at (.tl (.here rfl)) ?_
  conv => whnf
  refine CallG.pure (over7_u _ hv ⟨_, _, _, hve⟩) ?_
  rintro _ _ ⟨d, rfl, rfl⟩
  conv => whnf
  obtain ⟨E, hE⟩ : ∃ E, E = [own 2 (.slice none 0 0) 0 [], own 2 (.slice none 0 0) 0 [], own 1 (.slice none 0 0) 0 []] := ⟨_, rfl⟩
  refine LoopG.mk (fun mm e L => ∃ (i : Nat) (n1 n2 : Value), i ≤ no.length ∧ mm = no.length - i ∧ SlV n1 i ∧ SlV n2 i ∧ e = [(1, .pointer (some ⟨bx, 0, none⟩)), (2, .bool false), (3, .bool true), (4, .pointer (some ⟨t, 0, none⟩)), (5, .pointer (some ⟨d, 0, none⟩)), (6, .int .i64 i)] ∧ L = cel bx 59 [hv, nv, sv] :: cel t 64 [hv, n1, .slice none 0 0, .bool false, .slice none 0 0] :: cel d 70 [hv, .bool false, n2, .slice none 0 0, .slice none 0 0, .slice none 0 0, .int .i64 0] :: own 2 n1 i (noC (no.take i)) :: own 2 n2 i (noC (no.take i)) :: E) no.length
    [(1, .pointer (some ⟨bx, 0, none⟩)), (2, .bool false), (3, .bool true), (4, .pointer (some ⟨t, 0, none⟩)), (5, .pointer (some ⟨d, 0, none⟩)), (6, .int .i64 0)] (cel bx 59 [hv, nv, sv] :: cel t 64 [hv, (.slice none 0 0), .slice none 0 0, .bool false, .slice none 0 0] :: cel d 70 [hv, .bool false, (.slice none 0 0), .slice none 0 0, .slice none 0 0, .slice none 0 0, .int .i64 0] :: own 2 (.slice none 0 0) 0 (noC (no.take 0)) :: own 2 (.slice none 0 0) 0 (noC (no.take 0)) :: E) ⟨rfl, rfl, rfl, rfl, rfl, rfl, trivial⟩ ?_
    ⟨0, .slice none 0 0, .slice none 0 0, by omega, rfl, .inl ⟨rfl, rfl⟩, .inl ⟨rfl, rfl⟩, rfl, rfl⟩ ?_
  · rw [hE]
    have e0 : ∀ M, Ent M (own 2 (.slice none 0 0) 0 (noC (no.take 0)) :: own 2 (.slice none 0 0) 0 (noC (no.take 0)) :: M) := fun M w G hs => Sat.own_nil (Sat.own_nil hs)
    exact (e0 _).trans (Ent.perm (by classical exact List.perm_iff_count.2 fun x => by simp only [List.append_eq, List.count_append, List.count_cons, List.count_nil]; omega))
  rintro mm e L ⟨i, n1, n2, hi, rfl, hn1, hn2, rfl, rfl⟩
  conv => whnf
  refine LoadG.at (.here rfl) ?_
  conv => whnf
  refine LenG.rd hn ?_
  conv => whnf
  refine CondG.dec (fun h1 => ?_) (fun h1 => ?_)
  · have hil : i < no.length := by omega
    obtain ⟨p, hp⟩ : ∃ p, no[i]? = some p := ⟨no[i], List.getElem?_eq_getElem hil⟩
    have enc : noC (no.take i) ++ NoD.cells p = noC (no.take (i + 1)) := by
      obtain ⟨h2, rfl⟩ := List.getElem?_eq_some_iff.1 hp
      rw [List.take_succ_eq_append_getElem h2]
      unfold noC
      rw [List.flatMap_append, List.flatMap_cons, List.flatMap_nil, List.append_nil]
    conv => whnf
    refine DrawG.mk 14 (cel bx 59 [hv, nv, sv] :: cel t 64 [hv, n1, .slice none 0 0, .bool false, .slice none 0 0] :: cel d 70 [hv, .bool false, n2, .slice none 0 0, .slice none 0 0, .slice none 0 0, .int .i64 0] :: own 2 n2 i (noC (no.take i)) :: E) [own 2 n1 i (noC (no.take i))] (Ent.perm (by classical exact List.perm_iff_count.2 fun x => by simp only [List.append_eq, List.count_append, List.count_cons, List.count_nil]; omega)) ?_
    conv => whnf
    refine .take 0 ?_
    conv => whnf
    refine ⟨rfl, ?_⟩
    conv => whnf
    refine .take 1 ?_
    conv => whnf
    refine ⟨rfl, ?_⟩
    conv => whnf
    refine .take 2 ?_
    conv => whnf
    refine ⟨rfl, ?_⟩
    conv => whnf
    refine .take 3 ?_
    conv => whnf
    refine ⟨rfl, ?_⟩
    conv => whnf
    refine .take 4 ?_
    conv => whnf
    refine ⟨rfl, ?_⟩
    conv => whnf
    refine LoadG.at (.tl (.here rfl)) ?_
    conv => whnf
    refine .take 5 ?_
    conv => whnf
    refine ⟨rfl, ?_⟩
    conv => whnf
    refine .take 6 ?_
    conv => whnf
    refine ⟨rfl, ?_⟩
    conv => whnf
    refine LoadG.at (.here rfl) ?_
    conv => whnf
    refine .take 7 ?_
    conv => whnf
    refine ⟨rfl, ?_⟩
    conv => whnf
    refine .take 8 ?_
    conv => whnf
    refine ⟨rfl, ?_⟩
    conv => whnf
    refine IdxG.rd hn (by omega) fun c9 o9 hc9 => ?_
    conv => whnf
    refine .take 9 ?_
    conv => whnf
    refine ⟨rfl, ?_⟩
    conv => whnf
    refine LoadNG.atF (vs := NoD.cells p) rfl (hc9.part (i := i * 2) (noC_at hp)) ?_
    conv => whnf
    refine .all ?_
    conv => whnf
    refine ⟨by decide, ?_⟩
    conv => whnf
    refine BuildG.of (cs := NoD.cells p) rfl ?_
    conv => whnf
    intro b8
    conv => whnf
    refine .all ?_
    conv => whnf
    refine ⟨by decide, ?_⟩
    conv => whnf
    refine DoesG.ent (Ent.front 1 rfl) ?_
    refine app_ownW nosT 56 (m := 1) (ys := NoD.cells p) (.mk _ _ _ _ _ (Nat.le_refl _) (.tl (.left .all _))) rfl (by simp [NoD.cells, Value.oneCell']) (by simp only [maxLen]; omega) (.wide (by omega)) fun m1 hm1 _ _ => ?_
    obtain ⟨m1a, m1c, rfl⟩ := hm1.len
    conv => whnf
    refine .all ?_
    conv => whnf
    refine ⟨by decide, ?_⟩
    conv => whnf
    refine .all ?_
    conv => whnf
    refine ⟨by decide, ?_⟩
    conv => whnf
    refine .all ?_
    conv => whnf
    refine ⟨by decide, ?_⟩
    conv => whnf
    refine ⟨rfl, ?_⟩
    conv => whnf
    refine StoreG.at rfl (Upd.tl (Upd.tl (Upd.tl (Upd.here (by simp) rfl)))) ?_
    conv => whnf
    refine ⟨rfl, ?_⟩
    conv => whnf
    rw [enc]
    refine DrawG.mk 14 (cel bx 59 [hv, nv, sv] :: cel t 64 [hv, .slice m1a (i + 1) m1c, .slice none 0 0, .bool false, .slice none 0 0] :: cel d 70 [hv, .bool false, n2, .slice none 0 0, .slice none 0 0, .slice none 0 0, .int .i64 0] :: own 2 (.slice m1a (i + 1) m1c) (i + 1) (noC (no.take (i + 1))) :: E) [own 2 n2 i (noC (no.take i))] (Ent.sel (T := E) (A := [_, _, _, _, _, _]) [5, 2, 3, 4, 0] rfl) ?_
    conv => whnf
    refine .take 0 ?_
    conv => whnf
    refine ⟨rfl, ?_⟩
    conv => whnf
    refine .take 1 ?_
    conv => whnf
    refine ⟨rfl, ?_⟩
    conv => whnf
    refine .take 2 ?_
    conv => whnf
    refine ⟨rfl, ?_⟩
    conv => whnf
    refine .take 3 ?_
    conv => whnf
    refine ⟨rfl, ?_⟩
    conv => whnf
    refine .take 4 ?_
    conv => whnf
    refine ⟨rfl, ?_⟩
    conv => whnf
    refine LoadG.at (.tl (.tl (.here rfl))) ?_
    conv => whnf
    refine .take 5 ?_
    conv => whnf
    refine ⟨rfl, ?_⟩
    conv => whnf
    refine .take 6 ?_
    conv => whnf
    refine ⟨rfl, ?_⟩
    conv => whnf
    refine LoadG.at (.here rfl) ?_
    conv => whnf
    refine .take 7 ?_
    conv => whnf
    refine ⟨rfl, ?_⟩
    conv => whnf
    refine .take 8 ?_
    conv => whnf
    refine ⟨rfl, ?_⟩
    conv => whnf
    refine IdxG.rd hn (by omega) fun c9 o9 hc9 => ?_
    conv => whnf
    refine .take 9 ?_
    conv => whnf
    refine ⟨rfl, ?_⟩
    conv => whnf
    refine LoadNG.atF (vs := NoD.cells p) rfl (hc9.part (i := i * 2) (noC_at hp)) ?_
    conv => whnf
    refine .all ?_
    conv => whnf
    refine ⟨by decide, ?_⟩
    conv => whnf
    refine BuildG.of (cs := NoD.cells p) rfl ?_
    conv => whnf
    intro b8
    conv => whnf
    refine .all ?_
    conv => whnf
    refine ⟨by decide, ?_⟩
    conv => whnf
    refine DoesG.ent (Ent.front 1 rfl) ?_
    refine app_ownW nosT 56 (m := 1) (ys := NoD.cells p) (.mk _ _ _ _ _ (Nat.le_refl _) (.tl (.left .all _))) rfl (by simp [NoD.cells, Value.oneCell']) (by simp only [maxLen]; omega) (.wide (by omega)) fun m2 hm2 _ _ => ?_
    obtain ⟨m2a, m2c, rfl⟩ := hm2.len
    conv => whnf
    refine .all ?_
    conv => whnf
    refine ⟨by decide, ?_⟩
    conv => whnf
    refine .all ?_
    conv => whnf
    refine ⟨by decide, ?_⟩
    conv => whnf
    refine .all ?_
    conv => whnf
    refine ⟨by decide, ?_⟩
    conv => whnf
    refine ⟨rfl, ?_⟩
    conv => whnf
    refine StoreG.at rfl (Upd.tl (Upd.tl (Upd.tl (Upd.tl (Upd.here (by simp) rfl))))) ?_
    conv => whnf
    refine ⟨rfl, ?_⟩
    conv => whnf
    rw [enc]
    refine ArithG.i64' ((i + 1 : Nat) : Int) (by omega) (by omega) ?_
    conv => whnf
    exact ⟨no.length - (i + 1), [(1, .pointer (some ⟨bx, 0, none⟩)), (2, .bool false), (3, .bool true), (4, .pointer (some ⟨t, 0, none⟩)), (5, .pointer (some ⟨d, 0, none⟩)), (6, .int .i64 ((i + 1 : Nat) : Int))], _, by omega, ⟨rfl, rfl, rfl, rfl, rfl, rfl, trivial⟩, Ent.sel (T := E) (A := [_, _, _, _, _, _]) [2, 3, 4, 5, 0] rfl, i + 1, _, _, by omega, rfl, hm1, hm2, rfl, rfl⟩
  obtain rfl : no.length = i := by omega
  rw [List.take_length]
  conv => whnf
  refine CallG.pure (over_h _ _ _) ?_
  rintro _ _ ⟨s, rfl, rfl⟩
  (conv => whnf); repeat ((with_reducible first | refine .tt ?_ | refine .ff ?_ | refine .ntt ?_ | refine .nff ?_); conv => whnf)
  refine CondG.ndec (fun h => absurd rfl h) (fun _ => ?_)
  conv => whnf
  obtain ⟨cb, hcb⟩ : ∃ cb, cb = cel bx 59 [hv, nv, sv] := ⟨_, rfl⟩
  have k2 : Cel [cb] bx 2 sv := by rw [hcb]; exact .here rfl
  refine LoopG.mk (fun mm e L => ∃ (i : Nat) (R : RSt) (hv1 hv2 nv2 : Value) (no : List NoD) (hs : List PairD) (good : List ByteArray) (T H H2 : List HP), i ≤ xs.length ∧ mm = xs.length - i ∧ StS ([cb] ++ F) t i R hv1 hv2 nv2 no hs good T H H2 0 ∧
      e = [(1, .pointer (some ⟨bx, 0, none⟩)), (2, .bool false), (3, .bool true), (4, .pointer (some ⟨t, 0, none⟩)), (5, .pointer (some ⟨d, 0, none⟩)), (7, .pointer (some ⟨s, 0, none⟩)), (8, .int .i64 0), (9, .int .i64 i)] ∧ L = cb :: stS s t d R hv2 nv2 no T H H2) xs.length
    [(1, .pointer (some ⟨bx, 0, none⟩)), (2, .bool false), (3, .bool true), (4, .pointer (some ⟨t, 0, none⟩)), (5, .pointer (some ⟨d, 0, none⟩)), (7, .pointer (some ⟨s, 0, none⟩)), (8, .int .i64 0), (9, .int .i64 0)] (cb :: stS s t d ⟨[], [], [], 0⟩ hv n2 no (telL t hv n1 (.slice none 0 0) (.slice none 0 0) no [] []) [] []) ⟨rfl, rfl, rfl, rfl, rfl, rfl, rfl, rfl, trivial⟩ ?_
    ⟨0, ⟨[], [], [], 0⟩, hv, hv, n2, no, hs, [], telL t hv n1 (.slice none 0 0) (.slice none 0 0) no [] [], [], [], by omega, rfl, ?_, rfl, rfl⟩ ?_
  · have hq0 : IsQ ⟨[], [], [], 0⟩ ⟨.slice none 0 0, [], .slice none 0 0, [], .slice none 0 0, []⟩ := ⟨rfl, rfl, rfl, fun p h => absurd h (List.not_mem_nil), fun p h => absurd h (List.not_mem_nil), List.Pairwise.nil, fun m h => absurd h (List.not_mem_nil), .inl ⟨rfl, rfl⟩, .inl ⟨rfl, rfl⟩, .inl ⟨rfl, rfl⟩⟩
    have hpk : ∀ M, Ent ((RfD.mk (.slice none 0 0) [] (.slice none 0 0) [] (.slice none 0 0) []).pieces 70 d hv false n2 0 ++ M) (refR 70 d hv false n2 ⟨[], [], [], 0⟩ :: M) := fun M => Ent.pack (ls := fun d' => RfD.pieces 70 d hv false n2 0 d') hq0
    have e1 : (RfD.mk (.slice none 0 0) [] (.slice none 0 0) [] (.slice none 0 0) []).pieces 70 d hv false n2 0 = cel d 70 [hv, .bool false, n2, .slice none 0 0, .slice none 0 0, .slice none 0 0, .int .i64 0] :: E := by rw [hE]; rfl
    rw [e1] at hpk
    have e2 : telL t hv n1 (.slice none 0 0) (.slice none 0 0) no [] [] = [cel t 64 [hv, n1, .slice none 0 0, .bool false, .slice none 0 0], own 2 n1 no.length (noC no), own 1 (.slice none 0 0) 0 [], own 1 (.slice none 0 0) 0 []] := rfl
    have e3 : ∀ M, Ent M (own 1 (.slice none 0 0) 0 [] :: own 1 (.slice none 0 0) 0 [] :: M) := fun M w G hs => Sat.own_nil (Sat.own_nil hs)
    unfold stS
    refine Ent.trans ((e3 _).trans (Ent.perm ?_)) (Ent.cons cb (hpk _))
    rw [e2, hcb]
    exact (by classical exact List.perm_iff_count.2 fun x => by simp only [List.append_eq, List.count_append, List.count_cons, List.count_nil]; omega)
  · exact ⟨⟨n1, .slice none 0 0, .slice none 0 0, [], hn1, .inl ⟨rfl, rfl⟩, .inl ⟨rfl, rfl⟩, Nat.le_refl _, fun p h => absurd h (List.not_mem_nil), rfl⟩, .right hr [cb], .right hr [cb], hn2, List.Perm.nil, fun p hp => ⟨(hok p hp).1.right [cb], (hok p hp).2⟩, ⟨fun p h => absurd h (List.not_mem_nil), fun p h => absurd h (List.not_mem_nil)⟩, Nat.le_refl _, Nat.le_refl _, Nat.le_refl _, by omega, by omega⟩
  clear hn1 hn2 n1 n2 hi h1
  rintro mm e L ⟨i, R, hv1, hv2, nv2, no, hs, good, T, H, H2, hi, rfl, h, rfl, rfl⟩
  conv => whnf
  refine LoadG.at (k2.left _) ?_
  conv => whnf
  refine LenG.rd hx ?_
  conv => whnf
  refine CondG.dec (fun h1 => ?_) (fun h1 => ?_)
  · have hil : i < xs.length := by omega
    obtain ⟨x, hxi⟩ : ∃ x, x = xs[i] := ⟨_, rfl⟩
    have hxm : x ∈ xs := by rw [hxi]; exact List.getElem_mem hil
    have hxc : ((xs.flatMap StepS.cells).drop (i * 4)).take 4 = x.cells := by rw [hxi]; exact flat_get (cells := StepS.cells) (sz := 4) (fun _ _ => rfl) hil
    obtain ⟨x1, x2, x3, x4⟩ := hxo x hxm
    conv => whnf
    refine LoadG.at (k2.left _) ?_
    conv => whnf
    refine IdxG.rd hx (by omega) fun c9 o9 hc9 => ?_
    conv => whnf
    refine LoadNG.atF (vs := x.cells) rfl (hc9.part (i := i * 4) hxc) ?_
    conv => whnf
    refine CallG.of (pre := stS s t d R hv2 nv2 no T H H2) (rest := [cb]) (play_spec ([cb] ++ F) s t d i (by omega) R hv1 hv2 nv2 no hs good T H H2 h x (.right x1 [cb]) x2 ⟨x3, x4⟩) (Ent.perm (List.perm_append_comm (l₁ := [cb]))) ?_
    rintro _ _ ⟨rfl, R', hv1', hv2', nv2', no', hs', good', T', H', H2', h', rfl⟩
    (conv => whnf); repeat ((with_reducible first | refine .tt ?_ | refine .ff ?_ | refine .ntt ?_ | refine .nff ?_); conv => whnf)
    obtain ⟨nv', gv, tv, told, hn1, hn2, hn4, hn5, hn6, hT⟩ := h'.tel
    obtain ⟨g, hg⟩ : ∃ g : Value × List Nat → HP, g = fun p => own 1 p.1 (p.2.length + 40) (bvs (lentB p.2)) := ⟨_, rfl⟩
    obtain ⟨V, hV⟩ : ∃ V, V = refR 70 d hv2' false nv2' R' :: stR 118 s (.iface 60 (.pointer (some ⟨t, 0, none⟩))) R' :: own 2 nv' no'.length (noC no') :: own 1 gv good'.length (keysB good') :: own 2 nv2' no'.length (noC no') :: cb :: (H' ++ H2') := ⟨_, rfl⟩
    refine LoopG.mk (fun mm e L => ∃ (k : Nat), k ≤ told.length ∧ mm = told.length - k ∧ e = [(1, .pointer (some ⟨bx, 0, none⟩)), (2, .bool false), (3, .bool true), (4, .pointer (some ⟨t, 0, none⟩)), (5, .pointer (some ⟨d, 0, none⟩)), (7, .pointer (some ⟨s, 0, none⟩)), (8, .int .i64 0), (9, .int .i64 i), (11, .int .i64 k)] ∧ L = cel t 64 [hv1', nv', gv, .bool false, tv] :: own 1 tv told.length (told.map (·.1)) :: ((told.drop k).map g ++ V)) told.length
      [(1, .pointer (some ⟨bx, 0, none⟩)), (2, .bool false), (3, .bool true), (4, .pointer (some ⟨t, 0, none⟩)), (5, .pointer (some ⟨d, 0, none⟩)), (7, .pointer (some ⟨s, 0, none⟩)), (8, .int .i64 0), (9, .int .i64 i), (11, .int .i64 0)] (cel t 64 [hv1', nv', gv, .bool false, tv] :: own 1 tv told.length (told.map (·.1)) :: (told.map g ++ V)) ⟨rfl, rfl, rfl, rfl, rfl, rfl, rfl, rfl, rfl, trivial⟩ ?_
      ⟨0, by omega, rfl, rfl, rfl⟩ ?_
    · have e1 : T' = cel t 64 [hv1', nv', gv, .bool false, tv] :: own 2 nv' no'.length (noC no') :: own 1 gv good'.length (keysB good') :: own 1 tv told.length (told.map (·.1)) :: told.map g := by rw [hT, hg]; rfl
      unfold stS
      rw [e1, hV]
      exact Ent.perm (by classical exact List.perm_iff_count.2 fun x => by simp only [List.append_eq, List.count_append, List.count_cons, List.count_nil]; omega)
    rintro mm e L ⟨k, hk2, rfl, rfl, rfl⟩
    conv => whnf
    refine LoadG.at (.here rfl) ?_
    conv => whnf
    refine LenG.sl hn4 ?_
    conv => whnf
    refine CondG.dec (fun h3 => ?_) (fun h3 => ?_)
    · have hkl : k < told.length := by omega
      obtain ⟨p, hp⟩ : ∃ p, told[k]? = some p := ⟨told[k], List.getElem?_eq_getElem hkl⟩
      have hpm := List.mem_of_getElem? hp
      obtain ⟨hps, hpl⟩ := hn6 p hpm
      obtain ⟨pa, pc, hpe⟩ := hps.len
      have hdr : (told.drop k).map g = own 1 p.1 (p.2.length + 40) (bvs (lentB p.2)) :: (told.drop (k + 1)).map g := by
        obtain ⟨h4, rfl⟩ := List.getElem?_eq_some_iff.1 hp
        rw [List.drop_eq_getElem_cons h4, List.map_cons, hg]
      obtain ⟨W, hW⟩ : ∃ W, W = (told.drop (k + 1)).map g ++ V := ⟨_, rfl⟩
      have hget : (told.map (·.1))[((k : Nat) : Int).toNat * 1]? = some (.slice pa (p.2.length + 40) pc) := by
        rw [Int.toNat_natCast, Nat.mul_one, List.getElem?_map, hp, ← hpe]
        rfl
      have hL : (told.drop k).map g ++ V = own 1 (.slice pa (p.2.length + 40) pc) (p.2.length + 40) (bvs (lentB p.2)) :: W := by rw [hdr, hW, hpe]; rfl
      rw [hL]
      rw [hpe] at hps
      have hrt : RdS (cel t 64 [hv1', nv', gv, .bool false, tv] :: own 1 tv told.length (told.map (·.1)) :: own 1 (.slice pa (p.2.length + 40) pc) (p.2.length + 40) (bvs (lentB p.2)) :: W) tv told.length (told.map (·.1)) := .tl (own_rd hn4 (by rw [List.length_map, Nat.mul_one]))
      have hro : RdS (cel t 64 [hv1', nv', gv, .bool false, tv] :: own 1 tv told.length (told.map (·.1)) :: own 1 (.slice pa (p.2.length + 40) pc) (p.2.length + 40) (bvs (lentB p.2)) :: W) (.slice pa (p.2.length + 40) pc) (p.2.length + 40) (bvs (lentB p.2)) := .tl (.tl (own_rd hps (by rw [bvs_len, lentB_len, Nat.mul_one])))
      have hrc : RdS (cel t 64 [hv1', nv', gv, .bool false, tv] :: own 1 tv told.length (told.map (·.1)) :: own 1 (.slice pa (p.2.length + 40) pc) (p.2.length + 40) (bvs (lentB p.2)) :: W) (.slice pa p.2.length pc) p.2.length (bvs p.2) := by
        have h4 := RdS.take hro (k := p.2.length) (by omega) (by rw [bvs_len, lentB_len])
        have e : (bvs (lentB p.2)).take p.2.length = bvs p.2 := by rw [bvs, ← List.map_take, lentB, List.take_left' rfl]; rfl
        rw [e] at h4
        exact h4
      have hcap : p.2.length + 40 ≤ pc := by
        rcases hps with ⟨h5, h6⟩ | ⟨g5, cap, h5, h6⟩
        · omega
        · cases h5; exact h6
      conv => whnf
      refine LoadG.at (.here rfl) ?_
      conv => whnf
      refine IdxG.rd hrt (by omega) fun c9 o9 hc9 => ?_
      conv => whnf
      refine LoadG.at (hc9.one hget) ?_
      conv => whnf
      refine LenG.lit ?_
      conv => whnf
      refine ArithG.i64' ((p.2.length : Nat) : Int) (by omega) (by omega) ?_
      conv => whnf
      refine DrawG.mk 18 (cel t 64 [hv1', nv', gv, .bool false, tv] :: own 1 tv told.length (told.map (·.1)) :: own 1 (.slice pa (p.2.length + 40) pc) (p.2.length + 40) (bvs (lentB p.2)) :: W) [] (Ent.refl _) ?_
      conv => whnf
      refine .take 0 ?_
      conv => whnf
      refine ⟨rfl, ?_⟩
      conv => whnf
      refine .take 1 ?_
      conv => whnf
      refine ⟨rfl, ?_⟩
      conv => whnf
      refine .take 2 ?_
      conv => whnf
      refine ⟨rfl, ?_⟩
      conv => whnf
      refine .take 3 ?_
      conv => whnf
      refine ⟨rfl, ?_⟩
      conv => whnf
      refine LoadG.at (.here rfl) ?_
      conv => whnf
      refine .take 4 ?_
      conv => whnf
      refine ⟨rfl, ?_⟩
      conv => whnf
      refine .take 5 ?_
      conv => whnf
      refine ⟨rfl, ?_⟩
      conv => whnf
      refine IdxG.rd hrt (by omega) fun c9 o9 hc9 => ?_
      conv => whnf
      refine .take 6 ?_
      conv => whnf
      refine ⟨rfl, ?_⟩
      conv => whnf
      refine LoadG.at (hc9.one hget) ?_
      conv => whnf
      refine .take 7 ?_
      conv => whnf
      refine ⟨rfl, ?_⟩
      conv => whnf
      refine .take 8 ?_
      conv => whnf
      refine ⟨rfl, ?_⟩
      conv => whnf
      refine .take 9 ?_
      conv => whnf
      refine ⟨rfl, ?_⟩
      conv => whnf
      refine .take 10 ?_
      conv => whnf
      refine ⟨rfl, ?_⟩
      conv => whnf
      refine LoadG.at (.here rfl) ?_
      conv => whnf
      refine .take 11 ?_
      conv => whnf
      refine ⟨rfl, ?_⟩
      conv => whnf
      refine .take 12 ?_
      conv => whnf
      refine ⟨rfl, ?_⟩
      conv => whnf
      refine IdxG.rd hrt (by omega) fun c9 o9 hc9 => ?_
      conv => whnf
      refine .take 13 ?_
      conv => whnf
      refine ⟨rfl, ?_⟩
      conv => whnf
      refine LoadG.at (hc9.one hget) ?_
      conv => whnf
      refine .take 14 ?_
      conv => whnf
      refine ⟨rfl, ?_⟩
      conv => whnf
      refine .take 15 ?_
      conv => whnf
      refine ⟨rfl, ?_⟩
      conv => whnf
      refine SlcG.lit ?_
      conv => whnf
      refine SideG.of (by omega) ?_
      conv => whnf
      refine SliceG.zero ?_
      conv => whnf
      refine .all ?_
      conv => whnf
      refine ⟨by decide, ?_⟩
      conv => whnf
      refine CallG.pure (kept_spec _ (.slice pa (p.2.length + 40) pc) (.slice pa p.2.length pc) p.2 (.right (.left hro F) []) (.right (.left hrc F) []) hpl) ?_
      rintro _ _ ⟨rfl, rfl⟩
      conv => whnf
      refine .all ?_
      conv => whnf
      refine ⟨by decide, ?_⟩
      conv => whnf
      refine ⟨rfl, ?_⟩
      (conv => whnf); repeat ((with_reducible first | refine .tt ?_ | refine .ff ?_ | refine .ntt ?_ | refine .nff ?_); conv => whnf)
      refine LoadG.at (.here rfl) ?_
      conv => whnf
      refine IdxG.rd hrt (by omega) fun c9 o9 hc9 => ?_
      conv => whnf
      refine LoadG.at (hc9.one hget) ?_
      conv => whnf
      obtain ⟨l, hl⟩ : ∃ l, l = (lentB p.2).map Int.ofNat := ⟨_, rfl⟩
      have hll : l.length = p.2.length + 40 := by rw [hl, List.length_map, lentB_len]
      refine CallG.of (pre := [own 1 (.slice pa (p.2.length + 40) pc) l.length (ivs l)]) (rest := cel t 64 [hv1', nv', gv, .bool false, tv] :: own 1 tv told.length (told.map (·.1)) :: W) (spoil_spec _ (.slice pa (p.2.length + 40) pc) l (by omega)) (by rw [hll, hl, ← bvs_ivs]; exact Ent.perm (by classical exact List.perm_iff_count.2 fun x => by simp only [List.append_eq, List.count_append, List.count_cons, List.count_nil]; omega)) ?_
      rintro _ _ ⟨m2, hm2, rfl⟩
      conv => whnf
      refine ArithG.i64' ((k + 1 : Nat) : Int) (by omega) (by omega) ?_
      conv => whnf
      rw [hW]
      exact ⟨told.length - (k + 1), [(1, .pointer (some ⟨bx, 0, none⟩)), (2, .bool false), (3, .bool true), (4, .pointer (some ⟨t, 0, none⟩)), (5, .pointer (some ⟨d, 0, none⟩)), (7, .pointer (some ⟨s, 0, none⟩)), (8, .int .i64 0), (9, .int .i64 i), (11, .int .i64 ((k + 1 : Nat) : Int))], _, by omega, ⟨rfl, rfl, rfl, rfl, rfl, rfl, rfl, rfl, rfl, trivial⟩, Ent.drop _, k + 1, by omega, rfl, rfl, rfl⟩
    have e1 : told.drop k = [] := List.drop_eq_nil_of_le (by omega)
    rw [e1]
    conv => whnf
    refine StoreG.at rfl (Upd.here (by simp) rfl) ?_
    conv => whnf
    refine ArithG.i64' ((i + 1 : Nat) : Int) (by omega) (by omega) ?_
    conv => whnf
    have st : StS ([cb] ++ F) t (i + 1) R' hv1' hv2' nv2' no' hs' good' (telL t hv1' nv' gv (.slice none 0 0) no' good' []) H' H2' 0 := ⟨⟨nv', gv, .slice none 0 0, [], hn1, hn2, .inl ⟨rfl, rfl⟩, Nat.le_refl _, fun p h => absurd h (List.not_mem_nil), rfl⟩, h'.rh, h'.rh2, h'.snv, h'.perm, h'.vals, h'.small, h'.tl, h'.sl, h'.ml, h'.hl, h'.nl⟩
    refine ⟨xs.length - (i + 1), [(1, .pointer (some ⟨bx, 0, none⟩)), (2, .bool false), (3, .bool true), (4, .pointer (some ⟨t, 0, none⟩)), (5, .pointer (some ⟨d, 0, none⟩)), (7, .pointer (some ⟨s, 0, none⟩)), (8, .int .i64 0), (9, .int .i64 ((i + 1 : Nat) : Int))], _, by omega, ⟨rfl, rfl, rfl, rfl, rfl, rfl, rfl, rfl, trivial⟩, ?_, i + 1, R', hv1', hv2', nv2', no', hs', good', _, H', H2', by omega, rfl, st, rfl, rfl⟩
    have e2 : ∀ M, Ent M (own 1 (.slice none 0 0) 0 [] :: M) := fun M w G hs => Sat.own_nil hs
    have e3 : telL t hv1' nv' gv (.slice none 0 0) no' good' [] = [cel t 64 [hv1', nv', gv, .bool false, .slice none 0 0], own 2 nv' no'.length (noC no'), own 1 gv good'.length (keysB good'), own 1 (.slice none 0 0) 0 []] := rfl
    unfold stS
    rw [e3, hV]
    refine (e2 _).trans (Ent.trans (Ent.perm (?_ : List.Perm _ ((cb :: refR 70 d hv2' false nv2' R' :: (stR 118 s (.iface 60 (.pointer (some ⟨t, 0, none⟩))) R' :: ([cel t 64 [hv1', nv', gv, .bool false, .slice none 0 0], own 2 nv' no'.length (noC no'), own 1 gv good'.length (keysB good'), own 1 (.slice none 0 0) 0 []] ++ (own 2 nv2' no'.length (noC no') :: (H' ++ H2'))))) ++ [own 1 tv told.length (told.map (·.1))]))) (Ent.dropL _ [own 1 tv told.length (told.map (·.1))]))
    refine List.Perm.trans (List.Perm.refl (own 1 (.slice none 0 0) 0 [] :: cel t 64 [hv1', nv', gv, .bool false, .slice none 0 0] :: own 1 tv told.length (told.map (·.1)) :: ([] ++ (refR 70 d hv2' false nv2' R' :: stR 118 s (.iface 60 (.pointer (some ⟨t, 0, none⟩))) R' :: own 2 nv' no'.length (noC no') :: own 1 gv good'.length (keysB good') :: own 2 nv2' no'.length (noC no') :: cb :: (H' ++ H2'))))) ?_
    exact (by classical exact List.perm_iff_count.2 fun x => by simp only [List.append_eq, List.count_append, List.count_cons, List.count_nil]; omega)
  clear h1
  obtain ⟨src, hsrc⟩ : ∃ src, src = Value.iface 60 (.pointer (some ⟨t, 0, none⟩)) := ⟨_, rfl⟩
  unfold stS
  rw [← hsrc]
  obtain ⟨G, hG⟩ : ∃ G, G = own 2 nv2 no.length (noC no) :: (H ++ H2) := ⟨_, rfl⟩
  rw [← hG]
  have ht := h.tl
  have hst := h.sl
  conv => whnf
  refine CallG.of (pre := [stR 118 s src R]) (rest := cb :: refR 70 d hv2 false nv2 R :: (T ++ G)) (touched_n _ s src (by omega)) (Ent.perm (by classical exact List.perm_iff_count.2 fun x => by simp only [List.append_eq, List.count_append, List.count_cons, List.count_nil]; omega)) ?_
  rintro av _ ⟨hnd, hav, rfl⟩
  conv => whnf
  refine CallG.of (pre := [refR 70 d hv2 false nv2 R]) (rest := own 1 av (touchedQ R).length (keysB (touchedQ R)) :: stR 118 s src R :: cb :: (T ++ G)) (touched7_spec _ d hv2 false nv2 (by omega)) (Ent.perm (by classical exact List.perm_iff_count.2 fun x => by simp only [List.append_eq, List.count_append, List.count_cons, List.count_nil]; omega)) ?_
  rintro bv _ ⟨hbv, rfl⟩
  have htq : (touchedQ R).length ≤ 2513169434916 := by rw [touchedQ, List.length_map]; omega
  conv => whnf
  refine CallG.pure (texts_same _ av bv (touchedQ R) (.left (.tl (.tl (own_rd hav (by rw [keysB, List.length_map, Nat.mul_one])))) F) (.left (own_rd hbv (by rw [keysB, List.length_map, Nat.mul_one])) F) (by omega)) ?_
  rintro _ _ ⟨rfl, rfl⟩
  conv => whnf
  refine CallG.of (pre := [stR 118 s src R, refR 70 d hv2 false nv2 R]) (rest := own 1 bv (touchedQ R).length (keysB (touchedQ R)) :: own 1 av (touchedQ R).length (keysB (touchedQ R)) :: cb :: (T ++ G)) (changes_law _ s d src hv2 false nv2 (by omega) (by omega) h.small.val h.small.told) (Ent.perm (by classical exact List.perm_iff_count.2 fun x => by simp only [List.append_eq, List.count_append, List.count_cons, List.count_nil]; omega)) ?_
  rintro _ _ ⟨rfl, rfl⟩
  obtain ⟨nv', gv, tv, told, hn1, hn2, hn4, hn5, hn6, hT⟩ := h.tel
  have hgl : good.length = (touchedQ R).length := h.perm.length_eq
  obtain ⟨M, hM⟩ : ∃ M, M = stR 118 s src R :: refR 70 d hv2 false nv2 R :: own 1 bv (touchedQ R).length (keysB (touchedQ R)) :: cb :: G := ⟨_, rfl⟩
  conv => whnf
  refine LoopG.mk (fun mm e L => ∃ (k : Nat), k ≤ (touchedQ R).length ∧ mm = (touchedQ R).length - k ∧ e = [(1, .pointer (some ⟨bx, 0, none⟩)), (2, .bool false), (3, .bool true), (4, .pointer (some ⟨t, 0, none⟩)), (5, .pointer (some ⟨d, 0, none⟩)), (7, .pointer (some ⟨s, 0, none⟩)), (8, .int .i64 0), (14, av), (16, .bool true), (17, .bool true), (18, .int .i64 k)] ∧ L = own 1 av (touchedQ R).length (keysB (touchedQ R)) :: (telL t hv1 nv' gv tv no good told ++ M)) (touchedQ R).length
    [(1, .pointer (some ⟨bx, 0, none⟩)), (2, .bool false), (3, .bool true), (4, .pointer (some ⟨t, 0, none⟩)), (5, .pointer (some ⟨d, 0, none⟩)), (7, .pointer (some ⟨s, 0, none⟩)), (8, .int .i64 0), (14, av), (16, .bool true), (17, .bool true), (18, .int .i64 0)] (own 1 av (touchedQ R).length (keysB (touchedQ R)) :: (telL t hv1 nv' gv tv no good told ++ M)) ⟨rfl, rfl, rfl, rfl, rfl, rfl, rfl, rfl, rfl, rfl, rfl, trivial⟩ ?_
    ⟨0, by omega, rfl, rfl, rfl⟩ ?_
  · rw [hT, hM]
    exact Ent.perm (by classical exact List.perm_iff_count.2 fun x => by simp only [List.append_eq, List.count_append, List.count_cons, List.count_nil]; omega)
  rintro mm e L ⟨k, hk2, rfl, rfl, rfl⟩
  conv => whnf
  refine LenG.sl hav ?_
  conv => whnf
  refine CondG.dec (fun h3 => ?_) (fun h3 => ?_)
  · have hkl : k < (touchedQ R).length := by omega
    conv => whnf
    have hra : RdS (own 1 av (touchedQ R).length (keysB (touchedQ R)) :: (telL t hv1 nv' gv tv no good told ++ M)) av (touchedQ R).length (keysB (touchedQ R)) := own_rd hav (by rw [keysB, List.length_map, Nat.mul_one])
    refine IdxG.rd hra (by omega) fun c9 o9 hc9 => ?_
    conv => whnf
    refine LoadG.at (hc9.one (i := ((k : Nat) : Int).toNat * 1) (u := .string (touchedQ R)[k]) (by rw [keysB, Int.toNat_natCast, Nat.mul_one, List.getElem?_map, List.getElem?_eq_getElem hkl]; rfl)) ?_
    conv => whnf
    refine CallG.pure (SpecF.permF (often_spec (own 1 av (touchedQ R).length (keysB (touchedQ R)) :: (M ++ F)) t hv1 nv' gv tv no good told hn2 (by omega) (touchedQ R)[k]) (by classical exact List.perm_iff_count.2 fun x => by simp only [List.append_eq, List.count_append, List.count_cons, List.count_nil]; omega)) ?_
    rintro _ _ ⟨rfl, rfl⟩
    have e1 : countK good (touchedQ R)[k] = 1 := by
      have h5 : countK good (touchedQ R)[k] = countK (touchedQ R) (touchedQ R)[k] := h.perm.countP_eq _
      rw [h5]
      exact count_one hnd (List.getElem_mem hkl)
    rw [e1]
    conv => whnf
    refine CondG.ndec (fun h => absurd rfl h) (fun _ => ?_)
    conv => whnf
    refine ArithG.i64' ((k + 1 : Nat) : Int) (by omega) (by omega) ?_
    conv => whnf
    exact ⟨(touchedQ R).length - (k + 1), [(1, .pointer (some ⟨bx, 0, none⟩)), (2, .bool false), (3, .bool true), (4, .pointer (some ⟨t, 0, none⟩)), (5, .pointer (some ⟨d, 0, none⟩)), (7, .pointer (some ⟨s, 0, none⟩)), (8, .int .i64 0), (14, av), (16, .bool true), (17, .bool true), (18, .int .i64 ((k + 1 : Nat) : Int))], _, by omega, ⟨rfl, rfl, rfl, rfl, rfl, rfl, rfl, rfl, rfl, rfl, rfl, trivial⟩, Ent.refl _, k + 1, by omega, rfl, rfl, rfl⟩
  · (conv => whnf); repeat ((with_reducible first | refine .tt ?_ | refine .ff ?_ | refine .ntt ?_ | refine .nff ?_); conv => whnf)
    refine LoadG.at (.tl (.here rfl)) ?_
    (conv => whnf); repeat ((with_reducible first | refine .tt ?_ | refine .ff ?_ | refine .ntt ?_ | refine .nff ?_); conv => whnf)
    refine LoadG.at (.tl (.here rfl)) ?_
    (conv => whnf); repeat ((with_reducible first | refine .tt ?_ | refine .ff ?_ | refine .ntt ?_ | refine .nff ?_); conv => whnf)
    refine LenG.sl hn2 ?_
    (conv => whnf); repeat ((with_reducible first | refine .tt ?_ | refine .ff ?_ | refine .ntt ?_ | refine .nff ?_); conv => whnf)
    refine LenG.sl hav ?_
    (conv => whnf); repeat ((with_reducible first | refine .tt ?_ | refine .ff ?_ | refine .ntt ?_ | refine .nff ?_); conv => whnf)
    exact ⟨_, Ent.refl _, by show Value.bool (decide _) = _; rw [hgl]; simp⟩
end
end Go.Proofs.YtnbcbdlbejdkpaaGreatDoor
