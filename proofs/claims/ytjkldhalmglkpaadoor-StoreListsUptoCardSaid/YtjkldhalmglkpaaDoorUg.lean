import Derived.Test.YtjkldhalmglkpaaDoorSd
import Derived.Test.YtjkldhalmglkpaaDoorZGr
namespace Go.Proofs.YtjkldhalmglkpaaDoor
open Go Go.Sl
theorem partsT2 : ElT Tryd.prog 54 30 1 24 := .of (by kernel_rfl)
theorem bytesT2 : ElT Tryd.prog 30 5 1 1 := .of (by kernel_rfl)
theorem slfTake_spec (F : List HP) (s : Nat) (lv : Value) (vs : List Value) (v : Value) (hl : vs.length ≤ 9000000000000) (hv : ∃ a n c, v = .slice a n c) :
 SpecF Tryd.prog 26 [.pointer (some ⟨s, 0, none⟩), v] F [cel s 56 [lv], own 1 lv vs.length vs] (fun _ L => ∃ lv', SlV lv' (vs ++ [v]).length ∧ L = [cel s 56 [lv'], own 1 lv' (vs ++ [v]).length (vs ++ [v])]) := by
 obtain ⟨a, n, c, rfl⟩ := hv
 refine fun26.spec rfl ?_
 conv=>whnf
 refine LoadG.at (v := lv) (.here rfl) ?_
 conv=>whnf
 refine BuildG.of (cs := [.slice a n c]) rfl ?_
 conv=>whnf
 intro b
 conv=>whnf
 refine DoesG.ent (Ent.front 2 rfl) ?_
 refine app_ownW partsT2 54 (m := 1) (ys := [.slice a n c]) (.mk _ _ _ _ _ (Nat.le_refl _) (.tl (.left .all _))) rfl (by simp [Value.oneCell']) (by simp only [maxLen]; omega) (.wide (by omega)) fun lv' hv' _ _ => ?_
 obtain ⟨la, lc, rfl⟩ := hv'.len
 conv=>whnf
 refine StoreG.at rfl (Upd.tl (Upd.tl (Upd.here (by simp) rfl))) ?_
 conv=>whnf
 rw [List.length_append]
 exact ⟨_, Ent.sel (T := []) (A := [_, _, _]) [2, 0] rfl, _, hv', rfl⟩
theorem marked_spec (F : List HP) (s : Nat) (lv : Value) (l : Slf) (b : Nat) (hb : 1 ≤ b) (hb2 : b ≤ 1000) (hm : l.length ≤ 9000000000000) (hn : ∀ d ∈ l, SlV d.1 d.2 ∧ d.2 ≤ 1099511627776) (hlv : SlV lv l.length) :
 SpecF Tryd.prog 58 [.pointer (some ⟨s, 0, none⟩), .int .i64 b] F (cel s 56 [lv] :: own 1 lv l.length (l.map (·.1)) :: slfL l) (fun r L => r = .bool true ∧ L = cel s 56 [lv] :: own 1 lv l.length (l.map (·.1)) :: slfL l) := by
 have hvl : (l.map (·.1)).length = l.length * 1 := by rw [List.length_map, Nat.mul_one]
 have hmod : ∀ i : Nat, ((i / b : Nat) : Int).tmod 251 = ((i / b % 251 : Nat) : Int) := fun i => (Int.ofNat_tmod (i / b) 251).symm
 have hdiv : ∀ i : Nat, i ≤ 9000000000000 → -9223372036854775808 ≤ ((i / b : Nat) : Int) ∧ ((i / b : Nat) : Int) ≤ 9223372036854775807 := fun i hi => by
  have h1 := Nat.div_le_self i b
  generalize i / b = q at h1 ⊢
  omega
 have hm251 : ∀ i : Nat, 0 ≤ ((i / b % 251 : Nat) : Int) ∧ ((i / b % 251 : Nat) : Int) < 256 := fun i => by
  generalize i / b = q
  omega
 have hlat : ∀ {i : Nat} {d : Value × Nat}, l[i]? = some d → (l.map (·.1))[i]? = some d.1 := fun {i d} h => by rw [List.getElem?_map, h]; rfl
 obtain ⟨la, lc, rfl⟩ := hlv.len
 refine fun58.spec rfl ?_
 conv=>whnf
 refine LoopG.mk (fun mm e L => ∃ i : Nat, i ≤ l.length ∧ mm = l.length - i ∧ e = [(0, .pointer (some ⟨s, 0, none⟩)), (1, .int .i64 b), (4, .bool false), (5, .int .i64 i)] ∧
  L = cel s 56 [.slice la l.length lc] :: own 1 (.slice la l.length lc) l.length (l.map (·.1)) :: (slfM b 0 (l.take i) ++ slfL (l.drop i))) l.length
  [(0, .pointer (some ⟨s, 0, none⟩)), (1, .int .i64 b), (4, .bool false), (5, .int .i64 0)] _ ⟨rfl, rfl, rfl, rfl, trivial⟩ (Ent.refl _) ⟨0, by omega, rfl, rfl, rfl⟩ ?_
 rintro mm e L ⟨i, hi, rfl, rfl, rfl⟩
 conv=>whnf
 refine LoadG.at (v := .slice la l.length lc) (.here rfl) ?_
 conv=>whnf
 refine LenG.lit ?_
 conv=>whnf
 refine CondG.dec (fun h1 => ?_) (fun h1 => ?_)
 ·have hil : i < l.length := by omega
  obtain ⟨⟨v, n⟩, hd⟩ : ∃ d, l[i]? = some d := ⟨l[i], List.getElem?_eq_getElem hil⟩
  obtain ⟨hv, hnn⟩ := hn _ (List.mem_of_getElem? hd)
  simp only at hv hnn
  have hdrop : l.drop i = (v, n) :: l.drop (i + 1) := by
   obtain ⟨h2, h3⟩ := List.getElem?_eq_some_iff.1 hd
   rw [List.drop_eq_getElem_cons h2, h3]
  have htake : l.take (i + 1) = l.take i ++ [(v, n)] := by rw [List.take_add_one, hd]; rfl
  obtain ⟨R, hR⟩ : ∃ R, R = slfM b 0 (l.take i) ++ slfL (l.drop (i + 1)) := ⟨_, rfl⟩
  rw [hdrop]
  conv=>whnf
  refine LoopG.mk (fun mm e L => ∃ k : Nat, k ≤ n ∧ mm = n - k ∧ e = [(0, .pointer (some ⟨s, 0, none⟩)), (1, .int .i64 b), (4, .bool false), (5, .int .i64 i), (6, .int .i64 k)] ∧
   L = cel s 56 [.slice la l.length lc] :: own 1 (.slice la l.length lc) l.length (l.map (·.1)) :: partP v n k (mkB b i) :: R) n
   [(0, .pointer (some ⟨s, 0, none⟩)), (1, .int .i64 b), (4, .bool false), (5, .int .i64 i), (6, .int .i64 0)] (cel s 56 [.slice la l.length lc] :: own 1 (.slice la l.length lc) l.length (l.map (·.1)) :: anyP v n :: R) ⟨rfl, rfl, rfl, rfl, rfl, trivial⟩
   (by rw [hR]; exact Ent.cons _ (Ent.cons _ (Ent.perm List.perm_middle))) ⟨0, by omega, rfl, rfl, rfl⟩ ?_
  rintro mm e L ⟨k, hk, rfl, rfl, rfl⟩
  conv=>whnf
  refine LoadG.at (v := .slice la l.length lc) (.here rfl) ?_
  conv=>whnf
  refine IdxG.rd (L := cel s 56 [.slice la l.length lc] :: own 1 (.slice la l.length lc) l.length (l.map (·.1)) :: partP v n k (mkB b i) :: R) (.tl (own_rd hlv hvl)) (by omega) fun cb o hcc => ?_
  conv=>whnf
  refine LoadG.at (v := v) (hcc.one (i := ((i : Nat) : Int).toNat * 1) (by rw [Int.toNat_natCast, Nat.mul_one]; exact hlat hd)) ?_
  clear hcc
  conv=>whnf
  refine LenG.sl hv ?_
  conv=>whnf
  refine CondG.dec (fun h2 => ?_) (fun h2 => ?_)
  ·obtain ⟨g, cap, rfl, hcap⟩ := slv_some hv (by omega)
   conv=>whnf
   refine DrawG.mk 15 [cel s 56 [.slice la l.length lc], own 1 (.slice la l.length lc) l.length (l.map (·.1))] (partP (.slice (some ⟨g, 0, none⟩) n cap) n k (mkB b i) :: R) (Ent.perm (by classical exact List.perm_iff_count.2 fun x => by simp only [List.append_eq, List.count_append, List.count_cons, List.count_nil]; omega)) ?_
   conv=>whnf
   refine .take 0 ?_
   conv=>whnf
   refine ⟨rfl, ?_⟩
   conv=>whnf
   refine .take 1 ?_
   conv=>whnf
   refine ⟨rfl, ?_⟩
   conv=>whnf
   refine .take 2 ?_
   conv=>whnf
   refine ⟨rfl, ?_⟩
   conv=>whnf
   refine .take 3 ?_
   conv=>whnf
   refine ⟨rfl, ?_⟩
   conv=>whnf
   refine LoadG.at (v := .slice la l.length lc) (.here rfl) ?_
   conv=>whnf
   refine .take 4 ?_
   conv=>whnf
   refine ⟨rfl, ?_⟩
   conv=>whnf
   refine .take 5 ?_
   conv=>whnf
   refine ⟨rfl, ?_⟩
   conv=>whnf
   refine IdxG.rd (L := [cel s 56 [.slice la l.length lc], own 1 (.slice la l.length lc) l.length (l.map (·.1))]) (.tl (own_rd hlv hvl)) (by omega) fun cb o hcc => ?_
   conv=>whnf
   refine .take 6 ?_
   conv=>whnf
   refine ⟨rfl, ?_⟩
   conv=>whnf
   refine LoadG.at (v := .slice (some ⟨g, 0, none⟩) n cap) (hcc.one (i := ((i : Nat) : Int).toNat * 1) (by rw [Int.toNat_natCast, Nat.mul_one]; exact hlat hd)) ?_
   clear hcc
   conv=>whnf
   refine .take 7 ?_
   conv=>whnf
   refine ⟨rfl, ?_⟩
   conv=>whnf
   refine .take 8 ?_
   conv=>whnf
   refine ⟨rfl, ?_⟩
   conv=>whnf
   refine .take 9 ?_
   conv=>whnf
   refine ⟨rfl, ?_⟩
   conv=>whnf
   refine .take 10 ?_
   conv=>whnf
   refine ⟨rfl, ?_⟩
   conv=>whnf
   refine SideG.of (by omega) ?_
   conv=>whnf
   refine ArithG.i64' ((i / b : Nat) : Int) (Int.ofNat_tdiv _ _).symm (hdiv i (by omega)) ?_
   conv=>whnf
   refine .take 11 ?_
   conv=>whnf
   refine ⟨rfl, ?_⟩
   conv=>whnf
   refine SideG.of (by decide) ?_
   conv=>whnf
   refine .take 12 ?_
   conv=>whnf
   refine ⟨rfl, ?_⟩
   conv=>whnf
   refine ArithG.u8 (by rw [hmod i]; exact hm251 i) ?_
   rw [hmod i]
   conv=>whnf
   refine .take 13 ?_
   conv=>whnf
   refine ⟨rfl, ?_⟩
   conv=>whnf
   refine ⟨g, 0, _, _, rfl, by omega, ?_⟩
   conv=>whnf
   refine .all ?_
   conv=>whnf
   refine ⟨by decide, ?_⟩
   conv=>whnf
   have e0 : 0 + ((k : Nat) : Int).toNat * 1 = k := by omega
   rw [e0]
   refine StoreG.at rfl (partP_upd (c := mkB b i) rfl (by omega)) ?_
   conv=>whnf
   refine ⟨rfl, ?_⟩
   conv=>whnf
   refine ArithG.i64' ((k + 1 : Nat) : Int) (by omega) (by omega) ?_
   conv=>whnf
   exact ⟨n - (k + 1), [(0, .pointer (some ⟨s, 0, none⟩)), (1, .int .i64 b), (4, .bool false), (5, .int .i64 i), (6, .int .i64 ((k + 1 : Nat) : Int))], _, by omega, ⟨rfl, rfl, rfl, rfl, rfl, trivial⟩, Ent.perm (by classical exact List.perm_iff_count.2 fun x => by simp only [List.append_eq, List.count_append, List.count_cons, List.count_nil]; omega), k + 1, by omega, rfl, rfl, rfl⟩
  obtain rfl : k = n := by omega
  conv=>whnf
  refine ArithG.i64' ((i + 1 : Nat) : Int) (by omega) (by omega) ?_
  conv=>whnf
  refine ⟨l.length - (i + 1), [(0, .pointer (some ⟨s, 0, none⟩)), (1, .int .i64 b), (4, .bool false), (5, .int .i64 ((i + 1 : Nat) : Int))], _, by omega, ⟨rfl, rfl, rfl, rfl, trivial⟩, ?_, i + 1, by omega, rfl, rfl, rfl⟩
  rw [htake, slfM_snoc, hR, List.length_take, Nat.min_eq_left (by omega), Nat.zero_add]
  refine (Ent.cons _ (Ent.cons _ (partP_end _ _ _))).trans (Ent.perm ?_)
  simp only [List.append_assoc]
  exact List.Perm.cons _ (List.Perm.cons _ List.perm_middle.symm)
 obtain rfl : i = l.length := by omega
 clear h1 hi
 rw [List.take_of_length_le (Nat.le_refl _), List.drop_length]
 conv=>whnf
 have hsz : ∀ m x, (repE m [x]).length = m := fun m x => by rw [repE_len (sz := 1) rfl, Nat.mul_one]
 refine LoopG.mk (fun mm e L => ∃ (i : Nat) (G : List Value) (gv : Value), i ≤ l.length ∧ mm = l.length - i ∧ G.length = i ∧ SlV gv i ∧ (∀ (j : Nat) (g : Value) (d : Value × Nat), G[j]? = some g → l[j]? = some d → SlV g (d.2 + 24)) ∧
  e = [(0, .pointer (some ⟨s, 0, none⟩)), (1, .int .i64 b), (4, .bool false), (7, gv), (8, .int .i64 i)] ∧
  L = cel s 56 [.slice la l.length lc] :: own 1 (.slice la l.length lc) l.length (l.map (·.1)) :: own 1 gv i G :: (grM b 0 (l.take i) G ++ slfM b i (l.drop i))) l.length
  [(0, .pointer (some ⟨s, 0, none⟩)), (1, .int .i64 b), (4, .bool false), (7, .slice none 0 0), (8, .int .i64 0)] (cel s 56 [.slice la l.length lc] :: own 1 (.slice la l.length lc) l.length (l.map (·.1)) :: own 1 (.slice none 0 0) 0 [] :: slfM b 0 l) ⟨rfl, rfl, rfl, rfl, rfl, trivial⟩
  (Ent.trans (m := own 1 (.slice none 0 0) 0 [] :: cel s 56 [.slice la l.length lc] :: own 1 (.slice la l.length lc) l.length (l.map (·.1)) :: (slfM b 0 l ++ slfL [])) (fun w H hs => Sat.own_nil hs) (by rw [show slfL [] = [] from rfl, List.append_nil]; exact Ent.sel (T := slfM b 0 l) (A := [_, _, _]) [1, 2, 0] rfl))
  ⟨0, [], .slice none 0 0, by omega, rfl, rfl, .inl ⟨rfl, rfl⟩, fun j g d h => by simp at h, rfl, rfl⟩ ?_
 rintro mm e L ⟨i, G, gv, hi, rfl, hGl, hgv, hGs, rfl, rfl⟩
 conv=>whnf
 refine LoadG.at (v := .slice la l.length lc) (.here rfl) ?_
 conv=>whnf
 refine LenG.lit ?_
 conv=>whnf
 refine CondG.dec (fun h1 => ?_) (fun h1 => ?_)
 ·have hil : i < l.length := by omega
  obtain ⟨⟨v, n⟩, hd⟩ : ∃ d, l[i]? = some d := ⟨l[i], List.getElem?_eq_getElem hil⟩
  obtain ⟨hv, hnn⟩ := hn _ (List.mem_of_getElem? hd)
  simp only at hv hnn
  have hdrop : l.drop i = (v, n) :: l.drop (i + 1) := by
   obtain ⟨h2, h3⟩ := List.getElem?_eq_some_iff.1 hd
   rw [List.drop_eq_getElem_cons h2, h3]
  have htake : l.take (i + 1) = l.take i ++ [(v, n)] := by rw [List.take_add_one, hd]; rfl
  have hsl : slfM b i ((v, n) :: l.drop (i + 1)) = own 1 v n (repE n [mkB b i]) :: slfM b (i + 1) (l.drop (i + 1)) := rfl
  have htl : (l.take i).length = i := by rw [List.length_take]; omega
  rw [hdrop]
  conv=>whnf
  refine LoadG.at (v := .slice la l.length lc) (.here rfl) ?_
  conv=>whnf
  refine IdxG.rd (L := cel s 56 [.slice la l.length lc] :: own 1 (.slice la l.length lc) l.length (l.map (·.1)) :: own 1 gv i G :: (grM b 0 (l.take i) G ++ slfM b i ((v, n) :: l.drop (i + 1)))) (.tl (own_rd hlv hvl)) (by omega) fun cb o hcc => ?_
  conv=>whnf
  refine LoadG.at (v := v) (hcc.one (i := ((i : Nat) : Int).toNat * 1) (by rw [Int.toNat_natCast, Nat.mul_one]; exact hlat hd)) ?_
  clear hcc
  conv=>whnf
  obtain ⟨R, hR⟩ : ∃ R, R = cel s 56 [.slice la l.length lc] :: own 1 (.slice la l.length lc) l.length (l.map (·.1)) :: own 1 gv i G :: (grM b 0 (l.take i) G ++ slfM b (i + 1) (l.drop (i + 1))) := ⟨_, rfl⟩
  refine LoopG.mk (fun mm e L => ∃ (k : Nat) (g : Value), k ≤ 24 ∧ mm = 24 - k ∧ SlV g (n + k) ∧ e = [(0, .pointer (some ⟨s, 0, none⟩)), (1, .int .i64 b), (4, .bool false), (7, gv), (8, .int .i64 i), (9, g), (10, .int .i64 k)] ∧
   L = gP 1 v n [mkB b i] k g :: R) 24
   [(0, .pointer (some ⟨s, 0, none⟩)), (1, .int .i64 b), (4, .bool false), (7, gv), (8, .int .i64 i), (9, v), (10, .int .i64 0)] (gP 1 v n [mkB b i] 0 v :: R) ⟨rfl, rfl, rfl, rfl, rfl, rfl, rfl, trivial⟩
   (Ent.trans (m := own 1 v n (repE n [mkB b i]) :: R) (by rw [hR, hsl]; exact Ent.perm (by classical exact List.perm_iff_count.2 fun x => by simp only [List.append_eq, List.count_append, List.count_cons, List.count_nil]; omega)) (gP_begin hv)) ⟨0, v, by omega, rfl, hv, rfl, rfl⟩ ?_
  rintro mm e L ⟨k, g, hk, rfl, hg, rfl, rfl⟩
  conv=>whnf
  refine CondG.dec (fun h2 => ?_) (fun h2 => ?_)
  ·conv=>whnf
   refine SideG.of (by omega) ?_
   conv=>whnf
   refine ArithG.i64' ((i / b : Nat) : Int) (Int.ofNat_tdiv _ _).symm (hdiv i (by omega)) ?_
   conv=>whnf
   refine SideG.of (by decide) ?_
   conv=>whnf
   refine ArithG.u8 (by rw [hmod i]; exact hm251 i) ?_
   rw [hmod i]
   conv=>whnf
   refine BuildG.of (cs := [mkB b i]) rfl ?_
   conv=>whnf
   intro b6
   conv=>whnf
   refine DoesG.ent (Ent.front 1 rfl) ?_
   refine gP_app bytesT2 30 rfl (by intro u hu; rw [List.mem_singleton.1 hu]; rfl) (x := .slice (some ⟨b6, 0, none⟩) 1 1) (fun M => .right (.left (.mk _ _ _ _ _ (Nat.le_refl _) .all) F) M) (by simp only [maxLen]; omega) (by omega) fun g' hg' => ?_
   conv=>whnf
   refine ArithG.i64' ((k + 1 : Nat) : Int) (by omega) (by omega) ?_
   conv=>whnf
   exact ⟨24 - (k + 1), [(0, .pointer (some ⟨s, 0, none⟩)), (1, .int .i64 b), (4, .bool false), (7, gv), (8, .int .i64 i), (9, g'), (10, .int .i64 ((k + 1 : Nat) : Int))], _, by omega, ⟨rfl, rfl, rfl, rfl, rfl, rfl, rfl, trivial⟩, Ent.sel (T := R) (A := [_, _]) [0] rfl, k + 1, g', by omega, rfl, hg', rfl, rfl⟩
  obtain rfl : k = 24 := by omega
  obtain ⟨ga, gc, rfl⟩ := hg.len
  conv=>whnf
  refine BuildG.of (cs := [.slice ga (n + 24) gc]) rfl ?_
  conv=>whnf
  intro b6
  conv=>whnf
  rw [hR]
  refine DoesG.ent (Ent.front 4 rfl) ?_
  refine app_ownW partsT2 54 (m := 1) (ys := [.slice ga (n + 24) gc]) (.mk _ _ _ _ _ (Nat.le_refl _) (.tl (.left .all _))) rfl (by simp [Value.oneCell']) (by simp only [maxLen]; omega) (.wide (by omega)) fun gv' hgv' _ _ => ?_
  conv=>whnf
  refine ArithG.i64' ((i + 1 : Nat) : Int) (by omega) (by omega) ?_
  conv=>whnf
  refine ⟨l.length - (i + 1), [(0, .pointer (some ⟨s, 0, none⟩)), (1, .int .i64 b), (4, .bool false), (7, gv'), (8, .int .i64 ((i + 1 : Nat) : Int))], _, by omega, ⟨rfl, rfl, rfl, rfl, rfl, trivial⟩, ?_, i + 1, G ++ [.slice ga (n + 24) gc], gv', by omega, rfl, by rw [List.length_append, hGl]; rfl, hgv', ?_, rfl, rfl⟩
  ·rw [htake, grM_snoc b (by rw [hGl, htl]), htl, Nat.zero_add]
   refine (Ent.sel (T := grM b 0 (l.take i) G ++ slfM b (i + 1) (l.drop (i + 1))) (A := [_, _, _, _, _]) [3, 4, 0, 2] rfl).trans (Ent.perm ?_)
   exact (by classical exact List.perm_iff_count.2 fun x => by simp only [List.append_eq, List.count_append, List.count_cons, List.count_nil]; omega)
  ·intro j g d hj hjd
   by_cases e : j = i
   ·subst e
    rw [hd] at hjd
    cases hjd
    rw [List.getElem?_append_right (by omega), hGl, Nat.sub_self] at hj
    cases hj
    exact hg
   ·have hlt : j < i := by
     have := (List.getElem?_eq_some_iff.1 hj).1
     rw [List.length_append, hGl, List.length_singleton] at this
     omega
    rw [List.getElem?_append_left (by omega)] at hj
    exact hGs j g d hj hjd
 obtain rfl : i = l.length := by omega
 clear h1 hi
 rw [List.take_of_length_le (Nat.le_refl _), List.drop_length]
 obtain ⟨gva, gvc, rfl⟩ := hgv.len
 conv=>whnf
 obtain ⟨W, hW⟩ : ∃ W, W = cel s 56 [.slice la l.length lc] :: own 1 (.slice la l.length lc) l.length (l.map (·.1)) :: own 1 (.slice gva l.length gvc) l.length G :: (grM b 0 l G ++ []) := ⟨_, rfl⟩
 have hWs : Cel W s 0 (.slice la l.length lc) := by rw [hW]; exact .here rfl
 have hWl : RdS W (.slice la l.length lc) l.length (l.map (·.1)) := by rw [hW]; exact .tl (own_rd hlv hvl)
 have hWg : RdS W (.slice gva l.length gvc) l.length G := by rw [hW]; exact .tl (.tl (own_rd hgv (by rw [hGl, Nat.mul_one])))
 have hWi : ∀ {i : Nat} {d : Value × Nat} {g : Value}, l[i]? = some d → G[i]? = some g → SlV d.1 d.2 → RdS W d.1 d.2 (repE d.2 [mkB b i]) ∧ RdS W g (d.2 + 24) (repE (d.2 + 24) [mkB b i]) := fun {i d g} h1 h2 h3 => by
  have h := grM_rd (M := []) b (j := 0) h1 h2 h3 (hGs i g d h2 h1)
  rw [Nat.zero_add] at h
  rw [hW]
  exact ⟨.tl (.tl (.tl h.1)), .tl (.tl (.tl h.2))⟩
 refine LoopG.mk (fun mm e L => ∃ i : Nat, i ≤ l.length ∧ mm = l.length - i ∧ e = [(0, .pointer (some ⟨s, 0, none⟩)), (1, .int .i64 b), (4, .bool false), (7, .slice gva l.length gvc), (11, .int .i64 i)] ∧ L = W) l.length
  [(0, .pointer (some ⟨s, 0, none⟩)), (1, .int .i64 b), (4, .bool false), (7, .slice gva l.length gvc), (11, .int .i64 0)] W ⟨rfl, rfl, rfl, rfl, rfl, trivial⟩ (by rw [hW]; exact Ent.refl _) ⟨0, by omega, rfl, rfl, rfl⟩ ?_
 rintro mm e L ⟨i, hi, rfl, rfl, hL⟩
 rw [hL]
 clear hL L
 conv=>whnf
 refine LenG.lit ?_
 conv=>whnf
 refine CondG.dec (fun h1 => ?_) (fun h1 => ?_)
 ·have hil : i < l.length := by omega
  obtain ⟨⟨v, n⟩, hd⟩ : ∃ d, l[i]? = some d := ⟨l[i], List.getElem?_eq_getElem hil⟩
  obtain ⟨g, hg⟩ : ∃ g, G[i]? = some g := ⟨G[i]'(by omega), List.getElem?_eq_getElem (by omega)⟩
  obtain ⟨hv, hnn⟩ := hn _ (List.mem_of_getElem? hd)
  simp only at hv hnn
  obtain ⟨rv, rg⟩ := hWi hd hg hv
  simp only at rv rg
  obtain ⟨va, vc, rfl⟩ := hv.len
  obtain ⟨ga, gc, rfl⟩ := (hGs i g _ hg hd).len
  conv=>whnf
  refine LoopG.mk (fun mm e L => ∃ k : Nat, k ≤ n + 24 ∧ mm = n + 24 - k ∧ e = [(0, .pointer (some ⟨s, 0, none⟩)), (1, .int .i64 b), (4, .bool false), (7, .slice gva l.length gvc), (11, .int .i64 i), (12, .int .i64 k)] ∧ L = W) (n + 24)
   [(0, .pointer (some ⟨s, 0, none⟩)), (1, .int .i64 b), (4, .bool false), (7, .slice gva l.length gvc), (11, .int .i64 i), (12, .int .i64 0)] W ⟨rfl, rfl, rfl, rfl, rfl, rfl, trivial⟩ (Ent.refl _) ⟨0, by omega, rfl, rfl, rfl⟩ ?_
  rintro mm e L ⟨k, hk, rfl, rfl, hL⟩
  rw [hL]
  clear hL L
  conv=>whnf
  refine IdxG.rd hWg (by omega) fun cb o hcc => ?_
  conv=>whnf
  refine LoadG.at (v := .slice ga (n + 24) gc) (hcc.one (i := ((i : Nat) : Int).toNat * 1) (by rw [Int.toNat_natCast, Nat.mul_one]; exact hg)) ?_
  clear hcc
  conv=>whnf
  refine LenG.lit ?_
  conv=>whnf
  refine CondG.dec (fun h2 => ?_) (fun h2 => ?_)
  ·conv=>whnf
   refine DrawG.mk 13 W [] (Ent.refl _) ?_
   conv=>whnf
   refine .take 0 ?_
   conv=>whnf
   refine ⟨rfl, ?_⟩
   conv=>whnf
   refine .take 1 ?_
   conv=>whnf
   refine ⟨rfl, ?_⟩
   conv=>whnf
   refine .take 2 ?_
   conv=>whnf
   refine ⟨rfl, ?_⟩
   conv=>whnf
   refine IdxG.rd hWg (by omega) fun cb o hcc => ?_
   conv=>whnf
   refine .take 3 ?_
   conv=>whnf
   refine ⟨rfl, ?_⟩
   conv=>whnf
   refine LoadG.at (v := .slice ga (n + 24) gc) (hcc.one (i := ((i : Nat) : Int).toNat * 1) (by rw [Int.toNat_natCast, Nat.mul_one]; exact hg)) ?_
   clear hcc
   conv=>whnf
   refine .take 4 ?_
   conv=>whnf
   refine ⟨rfl, ?_⟩
   conv=>whnf
   refine .take 5 ?_
   conv=>whnf
   refine ⟨rfl, ?_⟩
   conv=>whnf
   refine IdxG.rd rg (by omega) fun cb o hcc => ?_
   conv=>whnf
   refine .take 6 ?_
   conv=>whnf
   refine ⟨rfl, ?_⟩
   conv=>whnf
   refine LoadG.at (v := mkB b i) (hcc.one (i := ((k : Nat) : Int).toNat * 1) (by rw [Int.toNat_natCast, Nat.mul_one]; exact repE_get (by omega))) ?_
   clear hcc
   conv=>whnf
   refine .take 7 ?_
   conv=>whnf
   refine ⟨rfl, ?_⟩
   conv=>whnf
   refine .take 8 ?_
   conv=>whnf
   refine ⟨rfl, ?_⟩
   conv=>whnf
   refine .take 9 ?_
   conv=>whnf
   refine ⟨rfl, ?_⟩
   conv=>whnf
   refine SideG.of (by omega) ?_
   conv=>whnf
   refine ArithG.i64' ((i / b : Nat) : Int) (Int.ofNat_tdiv _ _).symm (hdiv i (by omega)) ?_
   conv=>whnf
   refine .take 10 ?_
   conv=>whnf
   refine ⟨rfl, ?_⟩
   conv=>whnf
   refine SideG.of (by decide) ?_
   conv=>whnf
   refine .take 11 ?_
   conv=>whnf
   refine ⟨rfl, ?_⟩
   conv=>whnf
   refine ArithG.u8 (by rw [hmod i]; exact hm251 i) ?_
   rw [hmod i]
   conv=>whnf
   refine .take 12 ?_
   conv=>whnf
   refine ⟨rfl, ?_⟩
   conv=>whnf
   refine ⟨rfl, ?_⟩
   conv=>whnf
   refine CondG.ndec (fun h => absurd rfl h) (fun _ => ?_)
   conv=>whnf
   refine ArithG.i64' ((k + 1 : Nat) : Int) (by omega) (by omega) ?_
   conv=>whnf
   exact ⟨n + 24 - (k + 1), [(0, .pointer (some ⟨s, 0, none⟩)), (1, .int .i64 b), (4, .bool false), (7, .slice gva l.length gvc), (11, .int .i64 i), (12, .int .i64 ((k + 1 : Nat) : Int))], W, by omega, ⟨rfl, rfl, rfl, rfl, rfl, rfl, trivial⟩, Ent.refl _, k + 1, by omega, rfl, rfl, rfl⟩
  clear h2 hk
  conv=>whnf
  refine LoopG.mk (fun mm e L => ∃ k : Nat, k ≤ n ∧ mm = n - k ∧ e = [(0, .pointer (some ⟨s, 0, none⟩)), (1, .int .i64 b), (4, .bool false), (7, .slice gva l.length gvc), (11, .int .i64 i), (13, .int .i64 k)] ∧ L = W) n
   [(0, .pointer (some ⟨s, 0, none⟩)), (1, .int .i64 b), (4, .bool false), (7, .slice gva l.length gvc), (11, .int .i64 i), (13, .int .i64 0)] W ⟨rfl, rfl, rfl, rfl, rfl, rfl, trivial⟩ (Ent.refl _) ⟨0, by omega, rfl, rfl, rfl⟩ ?_
  rintro mm e L ⟨k, hk, rfl, rfl, hL⟩
  rw [hL]
  clear hL L
  conv=>whnf
  refine LoadG.at hWs ?_
  conv=>whnf
  refine IdxG.rd hWl (by omega) fun cb o hcc => ?_
  conv=>whnf
  refine LoadG.at (v := .slice va n vc) (hcc.one (i := ((i : Nat) : Int).toNat * 1) (by rw [Int.toNat_natCast, Nat.mul_one]; exact hlat hd)) ?_
  clear hcc
  conv=>whnf
  refine LenG.lit ?_
  conv=>whnf
  refine CondG.dec (fun h2 => ?_) (fun h2 => ?_)
  ·conv=>whnf
   refine DrawG.mk 16 W [] (Ent.refl _) ?_
   conv=>whnf
   refine .take 0 ?_
   conv=>whnf
   refine ⟨rfl, ?_⟩
   conv=>whnf
   refine .take 1 ?_
   conv=>whnf
   refine ⟨rfl, ?_⟩
   conv=>whnf
   refine .take 2 ?_
   conv=>whnf
   refine ⟨rfl, ?_⟩
   conv=>whnf
   refine .take 3 ?_
   conv=>whnf
   refine ⟨rfl, ?_⟩
   conv=>whnf
   refine LoadG.at hWs ?_
   conv=>whnf
   refine .take 4 ?_
   conv=>whnf
   refine ⟨rfl, ?_⟩
   conv=>whnf
   refine .take 5 ?_
   conv=>whnf
   refine ⟨rfl, ?_⟩
   conv=>whnf
   refine IdxG.rd hWl (by omega) fun cb o hcc => ?_
   conv=>whnf
   refine .take 6 ?_
   conv=>whnf
   refine ⟨rfl, ?_⟩
   conv=>whnf
   refine LoadG.at (v := .slice va n vc) (hcc.one (i := ((i : Nat) : Int).toNat * 1) (by rw [Int.toNat_natCast, Nat.mul_one]; exact hlat hd)) ?_
   clear hcc
   conv=>whnf
   refine .take 7 ?_
   conv=>whnf
   refine ⟨rfl, ?_⟩
   conv=>whnf
   refine .take 8 ?_
   conv=>whnf
   refine ⟨rfl, ?_⟩
   conv=>whnf
   refine IdxG.rd rv (by omega) fun cb o hcc => ?_
   conv=>whnf
   refine .take 9 ?_
   conv=>whnf
   refine ⟨rfl, ?_⟩
   conv=>whnf
   refine LoadG.at (v := mkB b i) (hcc.one (i := ((k : Nat) : Int).toNat * 1) (by rw [Int.toNat_natCast, Nat.mul_one]; exact repE_get (by omega))) ?_
   clear hcc
   conv=>whnf
   refine .take 10 ?_
   conv=>whnf
   refine ⟨rfl, ?_⟩
   conv=>whnf
   refine .take 11 ?_
   conv=>whnf
   refine ⟨rfl, ?_⟩
   conv=>whnf
   refine .take 12 ?_
   conv=>whnf
   refine ⟨rfl, ?_⟩
   conv=>whnf
   refine SideG.of (by omega) ?_
   conv=>whnf
   refine ArithG.i64' ((i / b : Nat) : Int) (Int.ofNat_tdiv _ _).symm (hdiv i (by omega)) ?_
   conv=>whnf
   refine .take 13 ?_
   conv=>whnf
   refine ⟨rfl, ?_⟩
   conv=>whnf
   refine SideG.of (by decide) ?_
   conv=>whnf
   refine .take 14 ?_
   conv=>whnf
   refine ⟨rfl, ?_⟩
   conv=>whnf
   refine ArithG.u8 (by rw [hmod i]; exact hm251 i) ?_
   rw [hmod i]
   conv=>whnf
   refine .take 15 ?_
   conv=>whnf
   refine ⟨rfl, ?_⟩
   conv=>whnf
   refine ⟨rfl, ?_⟩
   conv=>whnf
   refine CondG.ndec (fun h => absurd rfl h) (fun _ => ?_)
   conv=>whnf
   refine ArithG.i64' ((k + 1 : Nat) : Int) (by omega) (by omega) ?_
   conv=>whnf
   exact ⟨n - (k + 1), [(0, .pointer (some ⟨s, 0, none⟩)), (1, .int .i64 b), (4, .bool false), (7, .slice gva l.length gvc), (11, .int .i64 i), (13, .int .i64 ((k + 1 : Nat) : Int))], W, by omega, ⟨rfl, rfl, rfl, rfl, rfl, rfl, trivial⟩, Ent.refl _, k + 1, by omega, rfl, rfl, rfl⟩
  clear h2 hk
  conv=>whnf
  refine ArithG.i64' ((i + 1 : Nat) : Int) (by omega) (by omega) ?_
  conv=>whnf
  exact ⟨l.length - (i + 1), [(0, .pointer (some ⟨s, 0, none⟩)), (1, .int .i64 b), (4, .bool false), (7, .slice gva l.length gvc), (11, .int .i64 ((i + 1 : Nat) : Int))], W, by omega, ⟨rfl, rfl, rfl, rfl, rfl, trivial⟩, Ent.refl _, i + 1, by omega, rfl, rfl, rfl⟩
 conv=>whnf
 refine ⟨cel s 56 [.slice la l.length lc] :: own 1 (.slice la l.length lc) l.length (l.map (·.1)) :: slfL l, ?_, rfl, rfl⟩
 rw [hW]
 refine (Ent.cons _ (Ent.cons _ ((Ent.drop _).trans (grM_end b hGl [])))).trans ?_
 rw [List.append_nil]
 exact Ent.refl _
theorem owned_spec (F : List HP) (s : Nat) (lv : Value) (l : Slf) (hm : l.length ≤ 9000000000000) (hn : ∀ d ∈ l, SlV d.1 d.2 ∧ d.2 ≤ 1099511627776) (hlv : SlV lv l.length) :
 SpecF Tryd.prog 37 [.pointer (some ⟨s, 0, none⟩)] F (cel s 56 [lv] :: own 1 lv l.length (l.map (·.1)) :: slfL l) (fun r L => r = .bool true ∧ L = cel s 56 [lv] :: own 1 lv l.length (l.map (·.1)) :: slfL l) := by
 refine fun37.spec rfl ?_
 conv=>whnf
 refine CallG.of (rest := []) (marked_spec _ s lv l 1 (by decide) (by decide) hm hn hlv) (by rw [List.append_nil]; exact Ent.refl _) ?_
 rintro _ _ ⟨rfl, rfl⟩
 conv=>whnf
 refine CallG.of (rest := []) (marked_spec _ s lv l 251 (by decide) (by decide) hm hn hlv) (Ent.refl _) ?_
 rintro _ _ ⟨rfl, rfl⟩
 (conv=>whnf);refine .tt ?_;(conv=>whnf);refine .tt ?_;(conv=>whnf)
 exact ⟨_, by rw [List.append_nil]; exact Ent.refl _, rfl, rfl⟩
end Go.Proofs.YtjkldhalmglkpaaDoor
