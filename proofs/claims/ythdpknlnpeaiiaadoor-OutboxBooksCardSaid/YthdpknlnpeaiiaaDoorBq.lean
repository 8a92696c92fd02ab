import Derived.Test.YthdpknlnpeaiiaaDoorBx
import Derived.Test.YthdpknlnpeaiiaaDoorZAp
/-
  Answers that stay with their owner: marks, and lists that are marked.
-/
namespace Go.Proofs.YthdpknlnpeaiiaaDoor
open Go Go.Sl
def markD (i : Nat) : List Nat := 7 :: (i / 65536 % 256) :: (i / 256 % 256) :: (i % 256) :: List.replicate 28 0
theorem markD_ok (i : Nat) : DigOk (markD i) := by
  refine ⟨rfl, fun b hb => ?_⟩
  simp only [markD, List.mem_cons] at hb
  rcases hb with rfl | rfl | rfl | rfl | hb
  · decide
  · exact Nat.mod_lt _ (by decide)
  · exact Nat.mod_lt _ (by decide)
  · exact Nat.mod_lt _ (by decide)
  · rw [List.eq_of_mem_replicate hb]; decide
theorem tdiv_nat (x k : Nat) : (x : Int).tdiv (k : Nat) = ((x / k : Nat) : Int) := by rw [Int.tdiv_eq_ediv_of_nonneg (by omega)]; norm_cast
theorem tmod_nat (x k : Nat) : (x : Int).tmod (k : Nat) = ((x % k : Nat) : Int) := by rw [Int.tmod_eq_emod_of_nonneg (by omega)]; norm_cast
theorem wrap8 (x : Nat) : IntKind.u8.wrap (x : Int) = ((x % 256 : Nat) : Int) := by
  show (x : Int) % 256 = _
  omega
theorem mark_spec (F : List HP) (i : Nat) (hi : i < 9223372036854775808) : SpecF Tryd.prog 107 [.int .i64 i] F [] (fun r L => r = .agg ⟨bvs (markD i)⟩ ∧ L = []) := by
  refine fun107.spec rfl ?_
  (conv => whnf); repeat ((first | with_reducible refine CondG.tt ?_ | with_reducible refine CondG.ff ?_); conv => whnf)
  intro b2
  (conv => whnf); repeat ((first | with_reducible refine CondG.tt ?_ | with_reducible refine CondG.ff ?_); conv => whnf)
  refine SideG.of (by decide) ?_
  (conv => whnf); repeat ((first | with_reducible refine CondG.tt ?_ | with_reducible refine CondG.ff ?_); conv => whnf)
  rw [show ((i : Nat) : Int).tdiv 65536 = ((i / 65536 : Nat) : Int) from tdiv_nat i 65536]
  have h1 : i / 65536 ≤ i := Nat.div_le_self _ _
  have h2 : i / 256 ≤ i := Nat.div_le_self _ _
  refine ArithG.i64 (by omega) ?_
  (conv => whnf); repeat ((first | with_reducible refine CondG.tt ?_ | with_reducible refine CondG.ff ?_); conv => whnf)
  refine ArithG.all ?_
  rw [wrap8]
  (conv => whnf); repeat ((first | with_reducible refine CondG.tt ?_ | with_reducible refine CondG.ff ?_); conv => whnf)
  refine SideG.of (by decide) ?_
  (conv => whnf); repeat ((first | with_reducible refine CondG.tt ?_ | with_reducible refine CondG.ff ?_); conv => whnf)
  rw [show ((i : Nat) : Int).tdiv 256 = ((i / 256 : Nat) : Int) from tdiv_nat i 256]
  refine ArithG.i64 (by omega) ?_
  (conv => whnf); repeat ((first | with_reducible refine CondG.tt ?_ | with_reducible refine CondG.ff ?_); conv => whnf)
  refine SideG.of (by decide) ?_
  (conv => whnf); repeat ((first | with_reducible refine CondG.tt ?_ | with_reducible refine CondG.ff ?_); conv => whnf)
  rw [show ((i / 256 : Nat) : Int).tmod 256 = ((i / 256 % 256 : Nat) : Int) from tmod_nat _ 256]
  refine ArithG.u8 (by omega) ?_
  (conv => whnf); repeat ((first | with_reducible refine CondG.tt ?_ | with_reducible refine CondG.ff ?_); conv => whnf)
  refine SideG.of (by decide) ?_
  (conv => whnf); repeat ((first | with_reducible refine CondG.tt ?_ | with_reducible refine CondG.ff ?_); conv => whnf)
  rw [show ((i : Nat) : Int).tmod 256 = ((i % 256 : Nat) : Int) from tmod_nat _ 256]
  refine ArithG.u8 (by omega) ?_
  (conv => whnf); repeat ((first | with_reducible refine CondG.tt ?_ | with_reducible refine CondG.ff ?_); conv => whnf)
  refine BuildG.of (cs := bvs (markD i)) rfl ?_
  (conv => whnf); repeat ((first | with_reducible refine CondG.tt ?_ | with_reducible refine CondG.ff ?_); conv => whnf)
  refine StoreG.at rfl (Upd.whole rfl (bvs_one _)) ?_
  (conv => whnf); repeat ((first | with_reducible refine CondG.tt ?_ | with_reducible refine CondG.ff ?_); conv => whnf)
  refine LoadNG.at (vs := bvs (markD i)) rfl .all ?_
  (conv => whnf); repeat ((first | with_reducible refine CondG.tt ?_ | with_reducible refine CondG.ff ?_); conv => whnf)
  exact ⟨[], Ent.nil _, rfl, rfl⟩
theorem allPath_spec (F : List HP) (v : Value) (n : Nat) (hn : n ≤ 4611686018427387904) (m : List Nat) (hm : DigOk m) (hv : RdS F v n (digsC (List.replicate n m))) : SpecF Tryd.prog 108 [v, .agg ⟨bvs m⟩] F [] (fun r L => r = .bool true ∧ L = []) := by
  have hm32 : (bvs m).length = 32 := by rw [bvs_len, hm.len]
  refine fun108.spec rfl ?_
  (conv => whnf); repeat ((first | with_reducible refine CondG.tt ?_ | with_reducible refine CondG.ff ?_); conv => whnf)
  intro b3
  (conv => whnf); repeat ((first | with_reducible refine CondG.tt ?_ | with_reducible refine CondG.ff ?_); conv => whnf)
  refine LoopG.mk (fun mm e L => ∃ i, i ≤ n ∧ mm = n - i ∧ e = [(0, v), (3, .pointer (some ⟨b3, 0, none⟩)), (5, .int .i64 (i : Nat))] ∧ L = [cel b3 25 (bvs m)]) n
    [(0, v), (3, .pointer (some ⟨b3, 0, none⟩)), (5, .int .i64 0)] _ ⟨rfl, rfl, rfl, trivial⟩ (Ent.refl _) ⟨0, by omega, rfl, rfl, rfl⟩ ?_
  rintro mm e L ⟨i, hi, rfl, rfl, rfl⟩
  (conv => whnf); repeat ((first | with_reducible refine CondG.tt ?_ | with_reducible refine CondG.ff ?_); conv => whnf)
  refine LenG.rd hv ?_
  (conv => whnf); repeat ((first | with_reducible refine CondG.tt ?_ | with_reducible refine CondG.ff ?_); conv => whnf)
  refine CondG.dec (fun h1 => ?_) (fun h1 => ?_)
  · have hi1 : i < n := by omega
    (conv => whnf); repeat ((first | with_reducible refine CondG.tt ?_ | with_reducible refine CondG.ff ?_); conv => whnf)
    refine DrawG.mk 6 [cel b3 25 (bvs m)] [] (Ent.refl _) ?_
    (conv => whnf); repeat ((first | with_reducible refine CondG.tt ?_ | with_reducible refine CondG.ff ?_); conv => whnf)
    refine .take 0 ?_
    (conv => whnf); repeat ((first | with_reducible refine CondG.tt ?_ | with_reducible refine CondG.ff ?_); conv => whnf)
    refine ⟨rfl, ?_⟩
    (conv => whnf); repeat ((first | with_reducible refine CondG.tt ?_ | with_reducible refine CondG.ff ?_); conv => whnf)
    refine .take 1 ?_
    (conv => whnf); repeat ((first | with_reducible refine CondG.tt ?_ | with_reducible refine CondG.ff ?_); conv => whnf)
    refine ⟨rfl, ?_⟩
    (conv => whnf); repeat ((first | with_reducible refine CondG.tt ?_ | with_reducible refine CondG.ff ?_); conv => whnf)
    refine .take 2 ?_
    (conv => whnf); repeat ((first | with_reducible refine CondG.tt ?_ | with_reducible refine CondG.ff ?_); conv => whnf)
    refine ⟨rfl, ?_⟩
    (conv => whnf); repeat ((first | with_reducible refine CondG.tt ?_ | with_reducible refine CondG.ff ?_); conv => whnf)
    refine IdxG.rd hv (by omega) fun c o hc => ?_
    (conv => whnf); repeat ((first | with_reducible refine CondG.tt ?_ | with_reducible refine CondG.ff ?_); conv => whnf)
    refine .take 3 ?_
    (conv => whnf); repeat ((first | with_reducible refine CondG.tt ?_ | with_reducible refine CondG.ff ?_); conv => whnf)
    refine ⟨rfl, ?_⟩
    (conv => whnf); repeat ((first | with_reducible refine CondG.tt ?_ | with_reducible refine CondG.ff ?_); conv => whnf)
    refine LoadNG.atF (vs := bvs m) hm32 (hc.part (by
      rw [hm32, Int.toNat_natCast]
      have := @flat_get (List Nat) bvs 32 (List.replicate n m) (fun d hd => by rw [List.eq_of_mem_replicate hd, hm32]) i (by simpa using hi1)
      simpa [digsC] using this)) ?_
    (conv => whnf); repeat ((first | with_reducible refine CondG.tt ?_ | with_reducible refine CondG.ff ?_); conv => whnf)
    refine .take 4 ?_
    (conv => whnf); repeat ((first | with_reducible refine CondG.tt ?_ | with_reducible refine CondG.ff ?_); conv => whnf)
    refine ⟨rfl, ?_⟩
    (conv => whnf); repeat ((first | with_reducible refine CondG.tt ?_ | with_reducible refine CondG.ff ?_); conv => whnf)
    refine LoadNG.at (vs := bvs m) hm32 .all ?_
    (conv => whnf); repeat ((first | with_reducible refine CondG.tt ?_ | with_reducible refine CondG.ff ?_); conv => whnf)
    refine .all ?_
    (conv => whnf); repeat ((first | with_reducible refine CondG.tt ?_ | with_reducible refine CondG.ff ?_); conv => whnf)
    refine ⟨by decide, ?_⟩
    (conv => whnf); repeat ((first | with_reducible refine CondG.tt ?_ | with_reducible refine CondG.ff ?_); conv => whnf)
    refine DoesG.eqv 8 (List.replicate 32 (.int .u8)) (by kernel_rfl) (by decide) (by kernel_rfl) (by kernel_rfl) (wt_bvs hm.len) (wt_bvs hm.len) ?_
    (conv => whnf); repeat ((first | with_reducible refine CondG.tt ?_ | with_reducible refine CondG.ff ?_); conv => whnf)
    refine ⟨rfl, ?_⟩
    (conv => whnf); repeat ((first | with_reducible refine CondG.tt ?_ | with_reducible refine CondG.ff ?_); conv => whnf)
    refine CondG.split (fun h => absurd h (by simp)) (fun _ => ?_)
    (conv => whnf); repeat ((first | with_reducible refine CondG.tt ?_ | with_reducible refine CondG.ff ?_); conv => whnf)
    refine ArithG.i64 (by omega) ?_
    (conv => whnf); repeat ((first | with_reducible refine CondG.tt ?_ | with_reducible refine CondG.ff ?_); conv => whnf)
    refine ⟨n - (i + 1), _, _, by omega, ?_, Ent.refl _, i + 1, by omega, rfl, rfl, rfl⟩
    exact ⟨rfl, rfl, rfl, trivial⟩
  · (conv => whnf); repeat ((first | with_reducible refine CondG.tt ?_ | with_reducible refine CondG.ff ?_); conv => whnf)
    exact ⟨[], Ent.nil _, rfl, rfl⟩
theorem digs_one (p : List (List Nat)) : ∀ u ∈ digsC p, u.oneCell' = true := by
  intro u hu
  obtain ⟨d, _, hd⟩ := List.mem_flatMap.1 hu
  exact bvs_one d u hd
theorem pathsT : ElT Tryd.prog 45 33 1 24 := .of (by kernel_rfl)
abbrev PathV := Value × List (List Nat)
def pathsL (ts : List PathV) : List HP := ts.map fun t => own 32 t.1 t.2.length (digsC t.2)
structure KeepOk (ds : List PathV) (x : Value × Value × List PathV) : Prop where
  g : x.2.2.map (·.2) = ds.map (·.2)
  dv : SlV x.1 ds.length
  gv : SlV x.2.1 x.2.2.length
  de : ∀ t ∈ ds, SlV t.1 t.2.length
  ge : ∀ t ∈ x.2.2, SlV t.1 t.2.length
def keepL (b : Nat) (ds : List PathV) (x : Value × Value × List PathV) : List HP :=
  cel b 47 [.slice none 0 0, .slice none 0 0, x.1, x.2.1] :: own 1 x.1 ds.length (ds.map (·.1)) :: own 1 x.2.1 x.2.2.length (x.2.2.map (·.1)) :: (pathsL ds ++ pathsL x.2.2)
def keepP (b : Nat) (ds : List PathV) : HP := exL (KeepOk ds) (keepL b ds)
theorem paths_snoc (ts : List PathV) (t : PathV) : pathsL (ts ++ [t]) = pathsL ts ++ [own 32 t.1 t.2.length (digsC t.2)] := by simp [pathsL]
theorem keep_perm {D G : List HP} {v c : HP} : (c :: ((D ++ G) ++ [v])).Perm ((D ++ [v]) ++ (G ++ [c])) := by
  refine (List.perm_append_singleton c _).symm.trans ?_
  rw [← List.append_assoc]
  refine List.Perm.append_right [c] ?_
  rw [List.append_assoc, List.append_assoc]
  exact List.Perm.append_left D List.perm_append_comm
theorem keeps_spec (F : List HP) (b : Nat) (ds : List PathV) (v w : Value) (p : List (List Nat)) (hp : ∀ d ∈ p, DigOk d) (hv : SlV v p.length) (hw : RdS F w p.length (digsC p)) (hps : ds.length ≤ 5864062014803) (hpl : p.length ≤ 1099511627776) :
    SpecF Tryd.prog 54 [.pointer (some ⟨b, 0, none⟩), v, w] F [keepP b ds, own 32 v p.length (digsC p)] (fun _ L => L = [keepP b (ds ++ [(v, p)])]) := by
  refine SpecF.unpack fun x hx => ?_
  obtain ⟨dv, gv, gs⟩ := x
  have hd := hx.dv
  have hg := hx.gv
  have hgl : gs.length = ds.length := by have := congrArg List.length hx.g; simpa using this
  simp only at hd hg
  show SpecF Tryd.prog 54 [.pointer (some ⟨b, 0, none⟩), v, w] F ((cel b 47 [.slice none 0 0, .slice none 0 0, dv, gv] :: own 1 dv ds.length (ds.map (·.1)) :: own 1 gv gs.length (gs.map (·.1)) :: (pathsL ds ++ pathsL gs)) ++ [own 32 v p.length (digsC p)]) (fun _ L => L = [keepP b (ds ++ [(v, p)])])
  have hpc : (digsC p).length = p.length * 32 := digs_len fun d h => (hp d h).len
  refine fun54.spec rfl ?_
  (conv => whnf); repeat ((first | with_reducible refine CondG.tt ?_ | with_reducible refine CondG.ff ?_); conv => whnf)
  refine LoadG.at (v := dv) (.here rfl) ?_
  (conv => whnf); repeat ((first | with_reducible refine CondG.tt ?_ | with_reducible refine CondG.ff ?_); conv => whnf)
  refine BuildG.of (cs := [v]) (by obtain ⟨a, c, rfl⟩ := hv.len; rfl) ?_
  (conv => whnf); repeat ((first | with_reducible refine CondG.tt ?_ | with_reducible refine CondG.ff ?_); conv => whnf)
  intro b13
  (conv => whnf); repeat ((first | with_reducible refine CondG.tt ?_ | with_reducible refine CondG.ff ?_); conv => whnf)
  refine DoesG.ent (Ent.sel (T := (pathsL ds ++ pathsL gs) ++ [own 32 v p.length (digsC p)]) (A := [_, _, _, _]) [2, 0, 1, 3] rfl) ?_
  refine app_own pathsT 45 (m := 1) (ys := [v]) (.mk _ _ _ _ _ (Nat.le_refl _) (.tl (.left .all _))) rfl (by intro u hu; rw [List.mem_singleton.1 hu]; exact hv.one) (by simp only [maxLen]; omega) (by omega) fun dv' hdv' hdvl _ => ?_
  obtain ⟨da, dc, rfl⟩ := hdv'.len
  (conv => whnf); repeat ((first | with_reducible refine CondG.tt ?_ | with_reducible refine CondG.ff ?_); conv => whnf)
  refine StoreG.at (cs := [_]) rfl (Upd.tl (Upd.tl (Upd.here (cs := [.slice none 0 0, .slice none 0 0, dv, gv]) (o := 2) (Nat.lt_of_sub_eq_succ rfl) rfl))) ?_
  (conv => whnf); repeat ((first | with_reducible refine CondG.tt ?_ | with_reducible refine CondG.ff ?_); conv => whnf)
  refine LenG.rd hw ?_
  (conv => whnf); repeat ((first | with_reducible refine CondG.tt ?_ | with_reducible refine CondG.ff ?_); conv => whnf)
  refine DoesG.makeG (n := p.length) digsT .i64 .i64 (by omega) (by simp only [maxLen]; omega) fun b19 zs hzs => ?_
  (conv => whnf); repeat ((first | with_reducible refine CondG.tt ?_ | with_reducible refine CondG.ff ?_); conv => whnf)
  refine DoesG.copyG (n := p.length) (cs := digsC p) (elem := 25) (by kernel_rfl) (sz := 32) (by kernel_rfl) (.tl (.right hw _)) hpc (by rw [Nat.min_self]; omega) (digs_one _) ?_
  rw [Nat.min_self, List.take_zero, List.nil_append, Nat.zero_add, ← hpc, List.take_length, List.drop_of_length_le (by omega), List.append_nil]
  (conv => whnf); repeat ((first | with_reducible refine CondG.tt ?_ | with_reducible refine CondG.ff ?_); conv => whnf)
  refine LoadG.at (v := gv) (.tl (.tl (.tl (.here rfl)))) ?_
  (conv => whnf); repeat ((first | with_reducible refine CondG.tt ?_ | with_reducible refine CondG.ff ?_); conv => whnf)
  refine BuildG.of (cs := [.slice (some ⟨b19, 0, none⟩) p.length p.length]) rfl ?_
  (conv => whnf); repeat ((first | with_reducible refine CondG.tt ?_ | with_reducible refine CondG.ff ?_); conv => whnf)
  intro b29
  (conv => whnf); repeat ((first | with_reducible refine CondG.tt ?_ | with_reducible refine CondG.ff ?_); conv => whnf)
  refine DoesG.ent (Ent.sel (T := (pathsL ds ++ pathsL gs) ++ [own 32 v p.length (digsC p)]) (A := [_, _, _, _, _, _]) [5, 0, 1, 2, 4] rfl) ?_
  refine app_own pathsT 45 (m := 1) (ys := [.slice (some ⟨b19, 0, none⟩) p.length p.length]) (.mk _ _ _ _ _ (Nat.le_refl _) (.tl (.left .all _))) rfl (by intro u hu; rw [List.mem_singleton.1 hu]; rfl) (by simp only [maxLen]; omega) (by omega) fun gv' hgv' hgvl _ => ?_
  obtain ⟨ga, gc, rfl⟩ := hgv'.len
  (conv => whnf); repeat ((first | with_reducible refine CondG.tt ?_ | with_reducible refine CondG.ff ?_); conv => whnf)
  refine StoreG.at (cs := [_]) rfl (Upd.tl (Upd.tl (Upd.tl (Upd.tl (Upd.here (cs := [.slice none 0 0, .slice none 0 0, .slice da (ds.length + 1) dc, gv]) (o := 3) (Nat.lt_of_sub_eq_succ rfl) rfl))))) ?_
  (conv => whnf); repeat ((first | with_reducible refine CondG.tt ?_ | with_reducible refine CondG.ff ?_); conv => whnf)
  have ek : keepL b (ds ++ [(v, p)]) (.slice da (ds.length + 1) dc, .slice ga (gs.length + 1) gc, gs ++ [(.slice (some ⟨b19, 0, none⟩) p.length p.length, p)]) =
      [cel b 47 [.slice none 0 0, .slice none 0 0, .slice da (ds.length + 1) dc, .slice ga (gs.length + 1) gc], own 1 (.slice da (ds.length + 1) dc) (ds.length + 1) (ds.map (·.1) ++ [v]), own 1 (.slice ga (gs.length + 1) gc) (gs.length + 1) (gs.map (·.1) ++ [.slice (some ⟨b19, 0, none⟩) p.length p.length])] ++
        ((pathsL ds ++ [own 32 v p.length (digsC p)]) ++ (pathsL gs ++ [own 32 (.slice (some ⟨b19, 0, none⟩) p.length p.length) p.length (digsC p)])) := by
    simp [keepL, paths_snoc]
  have hk' : KeepOk (ds ++ [(v, p)]) (.slice da (ds.length + 1) dc, .slice ga (gs.length + 1) gc, gs ++ [(.slice (some ⟨b19, 0, none⟩) p.length p.length, p)]) := by
    have h2 := hx.g
    simp only at h2
    refine ⟨by simp [h2], by simpa using hdv', by simpa using hgv', fun t ht => ?_, fun t ht => ?_⟩
    · rcases List.mem_append.1 ht with ht | ht
      · exact hx.de t ht
      · rw [List.mem_singleton.1 ht]; exact hv
    · rcases List.mem_append.1 ht with ht | ht
      · exact hx.ge t ht
      · rw [List.mem_singleton.1 ht]; exact .inr ⟨b19, p.length, rfl, Nat.le_refl _⟩
  have hE := Ent.pack0 (ls := keepL b (ds ++ [(v, p)])) hk'
  rw [ek] at hE
  refine ⟨_, ?_, rfl⟩
  refine Ent.trans (Ent.sel (T := (pathsL ds ++ pathsL gs) ++ [own 32 v p.length (digsC p)]) (A := [_, _, _, _, _]) [2, 4, 3, 0] rfl) ?_
  refine Ent.trans (own_of_cel (n := p.length) (sz := 32) hpc (by simp only [maxLen]; omega)) ?_
  refine Ent.trans (Ent.sel (T := (pathsL ds ++ pathsL gs) ++ [own 32 v p.length (digsC p)]) (A := [_, _, _, _]) [1, 2, 3, 0] rfl) ?_
  refine Ent.trans ?_ hE
  exact Ent.under (Ent.perm keep_perm) [_, _, _]
theorem paths_rd {M : List HP} : ∀ {ts : List PathV} {t : PathV}, t ∈ ts → SlV t.1 t.2.length → (∀ d ∈ t.2, DigOk d) → RdS (pathsL ts ++ M) t.1 t.2.length (digsC t.2)
  | [], t, h, _, _ => by cases h
  | q :: ts, t, h, hv, hd => by
    rcases List.mem_cons.1 h with rfl | h
    · exact own_rd hv (digs_len fun d h => (hd d h).len)
    · exact RdS.tl (paths_rd (ts := ts) h hv hd)
theorem keep_rd {b : Nat} {ds : List PathV} {t : PathV} (h : t ∈ ds) (hv : SlV t.1 t.2.length) (hd : ∀ d ∈ t.2, DigOk d) (M : List HP) : RdS (keepP b ds :: M) t.1 t.2.length (digsC t.2) := by
  rcases hv with ⟨h1, h0⟩ | ⟨g, cap, h1, hn⟩
  · rw [h1, h0, show t.2 = [] from List.eq_nil_of_length_eq_zero h0]
    exact .nil
  · rw [h1]
    refine .mk _ _ _ _ _ hn fun w hs => ?_
    obtain ⟨x, hx, hs'⟩ := Sat.exL.1 hs
    have hr : RdS (keepL b ds x ++ M) t.1 t.2.length (digsC t.2) := by
      have := paths_rd (M := pathsL x.2.2 ++ M) h (.inr ⟨g, cap, h1, hn⟩) hd
      rw [← List.append_assoc] at this
      exact .tl (.tl (.tl this))
    rw [h1] at hr
    generalize digsC t.2 = cs at hr ⊢
    generalize t.2.length = n at hr
    cases hr with
    | zero a c => intro j u hj; cases hj
    | mk _ _ _ _ _ _ hh => exact hh w hs'
end Go.Proofs.YthdpknlnpeaiiaaDoor
/-
  A list that is grown while it is still looked at.
-/
namespace Go.Proofs.YthdpknlnpeaiiaaDoor
open Go Go.Sl
def repC (n : Nat) (m : List Nat) : List Value := digsC (List.replicate n m)
theorem repC_len {m : List Nat} (hm : DigOk m) (n : Nat) : (repC n m).length = n * 32 := by
  rw [repC, digs_len fun d hd => by rw [List.eq_of_mem_replicate hd]; exact hm.len, List.length_replicate]
theorem repC_add (n k : Nat) (m : List Nat) : repC (n + k) m = repC n m ++ repC k m := by
  rw [repC, ← List.replicate_append_replicate]
  simp only [digsC, List.flatMap_append, repC]
theorem repC_one (m : List Nat) : repC 1 m = bvs m := by simp [repC, digsC]
def gLs (v : Value) (n : Nat) (m : List Nat) (k : Nat) (g : Value) : Bool → List HP
  | true => [own 32 g (n + k) (repC (n + k) m)]
  | false => [own 32 g (n + k) (repC (n + k) m), own 32 v n (repC n m)]
structure GOk (v : Value) (n k : Nat) (g : Value) (s : Bool) : Prop where
  hv : SlV v n
  hg : SlV g (n + k)
  same : s = true → ∃ a c, v = .slice a n c ∧ g = .slice a (n + k) c
/-- So many marks, and so many more behind them, in the same place or in another. -/
def gP (v : Value) (n : Nat) (m : List Nat) (k : Nat) (g : Value) : HP := exL (GOk v n k g) (gLs v n m k g)
theorem gP_begin {v : Value} {n : Nat} {m : List Nat} (hv : SlV v n) {L : List HP} : Ent (own 32 v n (repC n m) :: L) (gP v n m 0 v :: L) := by
  obtain ⟨a, c, e⟩ := hv.len
  exact Ent.pack (φ := GOk v n 0 v) (ls := gLs v n m 0 v) (a := true) ⟨hv, hv, fun _ => ⟨a, c, e, e⟩⟩
theorem DoesG_post {P : Program} {F L : List HP} {s : Sem Value} {k k' : Value → List HP → Prop} (h : DoesG P F s L k') (hk : ∀ v M, k' v M → ∃ M', Ent M M' ∧ k v M') : DoesG P F s L k := by
  obtain ⟨f⟩ := h
  refine ⟨fun w hs => ?_⟩
  obtain ⟨v, M, w', hr, hx, hs', hkk⟩ := f w hs
  obtain ⟨M', hE, hk2⟩ := hk v M hkk
  exact ⟨v, M', w', hr, hx, hE w' F hs', hk2⟩
theorem gP_app {F L : List HP} {v g x : Value} {n k : Nat} {m : List Nat} (hm : DigOk m) {K : Value → List HP → Prop} (hx : ∀ M, RdS (M ++ (L ++ F)) x 1 (bvs m)) (hb : n + k ≤ 1099511627786) (hk : ∀ g', SlV g' (n + (k + 1)) → K g' (gP v n m (k + 1) g' :: L)) :
    DoesG Tryd.prog F (Builtin.append_ #[33, 33] 33 #[g, x]) (gP v n m k g :: L) K := by
  have h32 : (bvs m).length = 1 * 32 := by rw [bvs_len, hm.len]
  have ec : repC (n + k) m ++ bvs m = repC (n + (k + 1)) m := by rw [← Nat.add_assoc, repC_add (n + k) 1, repC_one]
  refine DoesG_post (k' := fun v M => ∃ M', Ent M M' ∧ K v M') ?_ (fun v M h => h)
  refine DoesG.exL fun s hs => ?_
  cases s
  · refine app_two digsT 33 (m := 1) (ys := bvs m) (hx [_, _]) h32 (bvs_one _) (by simp only [maxLen]; omega) (by omega) (fun g' a c hg' e1 e2 => ?_) (fun g' hg' => ?_)
    · rw [ec]
      exact ⟨_, Ent.pack (φ := GOk v n (k + 1) g') (ls := gLs v n m (k + 1) g') (a := false) ⟨hs.hv, hg', fun h => by cases h⟩, hk g' hg'⟩
    · rw [ec]
      exact ⟨_, Ent.trans (Ent.sel (T := L) (A := [_, _, _]) [0, 2] rfl) (Ent.pack (φ := GOk v n (k + 1) g') (ls := gLs v n m (k + 1) g') (a := false) ⟨hs.hv, hg', fun h => by cases h⟩), hk g' hg'⟩
  · obtain ⟨a0, c0, e3, e4⟩ := hs.same rfl
    refine app_two digsT 33 (m := 1) (ys := bvs m) (hx [_]) h32 (bvs_one _) (by simp only [maxLen]; omega) (by omega) (fun g' a c hg' e1 e2 => ?_) (fun g' hg' => ?_)
    · rw [ec]
      refine ⟨_, Ent.pack (φ := GOk v n (k + 1) g') (ls := gLs v n m (k + 1) g') (a := true) ⟨hs.hv, hg', fun _ => ⟨a0, c0, e3, ?_⟩⟩, hk g' hg'⟩
      rw [e4] at e1
      simp only [Value.slice.injEq] at e1
      obtain ⟨rfl, _, rfl⟩ := e1
      exact e2
    · rw [ec]
      refine ⟨_, Ent.trans (Ent.cons _ ?_) (Ent.pack (φ := GOk v n (k + 1) g') (ls := gLs v n m (k + 1) g') (a := false) ⟨hs.hv, hg', fun h => by cases h⟩), hk g' hg'⟩
      have h := own_cut (a := a0) (cap := c0) (n := n + k) (l := n) (sz := 32) (cs := repC (n + k) m) (L := L) (Nat.le_add_right _ _)
      have e5 : (repC (n + k) m).take (n * 32) = repC n m := by rw [repC_add, ← repC_len hm n, List.take_left]
      rw [← e4, ← e3, e5] at h
      exact h
theorem rd_exL {α : Type} {φ : α → Prop} {ls : α → List HP} {M : List HP} {v : Value} {n : Nat} {cs : List Value} (hv : SlV v n) (h0 : n = 0 → cs = []) (h : ∀ a, φ a → RdS (ls a ++ M) v n cs) : RdS (exL φ ls :: M) v n cs := by
  rcases hv with ⟨h1, h2⟩ | ⟨b, cap, h1, hn⟩
  · rw [h1, h0 h2, h2]
    exact .nil
  · rw [h1]
    refine .mk _ _ _ _ _ hn fun w hs => ?_
    obtain ⟨a, ha, hs'⟩ := Sat.exL.1 hs
    have hr := h a ha
    rw [h1] at hr
    cases hr with
    | zero a c => intro j u hj; cases hj
    | mk _ _ _ _ _ _ hh => exact hh w hs'
theorem rd_cut {L : List HP} {v g : Value} {n m c : Nat} {a : Option Addr} {cs ds : List Value} (e : cs.take ds.length = ds) (e1 : v = .slice a n c) (e2 : g = .slice a m c) (hv : SlV v n) (h0 : n = 0 → ds = []) (h : RdS L g m cs) : RdS L v n ds := by
  rcases hv with ⟨h1, h2⟩ | ⟨b, cap, h1, hn⟩
  · rw [h1, h0 h2, h2]
    exact .nil
  · rw [h1]
    rw [h1] at e1
    simp only [Value.slice.injEq, true_and] at e1
    obtain ⟨rfl, rfl⟩ := e1
    subst e2
    refine .mk _ _ _ _ _ hn fun w hs => ?_
    cases h with
    | zero a c =>
      rw [List.take_nil] at e
      rw [← e]
      intro j u hj
      cases hj
    | mk _ _ _ _ _ _ hh =>
      intro j u hj
      refine hh w hs j u ?_
      rw [← e, List.getElem?_take] at hj
      split at hj
      · exact hj
      · cases hj
theorem gP_rd {v g : Value} {n k : Nat} {m : List Nat} (hm : DigOk m) (hv : SlV v n) (hg : SlV g (n + k)) (M : List HP) : RdS (gP v n m k g :: M) v n (repC n m) ∧ RdS (gP v n m k g :: M) g (n + k) (repC (n + k) m) := by
  have hc1 := repC_len hm n
  have hc2 := repC_len hm (n + k)
  refine ⟨rd_exL hv (fun h => by rw [h]; rfl) fun s hs => ?_, rd_exL hg (fun h => by rw [h]; rfl) fun s hs => ?_⟩
  · cases s
    · exact .tl (own_rd hv hc1)
    · obtain ⟨a, c, e1, e2⟩ := hs.same rfl
      have h := own_rd (L := M) hg hc2
      show RdS (own 32 g (n + k) (repC (n + k) m) :: M) v n (repC n m)
      have e5 : (repC (n + k) m).take (n * 32) = repC n m := by rw [repC_add, ← hc1, List.take_left]
      exact rd_cut (by rw [hc1]; exact e5) e1 e2 hv (fun h => by rw [h]; rfl) h
  · cases s
    · exact own_rd hg hc2
    · exact own_rd hg hc2
/-- The lists that are grown, one for each. -/
def grL : Nat → List PathV → List Value → List HP
  | j, t :: l, g :: G => gP t.1 t.2.length (markD j) 9 g :: grL (j + 1) l G
  | _, _, _ => []
theorem grL_nil (j : Nat) (l : List PathV) : grL j l [] = [] := by cases l <;> rfl
theorem grL_snoc : ∀ {j : Nat} {l : List PathV} {G : List Value} {g : Value} (h : G.length < l.length), grL j l (G ++ [g]) = grL j l G ++ [gP l[G.length].1 l[G.length].2.length (markD (j + G.length)) 9 g]
  | j, [], G, g, h => by simp at h
  | j, t :: l, [], g, h => by cases l <;> rfl
  | j, t :: l, q :: G, g, h => by
    have ih := grL_snoc (j := j + 1) (l := l) (G := G) (g := g) (by simpa using h)
    show gP t.1 t.2.length (markD j) 9 q :: grL (j + 1) l (G ++ [g]) = gP t.1 t.2.length (markD j) 9 q :: grL (j + 1) l G ++ _
    rw [ih]
    simp only [List.length_cons, List.getElem_cons_succ, List.cons_append]
    rw [Nat.add_assoc, Nat.add_comm 1]
theorem grL_rd {M : List HP} : ∀ {j : Nat} {l : List PathV} {G : List Value} {i : Nat} (h1 : i < l.length) (h2 : i < G.length), SlV l[i].1 l[i].2.length → SlV G[i] (l[i].2.length + 9) →
    RdS (grL j l G ++ M) l[i].1 l[i].2.length (repC l[i].2.length (markD (j + i))) ∧ RdS (grL j l G ++ M) G[i] (l[i].2.length + 9) (repC (l[i].2.length + 9) (markD (j + i)))
  | j, [], G, i, h1, _, _, _ => by simp at h1
  | j, t :: l, [], i, _, h2, _, _ => by simp at h2
  | j, t :: l, g :: G, 0, _, _, hv, hg => gP_rd (markD_ok j) hv hg _
  | j, t :: l, g :: G, i + 1, h1, h2, hv, hg => by
    have ih := grL_rd (M := M) (j := j + 1) (l := l) (G := G) (i := i) (by simpa using h1) (by simpa using h2) (by simpa using hv) (by simpa using hg)
    rw [show j + 1 + i = j + (i + 1) by omega] at ih
    exact ⟨.tl ih.1, .tl ih.2⟩
end Go.Proofs.YthdpknlnpeaiiaaDoor
/-
  Answers that stay with their owner: written over, grown, and looked at.
-/
namespace Go.Proofs.YthdpknlnpeaiiaaDoor
open Go Go.Sl
theorem digs_set {d : List (List Nat)} (hd : ∀ x ∈ d, DigOk x) {k : Nat} (hk : k < d.length) {m : List Nat} (hm : DigOk m) : (digsC d).take (k * 32) ++ bvs m ++ (digsC d).drop (k * 32 + (bvs m).length) = digsC (d.set k m) := by
  have h1 : (digsC (d.take k)).length = k * 32 := by rw [digs_len fun x h => (hd x (List.mem_of_mem_take h)).len, List.length_take, Nat.min_eq_left (by omega)]
  have hm32 : (bvs m).length = 32 := by rw [bvs_len, hm.len]
  have hk32 : (bvs d[k]).length = 32 := by rw [bvs_len, (hd d[k] (List.getElem_mem hk)).len]
  have e1 : digsC d = digsC (d.take k) ++ (bvs d[k] ++ digsC (d.drop (k + 1))) := by
    conv => lhs; rw [← List.take_append_drop k d, List.drop_eq_getElem_cons hk]
    simp only [digsC, List.flatMap_append, List.flatMap_cons]
  have e2 : digsC (d.set k m) = digsC (d.take k) ++ (bvs m ++ digsC (d.drop (k + 1))) := by
    rw [List.set_eq_take_append_cons_drop, if_pos hk]
    simp only [digsC, List.flatMap_append, List.flatMap_cons]
  rw [e1, e2, ← h1, List.take_left, ← List.drop_drop, List.drop_left, hm32, ← hk32, List.drop_left, List.append_assoc]
theorem upd_paths {P : Program} {g o : Nat} {vs : List Value} : ∀ {l : List PathV} {i : Nat} (hi : i < l.length) {d' : List (List Nat)} (_ : d'.length = l[i].2.length) (_ : ∀ L, Upd P (own 32 l[i].1 l[i].2.length (digsC l[i].2) :: L) g o vs (own 32 l[i].1 l[i].2.length (digsC d') :: L)) (M : List HP),
    Upd P (pathsL l ++ M) g o vs (pathsL (l.set i (l[i].1, d')) ++ M)
  | [], i, hi, _, _, _, _ => by simp at hi
  | t :: l, 0, _, d', hd, h, M => by
    have := h (pathsL l ++ M)
    simp only [List.getElem_cons_zero] at this hd
    show Upd P (own 32 t.1 t.2.length (digsC t.2) :: (pathsL l ++ M)) g o vs (own 32 t.1 d'.length (digsC d') :: (pathsL l ++ M))
    rw [hd]
    exact this
  | t :: l, i + 1, hi, d', hd, h, M => by
    have hi' : i < l.length := by simpa using hi
    exact .tl (upd_paths (l := l) hi' (by simpa using hd) (by simpa using h) M)
structure MarkI (ds l : List PathV) (i : Nat) : Prop where
  len : l.length = ds.length
  fst : l.map (·.1) = ds.map (·.1)
  lens : ∀ (j : Nat) (t u : PathV), l[j]? = some t → ds[j]? = some u → t.2.length = u.2.length
  ok : ∀ t ∈ l, ∀ d ∈ t.2, DigOk d
  done : ∀ (j : Nat) (t : PathV), j < i → l[j]? = some t → t.2 = List.replicate t.2.length (markD j)
theorem MarkI.begin {ds : List PathV} (h : ∀ t ∈ ds, t.2.length ≤ 1099511627776 ∧ ∀ d ∈ t.2, DigOk d) : MarkI ds ds 0 :=
  ⟨rfl, rfl, fun j t u h1 h2 => by rw [Option.some.inj (h1.symm.trans h2)], fun t ht => (h t ht).2, fun j t hj => by omega⟩
theorem MarkI.fst_at {ds l : List PathV} {i j : Nat} (h : MarkI ds l i) (h1 : j < l.length) (h2 : j < ds.length) : l[j].1 = ds[j].1 := by
  have := congrArg (fun l => l[j]?) h.fst
  simp only [List.getElem?_map, List.getElem?_eq_getElem h1, List.getElem?_eq_getElem h2, Option.map_some] at this
  exact Option.some.inj this
theorem MarkI.put {ds l : List PathV} {i : Nat} (h : MarkI ds l i) (hil : i < l.length) {d' : List (List Nat)} (hd : d'.length = l[i].2.length) (hok : ∀ x ∈ d', DigOk x) : MarkI ds (l.set i (l[i].1, d')) i := by
  refine ⟨by rw [List.length_set, h.len], ?_, fun j t u h1 h2 => ?_, fun t ht => ?_, fun j t hj h1 => ?_⟩
  · rw [List.map_set, ← h.fst]
    apply List.ext_getElem?
    intro j
    rw [List.getElem?_set]
    split
    · rename_i e
      subst e
      rw [if_pos (by rw [List.length_map]; exact hil), List.getElem?_map, List.getElem?_eq_getElem hil]
      rfl
    · rfl
  · rw [List.getElem?_set] at h1
    split at h1
    · rename_i e
      subst e
      have e1 := Option.some.inj h1
      rw [← e1]
      show d'.length = _
      rw [hd]
      exact h.lens i l[i] u (List.getElem?_eq_getElem hil) h2
    · exact h.lens j t u h1 h2
  · rcases List.mem_or_eq_of_mem_set ht with ht | rfl
    · exact h.ok t ht
    · exact hok
  · rw [List.getElem?_set, if_neg (by omega)] at h1
    exact h.done j t hj h1
theorem still_spec (F : List HP) (b : Nat) (ds : List PathV) (hds : ds.length ≤ 5864062014803) (hok : ∀ t ∈ ds, t.2.length ≤ 1099511627776 ∧ ∀ d ∈ t.2, DigOk d) :
    SpecF Tryd.prog 62 [.pointer (some ⟨b, 0, none⟩)] F [keepP b ds] (fun r _ => r = .bool true) := by
  refine SpecF.unpack0 fun x hx => ?_
  obtain ⟨dv, gv, gs⟩ := x
  have hd := hx.dv
  have hg := hx.gv
  have hgm := hx.g
  have hde := hx.de
  have hge := hx.ge
  simp only at hd hg hgm hge
  have hgl : gs.length = ds.length := by have := congrArg List.length hgm; simpa using this
  show SpecF Tryd.prog 62 [.pointer (some ⟨b, 0, none⟩)] F (cel b 47 [.slice none 0 0, .slice none 0 0, dv, gv] :: own 1 dv ds.length (ds.map (·.1)) :: own 1 gv gs.length (gs.map (·.1)) :: (pathsL ds ++ pathsL gs)) (fun r _ => r = .bool true)
  have hrd : RdS (cel b 47 [.slice none 0 0, .slice none 0 0, dv, gv] :: own 1 dv ds.length (ds.map (·.1)) :: own 1 gv gs.length (gs.map (·.1)) :: (pathsL ds ++ pathsL gs)) dv ds.length (ds.map (·.1)) := .tl (own_rd hd (by simp))
  have hrg : RdS (cel b 47 [.slice none 0 0, .slice none 0 0, dv, gv] :: own 1 dv ds.length (ds.map (·.1)) :: own 1 gv gs.length (gs.map (·.1)) :: (pathsL ds ++ pathsL gs)) gv gs.length (gs.map (·.1)) := .tl (.tl (own_rd hg (by simp)))
  refine fun62.spec rfl ?_
  (conv => whnf); repeat ((first | with_reducible refine CondG.tt ?_ | with_reducible refine CondG.ff ?_); conv => whnf)
  refine LoopG.mk (fun mm e L => ∃ i, i ≤ ds.length ∧ mm = ds.length - i ∧ e = [(0, .pointer (some ⟨b, 0, none⟩)), (3, .int .i64 (i : Nat))] ∧ L = cel b 47 [.slice none 0 0, .slice none 0 0, dv, gv] :: own 1 dv ds.length (ds.map (·.1)) :: own 1 gv gs.length (gs.map (·.1)) :: (pathsL ds ++ pathsL gs)) ds.length
    [(0, .pointer (some ⟨b, 0, none⟩)), (3, .int .i64 0)] _ ⟨rfl, rfl, trivial⟩ (Ent.refl _) ⟨0, by omega, rfl, rfl, rfl⟩ ?_
  rintro mm e L ⟨i, hi, rfl, rfl, rfl⟩
  (conv => whnf); repeat ((first | with_reducible refine CondG.tt ?_ | with_reducible refine CondG.ff ?_); conv => whnf)
  refine LoadG.at (v := dv) (.here rfl) ?_
  (conv => whnf); repeat ((first | with_reducible refine CondG.tt ?_ | with_reducible refine CondG.ff ?_); conv => whnf)
  refine LenG.sl hd ?_
  (conv => whnf); repeat ((first | with_reducible refine CondG.tt ?_ | with_reducible refine CondG.ff ?_); conv => whnf)
  refine CondG.dec (fun h1 => ?_) (fun h1 => ?_)
  · have hi1 : i < ds.length := by omega
    have hi2 : i < gs.length := by omega
    have hdi := hok ds[i] (List.getElem_mem hi1)
    have e2 : gs[i].2 = ds[i].2 := by
      have := congrArg (fun l => l[i]?) hgm
      simp only [List.getElem?_map, List.getElem?_eq_getElem hi1, List.getElem?_eq_getElem hi2, Option.map_some] at this
      exact Option.some.inj this
    (conv => whnf); repeat ((first | with_reducible refine CondG.tt ?_ | with_reducible refine CondG.ff ?_); conv => whnf)
    refine DrawG.mk 16 (cel b 47 [.slice none 0 0, .slice none 0 0, dv, gv] :: own 1 dv ds.length (ds.map (·.1)) :: own 1 gv gs.length (gs.map (·.1)) :: (pathsL ds ++ pathsL gs)) [] (Ent.refl _) ?_
    (conv => whnf); repeat ((first | with_reducible refine CondG.tt ?_ | with_reducible refine CondG.ff ?_); conv => whnf)
    refine .take 0 ?_
    (conv => whnf); repeat ((first | with_reducible refine CondG.tt ?_ | with_reducible refine CondG.ff ?_); conv => whnf)
    refine ⟨rfl, ?_⟩
    (conv => whnf); repeat ((first | with_reducible refine CondG.tt ?_ | with_reducible refine CondG.ff ?_); conv => whnf)
    refine .take 1 ?_
    (conv => whnf); repeat ((first | with_reducible refine CondG.tt ?_ | with_reducible refine CondG.ff ?_); conv => whnf)
    refine ⟨rfl, ?_⟩
    (conv => whnf); repeat ((first | with_reducible refine CondG.tt ?_ | with_reducible refine CondG.ff ?_); conv => whnf)
    refine .take 2 ?_
    (conv => whnf); repeat ((first | with_reducible refine CondG.tt ?_ | with_reducible refine CondG.ff ?_); conv => whnf)
    refine ⟨rfl, ?_⟩
    (conv => whnf); repeat ((first | with_reducible refine CondG.tt ?_ | with_reducible refine CondG.ff ?_); conv => whnf)
    refine .take 3 ?_
    (conv => whnf); repeat ((first | with_reducible refine CondG.tt ?_ | with_reducible refine CondG.ff ?_); conv => whnf)
    refine ⟨rfl, ?_⟩
    (conv => whnf); repeat ((first | with_reducible refine CondG.tt ?_ | with_reducible refine CondG.ff ?_); conv => whnf)
    refine LoadG.at (v := dv) (.here rfl) ?_
    (conv => whnf); repeat ((first | with_reducible refine CondG.tt ?_ | with_reducible refine CondG.ff ?_); conv => whnf)
    refine .take 4 ?_
    (conv => whnf); repeat ((first | with_reducible refine CondG.tt ?_ | with_reducible refine CondG.ff ?_); conv => whnf)
    refine ⟨rfl, ?_⟩
    (conv => whnf); repeat ((first | with_reducible refine CondG.tt ?_ | with_reducible refine CondG.ff ?_); conv => whnf)
    refine .take 5 ?_
    (conv => whnf); repeat ((first | with_reducible refine CondG.tt ?_ | with_reducible refine CondG.ff ?_); conv => whnf)
    refine ⟨rfl, ?_⟩
    (conv => whnf); repeat ((first | with_reducible refine CondG.tt ?_ | with_reducible refine CondG.ff ?_); conv => whnf)
    refine IdxG.rd hrd (by omega) fun c o hc => ?_
    (conv => whnf); repeat ((first | with_reducible refine CondG.tt ?_ | with_reducible refine CondG.ff ?_); conv => whnf)
    refine .take 6 ?_
    (conv => whnf); repeat ((first | with_reducible refine CondG.tt ?_ | with_reducible refine CondG.ff ?_); conv => whnf)
    refine ⟨rfl, ?_⟩
    (conv => whnf); repeat ((first | with_reducible refine CondG.tt ?_ | with_reducible refine CondG.ff ?_); conv => whnf)
    refine LoadG.at (v := ds[i].1) (hc.one (i := ((i : Nat) : Int).toNat * 1) (by rw [Int.toNat_natCast, Nat.mul_one, List.getElem?_map, List.getElem?_eq_getElem hi1]; rfl)) ?_
    (conv => whnf); repeat ((first | with_reducible refine CondG.tt ?_ | with_reducible refine CondG.ff ?_); conv => whnf)
    refine .take 7 ?_
    (conv => whnf); repeat ((first | with_reducible refine CondG.tt ?_ | with_reducible refine CondG.ff ?_); conv => whnf)
    refine ⟨rfl, ?_⟩
    (conv => whnf); repeat ((first | with_reducible refine CondG.tt ?_ | with_reducible refine CondG.ff ?_); conv => whnf)
    refine .take 8 ?_
    (conv => whnf); repeat ((first | with_reducible refine CondG.tt ?_ | with_reducible refine CondG.ff ?_); conv => whnf)
    refine ⟨rfl, ?_⟩
    (conv => whnf); repeat ((first | with_reducible refine CondG.tt ?_ | with_reducible refine CondG.ff ?_); conv => whnf)
    refine .take 9 ?_
    (conv => whnf); repeat ((first | with_reducible refine CondG.tt ?_ | with_reducible refine CondG.ff ?_); conv => whnf)
    refine ⟨rfl, ?_⟩
    (conv => whnf); repeat ((first | with_reducible refine CondG.tt ?_ | with_reducible refine CondG.ff ?_); conv => whnf)
    refine .take 10 ?_
    (conv => whnf); repeat ((first | with_reducible refine CondG.tt ?_ | with_reducible refine CondG.ff ?_); conv => whnf)
    refine ⟨rfl, ?_⟩
    (conv => whnf); repeat ((first | with_reducible refine CondG.tt ?_ | with_reducible refine CondG.ff ?_); conv => whnf)
    refine LoadG.at (v := gv) (.here rfl) ?_
    (conv => whnf); repeat ((first | with_reducible refine CondG.tt ?_ | with_reducible refine CondG.ff ?_); conv => whnf)
    refine .take 11 ?_
    (conv => whnf); repeat ((first | with_reducible refine CondG.tt ?_ | with_reducible refine CondG.ff ?_); conv => whnf)
    refine ⟨rfl, ?_⟩
    (conv => whnf); repeat ((first | with_reducible refine CondG.tt ?_ | with_reducible refine CondG.ff ?_); conv => whnf)
    refine .take 12 ?_
    (conv => whnf); repeat ((first | with_reducible refine CondG.tt ?_ | with_reducible refine CondG.ff ?_); conv => whnf)
    refine ⟨rfl, ?_⟩
    (conv => whnf); repeat ((first | with_reducible refine CondG.tt ?_ | with_reducible refine CondG.ff ?_); conv => whnf)
    refine IdxG.rd hrg (by omega) fun c o hc => ?_
    (conv => whnf); repeat ((first | with_reducible refine CondG.tt ?_ | with_reducible refine CondG.ff ?_); conv => whnf)
    refine .take 13 ?_
    (conv => whnf); repeat ((first | with_reducible refine CondG.tt ?_ | with_reducible refine CondG.ff ?_); conv => whnf)
    refine ⟨rfl, ?_⟩
    (conv => whnf); repeat ((first | with_reducible refine CondG.tt ?_ | with_reducible refine CondG.ff ?_); conv => whnf)
    refine LoadG.at (v := gs[i].1) (hc.one (i := ((i : Nat) : Int).toNat * 1) (by rw [Int.toNat_natCast, Nat.mul_one, List.getElem?_map, List.getElem?_eq_getElem hi2]; rfl)) ?_
    (conv => whnf); repeat ((first | with_reducible refine CondG.tt ?_ | with_reducible refine CondG.ff ?_); conv => whnf)
    refine .all ?_
    (conv => whnf); repeat ((first | with_reducible refine CondG.tt ?_ | with_reducible refine CondG.ff ?_); conv => whnf)
    refine ⟨by decide, ?_⟩
    (conv => whnf); repeat ((first | with_reducible refine CondG.tt ?_ | with_reducible refine CondG.ff ?_); conv => whnf)
    refine CallG.pure (samePath_spec _ ds[i].1 gs[i].1 ds[i].2 ds[i].2 (by
      have h := paths_rd (M := pathsL gs ++ F) (List.getElem_mem hi1) (hde _ (List.getElem_mem hi1)) hdi.2
      have h2 := RdS.tl (p := cel b 47 [.slice none 0 0, .slice none 0 0, dv, gv]) (RdS.tl (p := own 1 dv ds.length (ds.map (·.1))) (RdS.tl (p := own 1 gv gs.length (gs.map (·.1))) h))
      simpa [List.append_assoc] using h2) (by
      have h := paths_rd (M := F) (List.getElem_mem hi2) (hge _ (List.getElem_mem hi2)) (by rw [e2]; exact hdi.2)
      rw [e2] at h
      have h2 := RdS.tl (p := cel b 47 [.slice none 0 0, .slice none 0 0, dv, gv]) (RdS.tl (p := own 1 dv ds.length (ds.map (·.1))) (RdS.tl (p := own 1 gv gs.length (gs.map (·.1))) (RdS.right h (pathsL ds))))
      simpa [List.append_assoc] using h2) (fun d h => (hdi.2 d h).len) (fun d h => (hdi.2 d h).len) (by omega)) ?_
    rintro _ _ ⟨rfl, rfl⟩
    rw [decide_eq_true rfl]
    (conv => whnf); repeat ((first | with_reducible refine CondG.tt ?_ | with_reducible refine CondG.ff ?_); conv => whnf)
    refine .take 15 ?_
    (conv => whnf); repeat ((first | with_reducible refine CondG.tt ?_ | with_reducible refine CondG.ff ?_); conv => whnf)
    refine ⟨rfl, ?_⟩
    (conv => whnf); repeat ((first | with_reducible refine CondG.tt ?_ | with_reducible refine CondG.ff ?_); conv => whnf)
    refine ⟨rfl, ?_⟩
    (conv => whnf); repeat ((first | with_reducible refine CondG.tt ?_ | with_reducible refine CondG.ff ?_); conv => whnf)
    refine CondG.ff ?_
    (conv => whnf); repeat ((first | with_reducible refine CondG.tt ?_ | with_reducible refine CondG.ff ?_); conv => whnf)
    refine ArithG.i64 (by omega) ?_
    (conv => whnf); repeat ((first | with_reducible refine CondG.tt ?_ | with_reducible refine CondG.ff ?_); conv => whnf)
    refine ⟨ds.length - (i + 1), _, _, by omega, ?_, Ent.refl _, i + 1, by omega, rfl, rfl, rfl⟩
    exact ⟨rfl, rfl, trivial⟩
  (conv => whnf); repeat ((first | with_reducible refine CondG.tt ?_ | with_reducible refine CondG.ff ?_); conv => whnf)
  refine LoopG.mk (fun mm e L => ∃ i l, i ≤ ds.length ∧ mm = ds.length - i ∧ e = [(0, .pointer (some ⟨b, 0, none⟩)), (4, .int .i64 (i : Nat))] ∧ MarkI ds l i ∧ L = cel b 47 [.slice none 0 0, .slice none 0 0, dv, gv] :: own 1 dv ds.length (ds.map (·.1)) :: own 1 gv gs.length (gs.map (·.1)) :: (pathsL l ++ pathsL gs)) ds.length
    [(0, .pointer (some ⟨b, 0, none⟩)), (4, .int .i64 0)] _ ⟨rfl, rfl, trivial⟩ (Ent.refl _) ⟨0, ds, by omega, rfl, rfl, MarkI.begin hok, rfl⟩ ?_
  rintro mm e L ⟨i, l, hi, rfl, rfl, hm, rfl⟩
  (conv => whnf); repeat ((first | with_reducible refine CondG.tt ?_ | with_reducible refine CondG.ff ?_); conv => whnf)
  refine LoadG.at (v := dv) (.here rfl) ?_
  (conv => whnf); repeat ((first | with_reducible refine CondG.tt ?_ | with_reducible refine CondG.ff ?_); conv => whnf)
  refine LenG.sl hd ?_
  (conv => whnf); repeat ((first | with_reducible refine CondG.tt ?_ | with_reducible refine CondG.ff ?_); conv => whnf)
  refine CondG.dec (fun h1 => ?_) (fun h1 => ?_)
  · have hi1 : i < ds.length := by omega
    have hil : i < l.length := by rw [hm.len]; exact hi1
    have hfi : l[i].1 = ds[i].1 := hm.fst_at hil hi1
    have hle : l[i].2.length = ds[i].2.length := hm.lens i l[i] ds[i] (List.getElem?_eq_getElem hil) (List.getElem?_eq_getElem hi1)
    have hdi := hok ds[i] (List.getElem_mem hi1)
    have hsi : SlV ds[i].1 ds[i].2.length := hde _ (List.getElem_mem hi1)
    (conv => whnf); repeat ((first | with_reducible refine CondG.tt ?_ | with_reducible refine CondG.ff ?_); conv => whnf)
    refine LoopG.mk (fun mm e L => ∃ k l', k ≤ ds[i].2.length ∧ mm = ds[i].2.length - k ∧ e = [(0, .pointer (some ⟨b, 0, none⟩)), (4, .int .i64 (i : Nat)), (5, .int .i64 (k : Nat))] ∧ MarkI ds l' i ∧ (∀ t, l'[i]? = some t → t.2.take k = List.replicate k (markD i)) ∧ L = cel b 47 [.slice none 0 0, .slice none 0 0, dv, gv] :: own 1 dv ds.length (ds.map (·.1)) :: own 1 gv gs.length (gs.map (·.1)) :: (pathsL l' ++ pathsL gs)) ds[i].2.length
      [(0, .pointer (some ⟨b, 0, none⟩)), (4, .int .i64 (i : Nat)), (5, .int .i64 0)] _ ⟨rfl, rfl, rfl, trivial⟩ (Ent.refl _) ⟨0, l, by omega, rfl, rfl, hm, by simp, rfl⟩ ?_
    clear hil hfi hle hm
    rintro mm e L ⟨k, l, hk, rfl, rfl, hm, hpre, rfl⟩
    have hil : i < l.length := by rw [hm.len]; exact hi1
    have hfi : l[i].1 = ds[i].1 := hm.fst_at hil hi1
    have hle : l[i].2.length = ds[i].2.length := hm.lens i l[i] ds[i] (List.getElem?_eq_getElem hil) (List.getElem?_eq_getElem hi1)
    have hrl : RdS (cel b 47 [.slice none 0 0, .slice none 0 0, dv, gv] :: own 1 dv ds.length (ds.map (·.1)) :: own 1 gv gs.length (gs.map (·.1)) :: (pathsL l ++ pathsL gs)) dv ds.length (ds.map (·.1)) := .tl (own_rd hd (by simp))
    (conv => whnf); repeat ((first | with_reducible refine CondG.tt ?_ | with_reducible refine CondG.ff ?_); conv => whnf)
    refine LoadG.at (v := dv) (.here rfl) ?_
    (conv => whnf); repeat ((first | with_reducible refine CondG.tt ?_ | with_reducible refine CondG.ff ?_); conv => whnf)
    refine IdxG.rd hrl (by omega) fun c o hc => ?_
    (conv => whnf); repeat ((first | with_reducible refine CondG.tt ?_ | with_reducible refine CondG.ff ?_); conv => whnf)
    refine LoadG.at (v := ds[i].1) (hc.one (i := ((i : Nat) : Int).toNat * 1) (by rw [Int.toNat_natCast, Nat.mul_one, List.getElem?_map, List.getElem?_eq_getElem hi1]; rfl)) ?_
    (conv => whnf); repeat ((first | with_reducible refine CondG.tt ?_ | with_reducible refine CondG.ff ?_); conv => whnf)
    refine LenG.sl hsi ?_
    (conv => whnf); repeat ((first | with_reducible refine CondG.tt ?_ | with_reducible refine CondG.ff ?_); conv => whnf)
    refine CondG.dec (fun h2 => ?_) (fun h2 => ?_)
    · have hk1 : k < ds[i].2.length := by omega
      (conv => whnf); repeat ((first | with_reducible refine CondG.tt ?_ | with_reducible refine CondG.ff ?_); conv => whnf)
      obtain ⟨g, cap, hv, hcap⟩ : ∃ g cap, ds[i].1 = .slice (some ⟨g, 0, none⟩) ds[i].2.length cap ∧ ds[i].2.length ≤ cap := by
        rcases hsi with ⟨_, h0⟩ | h
        · omega
        · exact h
      have hl1 : l[i].1 = .slice (some ⟨g, 0, none⟩) l[i].2.length cap := by rw [hfi, hv, hle]
      have hlok := hm.ok l[i] (List.getElem_mem hil)
      have hlc : (digsC l[i].2).length = l[i].2.length * 32 := digs_len fun d h => (hlok d h).len
      have hset : ∀ x ∈ l[i].2.set k (markD i), DigOk x := fun x hx => by
        rcases List.mem_or_eq_of_mem_set hx with hx | rfl
        · exact hlok x hx
        · exact markD_ok i
      refine DrawG.mk 10 (cel b 47 [.slice none 0 0, .slice none 0 0, dv, gv] :: own 1 dv ds.length (ds.map (·.1)) :: own 1 gv gs.length (gs.map (·.1)) :: (pathsL l ++ pathsL gs)) [] (Ent.refl _) ?_
      (conv => whnf); repeat ((first | with_reducible refine CondG.tt ?_ | with_reducible refine CondG.ff ?_); conv => whnf)
      refine .take 0 ?_
      (conv => whnf); repeat ((first | with_reducible refine CondG.tt ?_ | with_reducible refine CondG.ff ?_); conv => whnf)
      refine ⟨rfl, ?_⟩
      (conv => whnf); repeat ((first | with_reducible refine CondG.tt ?_ | with_reducible refine CondG.ff ?_); conv => whnf)
      refine .take 1 ?_
      (conv => whnf); repeat ((first | with_reducible refine CondG.tt ?_ | with_reducible refine CondG.ff ?_); conv => whnf)
      refine ⟨rfl, ?_⟩
      (conv => whnf); repeat ((first | with_reducible refine CondG.tt ?_ | with_reducible refine CondG.ff ?_); conv => whnf)
      refine .take 2 ?_
      (conv => whnf); repeat ((first | with_reducible refine CondG.tt ?_ | with_reducible refine CondG.ff ?_); conv => whnf)
      refine ⟨rfl, ?_⟩
      (conv => whnf); repeat ((first | with_reducible refine CondG.tt ?_ | with_reducible refine CondG.ff ?_); conv => whnf)
      refine .take 3 ?_
      (conv => whnf); repeat ((first | with_reducible refine CondG.tt ?_ | with_reducible refine CondG.ff ?_); conv => whnf)
      refine ⟨rfl, ?_⟩
      (conv => whnf); repeat ((first | with_reducible refine CondG.tt ?_ | with_reducible refine CondG.ff ?_); conv => whnf)
      refine LoadG.at (v := dv) (.here rfl) ?_
      (conv => whnf); repeat ((first | with_reducible refine CondG.tt ?_ | with_reducible refine CondG.ff ?_); conv => whnf)
      refine .take 4 ?_
      (conv => whnf); repeat ((first | with_reducible refine CondG.tt ?_ | with_reducible refine CondG.ff ?_); conv => whnf)
      refine ⟨rfl, ?_⟩
      (conv => whnf); repeat ((first | with_reducible refine CondG.tt ?_ | with_reducible refine CondG.ff ?_); conv => whnf)
      refine .take 5 ?_
      (conv => whnf); repeat ((first | with_reducible refine CondG.tt ?_ | with_reducible refine CondG.ff ?_); conv => whnf)
      refine ⟨rfl, ?_⟩
      (conv => whnf); repeat ((first | with_reducible refine CondG.tt ?_ | with_reducible refine CondG.ff ?_); conv => whnf)
      refine IdxG.rd hrl (by omega) fun c o hc => ?_
      (conv => whnf); repeat ((first | with_reducible refine CondG.tt ?_ | with_reducible refine CondG.ff ?_); conv => whnf)
      refine .take 6 ?_
      (conv => whnf); repeat ((first | with_reducible refine CondG.tt ?_ | with_reducible refine CondG.ff ?_); conv => whnf)
      refine ⟨rfl, ?_⟩
      (conv => whnf); repeat ((first | with_reducible refine CondG.tt ?_ | with_reducible refine CondG.ff ?_); conv => whnf)
      refine LoadG.at (v := ds[i].1) (hc.one (i := ((i : Nat) : Int).toNat * 1) (by rw [Int.toNat_natCast, Nat.mul_one, List.getElem?_map, List.getElem?_eq_getElem hi1]; rfl)) ?_
      (conv => whnf); repeat ((first | with_reducible refine CondG.tt ?_ | with_reducible refine CondG.ff ?_); conv => whnf)
      refine .take 7 ?_
      (conv => whnf); repeat ((first | with_reducible refine CondG.tt ?_ | with_reducible refine CondG.ff ?_); conv => whnf)
      refine ⟨rfl, ?_⟩
      (conv => whnf); repeat ((first | with_reducible refine CondG.tt ?_ | with_reducible refine CondG.ff ?_); conv => whnf)
      refine .take 8 ?_
      (conv => whnf); repeat ((first | with_reducible refine CondG.tt ?_ | with_reducible refine CondG.ff ?_); conv => whnf)
      refine ⟨rfl, ?_⟩
      (conv => whnf); repeat ((first | with_reducible refine CondG.tt ?_ | with_reducible refine CondG.ff ?_); conv => whnf)
      refine .all ?_
      (conv => whnf); repeat ((first | with_reducible refine CondG.tt ?_ | with_reducible refine CondG.ff ?_); conv => whnf)
      refine ⟨by decide, ?_⟩
      (conv => whnf); repeat ((first | with_reducible refine CondG.tt ?_ | with_reducible refine CondG.ff ?_); conv => whnf)
      refine CallG.pure (mark_spec _ i (by omega)) ?_
      rintro _ _ ⟨rfl, rfl⟩
      (conv => whnf); repeat ((first | with_reducible refine CondG.tt ?_ | with_reducible refine CondG.ff ?_); conv => whnf)
      refine .all ?_
      (conv => whnf); repeat ((first | with_reducible refine CondG.tt ?_ | with_reducible refine CondG.ff ?_); conv => whnf)
      refine ⟨by decide, ?_⟩
      (conv => whnf); repeat ((first | with_reducible refine CondG.tt ?_ | with_reducible refine CondG.ff ?_); conv => whnf)
      refine ⟨rfl, ?_⟩
      (conv => whnf); repeat ((first | with_reducible refine CondG.tt ?_ | with_reducible refine CondG.ff ?_); conv => whnf)
      refine ⟨g, 0, ds[i].2.length, cap, hv, by omega, ?_⟩
      (conv => whnf); repeat ((first | with_reducible refine CondG.tt ?_ | with_reducible refine CondG.ff ?_); conv => whnf)
      refine .all ?_
      (conv => whnf); repeat ((first | with_reducible refine CondG.tt ?_ | with_reducible refine CondG.ff ?_); conv => whnf)
      refine ⟨by decide, ?_⟩
      (conv => whnf); repeat ((first | with_reducible refine CondG.tt ?_ | with_reducible refine CondG.ff ?_); conv => whnf)
      refine StoreG.at (cs := bvs (markD i)) rfl (.tl (.tl (.tl (upd_paths hil (d' := l[i].2.set k (markD i)) (by rw [List.length_set]) (fun M => by
        rw [hl1]
        refine Upd.own (by rw [hlc]; show 0 + ((k : Nat) : Int).toNat * 32 + 32 ≤ _; omega) (bvs_one _) ?_
        rw [show 0 + ((k : Nat) : Int).toNat * 32 = k * 32 by omega]
        exact digs_set hlok (by omega) (markD_ok i)) (pathsL gs))))) ?_
      (conv => whnf); repeat ((first | with_reducible refine CondG.tt ?_ | with_reducible refine CondG.ff ?_); conv => whnf)
      refine ⟨rfl, ?_⟩
      (conv => whnf); repeat ((first | with_reducible refine CondG.tt ?_ | with_reducible refine CondG.ff ?_); conv => whnf)
      refine ArithG.i64 (by omega) ?_
      (conv => whnf); repeat ((first | with_reducible refine CondG.tt ?_ | with_reducible refine CondG.ff ?_); conv => whnf)
      refine ⟨ds[i].2.length - (k + 1), [(0, .pointer (some ⟨b, 0, none⟩)), (4, .int .i64 (i : Nat)), (5, .int .i64 ((k + 1 : Nat) : Int))], _, by omega, ⟨rfl, rfl, rfl, trivial⟩, Ent.refl _, k + 1, l.set i (l[i].1, l[i].2.set k (markD i)), by omega, rfl, rfl, hm.put hil (by rw [List.length_set]) hset, fun t ht => ?_, rfl⟩
      rw [List.getElem?_set, if_pos rfl, if_pos hil] at ht
      obtain rfl := Option.some.inj ht
      have hp := hpre l[i] (List.getElem?_eq_getElem hil)
      show (l[i].2.set k (markD i)).take (k + 1) = _
      rw [List.set_eq_take_append_cons_drop, if_pos (by omega), hp, List.take_append, List.length_replicate, Nat.add_sub_cancel_left, List.take_of_length_le (by simp)]
      simp [List.replicate_succ']
    · have hk1 : k = ds[i].2.length := by omega
      (conv => whnf); repeat ((first | with_reducible refine CondG.tt ?_ | with_reducible refine CondG.ff ?_); conv => whnf)
      refine ArithG.i64 (by omega) ?_
      (conv => whnf); repeat ((first | with_reducible refine CondG.tt ?_ | with_reducible refine CondG.ff ?_); conv => whnf)
      refine ⟨ds.length - (i + 1), [(0, .pointer (some ⟨b, 0, none⟩)), (4, .int .i64 ((i + 1 : Nat) : Int))], _, by omega, ⟨rfl, rfl, trivial⟩, Ent.refl _, i + 1, l, by omega, rfl, rfl, ⟨hm.len, hm.fst, hm.lens, hm.ok, fun j t hj h => ?_⟩, rfl⟩
      rcases Nat.lt_or_ge j i with h3 | h3
      · exact hm.done j t h3 h
      · obtain rfl : j = i := by omega
        have := hpre t h
        have e : t.2.length = ds[j].2.length := hm.lens j t ds[j] h (List.getElem?_eq_getElem hi1)
        rw [hk1, ← e, List.take_length] at this
        exact this
  · obtain rfl : i = ds.length := by omega
    clear h1 hi
    have hall : ∀ (j : Nat) (hj : j < l.length), digsC l[j].2 = repC l[j].2.length (markD j) := fun j hj => by
      have := hm.done j l[j] (by rw [← hm.len]; exact hj) (List.getElem?_eq_getElem hj)
      conv => lhs; rw [this]
      rfl
    have hll := hm.len
    have hfst : ∀ (j : Nat) (h : j < l.length), l[j].1 = ds[j].1 := fun j h => hm.fst_at h (by omega)
    have hsl : ∀ (j : Nat) (h : j < l.length), SlV l[j].1 l[j].2.length ∧ l[j].2.length ≤ 1099511627776 := fun j h => by
      have e := hm.lens j l[j] ds[j] (List.getElem?_eq_getElem h) (List.getElem?_eq_getElem (by omega))
      rw [hfst j h, e]
      exact ⟨hde _ (List.getElem_mem _), (hok _ (List.getElem_mem _)).1⟩
    (conv => whnf); repeat ((first | with_reducible refine CondG.tt ?_ | with_reducible refine CondG.ff ?_); conv => whnf)
    refine LoopG.mk (fun mm e L => ∃ (i : Nat) (tv : Value) (G : List Value), i ≤ ds.length ∧ mm = ds.length - i ∧ e = [(0, .pointer (some ⟨b, 0, none⟩)), (6, tv), (7, .int .i64 (i : Nat))] ∧ G.length = i ∧ SlV tv i ∧ (∀ (j : Nat) (h1 : j < l.length) (h2 : j < G.length), SlV G[j] (l[j].2.length + 9)) ∧
        L = own 1 tv i G :: cel b 47 [.slice none 0 0, .slice none 0 0, dv, gv] :: own 1 dv ds.length (ds.map (·.1)) :: own 1 gv gs.length (gs.map (·.1)) :: (grL 0 l G ++ (pathsL (l.drop i) ++ pathsL gs))) ds.length
      [(0, .pointer (some ⟨b, 0, none⟩)), (6, .slice none 0 0), (7, .int .i64 0)] (own 1 (.slice none 0 0) 0 [] :: cel b 47 [.slice none 0 0, .slice none 0 0, dv, gv] :: own 1 dv ds.length (ds.map (·.1)) :: own 1 gv gs.length (gs.map (·.1)) :: (pathsL l ++ pathsL gs)) ⟨rfl, rfl, rfl, trivial⟩ (fun w G hs => Sat.own_nil hs) ⟨0, .slice none 0 0, [], by omega, rfl, rfl, rfl, .inl ⟨rfl, rfl⟩, fun j h1 h2 => by simp at h2, by rw [grL_nil]; rfl⟩ ?_
    rintro mm e L ⟨i, tv, G, hi, rfl, rfl, hG, htv, hGs, rfl⟩
    (conv => whnf); repeat ((first | with_reducible refine CondG.tt ?_ | with_reducible refine CondG.ff ?_); conv => whnf)
    refine LoadG.at (v := dv) (.tl (.here rfl)) ?_
    (conv => whnf); repeat ((first | with_reducible refine CondG.tt ?_ | with_reducible refine CondG.ff ?_); conv => whnf)
    refine LenG.sl hd ?_
    (conv => whnf); repeat ((first | with_reducible refine CondG.tt ?_ | with_reducible refine CondG.ff ?_); conv => whnf)
    refine CondG.dec (fun h1 => ?_) (fun h1 => ?_)
    · have hi1 : i < ds.length := by omega
      have hil : i < l.length := by omega
      have hrl : RdS (own 1 tv i G :: cel b 47 [.slice none 0 0, .slice none 0 0, dv, gv] :: own 1 dv ds.length (ds.map (·.1)) :: own 1 gv gs.length (gs.map (·.1)) :: (grL 0 l G ++ (pathsL (l.drop i) ++ pathsL gs))) dv ds.length (ds.map (·.1)) := .tl (.tl (own_rd hd (by simp)))
      have hn := (hsl i hil).2
      have hsi := (hsl i hil).1
      (conv => whnf); repeat ((first | with_reducible refine CondG.tt ?_ | with_reducible refine CondG.ff ?_); conv => whnf)
      refine LoadG.at (v := dv) (.tl (.here rfl)) ?_
      (conv => whnf); repeat ((first | with_reducible refine CondG.tt ?_ | with_reducible refine CondG.ff ?_); conv => whnf)
      refine IdxG.rd hrl (by omega) fun c o hc => ?_
      (conv => whnf); repeat ((first | with_reducible refine CondG.tt ?_ | with_reducible refine CondG.ff ?_); conv => whnf)
      refine LoadG.at (v := ds[i].1) (hc.one (i := ((i : Nat) : Int).toNat * 1) (by rw [Int.toNat_natCast, Nat.mul_one, List.getElem?_map, List.getElem?_eq_getElem hi1]; rfl)) ?_
      rw [← hfst i hil]
      (conv => whnf); repeat ((first | with_reducible refine CondG.tt ?_ | with_reducible refine CondG.ff ?_); conv => whnf)
      have hdrop : pathsL (l.drop i) = own 32 l[i].1 l[i].2.length (repC l[i].2.length (markD i)) :: pathsL (l.drop (i + 1)) := by
        rw [List.drop_eq_getElem_cons hil, ← hall i hil]
        rfl
      rw [hdrop]
      refine LoopG.mk (fun mm e L => ∃ (k : Nat) (g : Value), k ≤ 9 ∧ mm = 9 - k ∧ e = [(0, .pointer (some ⟨b, 0, none⟩)), (6, tv), (7, .int .i64 (i : Nat)), (8, g), (9, .int .i64 (k : Nat))] ∧ SlV g (l[i].2.length + k) ∧
          L = gP l[i].1 l[i].2.length (markD i) k g :: own 1 tv i G :: cel b 47 [.slice none 0 0, .slice none 0 0, dv, gv] :: own 1 dv ds.length (ds.map (·.1)) :: own 1 gv gs.length (gs.map (·.1)) :: (grL 0 l G ++ (pathsL (l.drop (i + 1)) ++ pathsL gs))) 9
        [(0, .pointer (some ⟨b, 0, none⟩)), (6, tv), (7, .int .i64 (i : Nat)), (8, l[i].1), (9, .int .i64 0)] (gP l[i].1 l[i].2.length (markD i) 0 l[i].1 :: own 1 tv i G :: cel b 47 [.slice none 0 0, .slice none 0 0, dv, gv] :: own 1 dv ds.length (ds.map (·.1)) :: own 1 gv gs.length (gs.map (·.1)) :: (grL 0 l G ++ (pathsL (l.drop (i + 1)) ++ pathsL gs))) ⟨rfl, rfl, rfl, rfl, rfl, trivial⟩ ?_ ⟨0, l[i].1, by omega, rfl, rfl, hsi, rfl⟩ ?_
      · refine Ent.trans (Ent.perm ?_) (gP_begin hsi)
        exact List.perm_middle (l₁ := own 1 tv i G :: cel b 47 [.slice none 0 0, .slice none 0 0, dv, gv] :: own 1 dv ds.length (ds.map (·.1)) :: own 1 gv gs.length (gs.map (·.1)) :: (grL 0 l G)) (l₂ := pathsL (l.drop (i + 1)) ++ pathsL gs)
      rintro mm e L ⟨k, g, hk, rfl, rfl, hg', rfl⟩
      (conv => whnf); repeat ((first | with_reducible refine CondG.tt ?_ | with_reducible refine CondG.ff ?_); conv => whnf)
      refine CondG.dec (fun h2 => ?_) (fun h2 => ?_)
      · (conv => whnf); repeat ((first | with_reducible refine CondG.tt ?_ | with_reducible refine CondG.ff ?_); conv => whnf)
        refine CallG.pure (mark_spec _ i (by omega)) ?_
        rintro _ _ ⟨rfl, rfl⟩
        (conv => whnf); repeat ((first | with_reducible refine CondG.tt ?_ | with_reducible refine CondG.ff ?_); conv => whnf)
        refine BuildG.of (cs := bvs (markD i)) rfl ?_
        (conv => whnf); repeat ((first | with_reducible refine CondG.tt ?_ | with_reducible refine CondG.ff ?_); conv => whnf)
        intro b91
        (conv => whnf); repeat ((first | with_reducible refine CondG.tt ?_ | with_reducible refine CondG.ff ?_); conv => whnf)
        refine DoesG.ent (Ent.front 1 rfl) ?_
        refine gP_app (markD_ok i) (fun M => .right (.mk _ _ _ _ _ (Nat.le_refl _) (.left .all F)) M) (by omega) fun g' hg2 => ?_
        (conv => whnf); repeat ((first | with_reducible refine CondG.tt ?_ | with_reducible refine CondG.ff ?_); conv => whnf)
        refine ArithG.i64 (by omega) ?_
        (conv => whnf); repeat ((first | with_reducible refine CondG.tt ?_ | with_reducible refine CondG.ff ?_); conv => whnf)
        refine ⟨9 - (k + 1), [(0, .pointer (some ⟨b, 0, none⟩)), (6, tv), (7, .int .i64 (i : Nat)), (8, g'), (9, .int .i64 ((k + 1 : Nat) : Int))], _, by omega, ⟨rfl, rfl, rfl, rfl, rfl, trivial⟩, Ent.cons _ (Ent.drop _), k + 1, g', by omega, rfl, rfl, hg2, rfl⟩
      · obtain rfl : k = 9 := by omega
        (conv => whnf); repeat ((first | with_reducible refine CondG.tt ?_ | with_reducible refine CondG.ff ?_); conv => whnf)
        refine BuildG.of (cs := [g]) (by obtain ⟨a, c, rfl⟩ := hg'.len; rfl) ?_
        (conv => whnf); repeat ((first | with_reducible refine CondG.tt ?_ | with_reducible refine CondG.ff ?_); conv => whnf)
        intro b95
        (conv => whnf); repeat ((first | with_reducible refine CondG.tt ?_ | with_reducible refine CondG.ff ?_); conv => whnf)
        refine DoesG.ent (Ent.sel (T := cel b 47 [.slice none 0 0, .slice none 0 0, dv, gv] :: own 1 dv ds.length (ds.map (·.1)) :: own 1 gv gs.length (gs.map (·.1)) :: (grL 0 l G ++ (pathsL (l.drop (i + 1)) ++ pathsL gs))) (A := [_, _, _]) [2, 0, 1] rfl) ?_
        refine app_own pathsT 45 (m := 1) (ys := [g]) (.mk _ _ _ _ _ (Nat.le_refl _) (.tl (.left .all _))) rfl (by intro u hu; rw [List.mem_singleton.1 hu]; exact hg'.one) (by simp only [maxLen]; omega) (by omega) fun tv' htv' _ _ => ?_
        (conv => whnf); repeat ((first | with_reducible refine CondG.tt ?_ | with_reducible refine CondG.ff ?_); conv => whnf)
        refine ArithG.i64 (by omega) ?_
        (conv => whnf); repeat ((first | with_reducible refine CondG.tt ?_ | with_reducible refine CondG.ff ?_); conv => whnf)
        subst hG
        refine ⟨ds.length - (G.length + 1), [(0, .pointer (some ⟨b, 0, none⟩)), (6, tv'), (7, .int .i64 ((G.length + 1 : Nat) : Int))], own 1 tv' (G.length + 1) (G ++ [g]) :: cel b 47 [.slice none 0 0, .slice none 0 0, dv, gv] :: own 1 dv ds.length (ds.map (·.1)) :: own 1 gv gs.length (gs.map (·.1)) :: (grL 0 l (G ++ [g]) ++ (pathsL (l.drop (G.length + 1)) ++ pathsL gs)), by omega, ⟨rfl, rfl, rfl, trivial⟩, ?_, G.length + 1, tv', G ++ [g], by omega, rfl, rfl, by simp, htv', fun j h3 h4 => ?_, rfl⟩
        · rw [grL_snoc (by omega), Nat.zero_add]
          refine Ent.trans (Ent.sel (T := cel b 47 [.slice none 0 0, .slice none 0 0, dv, gv] :: own 1 dv ds.length (ds.map (·.1)) :: own 1 gv gs.length (gs.map (·.1)) :: (grL 0 l G ++ (pathsL (l.drop (G.length + 1)) ++ pathsL gs))) (A := [_, _, _]) [0, 2] rfl) (Ent.cons _ (Ent.perm ?_))
          rw [List.append_assoc]
          exact (List.perm_middle (l₁ := cel b 47 [.slice none 0 0, .slice none 0 0, dv, gv] :: own 1 dv ds.length (ds.map (·.1)) :: own 1 gv gs.length (gs.map (·.1)) :: (grL 0 l G)) (l₂ := pathsL (l.drop (G.length + 1)) ++ pathsL gs)).symm
        · rcases Nat.lt_or_ge j G.length with h5 | h5
          · rw [List.getElem_append_left h5]
            exact hGs j h3 h5
          · obtain rfl : j = G.length := by simp at h4; omega
            rw [List.getElem_append_right (Nat.le_refl _)]
            simpa using hg'
    · obtain rfl : i = ds.length := by omega
      (conv => whnf); repeat ((first | with_reducible refine CondG.tt ?_ | with_reducible refine CondG.ff ?_); conv => whnf)
      refine LoopG.mk (fun mm e L => ∃ (i : Nat), i ≤ ds.length ∧ mm = ds.length - i ∧ e = [(0, .pointer (some ⟨b, 0, none⟩)), (6, tv), (10, .int .i64 (i : Nat))] ∧ L = own 1 tv ds.length G :: cel b 47 [.slice none 0 0, .slice none 0 0, dv, gv] :: own 1 dv ds.length (ds.map (·.1)) :: own 1 gv gs.length (gs.map (·.1)) :: (grL 0 l G ++ (pathsL (l.drop ds.length) ++ pathsL gs))) ds.length
        [(0, .pointer (some ⟨b, 0, none⟩)), (6, tv), (10, .int .i64 0)] _ ⟨rfl, rfl, rfl, trivial⟩ (Ent.refl _) ⟨0, by omega, rfl, rfl, rfl⟩ ?_
      rintro mm e L ⟨i, hi, rfl, rfl, rfl⟩
      (conv => whnf); repeat ((first | with_reducible refine CondG.tt ?_ | with_reducible refine CondG.ff ?_); conv => whnf)
      refine LoadG.at (v := dv) (.tl (.here rfl)) ?_
      (conv => whnf); repeat ((first | with_reducible refine CondG.tt ?_ | with_reducible refine CondG.ff ?_); conv => whnf)
      refine LenG.sl hd ?_
      (conv => whnf); repeat ((first | with_reducible refine CondG.tt ?_ | with_reducible refine CondG.ff ?_); conv => whnf)
      refine CondG.dec (fun h1 => ?_) (fun h1 => ?_)
      · have hi1 : i < ds.length := by omega
        have hil : i < l.length := by omega
        have hiG : i < G.length := by omega
        have hn := (hsl i hil).2
        obtain ⟨hr1, hr2⟩ := grL_rd (M := (pathsL (l.drop ds.length) ++ pathsL gs) ++ F) (j := 0) hil hiG (hsl i hil).1 (hGs i hil hiG)
        rw [Nat.zero_add] at hr1 hr2
        have hrl : RdS (own 1 tv ds.length G :: cel b 47 [.slice none 0 0, .slice none 0 0, dv, gv] :: own 1 dv ds.length (ds.map (·.1)) :: own 1 gv gs.length (gs.map (·.1)) :: (grL 0 l G ++ (pathsL (l.drop ds.length) ++ pathsL gs))) dv ds.length (ds.map (·.1)) := .tl (.tl (own_rd hd (by simp)))
        have hrt : RdS (own 1 tv ds.length G :: cel b 47 [.slice none 0 0, .slice none 0 0, dv, gv] :: own 1 dv ds.length (ds.map (·.1)) :: own 1 gv gs.length (gs.map (·.1)) :: (grL 0 l G ++ (pathsL (l.drop ds.length) ++ pathsL gs))) tv ds.length G := own_rd htv (by omega)
        (conv => whnf); repeat ((first | with_reducible refine CondG.tt ?_ | with_reducible refine CondG.ff ?_); conv => whnf)
        refine DrawG.mk 21 (own 1 tv ds.length G :: cel b 47 [.slice none 0 0, .slice none 0 0, dv, gv] :: own 1 dv ds.length (ds.map (·.1)) :: own 1 gv gs.length (gs.map (·.1)) :: (grL 0 l G ++ (pathsL (l.drop ds.length) ++ pathsL gs))) [] (Ent.refl _) ?_
        (conv => whnf); repeat ((first | with_reducible refine CondG.tt ?_ | with_reducible refine CondG.ff ?_); conv => whnf)
        refine .take 0 ?_
        (conv => whnf); repeat ((first | with_reducible refine CondG.tt ?_ | with_reducible refine CondG.ff ?_); conv => whnf)
        refine ⟨rfl, ?_⟩
        (conv => whnf); repeat ((first | with_reducible refine CondG.tt ?_ | with_reducible refine CondG.ff ?_); conv => whnf)
        refine .take 1 ?_
        (conv => whnf); repeat ((first | with_reducible refine CondG.tt ?_ | with_reducible refine CondG.ff ?_); conv => whnf)
        refine ⟨rfl, ?_⟩
        (conv => whnf); repeat ((first | with_reducible refine CondG.tt ?_ | with_reducible refine CondG.ff ?_); conv => whnf)
        refine .take 2 ?_
        (conv => whnf); repeat ((first | with_reducible refine CondG.tt ?_ | with_reducible refine CondG.ff ?_); conv => whnf)
        refine ⟨rfl, ?_⟩
        (conv => whnf); repeat ((first | with_reducible refine CondG.tt ?_ | with_reducible refine CondG.ff ?_); conv => whnf)
        refine .take 3 ?_
        (conv => whnf); repeat ((first | with_reducible refine CondG.tt ?_ | with_reducible refine CondG.ff ?_); conv => whnf)
        refine ⟨rfl, ?_⟩
        (conv => whnf); repeat ((first | with_reducible refine CondG.tt ?_ | with_reducible refine CondG.ff ?_); conv => whnf)
        refine LoadG.at (v := dv) (.tl (.here rfl)) ?_
        (conv => whnf); repeat ((first | with_reducible refine CondG.tt ?_ | with_reducible refine CondG.ff ?_); conv => whnf)
        refine .take 4 ?_
        (conv => whnf); repeat ((first | with_reducible refine CondG.tt ?_ | with_reducible refine CondG.ff ?_); conv => whnf)
        refine ⟨rfl, ?_⟩
        (conv => whnf); repeat ((first | with_reducible refine CondG.tt ?_ | with_reducible refine CondG.ff ?_); conv => whnf)
        refine .take 5 ?_
        (conv => whnf); repeat ((first | with_reducible refine CondG.tt ?_ | with_reducible refine CondG.ff ?_); conv => whnf)
        refine ⟨rfl, ?_⟩
        (conv => whnf); repeat ((first | with_reducible refine CondG.tt ?_ | with_reducible refine CondG.ff ?_); conv => whnf)
        refine IdxG.rd hrl (by omega) fun c o hc => ?_
        (conv => whnf); repeat ((first | with_reducible refine CondG.tt ?_ | with_reducible refine CondG.ff ?_); conv => whnf)
        refine .take 6 ?_
        (conv => whnf); repeat ((first | with_reducible refine CondG.tt ?_ | with_reducible refine CondG.ff ?_); conv => whnf)
        refine ⟨rfl, ?_⟩
        (conv => whnf); repeat ((first | with_reducible refine CondG.tt ?_ | with_reducible refine CondG.ff ?_); conv => whnf)
        refine LoadG.at (v := ds[i].1) (hc.one (i := ((i : Nat) : Int).toNat * 1) (by rw [Int.toNat_natCast, Nat.mul_one, List.getElem?_map, List.getElem?_eq_getElem hi1]; rfl)) ?_
        rw [← hfst i hil]
        (conv => whnf); repeat ((first | with_reducible refine CondG.tt ?_ | with_reducible refine CondG.ff ?_); conv => whnf)
        refine .take 7 ?_
        (conv => whnf); repeat ((first | with_reducible refine CondG.tt ?_ | with_reducible refine CondG.ff ?_); conv => whnf)
        refine ⟨rfl, ?_⟩
        (conv => whnf); repeat ((first | with_reducible refine CondG.tt ?_ | with_reducible refine CondG.ff ?_); conv => whnf)
        refine .all ?_
        (conv => whnf); repeat ((first | with_reducible refine CondG.tt ?_ | with_reducible refine CondG.ff ?_); conv => whnf)
        refine ⟨by decide, ?_⟩
        (conv => whnf); repeat ((first | with_reducible refine CondG.tt ?_ | with_reducible refine CondG.ff ?_); conv => whnf)
        refine CallG.pure (mark_spec _ i (by omega)) ?_
        rintro _ _ ⟨rfl, rfl⟩
        (conv => whnf); repeat ((first | with_reducible refine CondG.tt ?_ | with_reducible refine CondG.ff ?_); conv => whnf)
        refine .all ?_
        (conv => whnf); repeat ((first | with_reducible refine CondG.tt ?_ | with_reducible refine CondG.ff ?_); conv => whnf)
        refine ⟨by decide, ?_⟩
        (conv => whnf); repeat ((first | with_reducible refine CondG.tt ?_ | with_reducible refine CondG.ff ?_); conv => whnf)
        refine CallG.pure (allPath_spec _ l[i].1 l[i].2.length (by omega) (markD i) (markD_ok i) (by
          have h2 := RdS.tl (p := own 1 tv ds.length G) (RdS.tl (p := cel b 47 [.slice none 0 0, .slice none 0 0, dv, gv]) (RdS.tl (p := own 1 dv ds.length (ds.map (·.1))) (RdS.tl (p := own 1 gv gs.length (gs.map (·.1))) hr1)))
          simpa [List.append_assoc, repC] using h2)) ?_
        rintro _ _ ⟨rfl, rfl⟩
        (conv => whnf); repeat ((first | with_reducible refine CondG.tt ?_ | with_reducible refine CondG.ff ?_); conv => whnf)
        refine .take 10 ?_
        (conv => whnf); repeat ((first | with_reducible refine CondG.tt ?_ | with_reducible refine CondG.ff ?_); conv => whnf)
        refine ⟨rfl, ?_⟩
        (conv => whnf); repeat ((first | with_reducible refine CondG.tt ?_ | with_reducible refine CondG.ff ?_); conv => whnf)
        refine .take 11 ?_
        (conv => whnf); repeat ((first | with_reducible refine CondG.tt ?_ | with_reducible refine CondG.ff ?_); conv => whnf)
        refine ⟨rfl, ?_⟩
        (conv => whnf); repeat ((first | with_reducible refine CondG.tt ?_ | with_reducible refine CondG.ff ?_); conv => whnf)
        refine .take 12 ?_
        (conv => whnf); repeat ((first | with_reducible refine CondG.tt ?_ | with_reducible refine CondG.ff ?_); conv => whnf)
        refine ⟨rfl, ?_⟩
        (conv => whnf); repeat ((first | with_reducible refine CondG.tt ?_ | with_reducible refine CondG.ff ?_); conv => whnf)
        refine CondG.ff ?_
        (conv => whnf); repeat ((first | with_reducible refine CondG.tt ?_ | with_reducible refine CondG.ff ?_); conv => whnf)
        refine .take 13 ?_
        (conv => whnf); repeat ((first | with_reducible refine CondG.tt ?_ | with_reducible refine CondG.ff ?_); conv => whnf)
        refine ⟨rfl, ?_⟩
        (conv => whnf); repeat ((first | with_reducible refine CondG.tt ?_ | with_reducible refine CondG.ff ?_); conv => whnf)
        refine .take 14 ?_
        (conv => whnf); repeat ((first | with_reducible refine CondG.tt ?_ | with_reducible refine CondG.ff ?_); conv => whnf)
        refine ⟨rfl, ?_⟩
        (conv => whnf); repeat ((first | with_reducible refine CondG.tt ?_ | with_reducible refine CondG.ff ?_); conv => whnf)
        refine IdxG.rd hrt (by omega) fun c o hc => ?_
        (conv => whnf); repeat ((first | with_reducible refine CondG.tt ?_ | with_reducible refine CondG.ff ?_); conv => whnf)
        refine .take 15 ?_
        (conv => whnf); repeat ((first | with_reducible refine CondG.tt ?_ | with_reducible refine CondG.ff ?_); conv => whnf)
        refine ⟨rfl, ?_⟩
        (conv => whnf); repeat ((first | with_reducible refine CondG.tt ?_ | with_reducible refine CondG.ff ?_); conv => whnf)
        refine LoadG.at (v := G[i]) (hc.one (i := ((i : Nat) : Int).toNat * 1) (by rw [Int.toNat_natCast, Nat.mul_one]; exact List.getElem?_eq_getElem hiG)) ?_
        (conv => whnf); repeat ((first | with_reducible refine CondG.tt ?_ | with_reducible refine CondG.ff ?_); conv => whnf)
        refine .take 16 ?_
        (conv => whnf); repeat ((first | with_reducible refine CondG.tt ?_ | with_reducible refine CondG.ff ?_); conv => whnf)
        refine ⟨rfl, ?_⟩
        (conv => whnf); repeat ((first | with_reducible refine CondG.tt ?_ | with_reducible refine CondG.ff ?_); conv => whnf)
        refine .all ?_
        (conv => whnf); repeat ((first | with_reducible refine CondG.tt ?_ | with_reducible refine CondG.ff ?_); conv => whnf)
        refine ⟨by decide, ?_⟩
        (conv => whnf); repeat ((first | with_reducible refine CondG.tt ?_ | with_reducible refine CondG.ff ?_); conv => whnf)
        refine CallG.pure (mark_spec _ i (by omega)) ?_
        rintro _ _ ⟨rfl, rfl⟩
        (conv => whnf); repeat ((first | with_reducible refine CondG.tt ?_ | with_reducible refine CondG.ff ?_); conv => whnf)
        refine .all ?_
        (conv => whnf); repeat ((first | with_reducible refine CondG.tt ?_ | with_reducible refine CondG.ff ?_); conv => whnf)
        refine ⟨by decide, ?_⟩
        (conv => whnf); repeat ((first | with_reducible refine CondG.tt ?_ | with_reducible refine CondG.ff ?_); conv => whnf)
        refine CallG.pure (allPath_spec _ G[i] (l[i].2.length + 9) (by omega) (markD i) (markD_ok i) (by
          have h2 := RdS.tl (p := own 1 tv ds.length G) (RdS.tl (p := cel b 47 [.slice none 0 0, .slice none 0 0, dv, gv]) (RdS.tl (p := own 1 dv ds.length (ds.map (·.1))) (RdS.tl (p := own 1 gv gs.length (gs.map (·.1))) hr2)))
          simp only [repC] at h2
          simpa only [List.append_assoc, List.cons_append, List.nil_append] using h2)) ?_
        rintro _ _ ⟨rfl, rfl⟩
        (conv => whnf); repeat ((first | with_reducible refine CondG.tt ?_ | with_reducible refine CondG.ff ?_); conv => whnf)
        refine .take 19 ?_
        (conv => whnf); repeat ((first | with_reducible refine CondG.tt ?_ | with_reducible refine CondG.ff ?_); conv => whnf)
        refine ⟨rfl, ?_⟩
        (conv => whnf); repeat ((first | with_reducible refine CondG.tt ?_ | with_reducible refine CondG.ff ?_); conv => whnf)
        refine .take 20 ?_
        (conv => whnf); repeat ((first | with_reducible refine CondG.tt ?_ | with_reducible refine CondG.ff ?_); conv => whnf)
        refine ⟨rfl, ?_⟩
        (conv => whnf); repeat ((first | with_reducible refine CondG.tt ?_ | with_reducible refine CondG.ff ?_); conv => whnf)
        refine ⟨rfl, ?_⟩
        (conv => whnf); repeat ((first | with_reducible refine CondG.tt ?_ | with_reducible refine CondG.ff ?_); conv => whnf)
        refine CondG.ff ?_
        (conv => whnf); repeat ((first | with_reducible refine CondG.tt ?_ | with_reducible refine CondG.ff ?_); conv => whnf)
        refine ArithG.i64 (by omega) ?_
        (conv => whnf); repeat ((first | with_reducible refine CondG.tt ?_ | with_reducible refine CondG.ff ?_); conv => whnf)
        refine ⟨ds.length - (i + 1), _, _, by omega, ?_, Ent.refl _, i + 1, by omega, rfl, rfl, rfl⟩
        exact ⟨rfl, rfl, rfl, trivial⟩
      · (conv => whnf); repeat ((first | with_reducible refine CondG.tt ?_ | with_reducible refine CondG.ff ?_); conv => whnf)
        exact ret_here rfl
end Go.Proofs.YthdpknlnpeaiiaaDoor
