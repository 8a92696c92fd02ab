/-
  StoreBacks: the walk of the law's function.
-/
import Derived.Test.YtnbcbdlbejdkpaaDoorSo
import Derived.Test.YtnbcbdlbejdkpaaDoorZBv
namespace Go.Proofs.YtnbcbdlbejdkpaaDoor
open Go Go.Sl Go.Sort
theorem keysT : ElT Tryd.prog 95 9 1 16 := .of (by kernel_rfl)
theorem wassT : ElT Tryd.prog 98 91 1 24 := .of (by kernel_rfl)
theorem over_k (F : List HP) (u : Nat) (v : Value) (find : ByteArray → List Nat × Int) : SpecF Tryd.prog 38 [.iface u v] F [] (fun r L => ∃ s, r = .tuple #[.pointer (some ⟨s, 0, none⟩), .int .i64 0] ∧ L = [stK 127 s (.iface u v) find ⟨fun k => (find k).1, []⟩ 0 0]) :=
  (over_spec F u v).turn fun r L ⟨s, hr, hb, nb, hL⟩ => by
    subst hL
    exact ⟨_, ⟨s, hr, rfl⟩, Ent.pack0 (φ := AtK find ⟨fun k => (find k).1, []⟩ 0 0) (ls := fun c => StC.pieces 127 s (.iface u v) c)
      ⟨⟨fun k => rfl, ⟨fun p h => absurd h (List.not_mem_nil), fun p h => absurd h (List.not_mem_nil), fun p h => absurd h (List.not_mem_nil)⟩, Nat.le_refl 0, rfl, List.Pairwise.nil, fun j a f h => by simp at h⟩,
        ⟨fun p h => absurd h (List.not_mem_nil), fun p h => absurd h (List.not_mem_nil), fun x h => absurd h (List.not_mem_nil)⟩, Nat.le_refl 0⟩⟩
theorem find_at {K : List W32} {n : Nat} (F : List HP) (t : Nat) (c : TabD) (hw : c.wf K n) (key : ByteArray) (M : List HP) :
    SpecF Tryd.prog 42 [.pointer (some ⟨t, 0, none⟩), .string key] (M ++ (c.pieces 154 177 207 t ++ F)) [] (fun v L => ∃ x, SlV x (tabFind c.vals key).1.length ∧ v = .tuple #[x, .int .i64 (tabFind c.vals key).2] ∧ L = [own 1 x (tabFind c.vals key).1.length (bvs (tabFind c.vals key).1)]) :=
  find_spec _ t c.vb c.vals key (.right (.left (.here rfl) F) M) (MapG.right (MapG.left (.tl .here) F) M) fun p hp => by
    obtain ⟨h1, h2, _, _⟩ := hw.vals p hp
    refine ⟨by have h := h1.sl; rw [bvs_len] at h; exact h, h2, ?_⟩
    have h := ((TabD.shG (TT := 154) (ST := 177) (NT := 207) (t := t) p.2.1 (bvs p.2.2) h1).left F).right M
    rw [bvs_len] at h
    exact h
theorem got_find {vals : List (KV ByteArray)} {h : List (ByteArray → List Nat)} (key : ByteArray) : gotV ⟨fun k => (tabFind vals k).1, h⟩ key = (tabFind vals key).1 := by
  unfold gotV
  split
  · rfl
  · rename_i hk
    unfold tabFind
    rw [if_pos hk]
section
variable {K : List W32} (hk : K.length = 64)
include hk
theorem backs_spec (F : List HP) (hK : CelN F 0 0 (wvs K)) (pv : Value) (ls : List PairD) (hr : RdS F pv ls.length (pairsC ls)) (hl : ls.length ≤ 1073741824) (hok : ∀ p ∈ ls, RdS F p.v p.bs.length (bvs p.bs) ∧ (∀ b ∈ p.bs, b < 256))
    (xv : Value) (xs : List StepS) (hxr : RdS F xv xs.length (xs.flatMap StepS.cells)) (hxl : xs.length ≤ 1073741824) (hx : ∀ x ∈ xs, x.rd F)
    (yv : Value) (ys : List StepS) (hyr : RdS F yv ys.length (ys.flatMap StepS.cells)) (hyl : ys.length ≤ 1073741824) (hy : ∀ x ∈ ys, x.rd F) :
    SpecF Tryd.prog 8 [pv, xv, yv] F [] (fun r L => r = .bool true) := by
  refine fun8.spec rfl ?_
  conv => whnf
  refine CallG.pure (awake_spec hk _ (.right hK _)) ?_
  rintro _ _ ⟨rfl, rfl⟩
  conv => whnf
  refine CallG.pure (table_spec hk _ (.right hK _) pv ls (.right hr _) (by omega) (fun p hp => ⟨.right (hok p hp).1 _, (hok p hp).2⟩)) ?_
  rintro _ _ ⟨t, c, rfl, hcw, rfl⟩
  (conv => whnf); repeat ((with_reducible first | refine .tt ?_ | refine .ff ?_ | refine .ntt ?_ | refine .nff ?_); conv => whnf)
  refine CallG.pure (over_k _ _ _ (tabFind c.vals)) ?_
  rintro _ _ ⟨s, rfl, rfl⟩
  conv => whnf
  refine CallG.pure (over_k _ _ _ (tabFind c.vals)) ?_
  rintro _ _ ⟨u, rfl, rfl⟩
  (conv => whnf); repeat ((with_reducible first | refine .tt ?_ | refine .ff ?_ | refine .ntt ?_ | refine .nff ?_); conv => whnf)
  refine CondG.ndec (fun h => absurd rfl h) (fun _ => ?_)
  (conv => whnf); repeat ((with_reducible first | refine .tt ?_ | refine .ff ?_ | refine .ntt ?_ | refine .nff ?_); conv => whnf)
  refine CondG.ndec (fun h => absurd rfl h) (fun _ => ?_)
  conv => whnf
  obtain ⟨src, hsrc⟩ : ∃ src, src = Value.iface 87 (.pointer (some ⟨t, 0, none⟩)) := ⟨_, rfl⟩
  obtain ⟨find, hfind⟩ : ∃ find, find = tabFind c.vals := ⟨_, rfl⟩
  have ho : SrcOk find := by rw [hfind]; exact tab_srcOk hcw
  obtain ⟨R, hR⟩ : ∃ R, R = c.pieces 154 177 207 t := ⟨_, rfl⟩
  have hs : SrcG Tryd.prog (R ++ F) src find := by
    rw [hR, hsrc, hfind]
    exact tab_srcD F t c hcw
  have hF : ∀ key M, SpecF Tryd.prog 42 [.pointer (some ⟨t, 0, none⟩), .string key] (M ++ (R ++ F)) [] (fun v L => ∃ x, SlV x (find key).1.length ∧ v = .tuple #[x, .int .i64 (find key).2] ∧ L = [own 1 x (find key).1.length (bvs (find key).1)]) := fun key M => by
    rw [hR, hfind]
    exact find_at F t c hcw key M
  have hg : ∀ h key, gotV ⟨fun k => (find k).1, h⟩ key = (find key).1 := fun h key => by
    rw [hfind]
    exact got_find key
  rw [← hsrc, ← hfind]
  obtain ⟨V0, hV0⟩ : ∃ V0 : View, V0 = ⟨fun k => (find k).1, []⟩ := ⟨_, rfl⟩
  rw [← hV0]
  obtain ⟨M, hM⟩ : ∃ M, M = stK 127 u src find V0 0 0 :: R := ⟨_, rfl⟩
  have hsM : SrcG Tryd.prog (M ++ F) src find := by rw [hM]; exact hs.left [_]
  refine LoopG.mk (fun mm e L => ∃ (i : Nat) (U : View) (n a : Nat) (r : List (ByteArray → List Nat)), i ≤ xs.length ∧ mm = xs.length - i ∧ U.hist = V0.hist ++ r ∧ r.length ≤ i ∧ n ≤ 0 + i ∧ a ≤ 0 + i ∧
      e = [(0, pv), (1, xv), (2, yv), (6, .bool false), (8, .pointer (some ⟨t, 0, none⟩)), (9, .pointer (some ⟨s, 0, none⟩)), (11, .pointer (some ⟨u, 0, none⟩)), (13, .int .i64 i)] ∧ L = stK 127 s src find U n a :: M) xs.length
    [(0, pv), (1, xv), (2, yv), (6, .bool false), (8, .pointer (some ⟨t, 0, none⟩)), (9, .pointer (some ⟨s, 0, none⟩)), (11, .pointer (some ⟨u, 0, none⟩)), (13, .int .i64 0)] (stK 127 s src find V0 0 0 :: M) ⟨rfl, rfl, rfl, rfl, rfl, rfl, rfl, rfl, trivial⟩ ?_
    ⟨0, V0, 0, 0, [], by omega, rfl, by rw [List.append_nil], Nat.le_refl 0, by omega, by omega, rfl, rfl⟩ ?_
  · rw [hM, hR]
    exact (Ent.perm (List.Perm.swap _ _ _)).trans (Ent.dropL (_ :: _ :: c.pieces 154 177 207 t) _)
  rintro mm e L ⟨i, U, n, a, r, hi, rfl, hU, hh, hn, ha, rfl, rfl⟩
  have hUl0 : U.hist.length ≤ i := by
    rw [hU, hV0]
    show (([] : List (ByteArray → List Nat)) ++ r).length ≤ _
    rw [List.nil_append]
    exact hh
  conv => whnf
  refine LenG.rd hxr ?_
  conv => whnf
  refine CondG.dec (fun h1 => ?_) (fun h1 => ?_)
  · have hil : i < xs.length := by omega
    obtain ⟨x0, x1, x2⟩ := stpC_at hil
    obtain ⟨x, hxi⟩ : ∃ x, x = xs[i] := ⟨_, rfl⟩
    have hxm : x ∈ xs := by rw [hxi]; exact List.getElem_mem hil
    rw [← hxi] at x0 x1 x2
    conv => whnf
    refine IdxG.rd hxr (by omega) fun cb o hcc => ?_
    conv => whnf
    refine LoadG.atF (v := .int .i64 x.kind) (hcc.one (i := ((i : Nat) : Int).toNat * 4) (by rw [Int.toNat_natCast]; exact x0)) ?_
    clear hcc
    conv => whnf
    refine CondG.dec (fun h3 => ?_) (fun h3 => ?_)
    · conv => whnf
      refine CallG.of (pre := [stK 127 s src find U n a]) (rest := M) (mark_k _ s src U n a (by omega) (by omega)) (Ent.refl _) ?_
      rintro _ _ ⟨rfl, rfl⟩
      conv => whnf
      refine ArithG.i64' ((i + 1 : Nat) : Int) (by omega) (by omega) ?_
      conv => whnf
      exact ⟨xs.length - (i + 1), [(0, pv), (1, xv), (2, yv), (6, .bool false), (8, .pointer (some ⟨t, 0, none⟩)), (9, .pointer (some ⟨s, 0, none⟩)), (11, .pointer (some ⟨u, 0, none⟩)), (13, .int .i64 ((i + 1 : Nat) : Int))], _, by omega, ⟨rfl, rfl, rfl, rfl, rfl, rfl, rfl, rfl, trivial⟩, Ent.refl _, i + 1, ⟨U.now, U.hist ++ [U.now]⟩, n, a, r ++ [U.now], by omega, rfl, by rw [hU, List.append_assoc], by rw [List.length_append, List.length_singleton]; omega, by omega, by omega, rfl, rfl⟩
    · conv => whnf
      refine DrawG.mk 12 M [stK 127 s src find U n a] (Ent.refl _) ?_
      conv => whnf
      refine .take 0 ?_
      conv => whnf
      refine ⟨rfl, ?_⟩
      conv => whnf
      refine .take 1 ?_
      conv => whnf
      refine ⟨rfl, ?_⟩
      conv => whnf
      refine .take 2 ?_
      conv => whnf
      refine ⟨rfl, ?_⟩
      conv => whnf
      refine .take 3 ?_
      conv => whnf
      refine ⟨rfl, ?_⟩
      conv => whnf
      refine IdxG.rd hxr (by omega) fun cb o hcc => ?_
      conv => whnf
      refine .take 4 ?_
      conv => whnf
      refine ⟨rfl, ?_⟩
      conv => whnf
      refine .take 5 ?_
      conv => whnf
      refine ⟨rfl, ?_⟩
      conv => whnf
      refine LoadG.atF (v := .string x.key) (hcc.one (i := ((i : Nat) : Int).toNat * 4 + 1) (by rw [Int.toNat_natCast]; exact x1)) ?_
      clear hcc
      conv => whnf
      refine .take 6 ?_
      conv => whnf
      refine ⟨rfl, ?_⟩
      conv => whnf
      refine .take 7 ?_
      conv => whnf
      refine ⟨rfl, ?_⟩
      conv => whnf
      refine .take 8 ?_
      conv => whnf
      refine ⟨rfl, ?_⟩
      conv => whnf
      refine IdxG.rd hxr (by omega) fun cb o hcc => ?_
      conv => whnf
      refine .take 9 ?_
      conv => whnf
      refine ⟨rfl, ?_⟩
      conv => whnf
      refine .take 10 ?_
      conv => whnf
      refine ⟨rfl, ?_⟩
      conv => whnf
      refine LoadG.atF (v := x.v) (hcc.one (i := ((i : Nat) : Int).toNat * 4 + 2) (by rw [Int.toNat_natCast]; exact x2)) ?_
      clear hcc
      conv => whnf
      refine .all ?_
      conv => whnf
      refine ⟨by decide, ?_⟩
      conv => whnf
      refine CallG.of (pre := [stK 127 s src find U n a]) (rest := []) (put_e _ s src U n a x.key x.v x.bs hsM ho (.right (hx x hxm) M) (by omega)) (by rw [List.append_nil]; exact Ent.refl _) ?_
      rintro _ _ ⟨rfl, rfl⟩
      conv => whnf
      refine ⟨rfl, ?_⟩
      conv => whnf
      refine ArithG.i64' ((i + 1 : Nat) : Int) (by omega) (by omega) ?_
      conv => whnf
      exact ⟨xs.length - (i + 1), [(0, pv), (1, xv), (2, yv), (6, .bool false), (8, .pointer (some ⟨t, 0, none⟩)), (9, .pointer (some ⟨s, 0, none⟩)), (11, .pointer (some ⟨u, 0, none⟩)), (13, .int .i64 ((i + 1 : Nat) : Int))], _, by omega, ⟨rfl, rfl, rfl, rfl, rfl, rfl, rfl, rfl, trivial⟩, Ent.refl _, i + 1, putV U x.key x.bs, n + 1, a + 1, r, by omega, rfl, by rw [putV_hist]; exact hU, by omega, by omega, by omega, rfl, rfl⟩
  have hUl : U.hist.length ≤ xs.length := by
    rw [hU, hV0]
    show (([] : List (ByteArray → List Nat)) ++ r).length ≤ _
    rw [List.nil_append]
    omega
  obtain ⟨V, hV⟩ : ∃ V, V = U := ⟨_, rfl⟩
  rw [← hV] at hUl
  rw [← hV]
  have hn2 : n ≤ xs.length := by omega
  have ha2 : a ≤ xs.length := by omega
  clear hV hU hh hn ha h1 hi
  conv => whnf
  refine CallG.of (pre := [stK 127 s src find V n a]) (rest := M) (mark_k _ s src V n a (by omega) (by omega)) (Ent.refl _) ?_
  rintro _ _ ⟨rfl, rfl⟩
  obtain ⟨V1, hV1⟩ : ∃ V1 : View, V1 = ⟨V.now, V.hist ++ [V.now]⟩ := ⟨_, rfl⟩
  rw [← hV1]
  conv => whnf
  obtain ⟨M1, hM1⟩ : ∃ M1, M1 = stK 127 s src find V1 n a :: M := ⟨_, rfl⟩
  refine LoopG.mk (fun mm e L => ∃ (i : Nat) (ks : List ByteArray) (kv : Value), i ≤ ls.length ∧ mm = ls.length - i ∧ SlV kv ks.length ∧ ks.length ≤ 0 + i ∧
      e = [(0, pv), (1, xv), (2, yv), (6, .bool false), (8, .pointer (some ⟨t, 0, none⟩)), (9, .pointer (some ⟨s, 0, none⟩)), (11, .pointer (some ⟨u, 0, none⟩)), (14, .int .i64 V.hist.length), (15, kv), (16, .int .i64 i)] ∧ L = own 1 kv ks.length (keysB ks) :: M1) ls.length
    [(0, pv), (1, xv), (2, yv), (6, .bool false), (8, .pointer (some ⟨t, 0, none⟩)), (9, .pointer (some ⟨s, 0, none⟩)), (11, .pointer (some ⟨u, 0, none⟩)), (14, .int .i64 V.hist.length), (15, .slice none 0 0), (16, .int .i64 0)] (own 1 (.slice none 0 0) 0 [] :: M1) ⟨rfl, rfl, rfl, rfl, rfl, rfl, rfl, rfl, rfl, rfl, trivial⟩ ?_
    ⟨0, [], .slice none 0 0, by omega, rfl, .inl ⟨rfl, rfl⟩, Nat.le_refl _, rfl, rfl⟩ ?_
  · rw [hM1]
    exact fun w G hs => Sat.own_nil hs
  rintro mm e L ⟨i, ks, kv, hi, rfl, hkv, hkl, rfl, rfl⟩
  conv => whnf
  refine LenG.rd hr ?_
  conv => whnf
  refine CondG.dec (fun h1 => ?_) (fun h1 => ?_)
  · have hil : i < ls.length := by omega
    conv => whnf
    refine IdxG.rd hr (by omega) fun cb o hcc => ?_
    conv => whnf
    refine LoadG.atF (v := .string ls[i].key) (hcc.one (i := ((i : Nat) : Int).toNat * 2) (by rw [Int.toNat_natCast]; exact (pairsC_get (List.getElem?_eq_getElem hil)).1)) ?_
    clear hcc
    conv => whnf
    refine BuildG.of (cs := [.string ls[i].key]) rfl ?_
    conv => whnf
    intro b
    conv => whnf
    refine DoesG.ent (Ent.front 1 rfl) ?_
    refine app_own keysT 95 (m := 1) (ys := [.string ls[i].key]) (.mk _ _ _ _ _ (Nat.le_refl _) (.tl (.left .all _))) rfl (by simp [Value.oneCell']) (by simp only [maxLen]; omega) (by omega) fun kv2 hkv2 _ _ => ?_
    conv => whnf
    refine ArithG.i64' ((i + 1 : Nat) : Int) (by omega) (by omega) ?_
    conv => whnf
    have ek : keysB ks ++ [.string ls[i].key] = keysB (ks ++ [ls[i].key]) := by simp [keysB]
    have el : (ks ++ [ls[i].key]).length = ks.length + 1 := by simp
    rw [ek, ← el]
    rw [← el] at hkv2
    exact ⟨ls.length - (i + 1), [(0, pv), (1, xv), (2, yv), (6, .bool false), (8, .pointer (some ⟨t, 0, none⟩)), (9, .pointer (some ⟨s, 0, none⟩)), (11, .pointer (some ⟨u, 0, none⟩)), (14, .int .i64 V.hist.length), (15, kv2), (16, .int .i64 ((i + 1 : Nat) : Int))], _, by omega, ⟨rfl, rfl, rfl, rfl, rfl, rfl, rfl, rfl, rfl, rfl, trivial⟩, Ent.sel (T := M1) (A := [_, _]) [0] rfl, i + 1, ks ++ [ls[i].key], kv2, by omega, rfl, hkv2, by omega, rfl, rfl⟩
  have hkl1 : ks.length ≤ ls.length := by omega
  clear hkl h1 hi
  conv => whnf
  refine LoopG.mk (fun mm e L => ∃ (i : Nat) (ks : List ByteArray) (kv : Value), i ≤ xs.length ∧ mm = xs.length - i ∧ SlV kv ks.length ∧ ks.length ≤ ls.length + i ∧
      e = [(0, pv), (1, xv), (2, yv), (6, .bool false), (8, .pointer (some ⟨t, 0, none⟩)), (9, .pointer (some ⟨s, 0, none⟩)), (11, .pointer (some ⟨u, 0, none⟩)), (14, .int .i64 V.hist.length), (15, kv), (17, .int .i64 i)] ∧ L = own 1 kv ks.length (keysB ks) :: M1) xs.length
    [(0, pv), (1, xv), (2, yv), (6, .bool false), (8, .pointer (some ⟨t, 0, none⟩)), (9, .pointer (some ⟨s, 0, none⟩)), (11, .pointer (some ⟨u, 0, none⟩)), (14, .int .i64 V.hist.length), (15, kv), (17, .int .i64 0)] (own 1 kv ks.length (keysB ks) :: M1) ⟨rfl, rfl, rfl, rfl, rfl, rfl, rfl, rfl, rfl, rfl, trivial⟩ (Ent.refl _)
    ⟨0, ks, kv, by omega, rfl, hkv, by omega, rfl, rfl⟩ ?_
  clear hkv hkl1 ks kv
  rintro mm e L ⟨i, ks, kv, hi, rfl, hkv, hkl, rfl, rfl⟩
  conv => whnf
  refine LenG.rd hxr ?_
  conv => whnf
  refine CondG.dec (fun h1 => ?_) (fun h1 => ?_)
  · have hil : i < xs.length := by omega
    conv => whnf
    refine IdxG.rd hxr (by omega) fun cb o hcc => ?_
    conv => whnf
    refine LoadG.atF (v := .string xs[i].key) (hcc.one (i := ((i : Nat) : Int).toNat * 4 + 1) (by rw [Int.toNat_natCast]; exact (stpC_at hil).2.1)) ?_
    clear hcc
    conv => whnf
    refine BuildG.of (cs := [.string xs[i].key]) rfl ?_
    conv => whnf
    intro b
    conv => whnf
    refine DoesG.ent (Ent.front 1 rfl) ?_
    refine app_own keysT 95 (m := 1) (ys := [.string xs[i].key]) (.mk _ _ _ _ _ (Nat.le_refl _) (.tl (.left .all _))) rfl (by simp [Value.oneCell']) (by simp only [maxLen]; omega) (by omega) fun kv2 hkv2 _ _ => ?_
    conv => whnf
    refine ArithG.i64' ((i + 1 : Nat) : Int) (by omega) (by omega) ?_
    conv => whnf
    have ek : keysB ks ++ [.string xs[i].key] = keysB (ks ++ [xs[i].key]) := by simp [keysB]
    have el : (ks ++ [xs[i].key]).length = ks.length + 1 := by simp
    rw [ek, ← el]
    rw [← el] at hkv2
    exact ⟨xs.length - (i + 1), [(0, pv), (1, xv), (2, yv), (6, .bool false), (8, .pointer (some ⟨t, 0, none⟩)), (9, .pointer (some ⟨s, 0, none⟩)), (11, .pointer (some ⟨u, 0, none⟩)), (14, .int .i64 V.hist.length), (15, kv2), (17, .int .i64 ((i + 1 : Nat) : Int))], _, by omega, ⟨rfl, rfl, rfl, rfl, rfl, rfl, rfl, rfl, rfl, rfl, trivial⟩, Ent.sel (T := M1) (A := [_, _]) [0] rfl, i + 1, ks ++ [xs[i].key], kv2, by omega, rfl, hkv2, by omega, rfl, rfl⟩
  have hkl2 : ks.length ≤ ls.length + xs.length := by omega
  clear hkl h1 hi
  conv => whnf
  refine LoopG.mk (fun mm e L => ∃ (i : Nat) (ks : List ByteArray) (kv : Value), i ≤ ys.length ∧ mm = ys.length - i ∧ SlV kv ks.length ∧ ks.length ≤ (ls.length + xs.length) + i ∧
      e = [(0, pv), (1, xv), (2, yv), (6, .bool false), (8, .pointer (some ⟨t, 0, none⟩)), (9, .pointer (some ⟨s, 0, none⟩)), (11, .pointer (some ⟨u, 0, none⟩)), (14, .int .i64 V.hist.length), (15, kv), (18, .int .i64 i)] ∧ L = own 1 kv ks.length (keysB ks) :: M1) ys.length
    [(0, pv), (1, xv), (2, yv), (6, .bool false), (8, .pointer (some ⟨t, 0, none⟩)), (9, .pointer (some ⟨s, 0, none⟩)), (11, .pointer (some ⟨u, 0, none⟩)), (14, .int .i64 V.hist.length), (15, kv), (18, .int .i64 0)] (own 1 kv ks.length (keysB ks) :: M1) ⟨rfl, rfl, rfl, rfl, rfl, rfl, rfl, rfl, rfl, rfl, trivial⟩ (Ent.refl _)
    ⟨0, ks, kv, by omega, rfl, hkv, by omega, rfl, rfl⟩ ?_
  clear hkv hkl2 ks kv
  rintro mm e L ⟨i, ks, kv, hi, rfl, hkv, hkl, rfl, rfl⟩
  conv => whnf
  refine LenG.rd hyr ?_
  conv => whnf
  refine CondG.dec (fun h1 => ?_) (fun h1 => ?_)
  · have hil : i < ys.length := by omega
    conv => whnf
    refine IdxG.rd hyr (by omega) fun cb o hcc => ?_
    conv => whnf
    refine LoadG.atF (v := .string ys[i].key) (hcc.one (i := ((i : Nat) : Int).toNat * 4 + 1) (by rw [Int.toNat_natCast]; exact (stpC_at hil).2.1)) ?_
    clear hcc
    conv => whnf
    refine BuildG.of (cs := [.string ys[i].key]) rfl ?_
    conv => whnf
    intro b
    conv => whnf
    refine DoesG.ent (Ent.front 1 rfl) ?_
    refine app_own keysT 95 (m := 1) (ys := [.string ys[i].key]) (.mk _ _ _ _ _ (Nat.le_refl _) (.tl (.left .all _))) rfl (by simp [Value.oneCell']) (by simp only [maxLen]; omega) (by omega) fun kv2 hkv2 _ _ => ?_
    conv => whnf
    refine ArithG.i64' ((i + 1 : Nat) : Int) (by omega) (by omega) ?_
    conv => whnf
    have ek : keysB ks ++ [.string ys[i].key] = keysB (ks ++ [ys[i].key]) := by simp [keysB]
    have el : (ks ++ [ys[i].key]).length = ks.length + 1 := by simp
    rw [ek, ← el]
    rw [← el] at hkv2
    exact ⟨ys.length - (i + 1), [(0, pv), (1, xv), (2, yv), (6, .bool false), (8, .pointer (some ⟨t, 0, none⟩)), (9, .pointer (some ⟨s, 0, none⟩)), (11, .pointer (some ⟨u, 0, none⟩)), (14, .int .i64 V.hist.length), (15, kv2), (18, .int .i64 ((i + 1 : Nat) : Int))], _, by omega, ⟨rfl, rfl, rfl, rfl, rfl, rfl, rfl, rfl, rfl, rfl, trivial⟩, Ent.sel (T := M1) (A := [_, _]) [0] rfl, i + 1, ks ++ [ys[i].key], kv2, by omega, rfl, hkv2, by omega, rfl, rfl⟩
  have hkl3 : ks.length ≤ ls.length + xs.length + ys.length := by omega
  clear hkl h1 hi
  have kBl : (keysB ks).length = ks.length * 1 := by rw [keysB, List.length_map, Nat.mul_one]
  have kB : ∀ i (h : i < ks.length), (keysB ks)[((i : Nat) : Int).toNat * 1]? = some (.string ks[i]) := fun i h => by rw [keysB, Int.toNat_natCast, Nat.mul_one, List.getElem?_map, List.getElem?_eq_getElem h]; rfl
  conv => whnf
  rw [hM1, hM]
  obtain ⟨N, hN⟩ : ∃ N, N = own 1 kv ks.length (keysB ks) :: R := ⟨_, rfl⟩
  have hsN : SrcG Tryd.prog (N ++ F) src find := by rw [hN]; exact hs.left [_]
  have hrN : RdS N kv ks.length (keysB ks) := by rw [hN]; exact own_rd hkv kBl
  refine LoopG.mk (fun mm e L => ∃ (i : Nat) (ws : List (Value × List Nat)) (wv : Value) (a : Nat), i ≤ ks.length ∧ mm = ks.length - i ∧ SlV wv ws.length ∧ a ≤ xs.length + i ∧ ws.length ≤ i ∧ ws.map (·.2) = (ks.take i).map (gotV V1) ∧ (∀ p ∈ ws, SlV p.1 p.2.length) ∧
      e = [(0, pv), (1, xv), (2, yv), (6, .bool false), (8, .pointer (some ⟨t, 0, none⟩)), (9, .pointer (some ⟨s, 0, none⟩)), (11, .pointer (some ⟨u, 0, none⟩)), (14, .int .i64 V.hist.length), (15, kv), (19, wv), (20, .int .i64 i)] ∧ L = own 1 wv ws.length (fstsW ws) :: stK 127 s src find V1 n a :: stK 127 u src find V0 0 0 :: (wasL ws ++ N)) ks.length
    [(0, pv), (1, xv), (2, yv), (6, .bool false), (8, .pointer (some ⟨t, 0, none⟩)), (9, .pointer (some ⟨s, 0, none⟩)), (11, .pointer (some ⟨u, 0, none⟩)), (14, .int .i64 V.hist.length), (15, kv), (19, .slice none 0 0), (20, .int .i64 0)] (own 1 (.slice none 0 0) 0 (fstsW []) :: stK 127 s src find V1 n a :: stK 127 u src find V0 0 0 :: (wasL [] ++ N)) ⟨rfl, rfl, rfl, rfl, rfl, rfl, rfl, rfl, rfl, rfl, rfl, trivial⟩ ?_
    ⟨0, [], .slice none 0 0, a, by omega, rfl, .inl ⟨rfl, rfl⟩, by omega, Nat.le_refl _, by simp, fun p h => absurd h (List.not_mem_nil), rfl, rfl⟩ ?_
  · rw [hN]
    exact (Ent.sel (T := R) (A := [_, _, _]) [1, 2, 0] rfl).trans fun w G hs => Sat.own_nil hs
  clear ha2
  rintro mm e L ⟨i, ws, wv, a, hi, rfl, hwv, ha, hwl, hw, hws, rfl, rfl⟩
  conv => whnf
  refine LenG.sl hkv ?_
  conv => whnf
  refine CondG.dec (fun h1 => ?_) (fun h1 => ?_)
  · have hil : i < ks.length := by omega
    conv => whnf
    have hrd : RdS (own 1 wv ws.length (fstsW ws) :: stK 127 s src find V1 n a :: stK 127 u src find V0 0 0 :: (wasL ws ++ N)) kv ks.length (keysB ks) := .tl (.tl (.tl (.right hrN _)))
    refine IdxG.rd hrd (by omega) fun cb o hcc => ?_
    conv => whnf
    refine LoadG.at (v := .string ks[i]) (hcc.one (kB i hil)) ?_
    clear hcc hrd
    conv => whnf
    refine CallG.of (pre := [stK 127 s src find V1 n a]) (rest := own 1 wv ws.length (fstsW ws) :: stK 127 u src find V0 0 0 :: (wasL ws ++ N)) (get_e _ s src V1 n a ks[i] (by
      have h := hsN.left (own 1 wv ws.length (fstsW ws) :: stK 127 u src find V0 0 0 :: wasL ws)
      rw [← List.append_assoc] at h
      exact h) ho) (Ent.front 1 rfl) ?_
    rintro _ _ ⟨x, hx1, rfl, rfl⟩
    obtain ⟨xa, xc, hxe⟩ := hx1.len
    conv => whnf
    refine BuildG.of (cs := [x]) (by rw [hxe]; rfl) ?_
    conv => whnf
    intro b
    conv => whnf
    refine DoesG.ent (Ent.front 3 rfl) ?_
    refine app_own wassT 98 (m := 1) (ys := [x]) (.mk _ _ _ _ _ (Nat.le_refl _) (.tl (.left .all _))) rfl (by rw [hxe]; simp [Value.oneCell']) (by simp only [maxLen]; omega) (by omega) fun wv2 hwv2 _ _ => ?_
    conv => whnf
    refine ArithG.i64' ((i + 1 : Nat) : Int) (by omega) (by omega) ?_
    conv => whnf
    have ek : fstsW ws ++ [x] = fstsW (ws ++ [(x, gotV V1 ks[i])]) := by simp [fstsW]
    have el : (ws ++ [(x, gotV V1 ks[i])]).length = ws.length + 1 := by simp
    rw [ek, ← el]
    rw [← el] at hwv2
    refine ⟨ks.length - (i + 1), [(0, pv), (1, xv), (2, yv), (6, .bool false), (8, .pointer (some ⟨t, 0, none⟩)), (9, .pointer (some ⟨s, 0, none⟩)), (11, .pointer (some ⟨u, 0, none⟩)), (14, .int .i64 V.hist.length), (15, kv), (19, wv2), (20, .int .i64 ((i + 1 : Nat) : Int))], _, by omega, ⟨rfl, rfl, rfl, rfl, rfl, rfl, rfl, rfl, rfl, rfl, rfl, trivial⟩, ?_, i + 1, ws ++ [(x, gotV V1 ks[i])], wv2, a + 1, by omega, rfl, hwv2, by omega, by omega, ?_, ?_, rfl, rfl⟩
    · refine (Ent.sel (T := wasL ws ++ N) (A := [_, _, _, _, _]) [0, 3, 4, 2] rfl).trans (Ent.under (Ent.perm ?_) [_, _, _])
      show (own 1 x (gotV V1 ks[i]).length (bvs (gotV V1 ks[i])) :: (wasL ws ++ N)).Perm (wasL (ws ++ [(x, gotV V1 ks[i])]) ++ N)
      have e : wasL (ws ++ [(x, gotV V1 ks[i])]) ++ N = wasL ws ++ (own 1 x (gotV V1 ks[i]).length (bvs (gotV V1 ks[i])) :: N) := by simp [wasL]
      rw [e]
      exact List.perm_middle.symm
    · rw [List.map_append, hw, List.take_succ_eq_append_getElem hil, List.map_append]
      rfl
    · intro p hp
      rcases List.mem_append.1 hp with hp | hp
      · exact hws p hp
      · rw [List.mem_singleton.1 hp]
        exact hx1
  obtain rfl : i = ks.length := by omega
  rw [List.take_length] at hw
  clear h1 hi
  conv => whnf
  refine CallG.of (pre := [stK 127 s src find V1 n a]) (rest := own 1 wv ws.length (fstsW ws) :: stK 127 u src find V0 0 0 :: (wasL ws ++ N)) (changes_k _ s src V1 n a (by omega)) (Ent.front 1 rfl) ?_
  rintro fv _ ⟨l1, hl1, hfv, hfs, hl1a, rfl⟩
  conv => whnf
  obtain ⟨N1, hN1⟩ : ∃ N1, N1 = own 3 fv l1.length (l1.flatMap ChD.cells) :: (chS l1 ++ (own 1 wv ws.length (fstsW ws) :: stK 127 u src find V0 0 0 :: (wasL ws ++ N))) := ⟨_, rfl⟩
  have hsM : SrcG Tryd.prog (N1 ++ F) src find := by
    have h := hsN.left ((own 3 fv l1.length (l1.flatMap ChD.cells) :: chS l1) ++ (own 1 wv ws.length (fstsW ws) :: stK 127 u src find V0 0 0 :: wasL ws))
    rw [hN1]
    simpa only [List.append_assoc, List.cons_append] using h
  obtain ⟨n1, hn1⟩ : ∃ n1, n1 = n := ⟨_, rfl⟩
  obtain ⟨a1, ha1⟩ : ∃ a1, a1 = a := ⟨_, rfl⟩
  rw [← hn1] at hn2
  rw [← ha1] at ha
  refine LoopG.mk (fun mm e L => ∃ (i : Nat) (U : View) (n a : Nat) (r : List (ByteArray → List Nat)), i ≤ ys.length ∧ mm = ys.length - i ∧ U.hist = V1.hist ++ r ∧ r.length ≤ i ∧ n ≤ xs.length + i ∧ a ≤ (xs.length + ks.length) + i ∧
      e = [(0, pv), (1, xv), (2, yv), (6, .bool false), (8, .pointer (some ⟨t, 0, none⟩)), (9, .pointer (some ⟨s, 0, none⟩)), (11, .pointer (some ⟨u, 0, none⟩)), (14, .int .i64 V.hist.length), (15, kv), (19, wv), (23, fv), (24, .int .i64 i)] ∧ L = stK 127 s src find U n a :: N1) ys.length
    [(0, pv), (1, xv), (2, yv), (6, .bool false), (8, .pointer (some ⟨t, 0, none⟩)), (9, .pointer (some ⟨s, 0, none⟩)), (11, .pointer (some ⟨u, 0, none⟩)), (14, .int .i64 V.hist.length), (15, kv), (19, wv), (23, fv), (24, .int .i64 0)] (stK 127 s src find V1 n a :: N1) ⟨rfl, rfl, rfl, rfl, rfl, rfl, rfl, rfl, rfl, rfl, rfl, rfl, trivial⟩ ?_
    ⟨0, V1, n, a, [], by omega, rfl, by rw [List.append_nil], Nat.le_refl 0, by omega, by omega, rfl, rfl⟩ ?_
  · rw [hN1]
    exact Ent.refl _
  have hl1l : l1.length ≤ 4611686018427387904 := by omega
  rintro mm e L ⟨i, U, n, a, r, hi, rfl, hU, hh, hn, ha, rfl, rfl⟩
  have hV1l : V1.hist.length = V.hist.length + 1 := by rw [hV1, List.length_append, List.length_singleton]
  have hUl1 : U.hist.length ≤ xs.length + 1 + i := by rw [hU, List.length_append, hV1l]; omega
  conv => whnf
  refine LenG.rd hyr ?_
  conv => whnf
  refine CondG.dec (fun h1 => ?_) (fun h1 => ?_)
  · have hil : i < ys.length := by omega
    obtain ⟨x0, x1, x2⟩ := stpC_at hil
    obtain ⟨x, hxi⟩ : ∃ x, x = ys[i] := ⟨_, rfl⟩
    have hxm : x ∈ ys := by rw [hxi]; exact List.getElem_mem hil
    rw [← hxi] at x0 x1 x2
    conv => whnf
    refine IdxG.rd hyr (by omega) fun cb o hcc => ?_
    conv => whnf
    refine LoadG.atF (v := .int .i64 x.kind) (hcc.one (i := ((i : Nat) : Int).toNat * 4) (by rw [Int.toNat_natCast]; exact x0)) ?_
    clear hcc
    conv => whnf
    refine CondG.dec (fun h3 => ?_) (fun h3 => ?_)
    · conv => whnf
      refine CallG.of (pre := [stK 127 s src find U n a]) (rest := N1) (mark_k _ s src U n a (by omega) (by omega)) (Ent.refl _) ?_
      rintro _ _ ⟨rfl, rfl⟩
      conv => whnf
      refine ArithG.i64' ((i + 1 : Nat) : Int) (by omega) (by omega) ?_
      conv => whnf
      exact ⟨ys.length - (i + 1), [(0, pv), (1, xv), (2, yv), (6, .bool false), (8, .pointer (some ⟨t, 0, none⟩)), (9, .pointer (some ⟨s, 0, none⟩)), (11, .pointer (some ⟨u, 0, none⟩)), (14, .int .i64 V.hist.length), (15, kv), (19, wv), (23, fv), (24, .int .i64 ((i + 1 : Nat) : Int))], _, by omega, ⟨rfl, rfl, rfl, rfl, rfl, rfl, rfl, rfl, rfl, rfl, rfl, rfl, trivial⟩, Ent.refl _, i + 1, ⟨U.now, U.hist ++ [U.now]⟩, n, a, r ++ [U.now], by omega, rfl, by rw [hU, List.append_assoc], by rw [List.length_append, List.length_singleton]; omega, by omega, by omega, rfl, rfl⟩
    · conv => whnf
      refine DrawG.mk 12 N1 [stK 127 s src find U n a] (Ent.refl _) ?_
      conv => whnf
      refine .take 0 ?_
      conv => whnf
      refine ⟨rfl, ?_⟩
      conv => whnf
      refine .take 1 ?_
      conv => whnf
      refine ⟨rfl, ?_⟩
      conv => whnf
      refine .take 2 ?_
      conv => whnf
      refine ⟨rfl, ?_⟩
      conv => whnf
      refine .take 3 ?_
      conv => whnf
      refine ⟨rfl, ?_⟩
      conv => whnf
      refine IdxG.rd hyr (by omega) fun cb o hcc => ?_
      conv => whnf
      refine .take 4 ?_
      conv => whnf
      refine ⟨rfl, ?_⟩
      conv => whnf
      refine .take 5 ?_
      conv => whnf
      refine ⟨rfl, ?_⟩
      conv => whnf
      refine LoadG.atF (v := .string x.key) (hcc.one (i := ((i : Nat) : Int).toNat * 4 + 1) (by rw [Int.toNat_natCast]; exact x1)) ?_
      clear hcc
      conv => whnf
      refine .take 6 ?_
      conv => whnf
      refine ⟨rfl, ?_⟩
      conv => whnf
      refine .take 7 ?_
      conv => whnf
      refine ⟨rfl, ?_⟩
      conv => whnf
      refine .take 8 ?_
      conv => whnf
      refine ⟨rfl, ?_⟩
      conv => whnf
      refine IdxG.rd hyr (by omega) fun cb o hcc => ?_
      conv => whnf
      refine .take 9 ?_
      conv => whnf
      refine ⟨rfl, ?_⟩
      conv => whnf
      refine .take 10 ?_
      conv => whnf
      refine ⟨rfl, ?_⟩
      conv => whnf
      refine LoadG.atF (v := x.v) (hcc.one (i := ((i : Nat) : Int).toNat * 4 + 2) (by rw [Int.toNat_natCast]; exact x2)) ?_
      clear hcc
      conv => whnf
      refine .all ?_
      conv => whnf
      refine ⟨by decide, ?_⟩
      conv => whnf
      refine CallG.of (pre := [stK 127 s src find U n a]) (rest := []) (put_e _ s src U n a x.key x.v x.bs hsM ho (.right (hy x hxm) N1) (by omega)) (by rw [List.append_nil]; exact Ent.refl _) ?_
      rintro _ _ ⟨rfl, rfl⟩
      conv => whnf
      refine ⟨rfl, ?_⟩
      conv => whnf
      refine ArithG.i64' ((i + 1 : Nat) : Int) (by omega) (by omega) ?_
      conv => whnf
      exact ⟨ys.length - (i + 1), [(0, pv), (1, xv), (2, yv), (6, .bool false), (8, .pointer (some ⟨t, 0, none⟩)), (9, .pointer (some ⟨s, 0, none⟩)), (11, .pointer (some ⟨u, 0, none⟩)), (14, .int .i64 V.hist.length), (15, kv), (19, wv), (23, fv), (24, .int .i64 ((i + 1 : Nat) : Int))], _, by omega, ⟨rfl, rfl, rfl, rfl, rfl, rfl, rfl, rfl, rfl, rfl, rfl, rfl, trivial⟩, Ent.refl _, i + 1, putV U x.key x.bs, n + 1, a + 1, r, by omega, rfl, by rw [putV_hist]; exact hU, by omega, by omega, by omega, rfl, rfl⟩
  have hk1 := back_keep (V := V) (U := U) (r := r) (by rw [hU, hV1])
  rw [← hV1] at hk1
  have hk2 := back_none (V := V1) (m := ((V.hist.length + 1 : Nat) : Int)) (by rw [hV1l]; exact Int.le_refl _)
  conv => whnf
  refine CallG.of (pre := [stK 127 s src find U n a]) (rest := N1) (back_k _ s src U n a (by omega) (by omega) V.hist.length (by omega) (by omega)) (Ent.refl _) ?_
  rintro _ _ ⟨rfl, rfl⟩
  rw [hk1.1, hk1.2]
  conv => whnf
  refine ArithG.i64' ((V.hist.length + 1 : Nat) : Int) (by omega) (by omega) ?_
  conv => whnf
  refine CallG.of (pre := [stK 127 s src find V1 n a]) (rest := N1) (back_k _ s src V1 n a (by omega) (by omega) ((V.hist.length + 1 : Nat) : Int) (by omega) (by omega)) (Ent.refl _) ?_
  rintro _ _ ⟨rfl, rfl⟩
  rw [hk2.1, hk2.2]
  conv => whnf
  refine CallG.of (pre := [stK 127 s src find V1 n a]) (rest := N1) (changes_k _ s src V1 n a (by omega)) (Ent.refl _) ?_
  rintro gv _ ⟨l2, hl2, hgv, hgs, _, rfl⟩
  have hsame := hl1.same hl2
  conv => whnf
  rw [hN1]
  obtain ⟨N2, hN2⟩ : ∃ N2, N2 = own 3 gv l2.length (l2.flatMap ChD.cells) :: (chS l2 ++ (own 3 fv l1.length (l1.flatMap ChD.cells) :: (chS l1 ++ [own 1 wv ws.length (fstsW ws)]))) := ⟨_, rfl⟩
  have hV0h : V0.hist = [] := by rw [hV0]
  refine LoopG.mk (fun mm e L => ∃ (i : Nat) (a b : Nat), i ≤ ks.length ∧ mm = ks.length - i ∧ a ≤ (xs.length + ks.length + ys.length) + i ∧ b ≤ 0 + i ∧
      e = [(0, pv), (1, xv), (2, yv), (6, .bool false), (8, .pointer (some ⟨t, 0, none⟩)), (9, .pointer (some ⟨s, 0, none⟩)), (11, .pointer (some ⟨u, 0, none⟩)), (14, .int .i64 V.hist.length), (15, kv), (19, wv), (23, fv), (25, .int .i64 0), (26, .int .i64 72), (27, gv), (28, .int .i64 i)] ∧ L = stK 127 s src find V1 n a :: stK 127 u src find V0 0 b :: (N2 ++ (wasL ws ++ N))) ks.length
    [(0, pv), (1, xv), (2, yv), (6, .bool false), (8, .pointer (some ⟨t, 0, none⟩)), (9, .pointer (some ⟨s, 0, none⟩)), (11, .pointer (some ⟨u, 0, none⟩)), (14, .int .i64 V.hist.length), (15, kv), (19, wv), (23, fv), (25, .int .i64 0), (26, .int .i64 72), (27, gv), (28, .int .i64 0)] (stK 127 s src find V1 n a :: stK 127 u src find V0 0 0 :: (N2 ++ (wasL ws ++ N))) ⟨rfl, rfl, rfl, rfl, rfl, rfl, rfl, rfl, rfl, rfl, rfl, rfl, rfl, rfl, rfl, trivial⟩ ?_
    ⟨0, a, 0, by omega, rfl, by omega, by omega, rfl, rfl⟩ ?_
  · rw [hN2]
    refine Ent.cons _ (Ent.perm ?_)
    have h := List.perm_middle (a := stK 127 u src find V0 0 0) (l₁ := own 3 gv l2.length (l2.flatMap ChD.cells) :: (chS l2 ++ (own 3 fv l1.length (l1.flatMap ChD.cells) :: (chS l1 ++ [own 1 wv ws.length (fstsW ws)])))) (l₂ := wasL ws ++ N)
    simp only [List.append_assoc, List.cons_append, List.nil_append] at h
    simp only [List.append_eq, List.append_assoc, List.cons_append, List.nil_append]
    exact h
  have hV1b : V1.hist.length ≤ 4398046511104 := by
    have : V1.hist.length = V.hist.length + 1 := by rw [hV1, List.length_append, List.length_singleton]
    omega
  have hnb : ((V1.hist.length : Int) = ((V.hist.length + 1 : Nat) : Int)) := by rw [hV1, List.length_append, List.length_singleton]
  have han : xs.length + ks.length + ys.length ≤ 17179869184 := by omega
  have hnn : n ≤ 4294967296 := by omega
  clear ha hn hU hh hk1
  rintro mm e L ⟨i, a, b, hi, rfl, ha, hb, rfl, rfl⟩
  conv => whnf
  refine LenG.sl hkv ?_
  conv => whnf
  refine CondG.dec (fun h1 => ?_) (fun h1 => ?_)
  · have hil : i < ks.length := by omega
    have hwsl : ws.length = ks.length := by
      have := congrArg List.length hw
      simpa using this
    obtain ⟨p, hp⟩ : ∃ p, ws[i]? = some p := ⟨ws[i]'(by omega), List.getElem?_eq_getElem _⟩
    have hpm := List.mem_of_getElem? hp
    have hp2 : p.2 = gotV V1 ks[i] := by
      have h := congrArg (fun z => z[i]?) hw
      simp only [List.getElem?_map, hp, Option.map_some, List.getElem?_eq_getElem hil, Option.some.injEq] at h
      exact h
    have rk : ∀ M, RdS (M ++ (wasL ws ++ N)) kv ks.length (keysB ks) := fun M => .right (.right hrN _) M
    conv => whnf
    refine IdxG.rd (rk (stK 127 s src find V1 n a :: stK 127 u src find V0 0 b :: N2)) (by omega) fun cb o hcc => ?_
    conv => whnf
    refine LoadG.at (v := .string ks[i]) (hcc.one (kB i hil)) ?_
    clear hcc
    conv => whnf
    refine CallG.of (pre := [stK 127 s src find V1 n a]) (rest := stK 127 u src find V0 0 b :: (N2 ++ (wasL ws ++ N))) (get_e _ s src V1 n a ks[i] (by
      have h := hsN.left (stK 127 u src find V0 0 b :: (N2 ++ wasL ws))
      simpa only [List.append_assoc, List.cons_append] using h) ho) (Ent.refl _) ?_
    rintro _ _ ⟨x, hx1, rfl, rfl⟩
    conv => whnf
    refine IdxG.rd (rk (own 1 x (gotV V1 ks[i]).length (bvs (gotV V1 ks[i])) :: stK 127 s src find V1 n (a + 1) :: stK 127 u src find V0 0 b :: N2)) (by omega) fun cb o hcc => ?_
    conv => whnf
    refine LoadG.at (v := .string ks[i]) (hcc.one (kB i hil)) ?_
    clear hcc
    conv => whnf
    refine CallG.of (pre := [stK 127 u src find V0 0 b]) (rest := own 1 x (gotV V1 ks[i]).length (bvs (gotV V1 ks[i])) :: stK 127 s src find V1 n (a + 1) :: (N2 ++ (wasL ws ++ N))) (get_e _ u src V0 0 b ks[i] (by
      have h := hsN.left (own 1 x (gotV V1 ks[i]).length (bvs (gotV V1 ks[i])) :: stK 127 s src find V1 n (a + 1) :: (N2 ++ wasL ws))
      simpa only [List.append_assoc, List.cons_append] using h) ho) (Ent.front 2 rfl) ?_
    rintro _ _ ⟨y, hy1, rfl, rfl⟩
    conv => whnf
    refine IdxG.rd (rk (own 1 y (gotV V0 ks[i]).length (bvs (gotV V0 ks[i])) :: stK 127 u src find V0 0 (b + 1) :: own 1 x (gotV V1 ks[i]).length (bvs (gotV V1 ks[i])) :: stK 127 s src find V1 n (a + 1) :: N2)) (by omega) fun cb o hcc => ?_
    conv => whnf
    refine LoadG.at (v := .string ks[i]) (hcc.one (kB i hil)) ?_
    clear hcc
    conv => whnf
    have hfk : SpecF Tryd.prog 42 [.pointer (some ⟨t, 0, none⟩), .string ks[i]] ((own 1 y (gotV V0 ks[i]).length (bvs (gotV V0 ks[i])) :: stK 127 u src find V0 0 (b + 1) :: own 1 x (gotV V1 ks[i]).length (bvs (gotV V1 ks[i])) :: stK 127 s src find V1 n (a + 1) :: (N2 ++ (wasL ws ++ N))) ++ F) [] (fun v L => ∃ x, SlV x (find ks[i]).1.length ∧ v = .tuple #[x, .int .i64 (find ks[i]).2] ∧ L = [own 1 x (find ks[i]).1.length (bvs (find ks[i]).1)]) := by
      have h := hF ks[i] (own 1 y (gotV V0 ks[i]).length (bvs (gotV V0 ks[i])) :: stK 127 u src find V0 0 (b + 1) :: own 1 x (gotV V1 ks[i]).length (bvs (gotV V1 ks[i])) :: stK 127 s src find V1 n (a + 1) :: (N2 ++ (wasL ws ++ [own 1 kv ks.length (keysB ks)])))
      rw [hN]
      simpa only [List.append_assoc, List.cons_append, List.nil_append] using h
    refine CallG.pure hfk ?_
    rintro _ _ ⟨z, hz1, rfl, rfl⟩
    have rwv : RdS N2 wv ws.length (fstsW ws) := by
      rw [hN2]
      exact .tl (.right (.tl (.right (own_rd hwv (by rw [fstsW, List.length_map, Nat.mul_one])) _)) _)
    have rx : ∀ (A : List HP) (q : Value) (bs : List Nat), SlV q bs.length → RdS (own 1 q bs.length (bvs bs) :: A) q bs.length (bvs bs) := fun A q bs h => own_rd h (by rw [bvs_len, Nat.mul_one])
    conv => whnf
    have rwL : RdS (own 1 z (find ks[i]).1.length (bvs (find ks[i]).1) :: own 1 y (gotV V0 ks[i]).length (bvs (gotV V0 ks[i])) :: stK 127 u src find V0 0 (b + 1) :: own 1 x (gotV V1 ks[i]).length (bvs (gotV V1 ks[i])) :: stK 127 s src find V1 n (a + 1) :: (N2 ++ (wasL ws ++ N))) wv ws.length (fstsW ws) := .tl (.tl (.tl (.tl (.tl (rwv.left _)))))
    refine IdxG.rd rwL (by omega) fun cb o hcc => ?_
    conv => whnf
    refine LoadG.at (v := p.1) (hcc.one (i := ((i : Nat) : Int).toNat * 1) (by rw [Int.toNat_natCast, Nat.mul_one, fstsW, List.getElem?_map, hp]; rfl)) ?_
    clear hcc
    conv => whnf
    refine CallG.pure (bytes_same _ x p.1 (gotV V1 ks[i]) p.2 (.left (.tl (.tl (.tl (rx _ x _ hx1)))) _) (.left (.tl (.tl (.tl (.tl (.tl (.right (wasL_rd hpm (hws p hpm)) N2)))))) _)) ?_
    rintro _ _ ⟨rfl, rfl⟩
    have e1 : decide (strB (gotV V1 ks[i]) = strB p.2) = true := by rw [hp2]; simp
    rw [e1]
    (conv => whnf); repeat ((with_reducible first | refine .tt ?_ | refine .ff ?_ | refine .ntt ?_ | refine .nff ?_); conv => whnf)
    refine CallG.pure (bytes_same _ y z (gotV V0 ks[i]) (find ks[i]).1 (.left (.tl (rx _ y _ hy1)) _) (.left (rx _ z _ hz1) _)) ?_
    rintro _ _ ⟨rfl, rfl⟩
    have e2 : decide (strB (gotV V0 ks[i]) = strB (find ks[i]).1) = true := by rw [hV0, hg]; simp
    rw [e2]
    (conv => whnf); repeat ((with_reducible first | refine .tt ?_ | refine .ff ?_ | refine .ntt ?_ | refine .nff ?_); conv => whnf)
    refine ArithG.i64' ((i + 1 : Nat) : Int) (by omega) (by omega) ?_
    conv => whnf
    refine ⟨ks.length - (i + 1), [(0, pv), (1, xv), (2, yv), (6, .bool false), (8, .pointer (some ⟨t, 0, none⟩)), (9, .pointer (some ⟨s, 0, none⟩)), (11, .pointer (some ⟨u, 0, none⟩)), (14, .int .i64 V.hist.length), (15, kv), (19, wv), (23, fv), (25, .int .i64 0), (26, .int .i64 72), (27, gv), (28, .int .i64 ((i + 1 : Nat) : Int))], _, by omega, ⟨rfl, rfl, rfl, rfl, rfl, rfl, rfl, rfl, rfl, rfl, rfl, rfl, rfl, rfl, rfl, trivial⟩, ?_, i + 1, a + 1, b + 1, by omega, rfl, by omega, by omega, rfl, rfl⟩
    exact Ent.sel (T := N2 ++ (wasL ws ++ N)) (A := [_, _, _, _, _]) [4, 2] rfl
  conv => whnf
  refine CallG.of (pre := [stK 127 s src find V1 n a]) (rest := stK 127 u src find V0 0 b :: (N2 ++ (wasL ws ++ N))) (mark_k _ s src V1 n a (by omega) (by omega)) (Ent.refl _) ?_
  rintro _ _ ⟨rfl, rfl⟩
  conv => whnf
  refine CallG.of (pre := [stK 127 u src find V0 0 b]) (rest := stK 127 s src find ⟨V1.now, V1.hist ++ [V1.now]⟩ n a :: (N2 ++ (wasL ws ++ N))) (changes_k _ u src V0 0 b (by omega)) (Ent.front 1 rfl) ?_
  rintro nv _ ⟨l3, hl3, hnv, _, _, rfl⟩
  rw [hV0] at hl3
  obtain rfl := chIs_none hl3
  have rfv : RdS N2 fv l1.length (l1.flatMap ChD.cells) ∧ ChRd N2 l1 := by
    rw [hN2]
    exact ⟨.tl (.right (own_rd hfv (chC_len l1)) _), fun d hd => ⟨.tl (.right (.tl (chS_rd hfs d hd).1) _), .tl (.right (.tl (chS_rd hfs d hd).2) _)⟩⟩
  have rgv : RdS N2 gv l2.length (l2.flatMap ChD.cells) ∧ ChRd N2 l2 := by
    rw [hN2]
    exact ⟨own_rd hgv (chC_len l2), fun d hd => ⟨.tl (chS_rd hgs d hd).1, .tl (chS_rd hgs d hd).2⟩⟩
  conv => whnf
  refine CondG.dec (fun _ => ?_) (fun h => absurd rfl h)
  (conv => whnf); repeat ((with_reducible first | refine .tt ?_ | refine .ff ?_ | refine .ntt ?_ | refine .nff ?_); conv => whnf)
  refine CondG.dec (fun _ => ?_) (fun h => absurd rfl h)
  (conv => whnf); repeat ((with_reducible first | refine .tt ?_ | refine .ff ?_ | refine .ntt ?_ | refine .nff ?_); conv => whnf)
  refine ArithG.i64' ((V.hist.length + 1 : Nat) : Int) (by omega) (by omega) ?_
  (conv => whnf); repeat ((with_reducible first | refine .tt ?_ | refine .ff ?_ | refine .ntt ?_ | refine .nff ?_); conv => whnf)
  refine CondG.dec (fun _ => ?_) (fun h => absurd hnb h)
  (conv => whnf); repeat ((with_reducible first | refine .tt ?_ | refine .ff ?_ | refine .ntt ?_ | refine .nff ?_); conv => whnf)
  refine CallG.pure (changes_same _ fv gv l1 l2 hl1l hsame (.left (.tl (.tl (.tl (rfv.1.left _)))) _) (.left (.tl (.tl (.tl (rgv.1.left _)))) _) (fun d hd => ⟨.left (.tl (.tl (.tl ((rfv.2 d hd).1.left _)))) _, .left (.tl (.tl (.tl ((rfv.2 d hd).2.left _)))) _⟩) (fun d hd => ⟨.left (.tl (.tl (.tl ((rgv.2 d hd).1.left _)))) _, .left (.tl (.tl (.tl ((rgv.2 d hd).2.left _)))) _⟩)) ?_
  rintro _ _ ⟨rfl, rfl⟩
  (conv => whnf); repeat ((with_reducible first | refine .tt ?_ | refine .ff ?_ | refine .ntt ?_ | refine .nff ?_); conv => whnf)
  refine LenG.sl hnv ?_
  (conv => whnf); repeat ((with_reducible first | refine .tt ?_ | refine .ff ?_ | refine .ntt ?_ | refine .nff ?_); conv => whnf)
  exact ⟨_, Ent.refl _, rfl⟩
end
end Go.Proofs.YtnbcbdlbejdkpaaDoor
