import Derived.Test.YtnbcbdlbejdkpaaDoorLz
import Derived.Test.YtnbcbdlbejdkpaaDoorZLp
import Derived.Test.YtnbcbdlbejdkpaaDoorZGv
import Derived.Test.YtnbcbdlbejdkpaaDoorZDg
import Derived.Test.YtnbcbdlbejdkpaaDoorZKc
namespace Go.Proofs.YtnbcbdlbejdkpaaDoor
open Go Go.Sl
theorem lpick_spec (F : List HP) (c : Int) (n : Nat) (h1 : -9223372036854775808 ≤ c) (h2 : c ≤ 9223372036854775807) (hn : 0 < n) : SpecF Tryd.prog 11 [.int .i64 c, .int .i64 n] F [] (fun v L => v = .int .i64 (pickN c n) ∧ L = []) := by
  have ht := pickN_tmod (c := c) (n := n)
  refine fun11.spec rfl ?_
  conv=>whnf
  refine CondG.dec (fun h => ?_) (fun h => ?_)
  · conv=>whnf
    refine ArithG.i64 (by omega) ?_
    conv=>whnf
    refine ArithG.i64' (-(c + 1)) (by omega) (by omega) ?_
    conv=>whnf
    refine SideG.of (by omega) ?_
    conv=>whnf
    rw [if_pos h] at ht
    rw [ht]
    exact ret_here ⟨rfl, rfl⟩
  · conv=>whnf
    refine SideG.of (by omega) ?_
    conv=>whnf
    rw [if_neg h] at ht
    rw [ht]
    exact ret_here ⟨rfl, rfl⟩
def V0 : View := ⟨fun _ => [], []⟩
theorem tabOk : SrcOk (tabFind []) where
  ok k h := by unfold tabFind; rw [if_neg (by omega)]
  len k := tabFind_len (by simp) k
theorem lv_nil (hb nb : Nat) (a b : Value) (k : ByteArray) : lv (tabFind []) (StC.mk [] [] [] [] hb nb a b) k = [] := by
  show (tabFind [] k).1 = []
  unfold tabFind
  split <;> rfl
theorem over_nil (F : List HP) : SpecF Tryd.prog 10 [.slice none 0 0] F [] (fun r L => ∃ s t vb q ob, r = .pointer (some ⟨s, 0, none⟩) ∧ L = stP 127 s (.iface 87 (.pointer (some ⟨t, 0, none⟩))) (tabFind []) V0 0 :: emptyL 154 177 t vb q ob) := by
  refine fun10.spec rfl ?_
  conv=>whnf
  refine CallG.pure (newTable_spec _) ?_
  rintro _ _ ⟨t, rfl, vb, q, ob, rfl⟩
  (conv=>whnf); repeat ((with_reducible first | refine .tt ?_ | refine .ff ?_); conv=>whnf)
  refine LoopG.mk (fun m ev L => ev = [(0, .slice none 0 0), (3, .pointer (some ⟨t, 0, none⟩)), (4, .int .i64 0)] ∧ L = emptyL 154 177 t vb q ob ++ []) 0 [(0, .slice none 0 0), (3, .pointer (some ⟨t, 0, none⟩)), (4, .int .i64 0)] _ ⟨rfl, rfl, rfl, trivial⟩ (Ent.refl _) ⟨rfl, rfl⟩ ?_
  rintro m ev L ⟨rfl, rfl⟩
  conv=>whnf
  refine LenG.lit ?_
  conv=>whnf
  refine CondG.ff ?_
  conv=>whnf
  refine CallG.pure (over_spec _ _ _) ?_
  rintro _ _ ⟨s, rfl, hb, nb, rfl⟩
  conv=>whnf
  refine CondG.ff ?_
  conv=>whnf
  refine ⟨stP 127 s (.iface 87 (.pointer (some ⟨t, 0, none⟩))) (tabFind []) V0 0 :: emptyL 154 177 t vb q ob, ?_, s, t, vb, q, ob, rfl, rfl⟩
  exact Ent.pack (L := emptyL 154 177 t vb q ob) (φ := At (tabFind []) V0 0) (ls := fun c => StC.pieces 127 s (.iface 87 (.pointer (some ⟨t, 0, none⟩))) c) ⟨lv_nil hb nb _ _, ⟨by simp, by simp, by simp⟩, Nat.le_refl 0, rfl, List.Pairwise.nil, fun j a f h => by simp at h⟩
theorem empty_src (F : List HP) (t vb q ob : Nat) : SrcG Tryd.prog (emptyL 154 177 t vb q ob ++ F) (.iface 87 (.pointer (some ⟨t, 0, none⟩))) (tabFind []) :=
  tab_src _ t vb [] (.left (.here rfl) F) (.left (.tl .here) F) (by simp)
def kA : List Nat := 1 :: List.replicate 19 0
def kB : List Nat := 2 :: List.replicate 19 0
theorem kw (n : Nat) (h : n < m64) : wOk [n, 0, 0, 0] := ⟨rfl, fun x hx => by
  simp only [List.mem_cons, List.not_mem_nil, or_false] at hx
  rcases hx with rfl | rfl | rfl | rfl
  · exact h
  all_goals decide⟩
theorem lknown_spec (F : List HP) : SpecF Tryd.prog 9 [] F [] (fun v L => v = .bool true ∧ L = []) := by
  refine fun9.spec rfl ?_
  conv=>whnf
  refine CallG.pure (over_nil _) ?_
  rintro _ _ ⟨s, t, vb, q, ob, rfl, rfl⟩
  (conv=>whnf); repeat ((with_reducible first | refine .tt ?_ | refine .ff ?_); conv=>whnf)
  refine BuildG.of (cs := bvs kA) rfl ?_
  conv=>whnf
  intro b2
  conv=>whnf
  refine StoreG.at rfl (Upd.whole rfl (bvs_one kA)) ?_
  conv=>whnf
  refine BuildG.of (cs := bvs kB) rfl ?_
  conv=>whnf
  intro b3
  conv=>whnf
  refine StoreG.at rfl (Upd.whole rfl (bvs_one kB)) ?_
  conv=>whnf
  have hsrc := (empty_src F t vb q ob).left [cel b3 33 (bvs kB), cel b2 33 (bvs kA)]
  refine CallG.of (pre := [stP 127 s _ (tabFind []) V0 0]) (rest := cel b3 33 (bvs kB) :: cel b2 33 (bvs kA) :: emptyL 154 177 t vb q ob) (register_at _ s _ V0 0 5 hsrc tabOk (by decide)) (Ent.sel (T := emptyL 154 177 t vb q ob) (A := [_, _, _]) [2, 0, 1] rfl) ?_
  rintro _ _ ⟨rfl, rfl⟩
  have r1 : (registerL V0 5).1 = 0 := by decide +kernel
  obtain ⟨V1, hV1⟩ : ∃ V, V = (registerL V0 5).2 := ⟨_, rfl⟩
  rw [r1, ← hV1]
  conv=>whnf
  refine LoadNG.at (vs := bvs kA) rfl (.tl (.tl .all)) ?_
  conv=>whnf
  refine BuildG.of (cs := uvs [10, 0, 0, 0]) rfl ?_
  conv=>whnf
  refine CallG.of (pre := [stP 127 s _ (tabFind []) V1 2]) (rest := cel b3 33 (bvs kB) :: cel b2 33 (bvs kA) :: emptyL 154 177 t vb q ob) (mint_at _ s _ V1 2 5 kA [10, 0, 0, 0] rfl (kw 10 (by decide)) hsrc tabOk (by decide)) (Ent.refl _) ?_
  rintro _ _ ⟨rfl, rfl⟩
  have r2 : (mintL V1 5 kA [10, 0, 0, 0]).1 = 0 := by rw [hV1]; decide +kernel
  obtain ⟨V2, hV2⟩ : ∃ V, V = (mintL V1 5 kA [10, 0, 0, 0]).2 := ⟨_, rfl⟩
  rw [r2, ← hV2]
  conv=>whnf
  refine LoadNG.at (vs := bvs kA) rfl (.tl (.tl .all)) ?_
  conv=>whnf
  refine LoadNG.at (vs := bvs kB) rfl (.tl .all) ?_
  conv=>whnf
  refine BuildG.of (cs := uvs [4, 0, 0, 0]) rfl ?_
  conv=>whnf
  refine CallG.of (pre := [stP 127 s _ (tabFind []) V2 4]) (rest := cel b3 33 (bvs kB) :: cel b2 33 (bvs kA) :: emptyL 154 177 t vb q ob) (move_at _ s _ V2 4 5 kA kB [4, 0, 0, 0] rfl rfl (kw 4 (by decide)) hsrc tabOk (by decide)) (Ent.refl _) ?_
  rintro _ _ ⟨rfl, rfl⟩
  have r3 : (moveL V2 5 kA kB [4, 0, 0, 0]).1 = 0 := by rw [hV2, hV1]; decide +kernel
  obtain ⟨V3, hV3⟩ : ∃ V, V = (moveL V2 5 kA kB [4, 0, 0, 0]).2 := ⟨_, rfl⟩
  rw [r3, ← hV3]
  conv=>whnf
  refine LoadNG.at (vs := bvs kA) rfl (.tl (.tl .all)) ?_
  conv=>whnf
  refine LoadNG.at (vs := bvs kB) rfl (.tl .all) ?_
  conv=>whnf
  refine BuildG.of (cs := uvs [7, 0, 0, 0]) rfl ?_
  conv=>whnf
  refine CallG.of (pre := [stP 127 s _ (tabFind []) V3 6]) (rest := cel b3 33 (bvs kB) :: cel b2 33 (bvs kA) :: emptyL 154 177 t vb q ob) (move_at _ s _ V3 6 5 kA kB [7, 0, 0, 0] rfl rfl (kw 7 (by decide)) hsrc tabOk (by decide)) (Ent.refl _) ?_
  rintro _ _ ⟨rfl, rfl⟩
  have r4 : (moveL V3 5 kA kB [7, 0, 0, 0]).1 = 85 := by rw [hV3, hV2, hV1]; decide +kernel
  have e5 : balL (moveL V3 5 kA kB [7, 0, 0, 0]).2 5 kA = ([6, 0, 0, 0], 0) := by rw [hV3, hV2, hV1]; decide +kernel
  have e6 : balL (moveL V3 5 kA kB [7, 0, 0, 0]).2 5 kB = ([4, 0, 0, 0], 0) := by rw [hV3, hV2, hV1]; decide +kernel
  have e7 : tokenL (moveL V3 5 kA kB [7, 0, 0, 0]).2 5 = (⟨true, false, [10, 0, 0, 0]⟩, 0) := by rw [hV3, hV2, hV1]; decide +kernel
  generalize (moveL V3 5 kA kB [7, 0, 0, 0]).2 = V4 at *
  rw [r4]
  conv=>whnf
  refine LoadNG.at (vs := bvs kA) rfl (.tl (.tl .all)) ?_
  conv=>whnf
  refine CallG.of (pre := [stP 127 s _ (tabFind []) V4 8]) (rest := cel b3 33 (bvs kB) :: cel b2 33 (bvs kA) :: emptyL 154 177 t vb q ob) (balance_at _ s _ V4 8 5 kA rfl hsrc tabOk) (Ent.refl _) ?_
  rintro _ _ ⟨rfl, rfl⟩
  rw [e5]
  conv=>whnf
  intro b8
  conv=>whnf
  refine StoreG.at rfl (Upd.whole rfl (uvs_one [6, 0, 0, 0])) ?_
  conv=>whnf
  refine LoadNG.at (vs := bvs kB) rfl (.tl (.tl .all)) ?_
  conv=>whnf
  refine CallG.of (pre := [stP 127 s _ (tabFind []) V4 8]) (rest := cel b8 25 (uvs [6, 0, 0, 0]) :: cel b3 33 (bvs kB) :: cel b2 33 (bvs kA) :: emptyL 154 177 t vb q ob) (balance_at _ s _ V4 8 5 kB rfl (hsrc.left [cel b8 25 (uvs [6, 0, 0, 0])]) tabOk) (Ent.perm (List.Perm.swap _ _ _)) ?_
  rintro _ _ ⟨rfl, rfl⟩
  rw [e6]
  conv=>whnf
  intro b10
  conv=>whnf
  refine StoreG.at rfl (Upd.whole rfl (uvs_one [4, 0, 0, 0])) ?_
  conv=>whnf
  refine CallG.of (pre := [stP 127 s _ (tabFind []) V4 8]) (rest := cel b10 25 (uvs [4, 0, 0, 0]) :: cel b8 25 (uvs [6, 0, 0, 0]) :: cel b3 33 (bvs kB) :: cel b2 33 (bvs kA) :: emptyL 154 177 t vb q ob) (token_at _ s _ V4 8 5 (hsrc.left [cel b10 25 (uvs [4, 0, 0, 0]), cel b8 25 (uvs [6, 0, 0, 0])]) tabOk) (Ent.perm (List.Perm.swap _ _ _)) ?_
  rintro _ _ ⟨rfl, rfl⟩
  rw [e7]
  conv=>whnf
  intro b12
  conv=>whnf
  refine StoreG.at rfl (Upd.whole rfl (TokD.cells_one ⟨true, false, [10, 0, 0, 0]⟩)) ?_
  conv=>whnf
  refine CondG.tt ?_
  (conv=>whnf); repeat ((with_reducible first | refine .tt ?_ | refine .ff ?_); conv=>whnf)
  refine CondG.tt ?_
  (conv=>whnf); repeat ((with_reducible first | refine .tt ?_ | refine .ff ?_); conv=>whnf)
  refine CondG.tt ?_
  (conv=>whnf); repeat ((with_reducible first | refine .tt ?_ | refine .ff ?_); conv=>whnf)
  refine CondG.tt ?_
  (conv=>whnf); repeat ((with_reducible first | refine .tt ?_ | refine .ff ?_); conv=>whnf)
  refine CondG.tt ?_
  (conv=>whnf); repeat ((with_reducible first | refine .tt ?_ | refine .ff ?_); conv=>whnf)
  refine CondG.tt ?_
  (conv=>whnf); repeat ((with_reducible first | refine .tt ?_ | refine .ff ?_); conv=>whnf)
  refine CondG.tt ?_
  conv=>whnf
  refine LoadNG.at (vs := uvs [6, 0, 0, 0]) rfl (.tl (.tl (.tl .all))) ?_
  (conv=>whnf); repeat ((with_reducible first | refine .tt ?_ | refine .ff ?_); conv=>whnf)
  refine BuildG.of (cs := uvs [6, 0, 0, 0]) rfl ?_
  (conv=>whnf); repeat ((with_reducible first | refine .tt ?_ | refine .ff ?_); conv=>whnf)
  refine DoesG.eqv 8 (List.replicate 4 (.int .u64)) (by kernel_rfl) (by decide) (by kernel_rfl) (by kernel_rfl) (wt_uvs (ws := [6, 0, 0, 0]) rfl) (wt_uvs (ws := [6, 0, 0, 0]) rfl) ?_
  (conv=>whnf); repeat ((with_reducible first | refine .tt ?_ | refine .ff ?_); conv=>whnf)
  refine CondG.split (fun _ => ?_) (fun h => absurd h (by simp))
  conv=>whnf
  refine LoadNG.at (vs := uvs [4, 0, 0, 0]) rfl (.tl (.tl .all)) ?_
  (conv=>whnf); repeat ((with_reducible first | refine .tt ?_ | refine .ff ?_); conv=>whnf)
  refine BuildG.of (cs := uvs [4, 0, 0, 0]) rfl ?_
  (conv=>whnf); repeat ((with_reducible first | refine .tt ?_ | refine .ff ?_); conv=>whnf)
  refine DoesG.eqv 8 (List.replicate 4 (.int .u64)) (by kernel_rfl) (by decide) (by kernel_rfl) (by kernel_rfl) (wt_uvs (ws := [4, 0, 0, 0]) rfl) (wt_uvs (ws := [4, 0, 0, 0]) rfl) ?_
  (conv=>whnf); repeat ((with_reducible first | refine .tt ?_ | refine .ff ?_); conv=>whnf)
  refine CondG.split (fun _ => ?_) (fun h => absurd h (by simp))
  (conv=>whnf); repeat ((with_reducible first | refine .tt ?_ | refine .ff ?_); conv=>whnf)
  refine LoadG.at (v := .bool true) (.here rfl) ?_
  (conv=>whnf); repeat ((with_reducible first | refine .tt ?_ | refine .ff ?_); conv=>whnf)
  refine LoadNG.at (vs := uvs [10, 0, 0, 0]) rfl (.here rfl) ?_
  (conv=>whnf); repeat ((with_reducible first | refine .tt ?_ | refine .ff ?_); conv=>whnf)
  refine BuildG.of (cs := uvs [10, 0, 0, 0]) rfl ?_
  (conv=>whnf); repeat ((with_reducible first | refine .tt ?_ | refine .ff ?_); conv=>whnf)
  refine DoesG.eqv 8 (List.replicate 4 (.int .u64)) (by kernel_rfl) (by decide) (by kernel_rfl) (by kernel_rfl) (wt_uvs (ws := [10, 0, 0, 0]) rfl) (wt_uvs (ws := [10, 0, 0, 0]) rfl) ?_
  (conv=>whnf); repeat ((with_reducible first | refine .tt ?_ | refine .ff ?_); conv=>whnf)
  exact ⟨[], Ent.nil _, by simp [retV], rfl⟩
end Go.Proofs.YtnbcbdlbejdkpaaDoor
namespace Go.Proofs.YtnbcbdlbejdkpaaDoor
open Go Go.Sl
theorem nvs_take (l : List Nat) (n : Nat) : (nvs l).take n = nvs (l.take n) := by simp [nvs, List.map_take]
theorem SliceG.rdA {a : Option Addr} {sz l h mx n c : Nat} {K : Value → Prop} (h1 : l ≤ h) (h2 : h ≤ n) (h3 : h ≤ mx) (h4 : mx ≤ c)
    (hk : ∀ v', (∀ (M : List HP) (cs : List Value), RdS M (.slice a n c) n cs → RdS M v' (h - l) ((cs.drop (l * sz)).take ((h - l) * sz))) → K v') : SliceG a sz l h mx K :=
  ⟨hk _ fun M cs hM => (SliceG.rd (K := fun v' => RdS M v' (h - l) ((cs.drop (l * sz)).take ((h - l) * sz))) hM h1 h2 h3 h4 fun _ h' _ => h').out⟩
theorem rcut_any (F : List HP) (v : Value) (l : List Nat) (hl : l.length ≤ 4611686018427387904) (hv : RdS F v l.length (nvs l)) : SpecF Tryd.prog 95 [v] F [] (fun r L => (∀ M : List HP, RdS M v l.length (nvs l) → RdS M r (cutL l).length (nvs (cutL l))) ∧ L = []) := by
  refine fun95.spec rfl ?_
  conv=>whnf
  refine LenG.rd hv ?_
  conv=>whnf
  refine LoopG.mk (fun mm e L => ∃ n, n ≤ l.length ∧ mm = n ∧ cutN l n = cutN l l.length ∧ e = [(0, v), (3, .int .i64 n)] ∧ L = []) l.length
    [(0, v), (3, .int .i64 l.length)] _ ⟨rfl, rfl, trivial⟩ (Ent.refl _) ⟨l.length, Nat.le_refl _, rfl, rfl, rfl, rfl⟩ ?_
  rintro n e L ⟨n', hn, rfl, hc, rfl, rfl⟩
  conv=>whnf
  have out : cutN l n = n → (nvs l).take n = nvs (cutL l) ∧ (cutL l).length = n := fun h => by
    refine ⟨?_, ?_⟩
    · rw [cutL, ← hc, h, nvs_take]
    · rw [cutL_len, ← hc, h]
  have leave : ∀ (K : Value → Prop), cutN l n = n → (∀ r, (∀ M : List HP, RdS M v l.length (nvs l) → RdS M r (cutL l).length (nvs (cutL l))) → K r) → SlcG v (fun a len cap => (fun a len cap => SideG (0 ≤ (0 : Int) ∧ (0 : Int) ≤ (n : Int) ∧ (n : Int) ≤ (cap : Int) ∧ (cap : Int) ≤ (cap : Int)) (SliceG a 1 (0 : Int).toNat (n : Int).toNat (cap : Int).toNat fun v => K v)) a len cap) := fun K h hK => by
    refine SlcG.rd hv fun a cap hva hcap => ?_
    refine SideG.of (by omega) ?_
    refine SliceG.rdA (n := l.length) (c := cap) (by omega) (by omega) (by omega) (by omega) fun v1 hv1 => ?_
    refine hK v1 fun M hM => ?_
    rw [hva] at hM
    have hv1 := hv1 M _ hM
    have e1 : ((nvs l).drop ((0 : Int).toNat * 1)).take ((((n : Nat) : Int).toNat - (0 : Int).toNat) * 1) = nvs (cutL l) := by
      rw [← (out h).1]
      simp
    have e2 : ((n : Nat) : Int).toNat - (0 : Int).toNat = (cutL l).length := by
      rw [(out h).2]
      simp
    rw [e1, e2] at hv1
    exact hv1
  refine CondG.dec (fun h1 => ?_) (fun h1 => ?_)
  · have hn1 : n - 1 < l.length := by omega
    (conv=>whnf); repeat ((with_reducible first | refine .tt ?_ | refine .ff ?_); conv=>whnf)
    refine ArithG.i64' ((n - 1 : Nat) : Int) (by omega) (by omega) ?_
    (conv=>whnf); repeat ((with_reducible first | refine .tt ?_ | refine .ff ?_); conv=>whnf)
    refine IdxG.rd hv (by omega) fun c o hcc => ?_
    (conv=>whnf); repeat ((with_reducible first | refine .tt ?_ | refine .ff ?_); conv=>whnf)
    refine LoadG.atF (v := .int .i64 l[n - 1]) (hcc.one (i := ((n - 1 : Nat) : Int).toNat * 1) (by rw [Int.toNat_natCast, Nat.mul_one]; exact nvs_get hn1)) ?_
    (conv=>whnf); repeat ((with_reducible first | refine .tt ?_ | refine .ff ?_); conv=>whnf)
    obtain ⟨k, rfl⟩ : ∃ k, n = k + 1 := ⟨n - 1, by omega⟩
    have hgd : l.getD k 0 = l[k]'(by omega) := by simp [List.getD, show k < l.length by omega]
    refine CondG.dec (fun h2 => ?_) (fun h2 => ?_)
    · conv=>whnf
      refine ArithG.i64' ((k : Nat) : Int) (by omega) (by omega) ?_
      conv=>whnf
      have hz : l.getD k 0 = 0 := by
        rw [hgd]
        have : (l[k + 1 - 1] : Nat) = 0 := by omega
        exact this
      refine ⟨k, [(0, v), (3, .int .i64 k)], _, by omega, ?_, Ent.refl _, k, by omega, rfl, ?_, rfl, rfl⟩
      · exact ⟨rfl, rfl, trivial⟩
      · rw [← hc, cutN, if_pos hz]
    · conv=>whnf
      have hz : ¬ l.getD k 0 = 0 := by
        rw [hgd]
        intro h
        apply h2
        have : (l[k + 1 - 1] : Nat) = 0 := h
        omega
      have hk : cutN l (k + 1) = k + 1 := by rw [cutN, if_neg hz]
      refine leave _ hk fun r hr => ?_
      conv=>whnf
      exact ret_here ⟨hr, rfl⟩
  · have h0 : n = 0 := by omega
    subst h0
    (conv=>whnf); repeat ((with_reducible first | refine .tt ?_ | refine .ff ?_); conv=>whnf)
    refine leave _ rfl fun r hr => ?_
    conv=>whnf
    exact ret_here ⟨hr, rfl⟩
theorem rcut_spec (F : List HP) (v : Value) (l : List Nat) (hl : l.length ≤ 4611686018427387904) (hv : RdS F v l.length (nvs l)) : SpecF Tryd.prog 95 [v] F [] (fun r L => RdS F r (cutL l).length (nvs (cutL l)) ∧ L = []) :=
  (rcut_any F v l hl hv).turn fun r L h => ⟨L, ⟨h.1 F hv, h.2⟩, Ent.refl _⟩
theorem and1 (x : Nat) (hx : x < 18446744073709551616) : IntKind.i64.wrap ((BitVec.ofInt IntKind.i64.bits (IntKind.i64.wrap (x : Int)) &&& BitVec.ofInt IntKind.i64.bits 1).toNat : Int) = ((x % 2 : Nat) : Int) := by
  have e1 : BitVec.ofInt 64 (IntKind.i64.wrap (x : Int)) = BitVec.ofNat 64 x := by
    rcases Nat.lt_or_ge x 9223372036854775808 with h | h
    · rw [i64_wrap (by omega) (by omega), BitVec.ofInt_natCast]
    · have : IntKind.i64.wrap (x : Int) = (x : Int) - 18446744073709551616 := by
        show (if (true && decide ((x : Int) % (2 ^ 64 : Int) ≥ (2 ^ (64 - 1) : Int))) = true then (x : Int) % (2 ^ 64 : Int) - (2 ^ 64 : Int) else (x : Int) % (2 ^ 64 : Int)) = _
        have e1 : (2 ^ 64 : Int) = 18446744073709551616 := by decide
        have e2 : (2 ^ (64 - 1) : Int) = 9223372036854775808 := by decide
        rw [e1, e2]
        simp only [Bool.true_and, decide_eq_true_eq]
        split <;> omega
      rw [this]
      apply BitVec.eq_of_toNat_eq
      rw [BitVec.toNat_ofInt, BitVec.toNat_ofNat]
      have : (((x : Int) - 18446744073709551616) % ((2 ^ 64 : Nat) : Int)) = (x : Int) := by
        have e : ((2 ^ 64 : Nat) : Int) = 18446744073709551616 := by decide
        rw [e]
        omega
      rw [this]
      omega
  show IntKind.i64.wrap ((BitVec.ofInt 64 (IntKind.i64.wrap (x : Int)) &&& BitVec.ofInt 64 1).toNat : Int) = _
  rw [e1, BitVec.toNat_and, BitVec.toNat_ofNat, Nat.mod_eq_of_lt hx]
  have e3 : (BitVec.ofInt 64 1).toNat = 1 := by decide
  rw [e3, Nat.and_one_is_mod, i64_wrap (by omega) (by omega)]
theorem intsT : ElT Tryd.prog 58 3 1 8 := .of (by kernel_rfl)
theorem digits_spec (F : List HP) (ws : List Nat) (hw : wOk ws) : SpecF Tryd.prog 57 [.agg ⟨uvs ws⟩] F [] (fun r L => ∃ b, RdS (cel b 3 (nvs (digs2 ws)) :: F) r (cutL (digs2 ws)).length (nvs (cutL (digs2 ws))) ∧ L = [cel b 3 (nvs (digs2 ws))]) := by
  have hl := digs2_len ws
  have hwl := hw.len
  refine fun57.spec rfl ?_
  conv=>whnf
  intro b1
  conv=>whnf
  refine DoesG.makeC (n := 256) (zv := .int .i64 0) intsT (by kernel_rfl) rfl .i64 .i64 (by decide) (by decide) fun b5 => ?_
  conv=>whnf
  refine LoopG.mk (fun mm e L => ∃ i, i ≤ 256 ∧ mm = 256 - i ∧ e = [(1, .pointer (some ⟨b1, 0, none⟩)), (3, .slice (some ⟨b5, 0, none⟩) 256 256), (4, .int .i64 i)] ∧ L = [cel b5 3 (nvs (fillD (digs2 ws) i)), cel b1 25 (uvs ws)]) 256
    [(1, .pointer (some ⟨b1, 0, none⟩)), (3, .slice (some ⟨b5, 0, none⟩) 256 256), (4, .int .i64 0)] _ ⟨rfl, rfl, rfl, trivial⟩ (Ent.refl _) ⟨0, by omega, rfl, rfl, by rw [fillD_zero]⟩ ?_
  rintro mm e L ⟨i, hi, rfl, rfl, rfl⟩
  conv=>whnf
  refine CondG.dec (fun h => ?_) (fun h => ?_)
  · have hi2 : i < 256 := by omega
    have hx := getD_lt hw (i / 64)
    conv=>whnf
    refine SideG.of (by decide) ?_
    conv=>whnf
    refine ArithG.i64' ((i / 64 : Nat) : Int) (by rw [Int.tdiv_eq_ediv_of_nonneg (by omega)]; omega) (by omega) ?_
    conv=>whnf
    refine SideG.of (by omega) ?_
    conv=>whnf
    refine LoadG.at (v := .int .u64 (ws.getD (i / 64) 0)) (.tl (.here (by rw [show 0 + ((i / 64 : Nat) : Int).toNat * 1 = i / 64 by omega]; exact uvs_at (by omega)))) ?_
    conv=>whnf
    refine SideG.of (by decide) ?_
    conv=>whnf
    have er : (i : Int).tmod 64 = ((i % 64 : Nat) : Int) := by rw [Int.tmod_eq_emod_of_nonneg (by omega)]; omega
    rw [er]
    refine SideG.of (by omega) ?_
    have es : ((ws.getD (i / 64) 0 : Nat) : Int).fdiv (2 ^ (min (((i % 64 : Nat) : Int)).toNat IntKind.u64.bits)) = ((ws.getD (i / 64) 0 / 2 ^ (i % 64) : Nat) : Int) := by
      have e : min (((i % 64 : Nat) : Int)).toNat IntKind.u64.bits = i % 64 := by
        rw [Int.toNat_natCast]
        exact Nat.min_eq_left (by show _ ≤ 64; omega)
      rw [e]
      exact fdiv_pow _ _
    rw [es]
    conv=>whnf
    refine ArithG.all ?_
    conv=>whnf
    have hy : ws.getD (i / 64) 0 / 2 ^ (i % 64) < 18446744073709551616 := Nat.lt_of_le_of_lt (Nat.div_le_self _ _) hx
    rw [and1 _ hy]
    refine ⟨b5, 0, 256, 256, rfl, by omega, ?_⟩
    conv=>whnf
    have hg := digs2_get ws hi2
    have hget : (digs2 ws)[i]'(by omega) = ws.getD (i / 64) 0 / 2 ^ (i % 64) % 2 := (List.getElem?_eq_some_iff.1 hg).2
    refine StoreG.at (cs := [_]) rfl (Upd.here (by rw [nvs_len, fillD_len hl hi]; omega) rfl) ?_
    rw [show 0 + ((i : Nat) : Int).toNat * 1 = i by omega, ← hget, fillD_set hl hi2]
    conv=>whnf
    refine ArithG.i64 (by omega) ?_
    conv=>whnf
    refine ⟨256 - (i + 1), _, _, by omega, ?_, Ent.refl _, i + 1, by omega, rfl, rfl, rfl⟩
    exact ⟨rfl, rfl, rfl, trivial⟩
  · obtain rfl : i = 256 := by omega
    rw [fillD_all hl]
    conv=>whnf
    have hrd : RdS ([cel b5 3 (nvs (digs2 ws))] ++ F) (.slice (some ⟨b5, 0, none⟩) 256 256) (digs2 ws).length (nvs (digs2 ws)) := by
      rw [hl]
      exact .mk _ _ _ _ _ (Nat.le_refl _) (.left .all F)
    refine CallG.of (pre := []) (rest := [cel b5 3 (nvs (digs2 ws))]) (rcut_spec _ _ (digs2 ws) (by omega) hrd) (Ent.sel (T := []) (A := [_, _]) [0] rfl) ?_
    rintro r _ ⟨hr, rfl⟩
    conv=>whnf
    exact ret_here ⟨b5, hr, rfl⟩
end Go.Proofs.YtnbcbdlbejdkpaaDoor
