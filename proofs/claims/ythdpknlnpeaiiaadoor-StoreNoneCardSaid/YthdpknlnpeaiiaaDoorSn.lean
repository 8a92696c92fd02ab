/-
  StoreNone: the walk of the law's function.
-/
import Derived.Test.YthdpknlnpeaiiaaDoorTa
namespace Go.Proofs.YthdpknlnpeaiiaaDoor
open Go Go.Sl
theorem over_nil (F : List HP) : SpecF Tryd.prog 33 [.nilIface] F [] (fun r L => r = .tuple #[.pointer none, .int .i64 1] ∧ L = []) := by
  refine fun33.spec rfl ?_
  (conv => whnf); repeat ((with_reducible first | refine CondG.tt ?_ | refine CondG.ff ?_ | refine CondG.ntt ?_ | refine CondG.nff ?_); conv => whnf)
  exact ret_here ⟨rfl, rfl⟩
theorem may7_spec (F : List HP) (key : ByteArray) (v : Value) (n : Nat) (hv : ∃ a c, v = .slice a n c) : SpecF Tryd.prog 36 [.string key, v] F [] (fun r L => r = .int .i64 (mayI key n) ∧ L = []) := by
  obtain ⟨va, vc, rfl⟩ := hv
  refine fun36.spec rfl ?_
  (conv => whnf); repeat ((with_reducible first | refine CondG.tt ?_ | refine CondG.ff ?_ | refine CondG.ntt ?_ | refine CondG.nff ?_); conv => whnf)
  refine CondG.dec (fun h1 => ?_) (fun h1 => ?_)
  · (conv => whnf); repeat ((with_reducible first | refine CondG.tt ?_ | refine CondG.ff ?_ | refine CondG.ntt ?_ | refine CondG.nff ?_); conv => whnf)
    refine ret_here ⟨congrArg (Value.int .i64) ?_, rfl⟩
    unfold mayI
    rw [if_pos (.inl (by omega))]
  (conv => whnf); repeat ((with_reducible first | refine CondG.tt ?_ | refine CondG.ff ?_ | refine CondG.ntt ?_ | refine CondG.nff ?_); conv => whnf)
  refine CondG.dec (fun h2 => ?_) (fun h2 => ?_)
  · (conv => whnf); repeat ((with_reducible first | refine CondG.tt ?_ | refine CondG.ff ?_ | refine CondG.ntt ?_ | refine CondG.nff ?_); conv => whnf)
    refine ret_here ⟨congrArg (Value.int .i64) ?_, rfl⟩
    unfold mayI
    rw [if_pos (.inr (by omega))]
  (conv => whnf); repeat ((with_reducible first | refine CondG.tt ?_ | refine CondG.ff ?_ | refine CondG.ntt ?_ | refine CondG.nff ?_); conv => whnf)
  refine LenG.lit ?_
  (conv => whnf); repeat ((with_reducible first | refine CondG.tt ?_ | refine CondG.ff ?_ | refine CondG.ntt ?_ | refine CondG.nff ?_); conv => whnf)
  refine CondG.dec (fun h3 => ?_) (fun h3 => ?_)
  · (conv => whnf); repeat ((with_reducible first | refine CondG.tt ?_ | refine CondG.ff ?_ | refine CondG.ntt ?_ | refine CondG.nff ?_); conv => whnf)
    refine ret_here ⟨congrArg (Value.int .i64) ?_, rfl⟩
    unfold mayI
    rw [if_neg (by omega), if_pos (by omega)]
  (conv => whnf); repeat ((with_reducible first | refine CondG.tt ?_ | refine CondG.ff ?_ | refine CondG.ntt ?_ | refine CondG.nff ?_); conv => whnf)
  refine ret_here ⟨congrArg (Value.int .i64) ?_, rfl⟩
  unfold mayI
  rw [if_neg (by omega), if_neg (by omega)]
def keyA : ByteArray := ⟨#[97]⟩
section
variable {K : List W32} (hk : K.length = 64)
include hk
theorem awake_spec (F : List HP) (hK : CelN F 4 0 (wvs K)) : SpecF Tryd.prog 32 [] F [] (fun r L => r = .bool true ∧ L = []) := by
  refine fun32.spec rfl ?_
  (conv => whnf); repeat ((with_reducible first | refine CondG.tt ?_ | refine CondG.ff ?_ | refine CondG.ntt ?_ | refine CondG.nff ?_); conv => whnf)
  refine CallG.pure (newTable_spec _) ?_
  rintro _ _ ⟨t, rfl, vb, q, ob, rfl⟩
  (conv => whnf); repeat ((with_reducible first | refine CondG.tt ?_ | refine CondG.ff ?_ | refine CondG.ntt ?_ | refine CondG.nff ?_); conv => whnf)
  refine BuildG.of (cs := bvs [1, 2]) rfl ?_
  (conv => whnf); repeat ((with_reducible first | refine CondG.tt ?_ | refine CondG.ff ?_ | refine CondG.ntt ?_ | refine CondG.nff ?_); conv => whnf)
  intro b12
  (conv => whnf); repeat ((with_reducible first | refine CondG.tt ?_ | refine CondG.ff ?_ | refine CondG.ntt ?_ | refine CondG.nff ?_); conv => whnf)
  refine CallG.of (pre := (tab0 vb q ob).pieces 144 182 249 t) (rest := [cel b12 5 (bvs [1, 2])]) (tput_spec hk _ (.right hK _) t (tab0 vb q ob) 0 (tab0_wf K vb q ob 0) (by decide) keyA _ [1, 2] (.mk _ _ _ _ _ (Nat.le_refl _) (.left .all F)) (by simp)) (by
    exact Ent.perm (List.perm_append_comm (l₁ := [cel b12 5 (bvs [1, 2])]) (l₂ := (tab0 vb q ob).pieces 144 182 249 t))) ?_
  rintro _ _ ⟨rfl, h | ⟨_, c, hc, rfl⟩⟩
  · exact absurd rfl h.1
  obtain ⟨x, hv⟩ := hc.put (by simp)
  have hv' : c.vals = [(keyA, x, [1, 2])] := hv
  (conv => whnf); repeat ((with_reducible first | refine CondG.tt ?_ | refine CondG.ff ?_ | refine CondG.ntt ?_ | refine CondG.nff ?_); conv => whnf)
  refine CallG.pure (tlen_spec _ t c.vb (kvM c.vals) (.left (.left (.here rfl) _) F) (MapG.left (MapG.left (.tl .here) _) F)) ?_
  rintro _ _ ⟨rfl, rfl⟩
  (conv => whnf); repeat ((with_reducible first | refine CondG.tt ?_ | refine CondG.ff ?_ | refine CondG.ntt ?_ | refine CondG.nff ?_); conv => whnf)
  refine CallG.pure (over_spec _ _ _) ?_
  rintro _ _ ⟨s, rfl, hb, nb, rfl⟩
  (conv => whnf); repeat ((with_reducible first | refine CondG.tt ?_ | refine CondG.ff ?_ | refine CondG.ntt ?_ | refine CondG.nff ?_); conv => whnf)
  have hf : tabFind c.vals keyA = ([1, 2], 0) := by rw [hv']; rfl
  obtain ⟨s0, hs0⟩ : ∃ z, z = StC.mk [] [] [] [] hb nb (.slice none 0 0) (.slice none 0 0) := ⟨_, rfl⟩
  have hw0 : s0.wf := by
    rw [hs0]
    exact ⟨fun p h => absurd h (List.not_mem_nil), fun p h => absurd h (List.not_mem_nil), fun p h => absurd h (List.not_mem_nil)⟩
  have hlv : lv (tabFind c.vals) s0 keyA = [1, 2] := by
    rw [hs0]
    show (tabFind c.vals keyA).1 = _
    rw [hf]
  have hwc := hc.wf
  rw [← hs0]
  refine CallG.of (pre := s0.pieces 139 s _) (rest := c.pieces 144 182 249 t ++ [cel b12 5 (bvs [1, 2])]) (get_spec _ s _ s0 keyA (tabFind c.vals) (by rw [List.append_assoc]; exact tab_srcD _ t c hwc) (fun k => by have := (tab_srcOk hwc).len k; omega) hw0) (Ent.refl _) ?_
  rintro _ _ (⟨h, _⟩ | ⟨_, h, _⟩ | ⟨_, _, c', y, hc', hy, rfl, rfl⟩)
  · exact absurd rfl h
  · exact absurd ((tab_srcOk hwc).ask rfl) h
  have ht := hc'.tells hw0
  rw [hlv] at ht
  rw [ht] at hy ⊢
  (conv => whnf); repeat ((with_reducible first | refine CondG.tt ?_ | refine CondG.ff ?_ | refine CondG.ntt ?_ | refine CondG.nff ?_); conv => whnf)
  refine CondG.decT rfl ?_
  (conv => whnf); repeat ((with_reducible first | refine CondG.tt ?_ | refine CondG.ff ?_ | refine CondG.ntt ?_ | refine CondG.nff ?_); conv => whnf)
  refine CondG.decT (by rw [hv']; rfl) ?_
  (conv => whnf); repeat ((with_reducible first | refine CondG.tt ?_ | refine CondG.ff ?_ | refine CondG.ntt ?_ | refine CondG.nff ?_); conv => whnf)
  refine CondG.decT rfl ?_
  (conv => whnf); repeat ((with_reducible first | refine CondG.tt ?_ | refine CondG.ff ?_ | refine CondG.ntt ?_ | refine CondG.nff ?_); conv => whnf)
  refine CondG.decT rfl ?_
  (conv => whnf); repeat ((with_reducible first | refine CondG.tt ?_ | refine CondG.ff ?_ | refine CondG.ntt ?_ | refine CondG.nff ?_); conv => whnf)
  refine DoesG.toStr (e := 5) (bs := [1, 2]) (n := 2) (by kernel_rfl) (by kernel_rfl) (by kernel_rfl) ((own_rd hy rfl).left _) rfl ?_
  (conv => whnf); repeat ((with_reducible first | refine CondG.tt ?_ | refine CondG.ff ?_ | refine CondG.ntt ?_ | refine CondG.nff ?_); conv => whnf)
  exact ⟨[], Ent.nil _, rfl, rfl⟩
omit hk in
theorem st0_wf (hb nb : Nat) (sv mv : Value) : (StC.mk [] [] [] [] hb nb sv mv).wf := ⟨fun p h => absurd h (List.not_mem_nil), fun p h => absurd h (List.not_mem_nil), fun p h => absurd h (List.not_mem_nil)⟩
theorem none_spec (F : List HP) (hK : CelN F 4 0 (wvs K)) (key : ByteArray) (v : Value) (bs : List Nat) (hr : RdS F v bs.length (bvs bs)) : SpecF Tryd.prog 7 [.string key, v] F [] (fun r L => r = .bool true ∧ L = []) := by
  refine fun7.spec rfl ?_
  (conv => whnf); repeat ((with_reducible first | refine CondG.tt ?_ | refine CondG.ff ?_ | refine CondG.ntt ?_ | refine CondG.nff ?_); conv => whnf)
  refine CallG.pure (awake_spec hk _ (.right hK _)) ?_
  rintro _ _ ⟨rfl, rfl⟩
  (conv => whnf); repeat ((with_reducible first | refine CondG.tt ?_ | refine CondG.ff ?_ | refine CondG.ntt ?_ | refine CondG.nff ?_); conv => whnf)
  refine CallG.pure (over_nil _) ?_
  rintro _ _ ⟨rfl, rfl⟩
  (conv => whnf); repeat ((with_reducible first | refine CondG.tt ?_ | refine CondG.ff ?_ | refine CondG.ntt ?_ | refine CondG.nff ?_); conv => whnf)
  refine CallG.pure (newTable_spec _) ?_
  rintro _ _ ⟨t, rfl, vb, q, ob, rfl⟩
  (conv => whnf); repeat ((with_reducible first | refine CondG.tt ?_ | refine CondG.ff ?_ | refine CondG.ntt ?_ | refine CondG.nff ?_); conv => whnf)
  refine CallG.pure (over_spec _ _ _) ?_
  rintro _ _ ⟨s, rfl, hb, nb, rfl⟩
  (conv => whnf); repeat ((with_reducible first | refine CondG.tt ?_ | refine CondG.ff ?_ | refine CondG.ntt ?_ | refine CondG.nff ?_); conv => whnf)
  refine CallG.of (pre := (StC.mk [] [] [] [] hb nb (.slice none 0 0) (.slice none 0 0)).pieces 139 s _) (rest := (tab0 vb q ob).pieces 144 182 249 t ++ []) (put_spec_r _ s _ _ key v bs (tabFind []) (by rw [List.append_nil]; exact tab_srcD (K := []) (n := 0) F t (tab0 vb q ob) (tab0_wf _ _ _ _ _)) (fun k => by have h : (tabFind [] k).1.length ≤ 4096 := (tab_srcOk (tab0_wf [] vb q ob 0)).len k; omega) (st0_wf _ _ _ _) (.right hr _) (by simp)) (Ent.refl _) ?_
  intro r L hR
  have hrr : r = .int .i64 (mayI key bs.length) ∧ ∃ L', L = L' := by
    rcases hR with ⟨_, rfl, _⟩ | ⟨h1, h2, _⟩ | ⟨h1, _, _, _, _, _, _, rfl, _⟩
    · exact ⟨rfl, _, rfl⟩
    · exact absurd ((tab_srcOk (tab0_wf [] vb q ob 0)).ask (mayI_le h1).2) h2
    · exact ⟨by rw [h1], _, rfl⟩
  obtain ⟨rfl, _⟩ := hrr
  (conv => whnf); repeat ((with_reducible first | refine CondG.tt ?_ | refine CondG.ff ?_ | refine CondG.ntt ?_ | refine CondG.nff ?_); conv => whnf)
  refine CallG.pure (may7_spec _ key v bs.length hr.len) ?_
  rintro _ _ ⟨rfl, rfl⟩
  (conv => whnf); repeat ((with_reducible first | refine CondG.tt ?_ | refine CondG.ff ?_ | refine CondG.ntt ?_ | refine CondG.nff ?_); conv => whnf)
  refine CallG.pure (tlen_spec _ t vb [] (.left (.right (.left (.here rfl) []) _) F) (MapG.left (MapG.right (MapG.left (.tl .here) []) _) F)) ?_
  rintro _ _ ⟨rfl, rfl⟩
  (conv => whnf); repeat ((with_reducible first | refine CondG.tt ?_ | refine CondG.ff ?_ | refine CondG.ntt ?_ | refine CondG.nff ?_); conv => whnf)
  refine CondG.decT rfl ?_
  (conv => whnf); repeat ((with_reducible first | refine CondG.tt ?_ | refine CondG.ff ?_ | refine CondG.ntt ?_ | refine CondG.nff ?_); conv => whnf)
  refine CondG.decT rfl ?_
  (conv => whnf); repeat ((with_reducible first | refine CondG.tt ?_ | refine CondG.ff ?_ | refine CondG.ntt ?_ | refine CondG.nff ?_); conv => whnf)
  refine CondG.decT rfl ?_
  (conv => whnf); repeat ((with_reducible first | refine CondG.tt ?_ | refine CondG.ff ?_ | refine CondG.ntt ?_ | refine CondG.nff ?_); conv => whnf)
  exact ⟨[], Ent.nil _, rfl, rfl⟩
end
end Go.Proofs.YthdpknlnpeaiiaaDoor
