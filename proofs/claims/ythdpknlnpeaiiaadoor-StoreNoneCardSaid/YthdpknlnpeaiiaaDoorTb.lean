/-
  A table that is asked, a state that begins: contracts out of the resolved texts.
-/
import Derived.Test.YthdpknlnpeaiiaaDoorSt
namespace Go.Proofs.YthdpknlnpeaiiaaDoor
open Go Go.Sl
theorem find_spec (F : List HP) (t vb : Nat) (vals : List (KV ByteArray)) (key : ByteArray) (h0 : Cel F t 0 (.map (some vb))) (hm : MapG Value.string (fun _ => True) F vb (kvM vals))
    (hv : ∀ p ∈ vals, SlV p.2.1 p.2.2.length ∧ p.2.2.length ≤ 4096 ∧ RdS F p.2.1 p.2.2.length (bvs p.2.2)) :
    SpecF Tryd.prog 202 [.pointer (some ⟨t, 0, none⟩), .string key] F [] (fun v L => ∃ x, SlV x (tabFind vals key).1.length ∧ v = .tuple #[x, .int .i64 (tabFind vals key).2] ∧ L = [own 1 x (tabFind vals key).1.length (bvs (tabFind vals key).1)]) := by
  refine fun202.spec rfl ?_
  (conv => whnf); repeat ((first | with_reducible refine CondG.tt ?_ | with_reducible refine CondG.ff ?_); conv => whnf)
  refine CallG.pure (smay_spec _ key (.slice none 0 0) 0 (.inl ⟨rfl, rfl⟩) (by decide)) ?_
  rintro _ _ ⟨rfl, rfl⟩
  (conv => whnf); repeat ((first | with_reducible refine CondG.tt ?_ | with_reducible refine CondG.ff ?_); conv => whnf)
  refine CondG.ndec (fun h1 => ?_) (fun h1 => ?_)
  · (conv => whnf); repeat ((first | with_reducible refine CondG.tt ?_ | with_reducible refine CondG.ff ?_); conv => whnf)
    have e : tabFind vals key = ([], mayI key 0) := by unfold tabFind; rw [if_pos h1]
    rw [e]
    exact ⟨[own 1 (.slice none 0 0) 0 []], fun w G hs => Sat.own_nil hs, .slice none 0 0, .inl ⟨rfl, rfl⟩, rfl, rfl⟩
  (conv => whnf); repeat ((first | with_reducible refine CondG.tt ?_ | with_reducible refine CondG.ff ?_); conv => whnf)
  refine LoadG.atF h0 ?_
  (conv => whnf); repeat ((first | with_reducible refine CondG.tt ?_ | with_reducible refine CondG.ff ?_); conv => whnf)
  refine DoesG.look strT mapT zeroB trivial (MapG.right hm _) false ?_
  rw [getM_kv]
  have e : tabFind vals key = (((getK vals key).map (·.2)).getD [], 0) := by unfold tabFind; rw [if_neg (by omega)]
  rw [e]
  cases hg : getK vals key with
  | none =>
    (conv => whnf); repeat ((first | with_reducible refine CondG.tt ?_ | with_reducible refine CondG.ff ?_); conv => whnf)
    refine CallG.pure (clone_spec _ (.slice none 0 0) [] (by simp) .nil) ?_
    rintro r _ ⟨hr, rfl, _⟩
    (conv => whnf); repeat ((first | with_reducible refine CondG.tt ?_ | with_reducible refine CondG.ff ?_); conv => whnf)
    exact ret_here ⟨r, hr, rfl, rfl⟩
  | some p =>
    obtain ⟨h2, h3, h4⟩ := hv _ (getK_mem hg)
    (conv => whnf); repeat ((first | with_reducible refine CondG.tt ?_ | with_reducible refine CondG.ff ?_); conv => whnf)
    refine CallG.pure (clone_spec _ p.1 p.2 (by have h5 : p.2.length ≤ 4096 := h3; omega) (.right h4 _)) ?_
    rintro r _ ⟨hr, rfl, _⟩
    (conv => whnf); repeat ((first | with_reducible refine CondG.tt ?_ | with_reducible refine CondG.ff ?_); conv => whnf)
    exact ret_here ⟨r, hr, rfl, rfl⟩
theorem find_method (v : Value) (w : World) : (method ((Tryd.prog).types.size + Made.depth) 86 v "Find").run Tryd.prog w = .ok (202, v) w := by kernel_rfl
theorem tabFind_len {vals : List (KV ByteArray)} (hv : ∀ p ∈ vals, p.2.2.length ≤ 4096) (key : ByteArray) : (tabFind vals key).1.length ≤ 4096 := by
  unfold tabFind
  split
  · simp
  · cases hg : getK vals key with
    | none => simp
    | some p => simpa using hv _ (getK_mem hg)
theorem tab_src (F : List HP) (t vb : Nat) (vals : List (KV ByteArray)) (h0 : Cel F t 0 (.map (some vb))) (hm : MapG Value.string (fun _ => True) F vb (kvM vals))
    (hv : ∀ p ∈ vals, SlV p.2.1 p.2.2.length ∧ p.2.2.length ≤ 4096 ∧ RdS F p.2.1 p.2.2.length (bvs p.2.2)) : SrcG Tryd.prog F (.iface 86 (.pointer (some ⟨t, 0, none⟩))) (tabFind vals) :=
  ⟨86, .pointer (some ⟨t, 0, none⟩), 202, .pointer (some ⟨t, 0, none⟩), rfl, find_method _, by kernel_rfl, fun key L =>
    find_spec (L ++ F) t vb vals key (h0.right L) (hm.right L) (fun p hp => ⟨(hv p hp).1, (hv p hp).2.1, (hv p hp).2.2.right L⟩)⟩
theorem snew_spec (F : List HP) : SpecF Tryd.prog 74 [] F [] (fun v L => ∃ q, v = .pointer (some ⟨q, 0, none⟩) ∧ L = [cel q 182 [.pointer none, .int .i64 0]]) := by
  refine fun74.spec rfl ?_
  (conv => whnf); repeat ((first | with_reducible refine CondG.tt ?_ | with_reducible refine CondG.ff ?_); conv => whnf)
  refine BuildG.of rfl ?_
  (conv => whnf); repeat ((first | with_reducible refine CondG.tt ?_ | with_reducible refine CondG.ff ?_); conv => whnf)
  intro q
  (conv => whnf); repeat ((first | with_reducible refine CondG.tt ?_ | with_reducible refine CondG.ff ?_); conv => whnf)
  exact ret_here ⟨q, rfl, rfl⟩
theorem newTable_spec (F : List HP) : SpecF Tryd.prog 34 [] F [] (fun v L => ∃ t, v = .pointer (some ⟨t, 0, none⟩) ∧ ∃ vb q ob, L = emptyL 144 182 t vb q ob) := by
  refine fun34.spec rfl ?_
  (conv => whnf); repeat ((first | with_reducible refine CondG.tt ?_ | with_reducible refine CondG.ff ?_); conv => whnf)
  intro vb
  (conv => whnf); repeat ((first | with_reducible refine CondG.tt ?_ | with_reducible refine CondG.ff ?_); conv => whnf)
  refine CallG.pure (snew_spec _) ?_
  rintro _ _ ⟨q, rfl, rfl⟩
  (conv => whnf); repeat ((first | with_reducible refine CondG.tt ?_ | with_reducible refine CondG.ff ?_); conv => whnf)
  intro ob
  (conv => whnf); repeat ((first | with_reducible refine CondG.tt ?_ | with_reducible refine CondG.ff ?_); conv => whnf)
  refine BuildG.of rfl ?_
  (conv => whnf); repeat ((first | with_reducible refine CondG.tt ?_ | with_reducible refine CondG.ff ?_); conv => whnf)
  intro t
  (conv => whnf); repeat ((first | with_reducible refine CondG.tt ?_ | with_reducible refine CondG.ff ?_); conv => whnf)
  refine ⟨emptyL 144 182 t vb q ob, ?_, t, rfl, vb, q, ob, rfl⟩
  intro w G hs
  have h1 : Sat w (blk vb (.map #[] 0) :: (blk ob (.map #[] 0) :: cel t 144 [.map (some vb), .pointer (some ⟨q, 0, none⟩), .map (some ob)] :: cel q 182 [.pointer none, .int .i64 0] :: G)) :=
    Ent.sel (T := []) (A := [_, _, _, _]) [3, 1, 0, 2] rfl w G hs
  have h2 := mapP_new (kv := Value.string) (ok := fun _ => True) w h1
  have h3 : Sat w (blk ob (.map #[] 0) :: (mapP Value.string (fun _ => True) vb [] :: cel t 144 [.map (some vb), .pointer (some ⟨q, 0, none⟩), .map (some ob)] :: cel q 182 [.pointer none, .int .i64 0] :: G)) := h2.perm (List.Perm.swap _ _ _)
  have h4 := mapP_new (kv := digV) (ok := digOk) w h3
  exact Ent.sel (T := []) (A := [_, _, _, _]) [2, 1, 0, 3] rfl w G h4
theorem over_spec (F : List HP) (u : Nat) (v : Value) : SpecF Tryd.prog 33 [.iface u v] F [] (fun r L => ∃ s, r = .tuple #[.pointer (some ⟨s, 0, none⟩), .int .i64 0] ∧ ∃ hb nb, L = (StC.mk [] [] [] [] hb nb (.slice none 0 0) (.slice none 0 0)).pieces 139 s (.iface u v)) := by
  refine fun33.spec rfl ?_
  (conv => whnf); repeat ((first | with_reducible refine CondG.tt ?_ | with_reducible refine CondG.ff ?_); conv => whnf)
  intro hb
  (conv => whnf); repeat ((first | with_reducible refine CondG.tt ?_ | with_reducible refine CondG.ff ?_); conv => whnf)
  intro nb
  (conv => whnf); repeat ((first | with_reducible refine CondG.tt ?_ | with_reducible refine CondG.ff ?_); conv => whnf)
  refine BuildG.of rfl ?_
  (conv => whnf); repeat ((first | with_reducible refine CondG.tt ?_ | with_reducible refine CondG.ff ?_); conv => whnf)
  intro s
  (conv => whnf); repeat ((first | with_reducible refine CondG.tt ?_ | with_reducible refine CondG.ff ?_); conv => whnf)
  refine ⟨(StC.mk [] [] [] [] hb nb (.slice none 0 0) (.slice none 0 0)).pieces 139 s (.iface u v), ?_, s, rfl, hb, nb, rfl⟩
  intro w G hs
  have h1 : Sat w (blk hb (.map #[] 0) :: (blk nb (.map #[] 0) :: cel s 139 [.iface u v, .map (some hb), .map (some nb), .slice none 0 0, .slice none 0 0] :: G)) :=
    Ent.sel (T := []) (A := [_, _, _]) [2, 1, 0] rfl w G hs
  have h2 := mapP_new (kv := Value.string) (ok := fun _ => True) w h1
  have h3 := mapP_new (kv := Value.string) (ok := fun _ => True) w (h2.perm (List.Perm.swap _ _ _))
  have h4 : Sat w (own 1 (.slice none 0 0) 0 [] :: own 3 (.slice none 0 0) 0 [] :: mapS nb [] :: mapS hb [] :: cel s 139 [.iface u v, .map (some hb), .map (some nb), .slice none 0 0, .slice none 0 0] :: G) := Sat.own_nil (Sat.own_nil h3)
  exact Ent.sel (T := []) (A := [_, _, _, _, _]) [4, 3, 2, 1, 0] rfl w G h4
theorem fresh_nil (F : List HP) : SpecF Tryd.prog 84 [.slice none 0 0] F [] (fun r L => ∃ s t vb q ob hb nb, r = .pointer (some ⟨s, 0, none⟩) ∧
    L = (StC.mk [] [] [] [] hb nb (.slice none 0 0) (.slice none 0 0)).pieces 139 s (.iface 86 (.pointer (some ⟨t, 0, none⟩))) ++ emptyL 144 182 t vb q ob) := by
  refine fun84.spec rfl ?_
  (conv => whnf); repeat ((first | with_reducible refine CondG.tt ?_ | with_reducible refine CondG.ff ?_); conv => whnf)
  refine CallG.pure (newTable_spec _) ?_
  rintro _ _ ⟨t, rfl, vb, q, ob, rfl⟩
  (conv => whnf); repeat ((first | with_reducible refine CondG.tt ?_ | with_reducible refine CondG.ff ?_); conv => whnf)
  refine LoopG.mk (fun m ev L => ev = [(0, .slice none 0 0), (3, .pointer (some ⟨t, 0, none⟩)), (4, .int .i64 0)] ∧ L = emptyL 144 182 t vb q ob ++ []) 0 [(0, .slice none 0 0), (3, .pointer (some ⟨t, 0, none⟩)), (4, .int .i64 0)] _ ⟨rfl, rfl, rfl, trivial⟩ (Ent.refl _) ⟨rfl, rfl⟩ ?_
  rintro m ev L ⟨rfl, rfl⟩
  (conv => whnf); repeat ((first | with_reducible refine CondG.tt ?_ | with_reducible refine CondG.ff ?_); conv => whnf)
  refine LenG.lit ?_
  (conv => whnf); repeat ((first | with_reducible refine CondG.tt ?_ | with_reducible refine CondG.ff ?_); conv => whnf)
  refine CondG.ff ?_
  (conv => whnf); repeat ((first | with_reducible refine CondG.tt ?_ | with_reducible refine CondG.ff ?_); conv => whnf)
  refine CallG.pure (over_spec _ _ _) ?_
  rintro _ _ ⟨s, rfl, hb, nb, rfl⟩
  (conv => whnf); repeat ((first | with_reducible refine CondG.tt ?_ | with_reducible refine CondG.ff ?_); conv => whnf)
  refine CondG.ff ?_
  (conv => whnf); repeat ((first | with_reducible refine CondG.tt ?_ | with_reducible refine CondG.ff ?_); conv => whnf)
  exact ret_here ⟨s, t, vb, q, ob, hb, nb, rfl, by rw [List.append_nil]⟩
end Go.Proofs.YthdpknlnpeaiiaaDoor
