/-
  What the writer's functions do: contracts out of the resolved texts.
-/
import Derived.Test.YthdpknlnpeaiiaaDoorRc
import Derived.Test.YthdpknlnpeaiiaaDoorZWl
namespace Go.Proofs.YthdpknlnpeaiiaaDoor
open Go Go.Sl
theorem bytesT : ElT Tryd.prog 79 5 1 1 := .of (by kernel_rfl)
theorem short_spec (F : List HP) (v : Value) (bs : List Nat) (hl : bs.length < 256) (hv : RdS F v bs.length (bvs bs)) :
    SpecF Tryd.prog 133 [v] F [] (fun r L => ∃ n, n = (shortL bs).length ∧ SlV r n ∧ L = [own 1 r n (bvs (shortL bs))]) := by
  refine fun133.spec rfl ?_
  conv => whnf
  refine LoopG.mk (fun m e L => ∃ v k, k ≤ bs.length ∧ m = bs.length - k ∧ e = [(0, v)] ∧ L = [] ∧ strip bs = strip (bs.drop k) ∧ RdS F v (bs.length - k) (bvs (bs.drop k))) bs.length [(0, v)] [] ⟨rfl, trivial⟩ (Ent.refl _) ⟨v, 0, by omega, rfl, rfl, rfl, rfl, by simpa using hv⟩ ?_
  rintro m e L ⟨v, k, hk, rfl, rfl, rfl, hst, hv⟩
  (conv => whnf); repeat ((first | with_reducible refine CondG.tt ?_ | with_reducible refine CondG.ff ?_); conv => whnf)
  refine LenG.rd hv ?_
  (conv => whnf); repeat ((first | with_reducible refine CondG.tt ?_ | with_reducible refine CondG.ff ?_); conv => whnf)
  refine CondG.dec (fun h => ?_) (fun h => ?_)
  · (conv => whnf); repeat ((first | with_reducible refine CondG.tt ?_ | with_reducible refine CondG.ff ?_); conv => whnf)
    refine IdxG.rd hv (by omega) fun b o hc => ?_
    (conv => whnf); repeat ((first | with_reducible refine CondG.tt ?_ | with_reducible refine CondG.ff ?_); conv => whnf)
    have hlt : k < bs.length := by omega
    have hd : bs.drop k = bs[k] :: bs.drop (k + 1) := List.drop_eq_getElem_cons hlt
    refine LoadG.atF (hc.one (i := 0) (u := bv bs[k]) (by rw [hd]; rfl)) ?_
    (conv => whnf); repeat ((first | with_reducible refine CondG.tt ?_ | with_reducible refine CondG.ff ?_); conv => whnf)
    refine CondG.dec (fun h0 => ?_) (fun h0 => ?_)
    · (conv => whnf); repeat ((first | with_reducible refine CondG.tt ?_ | with_reducible refine CondG.ff ?_); conv => whnf)
      refine SlcG.rd hv fun a cap ha hn => ?_
      subst ha
      (conv => whnf); repeat ((first | with_reducible refine CondG.tt ?_ | with_reducible refine CondG.ff ?_); conv => whnf)
      refine SideG.of (by omega) ?_
      (conv => whnf); repeat ((first | with_reducible refine CondG.tt ?_ | with_reducible refine CondG.ff ?_); conv => whnf)
      refine SliceG.rd (n := bs.length - k) hv (by simp; omega) (by simp) (by simp; omega) (by simp) fun v' hv' _ => ?_
      (conv => whnf); repeat ((first | with_reducible refine CondG.tt ?_ | with_reducible refine CondG.ff ?_); conv => whnf)
      have h0' : bs[k] = 0 := by simpa using h0
      refine ⟨bs.length - (k + 1), [(0, v')], [], by omega, ⟨rfl, trivial⟩, Ent.refl _, v', k + 1, by omega, rfl, rfl, rfl, ?_, ?_⟩
      · rw [hst, hd, h0']
        rfl
      · have e1 : (((bs.length - k : Nat) : Int).toNat - (1 : Int).toNat) = bs.length - (k + 1) := by simp; omega
        rw [e1] at hv'
        have e2 : (bvs (bs.drop k)).drop ((1 : Int).toNat * 1) = bvs (bs.drop (k + 1)) := by rw [hd]; rfl
        rw [e2, List.take_of_length_le (by simp [bvs])] at hv'
        exact hv'
    have hs2 : strip bs = bs.drop k := by
      have : ¬ bs[k] = 0 := by simpa using h0
      rw [hst, hd]
      exact strip_cons this
    (conv => whnf); repeat ((first | with_reducible refine CondG.tt ?_ | with_reducible refine CondG.ff ?_); conv => whnf)
    all_goals
      (refine LenG.rd hv ?_
       (conv => whnf); repeat ((first | with_reducible refine CondG.tt ?_ | with_reducible refine CondG.ff ?_); conv => whnf)
       refine ArithG.u8 (by omega) ?_
       (conv => whnf); repeat ((first | with_reducible refine CondG.tt ?_ | with_reducible refine CondG.ff ?_); conv => whnf)
       refine BuildG.of rfl ?_
       (conv => whnf); repeat ((first | with_reducible refine CondG.tt ?_ | with_reducible refine CondG.ff ?_); conv => whnf)
       intro b1
       (conv => whnf); repeat ((first | with_reducible refine CondG.tt ?_ | with_reducible refine CondG.ff ?_); conv => whnf)
       refine DoesG.ent (own_of_cel (sz := 1) (n := 1) rfl (by decide)) ?_
       refine app_own bytesT 79 (hv.tl) (by simp [bvs]) (bvs_one _) (by simp only [maxLen]; omega) (by omega) fun r hr hlen hnil => ?_
       (conv => whnf); repeat ((first | with_reducible refine CondG.tt ?_ | with_reducible refine CondG.ff ?_); conv => whnf)
       refine ret_here ⟨_, ?_, hr, ?_⟩
       · simp [shortL, hs2]; omega
       · simp only [shortL, hs2, List.length_drop]; rfl)
  · have hs2 : strip bs = bs.drop k := by
      rw [hst]
      rw [List.drop_eq_nil_of_le (by omega)]
      rfl
    (conv => whnf); repeat ((first | with_reducible refine CondG.tt ?_ | with_reducible refine CondG.ff ?_); conv => whnf)
    all_goals
      (refine LenG.rd hv ?_
       (conv => whnf); repeat ((first | with_reducible refine CondG.tt ?_ | with_reducible refine CondG.ff ?_); conv => whnf)
       refine ArithG.u8 (by omega) ?_
       (conv => whnf); repeat ((first | with_reducible refine CondG.tt ?_ | with_reducible refine CondG.ff ?_); conv => whnf)
       refine BuildG.of rfl ?_
       (conv => whnf); repeat ((first | with_reducible refine CondG.tt ?_ | with_reducible refine CondG.ff ?_); conv => whnf)
       intro b1
       (conv => whnf); repeat ((first | with_reducible refine CondG.tt ?_ | with_reducible refine CondG.ff ?_); conv => whnf)
       refine DoesG.ent (own_of_cel (sz := 1) (n := 1) rfl (by decide)) ?_
       refine app_own bytesT 79 (hv.tl) (by simp [bvs]) (bvs_one _) (by simp only [maxLen]; omega) (by omega) fun r hr hlen hnil => ?_
       (conv => whnf); repeat ((first | with_reducible refine CondG.tt ?_ | with_reducible refine CondG.ff ?_); conv => whnf)
       refine ret_here ⟨_, ?_, hr, ?_⟩
       · simp [shortL, hs2]; omega
       · simp only [shortL, hs2, List.length_drop]; rfl)
theorem form_spec (F : List HP) (n : Nat) (hn : n < 9223372036854775808) :
    SpecF Tryd.prog 132 [.int .i64 n] F [] (fun r L => ∃ k, k = (shortL (be n 8)).length ∧ SlV r k ∧ L = [own 1 r k (bvs (shortL (be n 8)))]) := by
  refine fun132.spec rfl ?_
  (conv => whnf); repeat ((first | with_reducible refine CondG.tt ?_ | with_reducible refine CondG.ff ?_); conv => whnf)
  intro b
  (conv => whnf); repeat ((first | with_reducible refine CondG.tt ?_ | with_reducible refine CondG.ff ?_); conv => whnf)
  refine LoopG.mk (fun m e L => ∃ i, i ≤ 8 ∧ m = 8 - i ∧ e = [(0, .int .i64 n), (3, .pointer (some ⟨b, 0, none⟩)), (5, .int .i64 i)] ∧ L = [cel b 196 (bvs (fillB (fun i => n / 256 ^ (7 - i) % 256) 8 i))]) 8
    [(0, .int .i64 n), (3, .pointer (some ⟨b, 0, none⟩)), (5, .int .i64 0)] _ ⟨rfl, rfl, rfl, trivial⟩ (Ent.refl _) ⟨0, by omega, rfl, rfl, by rw [fillB_zero]; rfl⟩ ?_
  rintro m e L ⟨i, hi, rfl, rfl, rfl⟩
  (conv => whnf); repeat ((first | with_reducible refine CondG.tt ?_ | with_reducible refine CondG.ff ?_); conv => whnf)
  refine CondG.dec (fun h => ?_) (fun h => ?_)
  · have hi8 : i < 8 := by omega
    (conv => whnf); repeat ((first | with_reducible refine CondG.tt ?_ | with_reducible refine CondG.ff ?_); conv => whnf)
    refine ArithG.i64 (by omega) ?_
    (conv => whnf); repeat ((first | with_reducible refine CondG.tt ?_ | with_reducible refine CondG.ff ?_); conv => whnf)
    refine ArithG.i64 (by omega) ?_
    (conv => whnf); repeat ((first | with_reducible refine CondG.tt ?_ | with_reducible refine CondG.ff ?_); conv => whnf)
    refine SideG.of (by omega) ?_
    (conv => whnf); repeat ((first | with_reducible refine CondG.tt ?_ | with_reducible refine CondG.ff ?_); conv => whnf)
    refine ArithG.all ?_
    (conv => whnf); repeat ((first | with_reducible refine CondG.tt ?_ | with_reducible refine CondG.ff ?_); conv => whnf)
    refine SideG.of (by omega) ?_
    (conv => whnf); repeat ((first | with_reducible refine CondG.tt ?_ | with_reducible refine CondG.ff ?_); conv => whnf)
    have e1 := shr_be n i hi8
    refine StoreG.at rfl (Upd.here (by simp [bvs_len, fillB_len]; omega) rfl) ?_
    (conv => whnf); repeat ((first | with_reducible refine CondG.tt ?_ | with_reducible refine CondG.ff ?_); conv => whnf)
    refine ArithG.i64 (by omega) ?_
    (conv => whnf); repeat ((first | with_reducible refine CondG.tt ?_ | with_reducible refine CondG.ff ?_); conv => whnf)
    refine ⟨8 - (i + 1), _, _, by omega, ?_, Ent.refl _, i + 1, by omega, rfl, rfl, ?_⟩
    · exact ⟨rfl, rfl, rfl, trivial⟩
    rw [← fillB_set _ hi8]
    have e2 : (0 : Nat) + (i : Int).toNat * 1 = i := by simp
    rw [e2]
    show [cel b 196 ((bvs (fillB (fun i => n / 256 ^ (7 - i) % 256) 8 i)).set i (.int .u8 (IntKind.u8.wrap ((n : Int).fdiv (2 ^ (min (56 - 8 * (i : Int)).toNat 64))))))] = _
    rw [e1]
    rfl
  · obtain rfl : i = 8 := by omega
    (conv => whnf); repeat ((first | with_reducible refine CondG.tt ?_ | with_reducible refine CondG.ff ?_); conv => whnf)
    refine SideG.of (by decide) ?_
    (conv => whnf); repeat ((first | with_reducible refine CondG.tt ?_ | with_reducible refine CondG.ff ?_); conv => whnf)
    refine SliceG.zero ?_
    (conv => whnf); repeat ((first | with_reducible refine CondG.tt ?_ | with_reducible refine CondG.ff ?_); conv => whnf)
    rw [fillB_all, be_range n 8]
    refine CallG.pure (short_spec _ _ (be n 8) (by rw [be_len]; decide) ?_) ?_
    · rw [be_len]
      exact .mk _ _ _ _ _ (by decide) (CelN.all.left F)
    · rintro r L ⟨k, hk, hr, rfl⟩
      (conv => whnf); repeat ((first | with_reducible refine CondG.tt ?_ | with_reducible refine CondG.ff ?_); conv => whnf)
      exact ⟨_, Ent.dropL [own 1 r k (bvs (shortL (be n 8)))] [cel b 196 (bvs (be n 8))], _, hk, hr, rfl⟩
theorem clone_spec (F : List HP) (v : Value) (bs : List Nat) (hm : bs.length ≤ 4398046511104) (hv : RdS F v bs.length (bvs bs)) :
    SpecF Tryd.prog 77 [v] F [] (fun r L => SlV r bs.length ∧ L = [own 1 r bs.length (bvs bs)] ∧ (r = .slice none 0 0 ↔ v = .slice none 0 0)) := by
  refine fun77.spec rfl ?_
  (conv => whnf); repeat ((first | with_reducible refine CondG.tt ?_ | with_reducible refine CondG.ff ?_); conv => whnf)
  refine NilG.rd hv fun b hb => ?_
  (conv => whnf); repeat ((first | with_reducible refine CondG.tt ?_ | with_reducible refine CondG.ff ?_); conv => whnf)
  refine CondG.split (fun h => ?_) (fun h => ?_)
  · have e := hb.1 h
    subst e
    have hz : bs = [] := by
      exact List.eq_nil_of_length_eq_zero (hv.nilE rfl).1
    subst hz
    (conv => whnf); repeat ((first | with_reducible refine CondG.tt ?_ | with_reducible refine CondG.ff ?_); conv => whnf)
    refine ⟨[own 1 (.slice none 0 0) 0 []], fun w G hs => Sat.own_nil hs, ?_⟩
    exact ⟨.inl ⟨rfl, rfl⟩, rfl, by simp [retV]⟩
  · (conv => whnf); repeat ((first | with_reducible refine CondG.tt ?_ | with_reducible refine CondG.ff ?_); conv => whnf)
    refine BuildG.of rfl ?_
    (conv => whnf); repeat ((first | with_reducible refine CondG.tt ?_ | with_reducible refine CondG.ff ?_); conv => whnf)
    intro b1
    (conv => whnf); repeat ((first | with_reducible refine CondG.tt ?_ | with_reducible refine CondG.ff ?_); conv => whnf)
    refine DoesG.ent (own_of_cel (sz := 1) (n := 0) rfl (by decide)) ?_
    refine app_own bytesT 79 (hv.tl) (by simp [bvs]) (bvs_one _) (by simp only [maxLen]; omega) (by omega) fun r hr hlen hnil => ?_
    (conv => whnf); repeat ((first | with_reducible refine CondG.tt ?_ | with_reducible refine CondG.ff ?_); conv => whnf)
    refine ret_here ⟨?_, ?_, ?_⟩
    · simpa [retV] using hr
    · simp [retV]
    · have : ¬ v = .slice none 0 0 := fun e => by rw [hb.2 e] at h; cases h
      simp [retV, this, hnil]
theorem newWriter_spec (F : List HP) : SpecF Tryd.prog 92 [] F [] (fun r L => ∃ p, r = .pointer (some ⟨p, 0, none⟩) ∧ L = [own 1 (.slice none 0 0) 0 (bvs []), cel p 209 [.slice none 0 0, .int .i64 0]]) := by
  refine fun92.spec rfl ?_
  (conv => whnf); repeat ((first | with_reducible refine CondG.tt ?_ | with_reducible refine CondG.ff ?_); conv => whnf)
  refine BuildG.of rfl ?_
  (conv => whnf); repeat ((first | with_reducible refine CondG.tt ?_ | with_reducible refine CondG.ff ?_); conv => whnf)
  intro p
  (conv => whnf); repeat ((first | with_reducible refine CondG.tt ?_ | with_reducible refine CondG.ff ?_); conv => whnf)
  exact ⟨_, fun w G hs => Sat.own_nil hs, p, rfl, rfl⟩
theorem partsT : ElT Tryd.prog 44 79 1 24 := .of (by kernel_rfl)
/-- Parts that are read. -/
structure RdParts (F : List HP) (v : Value) (ps : List (List Nat)) : Prop where
  out : ∃ us : List Value, RdS F v ps.length us ∧ us.length = ps.length ∧ ∀ i (h : i < ps.length), ∃ u, us[i]? = some u ∧ RdS F u (ps[i].length) (bvs ps[i])
theorem RdParts.one {F : List HP} {b : Nat} {t : TypeId} {u : Value} {bs : List Nat} (hu : RdS F u bs.length (bvs bs)) : RdParts (cel b t [u] :: F) (.slice (some ⟨b, 0, none⟩) 1 1) [bs] :=
  ⟨[u], .mk _ _ _ _ _ (Nat.le_refl _) .all, rfl, fun i h => by
    obtain rfl : i = 0 := by simpa using h
    exact ⟨u, rfl, hu.tl⟩⟩
def sumL (ps : List (List Nat)) : Nat := ps.flatten.length
theorem sum_take {ps : List (List Nat)} {i : Nat} (h : i < ps.length) : sumL (ps.take (i + 1)) = sumL (ps.take i) + ps[i].length := by
  simp only [sumL, List.take_succ_eq_append_getElem h, List.flatten_append, List.flatten_cons, List.flatten_nil, List.append_nil, List.length_append]
theorem sum_le (ps : List (List Nat)) (i : Nat) : sumL (ps.take i) ≤ sumL ps := by
  have : ps.flatten = (ps.take i).flatten ++ (ps.drop i).flatten := by rw [← List.flatten_append, List.take_append_drop]
  simp only [sumL, this, List.length_append]; omega
theorem lay_spec (F : List HP) (p : Nat) (u v : Value) (bs : List Nat) (e : Int) (ps : List (List Nat)) (hb : bs.length ≤ 4194304) (hp : sumL ps < 1152921504606846976) (hn : ps.length < 1152921504606846976) (hv : RdParts F v ps) :
    SpecF Tryd.prog 131 [.pointer (some ⟨p, 0, none⟩), v] F [own 1 u bs.length (bvs bs), cel p 209 [u, .int .i64 e]]
      (fun _ L => ∃ u', L = [own 1 u' (layB bs e ps.flatten).length (bvs (layB bs e ps.flatten)), cel p 209 [u', .int .i64 (layE bs e ps.flatten)]]) := by
  obtain ⟨us, hus, hul, hps⟩ := hv.out
  refine SpecF.ownV 0 rfl fun hsl hlen => ?_
  refine fun131.spec rfl ?_
  (conv => whnf); repeat ((first | with_reducible refine CondG.tt ?_ | with_reducible refine CondG.ff ?_); conv => whnf)
  refine LoadG.at (.tl (.here rfl)) ?_
  (conv => whnf); repeat ((first | with_reducible refine CondG.tt ?_ | with_reducible refine CondG.ff ?_); conv => whnf)
  refine LenG.sl hsl ?_
  (conv => whnf); repeat ((first | with_reducible refine CondG.tt ?_ | with_reducible refine CondG.ff ?_); conv => whnf)
  refine LenG.rd hus ?_
  (conv => whnf); repeat ((first | with_reducible refine CondG.tt ?_ | with_reducible refine CondG.ff ?_); conv => whnf)
  refine LoopG.mk (fun m ev L => ∃ i, i ≤ ps.length ∧ m = ps.length - i ∧ ev = [(0, .pointer (some ⟨p, 0, none⟩)), (1, v), (4, .int .i64 ((bs.length + sumL (ps.take i) : Nat))), (14, v), (15, .int .i64 ps.length), (16, .int .i64 i)] ∧
    L = [own 1 u bs.length (bvs bs), cel p 209 [u, .int .i64 e]]) ps.length
    [(0, .pointer (some ⟨p, 0, none⟩)), (1, v), (4, .int .i64 (bs.length : Nat)), (14, v), (15, .int .i64 ps.length), (16, .int .i64 0)] _ ⟨rfl, rfl, rfl, rfl, rfl, rfl, trivial⟩ (Ent.refl _) ⟨0, by omega, rfl, rfl, rfl⟩ ?_
  rintro m ev L ⟨i, hi, rfl, rfl, rfl⟩
  (conv => whnf); repeat ((first | with_reducible refine CondG.tt ?_ | with_reducible refine CondG.ff ?_); conv => whnf)
  refine CondG.dec (fun h => ?_) (fun h => ?_)
  · have hi' : i < ps.length := by omega
    obtain ⟨x, hx, hxr⟩ := hps i hi'
    (conv => whnf); repeat ((first | with_reducible refine CondG.tt ?_ | with_reducible refine CondG.ff ?_); conv => whnf)
    refine IdxG.rd hus (by omega) fun b o hc => ?_
    (conv => whnf); repeat ((first | with_reducible refine CondG.tt ?_ | with_reducible refine CondG.ff ?_); conv => whnf)
    refine LoadG.atF (v := x) (hc.one (i := (i : Int).toNat * 1) (by simpa using hx)) ?_
    (conv => whnf); repeat ((first | with_reducible refine CondG.tt ?_ | with_reducible refine CondG.ff ?_); conv => whnf)
    refine LenG.rd hxr ?_
    (conv => whnf); repeat ((first | with_reducible refine CondG.tt ?_ | with_reducible refine CondG.ff ?_); conv => whnf)
    have hle := sum_le ps (i + 1)
    have hst := sum_take hi'
    refine ArithG.i64 (by omega) ?_
    (conv => whnf); repeat ((first | with_reducible refine CondG.tt ?_ | with_reducible refine CondG.ff ?_); conv => whnf)
    refine ArithG.i64 (by omega) ?_
    (conv => whnf); repeat ((first | with_reducible refine CondG.tt ?_ | with_reducible refine CondG.ff ?_); conv => whnf)
    refine ⟨ps.length - (i + 1), _, _, by omega, ?_, Ent.refl _, i + 1, by omega, rfl, rfl, rfl⟩
    refine ⟨rfl, rfl, ?_, rfl, rfl, rfl, trivial⟩
    rw [hst, ← Nat.add_assoc]
    rfl
  · obtain rfl : i = ps.length := by omega
    rw [List.take_length]
    (conv => whnf); repeat ((first | with_reducible refine CondG.tt ?_ | with_reducible refine CondG.ff ?_); conv => whnf)
    refine LoadG.at (.tl (.here rfl)) ?_
    (conv => whnf); repeat ((first | with_reducible refine CondG.tt ?_ | with_reducible refine CondG.ff ?_); conv => whnf)
    refine CondG.ndec (fun he => ?_) (fun he => ?_)
    · (conv => whnf); repeat ((first | with_reducible refine CondG.tt ?_ | with_reducible refine CondG.ff ?_); conv => whnf)
      refine ret_here ⟨u, ?_⟩
      simp [layB, layE, he]
    · subst he
      (conv => whnf); repeat ((first | with_reducible refine CondG.tt ?_ | with_reducible refine CondG.ff ?_); conv => whnf)
      refine CondG.dec (fun hg => ?_) (fun hg => ?_)
      · have hg' : 4194304 < bs.length + sumL ps := by omega
        (conv => whnf); repeat ((first | with_reducible refine CondG.tt ?_ | with_reducible refine CondG.ff ?_); conv => whnf)
        refine StoreG.at rfl (Upd.tl (Upd.here (by simp) rfl)) ?_
        (conv => whnf); repeat ((first | with_reducible refine CondG.tt ?_ | with_reducible refine CondG.ff ?_); conv => whnf)
        refine ret_here ⟨u, ?_⟩
        have h1 : layB bs 0 ps.flatten = bs := by simp only [layB]; rw [if_neg (by simp only [sumL] at hg'; omega)]
        have h2 : layE bs 0 ps.flatten = 30 := by unfold layE; rw [if_pos rfl, if_pos (by simpa only [sumL] using hg')]
        rw [h1, h2]
        rfl
      · have hg' : bs.length + sumL ps ≤ 4194304 := by omega
        (conv => whnf); repeat ((first | with_reducible refine CondG.tt ?_ | with_reducible refine CondG.ff ?_); conv => whnf)
        refine LenG.rd hus ?_
        (conv => whnf); repeat ((first | with_reducible refine CondG.tt ?_ | with_reducible refine CondG.ff ?_); conv => whnf)
        refine LoopG.mk (fun m ev L => ∃ i u', i ≤ ps.length ∧ m = ps.length - i ∧ ev = [(0, .pointer (some ⟨p, 0, none⟩)), (25, v), (26, .int .i64 ps.length), (27, .int .i64 i)] ∧
          L = [own 1 u' (bs ++ (ps.take i).flatten).length (bvs (bs ++ (ps.take i).flatten)), cel p 209 [u', .int .i64 0]]) ps.length
          [(0, .pointer (some ⟨p, 0, none⟩)), (25, v), (26, .int .i64 ps.length), (27, .int .i64 0)] _ ⟨rfl, rfl, rfl, rfl, trivial⟩ (Ent.refl _) ⟨0, u, by omega, rfl, rfl, by simp⟩ ?_
        rintro m ev L ⟨i, u', hi, rfl, rfl, rfl⟩
        (conv => whnf); repeat ((first | with_reducible refine CondG.tt ?_ | with_reducible refine CondG.ff ?_); conv => whnf)
        refine CondG.dec (fun h => ?_) (fun h => ?_)
        · have hi' : i < ps.length := by omega
          obtain ⟨x, hx, hxr⟩ := hps i hi'
          have hle := sum_le ps (i + 1)
          have hst := sum_take hi'
          (conv => whnf); repeat ((first | with_reducible refine CondG.tt ?_ | with_reducible refine CondG.ff ?_); conv => whnf)
          refine IdxG.rd hus (by omega) fun b o hc => ?_
          (conv => whnf); repeat ((first | with_reducible refine CondG.tt ?_ | with_reducible refine CondG.ff ?_); conv => whnf)
          refine LoadG.atF (v := x) (hc.one (i := (i : Int).toNat * 1) (by simpa using hx)) ?_
          (conv => whnf); repeat ((first | with_reducible refine CondG.tt ?_ | with_reducible refine CondG.ff ?_); conv => whnf)
          refine LoadG.at (.tl (.here rfl)) ?_
          (conv => whnf); repeat ((first | with_reducible refine CondG.tt ?_ | with_reducible refine CondG.ff ?_); conv => whnf)
          have hl1 : (bs ++ (ps.take i).flatten).length + ps[i].length ≤ 4194304 := by
            simp only [List.length_append]
            simp only [sumL] at *
            omega
          refine app_own bytesT 79 (hxr.right _ |>.tl) (by simp [bvs]) (bvs_one _) (by simp only [maxLen]; omega) (by omega) fun r hr hlen hnil => ?_
          obtain ⟨ra, rc, rfl⟩ := hr.len
          (conv => whnf); repeat ((first | with_reducible refine CondG.tt ?_ | with_reducible refine CondG.ff ?_); conv => whnf)
          refine StoreG.at rfl (Upd.tl (Upd.here (by simp) rfl)) ?_
          (conv => whnf); repeat ((first | with_reducible refine CondG.tt ?_ | with_reducible refine CondG.ff ?_); conv => whnf)
          refine ArithG.i64 (by omega) ?_
          (conv => whnf); repeat ((first | with_reducible refine CondG.tt ?_ | with_reducible refine CondG.ff ?_); conv => whnf)
          refine ⟨ps.length - (i + 1), _, _, by omega, ?_, Ent.refl _, i + 1, .slice ra ((bs ++ (ps.take i).flatten).length + ps[i].length) rc, by omega, rfl, rfl, ?_⟩
          · exact ⟨rfl, rfl, rfl, rfl, trivial⟩
          · have e2 : bs ++ (ps.take (i + 1)).flatten = (bs ++ (ps.take i).flatten) ++ ps[i] := by
              rw [List.take_succ_eq_append_getElem hi', List.flatten_append]; simp
            have e3 : ((bs ++ (ps.take i).flatten) ++ ps[i]).length = (bs ++ (ps.take i).flatten).length + ps[i].length := List.length_append
            rw [e2, e3, ← bvs_append (bs ++ (ps.take i).flatten)]
            rfl
        · obtain rfl : i = ps.length := by omega
          rw [List.take_length]
          (conv => whnf); repeat ((first | with_reducible refine CondG.tt ?_ | with_reducible refine CondG.ff ?_); conv => whnf)
          refine ret_here ⟨u', ?_⟩
          have h1 : layB bs 0 ps.flatten = bs ++ ps.flatten := by unfold layB; rw [if_pos ⟨rfl, hg'⟩]
          have h2 : layE bs 0 ps.flatten = 0 := by unfold layE; rw [if_pos rfl, if_neg (by simp only [sumL] at hg'; omega)]
          rw [h1, h2]
theorem byte_spec (F : List HP) (p : Nat) (u : Value) (bs : List Nat) (e : Int) (b : Nat) (hb : bs.length ≤ 4194304) :
    SpecF Tryd.prog 93 [.pointer (some ⟨p, 0, none⟩), .int .u8 b] F [own 1 u bs.length (bvs bs), cel p 209 [u, .int .i64 e]]
      (fun _ L => ∃ u', L = [own 1 u' (layB bs e [b]).length (bvs (layB bs e [b])), cel p 209 [u', .int .i64 (layE bs e [b])]]) := by
  refine fun93.spec rfl ?_
  (conv => whnf); repeat ((first | with_reducible refine CondG.tt ?_ | with_reducible refine CondG.ff ?_); conv => whnf)
  refine BuildG.of rfl ?_
  (conv => whnf); repeat ((first | with_reducible refine CondG.tt ?_ | with_reducible refine CondG.ff ?_); conv => whnf)
  intro b1
  (conv => whnf); repeat ((first | with_reducible refine CondG.tt ?_ | with_reducible refine CondG.ff ?_); conv => whnf)
  refine BuildG.of rfl ?_
  (conv => whnf); repeat ((first | with_reducible refine CondG.tt ?_ | with_reducible refine CondG.ff ?_); conv => whnf)
  intro b2
  (conv => whnf); repeat ((first | with_reducible refine CondG.tt ?_ | with_reducible refine CondG.ff ?_); conv => whnf)
  refine CallG.of (rest := [cel b2 79 [.slice (some ⟨b1, 0, none⟩) 1 1], cel b1 5 [.int .u8 b]]) (lay_spec _ p u _ bs e [[b]] hb (by simp [sumL]) (by simp) (RdParts.one (.mk _ _ _ _ _ (by simp) (.all)))) (Ent.perm ?_) ?_
  · exact List.perm_append_comm (l₁ := [cel b2 79 [.slice (some ⟨b1, 0, none⟩) 1 1], cel b1 5 [.int .u8 b]])
  · rintro v L ⟨u', rfl⟩
    (conv => whnf); repeat ((first | with_reducible refine CondG.tt ?_ | with_reducible refine CondG.ff ?_); conv => whnf)
    exact ⟨_, Ent.dropL [own 1 u' (layB bs e [b]).length (bvs (layB bs e [b])), cel p 209 [u', .int .i64 (layE bs e [b])]] _, u', rfl⟩
theorem number_spec (F : List HP) (p : Nat) (u : Value) (bs : List Nat) (e : Int) (n : Nat) (hb : bs.length ≤ 4194304) (hn : n < 9223372036854775808) :
    SpecF Tryd.prog 94 [.pointer (some ⟨p, 0, none⟩), .int .i64 n] F [own 1 u bs.length (bvs bs), cel p 209 [u, .int .i64 e]]
      (fun _ L => ∃ u', L = [own 1 u' (layB bs e (shortL (be n 8))).length (bvs (layB bs e (shortL (be n 8)))), cel p 209 [u', .int .i64 (layE bs e (shortL (be n 8)))]]) := by
  refine fun94.spec rfl ?_
  (conv => whnf); repeat ((first | with_reducible refine CondG.tt ?_ | with_reducible refine CondG.ff ?_); conv => whnf)
  refine CondG.decF (by omega) ?_
  (conv => whnf); repeat ((first | with_reducible refine CondG.tt ?_ | with_reducible refine CondG.ff ?_); conv => whnf)
  refine CallG.pure (form_spec _ n hn) ?_
  rintro r L ⟨k, hk, hr, rfl⟩
  subst hk
  obtain ⟨ra, rc, hre⟩ := hr.len
  subst hre
  (conv => whnf); repeat ((first | with_reducible refine CondG.tt ?_ | with_reducible refine CondG.ff ?_); conv => whnf)
  refine BuildG.of rfl ?_
  (conv => whnf); repeat ((first | with_reducible refine CondG.tt ?_ | with_reducible refine CondG.ff ?_); conv => whnf)
  intro b2
  (conv => whnf); repeat ((first | with_reducible refine CondG.tt ?_ | with_reducible refine CondG.ff ?_); conv => whnf)
  have hx := short_len (be n 8)
  rw [be_len] at hx
  refine CallG.of (rest := [cel b2 79 [.slice ra (shortL (be n 8)).length rc], own 1 (.slice ra (shortL (be n 8)).length rc) (shortL (be n 8)).length (bvs (shortL (be n 8)))]) (lay_spec _ p u _ bs e [shortL (be n 8)] hb (by simp only [sumL, List.flatten_cons, List.flatten_nil, List.append_nil]; omega) (by simp) (RdParts.one (own_rd hr (by simp [bvs])))) (Ent.perm ?_) ?_
  · exact List.perm_append_comm (l₁ := [cel b2 79 [.slice ra (shortL (be n 8)).length rc], own 1 (.slice ra (shortL (be n 8)).length rc) (shortL (be n 8)).length (bvs (shortL (be n 8)))])
  · rintro v L ⟨u', rfl⟩
    simp only [List.flatten_cons, List.flatten_nil, List.append_nil]
    (conv => whnf); repeat ((first | with_reducible refine CondG.tt ?_ | with_reducible refine CondG.ff ?_); conv => whnf)
    exact ⟨_, Ent.dropL [own 1 u' (layB bs e (shortL (be n 8))).length (bvs (layB bs e (shortL (be n 8)))), cel p 209 [u', .int .i64 (layE bs e (shortL (be n 8)))]] _, u', rfl⟩
theorem address_spec (F : List HP) (p : Nat) (u : Value) (bs : List Nat) (e : Int) (a : List Nat) (hb : bs.length ≤ 4194304) (ha : a.length = 20) :
    SpecF Tryd.prog 95 [.pointer (some ⟨p, 0, none⟩), .agg ⟨bvs a⟩] F [own 1 u bs.length (bvs bs), cel p 209 [u, .int .i64 e]]
      (fun _ L => ∃ u', L = [own 1 u' (layB bs e a).length (bvs (layB bs e a)), cel p 209 [u', .int .i64 (layE bs e a)]]) := by
  refine fun95.spec rfl ?_
  (conv => whnf); repeat ((first | with_reducible refine CondG.tt ?_ | with_reducible refine CondG.ff ?_); conv => whnf)
  intro b1
  (conv => whnf); repeat ((first | with_reducible refine CondG.tt ?_ | with_reducible refine CondG.ff ?_); conv => whnf)
  refine SideG.of (by decide) ?_
  (conv => whnf); repeat ((first | with_reducible refine CondG.tt ?_ | with_reducible refine CondG.ff ?_); conv => whnf)
  refine SliceG.zero ?_
  (conv => whnf); repeat ((first | with_reducible refine CondG.tt ?_ | with_reducible refine CondG.ff ?_); conv => whnf)
  refine BuildG.of rfl ?_
  (conv => whnf); repeat ((first | with_reducible refine CondG.tt ?_ | with_reducible refine CondG.ff ?_); conv => whnf)
  intro b2
  (conv => whnf); repeat ((first | with_reducible refine CondG.tt ?_ | with_reducible refine CondG.ff ?_); conv => whnf)
  refine CallG.of (rest := [cel b2 79 [.slice (some ⟨b1, 0, none⟩) 20 20], cel b1 27 (bvs a)]) (lay_spec _ p u _ bs e [a] hb (by simp [sumL, ha]) (by simp) (RdParts.one (by rw [ha]; exact .mk _ _ _ _ _ (by simp) (.all)))) (Ent.perm ?_) ?_
  · exact List.perm_append_comm (l₁ := [cel b2 79 [.slice (some ⟨b1, 0, none⟩) 20 20], cel b1 27 (bvs a)])
  · rintro v L ⟨u', rfl⟩
    simp only [List.flatten_cons, List.flatten_nil, List.append_nil]
    (conv => whnf); repeat ((first | with_reducible refine CondG.tt ?_ | with_reducible refine CondG.ff ?_); conv => whnf)
    exact ⟨_, Ent.dropL [own 1 u' (layB bs e a).length (bvs (layB bs e a)), cel p 209 [u', .int .i64 (layE bs e a)]] _, u', rfl⟩
theorem done_spec (F : List HP) (p : Nat) (u : Value) (bs : List Nat) (e : Int) (hb : bs.length ≤ 4194304) :
    SpecF Tryd.prog 97 [.pointer (some ⟨p, 0, none⟩)] F [own 1 u bs.length (bvs bs), cel p 209 [u, .int .i64 e]]
      (fun r L => ∃ r', SlV r' (if e = 0 then bs else []).length ∧ r = .tuple #[r', .int .i64 e] ∧ L = [own 1 r' (if e = 0 then bs else []).length (bvs (if e = 0 then bs else []))]) := by
  refine SpecF.ownV 0 rfl fun hsl hlen => ?_
  refine fun97.spec rfl ?_
  (conv => whnf); repeat ((first | with_reducible refine CondG.tt ?_ | with_reducible refine CondG.ff ?_); conv => whnf)
  refine LoadG.at (.tl (.here rfl)) ?_
  (conv => whnf); repeat ((first | with_reducible refine CondG.tt ?_ | with_reducible refine CondG.ff ?_); conv => whnf)
  refine CondG.ndec (fun he => ?_) (fun he => ?_)
  · (conv => whnf); repeat ((first | with_reducible refine CondG.tt ?_ | with_reducible refine CondG.ff ?_); conv => whnf)
    refine DrawG.mk 6 [cel p 209 [u, .int .i64 e]] [own 1 u bs.length (bvs bs)] (Ent.refl _) ?_
    (conv => whnf); repeat ((first | with_reducible refine CondG.tt ?_ | with_reducible refine CondG.ff ?_); conv => whnf)
    refine .take 0 ?_
    (conv => whnf); repeat ((first | with_reducible refine CondG.tt ?_ | with_reducible refine CondG.ff ?_); conv => whnf)
    refine ⟨rfl, ?_⟩
    (conv => whnf); repeat ((first | with_reducible refine CondG.tt ?_ | with_reducible refine CondG.ff ?_); conv => whnf)
    refine .take 1 ?_
    (conv => whnf); repeat ((first | with_reducible refine CondG.tt ?_ | with_reducible refine CondG.ff ?_); conv => whnf)
    refine ⟨rfl, ?_⟩
    (conv => whnf); repeat ((first | with_reducible refine CondG.tt ?_ | with_reducible refine CondG.ff ?_); conv => whnf)
    refine .take 2 ?_
    (conv => whnf); repeat ((first | with_reducible refine CondG.tt ?_ | with_reducible refine CondG.ff ?_); conv => whnf)
    refine ⟨rfl, ?_⟩
    (conv => whnf); repeat ((first | with_reducible refine CondG.tt ?_ | with_reducible refine CondG.ff ?_); conv => whnf)
    refine .take 3 ?_
    (conv => whnf); repeat ((first | with_reducible refine CondG.tt ?_ | with_reducible refine CondG.ff ?_); conv => whnf)
    refine ⟨rfl, ?_⟩
    (conv => whnf); repeat ((first | with_reducible refine CondG.tt ?_ | with_reducible refine CondG.ff ?_); conv => whnf)
    refine LoadG.at (.here rfl) ?_
    (conv => whnf); repeat ((first | with_reducible refine CondG.tt ?_ | with_reducible refine CondG.ff ?_); conv => whnf)
    refine .take 4 ?_
    (conv => whnf); repeat ((first | with_reducible refine CondG.tt ?_ | with_reducible refine CondG.ff ?_); conv => whnf)
    refine ⟨rfl, ?_⟩
    (conv => whnf); repeat ((first | with_reducible refine CondG.tt ?_ | with_reducible refine CondG.ff ?_); conv => whnf)
    refine .take 5 ?_
    (conv => whnf); repeat ((first | with_reducible refine CondG.tt ?_ | with_reducible refine CondG.ff ?_); conv => whnf)
    refine ⟨rfl, ?_⟩
    (conv => whnf); repeat ((first | with_reducible refine CondG.tt ?_ | with_reducible refine CondG.ff ?_); conv => whnf)
    refine ⟨rfl, ?_⟩
    (conv => whnf); repeat ((first | with_reducible refine CondG.tt ?_ | with_reducible refine CondG.ff ?_); conv => whnf)
    refine ⟨[own 1 (.slice none 0 0) 0 []], fun w G hs => Sat.own_nil hs.right, .slice none 0 0, ?_⟩
    rw [if_neg he]
    exact ⟨.inl ⟨rfl, rfl⟩, rfl, rfl⟩
  · subst he
    (conv => whnf); repeat ((first | with_reducible refine CondG.tt ?_ | with_reducible refine CondG.ff ?_); conv => whnf)
    refine LoadG.at (.tl (.here rfl)) ?_
    (conv => whnf); repeat ((first | with_reducible refine CondG.tt ?_ | with_reducible refine CondG.ff ?_); conv => whnf)
    refine CallG.pure (clone_spec _ u bs (by omega) ((own_rd hsl (by simp [bvs])).left F)) ?_
    rintro r L ⟨hr, rfl, hn⟩
    (conv => whnf); repeat ((first | with_reducible refine CondG.tt ?_ | with_reducible refine CondG.ff ?_); conv => whnf)
    exact ⟨_, Ent.dropL [own 1 r bs.length (bvs bs)] _, r, hr, rfl, rfl⟩
theorem wide_spec (F : List HP) (p : Nat) (u : Value) (bs : List Nat) (e : Int) (ws : List Nat) (hb : bs.length ≤ 4194304) (hw : ws.length = 4) :
    SpecF Tryd.prog 96 [.pointer (some ⟨p, 0, none⟩), .agg ⟨uvs ws⟩] F [own 1 u bs.length (bvs bs), cel p 209 [u, .int .i64 e]]
      (fun _ L => ∃ u', L = [own 1 u' (layB bs e (shortL (wideB ws))).length (bvs (layB bs e (shortL (wideB ws)))), cel p 209 [u', .int .i64 (layE bs e (shortL (wideB ws)))]]) := by
  refine fun96.spec rfl ?_
  (conv => whnf); repeat ((first | with_reducible refine CondG.tt ?_ | with_reducible refine CondG.ff ?_); conv => whnf)
  intro b3
  (conv => whnf); repeat ((first | with_reducible refine CondG.tt ?_ | with_reducible refine CondG.ff ?_); conv => whnf)
  intro b4
  (conv => whnf); repeat ((first | with_reducible refine CondG.tt ?_ | with_reducible refine CondG.ff ?_); conv => whnf)
  refine LoopG.mk (fun m ev L => ∃ i, i ≤ 32 ∧ m = 32 - i ∧ ev = [(0, .pointer (some ⟨p, 0, none⟩)), (3, .pointer (some ⟨b3, 0, none⟩)), (4, .pointer (some ⟨b4, 0, none⟩)), (6, .int .i64 i)] ∧
    L = [cel b4 24 (bvs (fillB (fun i => ws.getD (3 - i / 8) 0 / 256 ^ (7 - i % 8) % 256) 32 i)), cel b3 30 (uvs ws), own 1 u bs.length (bvs bs), cel p 209 [u, .int .i64 e]]) 32
    [(0, .pointer (some ⟨p, 0, none⟩)), (3, .pointer (some ⟨b3, 0, none⟩)), (4, .pointer (some ⟨b4, 0, none⟩)), (6, .int .i64 0)] _ ⟨rfl, rfl, rfl, rfl, trivial⟩ (Ent.refl _) ⟨0, by omega, rfl, rfl, by rw [fillB_zero]; rfl⟩ ?_
  rintro m ev L ⟨i, hi, rfl, rfl, rfl⟩
  (conv => whnf); repeat ((first | with_reducible refine CondG.tt ?_ | with_reducible refine CondG.ff ?_); conv => whnf)
  refine CondG.dec (fun h => ?_) (fun h => ?_)
  · have hi' : i < 32 := by omega
    have hq : (i : Int).tdiv 8 = ((i / 8 : Nat) : Int) := rfl
    have hr : (i : Int).tmod 8 = ((i % 8 : Nat) : Int) := rfl
    (conv => whnf); repeat ((first | with_reducible refine CondG.tt ?_ | with_reducible refine CondG.ff ?_); conv => whnf)
    refine SideG.of (by decide) ?_
    (conv => whnf); repeat ((first | with_reducible refine CondG.tt ?_ | with_reducible refine CondG.ff ?_); conv => whnf)
    refine ArithG.i64' _ hq (by omega) ?_
    (conv => whnf); repeat ((first | with_reducible refine CondG.tt ?_ | with_reducible refine CondG.ff ?_); conv => whnf)
    refine ArithG.i64 (by omega) ?_
    (conv => whnf); repeat ((first | with_reducible refine CondG.tt ?_ | with_reducible refine CondG.ff ?_); conv => whnf)
    refine SideG.of (by omega) ?_
    (conv => whnf); repeat ((first | with_reducible refine CondG.tt ?_ | with_reducible refine CondG.ff ?_); conv => whnf)
    have hg : (uvs ws)[0 + (3 - ((i / 8 : Nat) : Int)).toNat * 1]? = some (uv (ws.getD (3 - i / 8) 0)) := by
      have e1 : 0 + (3 - ((i / 8 : Nat) : Int)).toNat * 1 = 3 - i / 8 := by omega
      rw [e1]
      have hlt : 3 - i / 8 < ws.length := by omega
      simp [uvs, List.getD, List.getElem?_eq_getElem hlt]
    refine LoadG.at (v := uv (ws.getD (3 - i / 8) 0)) (.tl (.here hg)) ?_
    (conv => whnf); repeat ((first | with_reducible refine CondG.tt ?_ | with_reducible refine CondG.ff ?_); conv => whnf)
    refine SideG.of (by decide) ?_
    (conv => whnf); repeat ((first | with_reducible refine CondG.tt ?_ | with_reducible refine CondG.ff ?_); conv => whnf)
    rw [hr]
    refine ArithG.i64 (by omega) ?_
    (conv => whnf); repeat ((first | with_reducible refine CondG.tt ?_ | with_reducible refine CondG.ff ?_); conv => whnf)
    refine ArithG.i64 (by omega) ?_
    (conv => whnf); repeat ((first | with_reducible refine CondG.tt ?_ | with_reducible refine CondG.ff ?_); conv => whnf)
    refine SideG.of (by omega) ?_
    (conv => whnf); repeat ((first | with_reducible refine CondG.tt ?_ | with_reducible refine CondG.ff ?_); conv => whnf)
    refine ArithG.all ?_
    (conv => whnf); repeat ((first | with_reducible refine CondG.tt ?_ | with_reducible refine CondG.ff ?_); conv => whnf)
    refine SideG.of (by omega) ?_
    (conv => whnf); repeat ((first | with_reducible refine CondG.tt ?_ | with_reducible refine CondG.ff ?_); conv => whnf)
    have e1 := shr_be (ws.getD (3 - i / 8) 0) (i % 8) (by omega)
    refine StoreG.at rfl (Upd.here (by simp [bvs_len, fillB_len]; omega) rfl) ?_
    (conv => whnf); repeat ((first | with_reducible refine CondG.tt ?_ | with_reducible refine CondG.ff ?_); conv => whnf)
    refine ArithG.i64 (by omega) ?_
    (conv => whnf); repeat ((first | with_reducible refine CondG.tt ?_ | with_reducible refine CondG.ff ?_); conv => whnf)
    refine ⟨32 - (i + 1), _, _, by omega, ?_, Ent.refl _, i + 1, by omega, rfl, rfl, ?_⟩
    · exact ⟨rfl, rfl, rfl, rfl, trivial⟩
    rw [← fillB_set _ hi']
    have e2 : (0 : Nat) + (i : Int).toNat * 1 = i := by simp
    rw [e2]
    rw [← show ((bvs (fillB (fun i => ws.getD (3 - i / 8) 0 / 256 ^ (7 - i % 8) % 256) 32 i)).set i (.int .u8 (IntKind.u8.wrap (((ws.getD (3 - i / 8) 0 : Nat) : Int).fdiv (2 ^ (min (56 - 8 * ((i % 8 : Nat) : Int)).toNat 64)))))) = (bvs (fillB (fun i => ws.getD (3 - i / 8) 0 / 256 ^ (7 - i % 8) % 256) 32 i)).set i (bv (ws.getD (3 - i / 8) 0 / 256 ^ (7 - i % 8) % 256)) by rw [e1]; rfl]
    rfl
  · obtain rfl : i = 32 := by omega
    (conv => whnf); repeat ((first | with_reducible refine CondG.tt ?_ | with_reducible refine CondG.ff ?_); conv => whnf)
    refine SideG.of (by decide) ?_
    (conv => whnf); repeat ((first | with_reducible refine CondG.tt ?_ | with_reducible refine CondG.ff ?_); conv => whnf)
    refine SliceG.zero ?_
    (conv => whnf); repeat ((first | with_reducible refine CondG.tt ?_ | with_reducible refine CondG.ff ?_); conv => whnf)
    rw [fillB_all]
    refine CallG.pure (short_spec _ _ (wideB ws) (by rw [wide_len]; decide) ?_) ?_
    · rw [wide_len]
      exact .mk _ _ _ _ _ (by decide) (CelN.all.left F)
    · rintro r L ⟨k, hk, hr, rfl⟩
      subst hk
      obtain ⟨ra, rc, hre⟩ := hr.len
      subst hre
      (conv => whnf); repeat ((first | with_reducible refine CondG.tt ?_ | with_reducible refine CondG.ff ?_); conv => whnf)
      refine BuildG.of rfl ?_
      (conv => whnf); repeat ((first | with_reducible refine CondG.tt ?_ | with_reducible refine CondG.ff ?_); conv => whnf)
      intro b2
      (conv => whnf); repeat ((first | with_reducible refine CondG.tt ?_ | with_reducible refine CondG.ff ?_); conv => whnf)
      have hx := short_len (wideB ws)
      rw [wide_len] at hx
      refine CallG.of (rest := [cel b2 79 [.slice ra (shortL (wideB ws)).length rc], own 1 (.slice ra (shortL (wideB ws)).length rc) (shortL (wideB ws)).length (bvs (shortL (wideB ws))), cel b4 24 (bvs (wideB ws)), cel b3 30 (uvs ws)])
        (lay_spec _ p u _ bs e [shortL (wideB ws)] hb (by simp only [sumL, List.flatten_cons, List.flatten_nil, List.append_nil]; omega) (by simp) (RdParts.one (own_rd hr (by simp [bvs])))) (Ent.perm ?_) ?_
      · exact List.perm_append_comm (l₁ := [cel b2 79 [.slice ra (shortL (wideB ws)).length rc], own 1 (.slice ra (shortL (wideB ws)).length rc) (shortL (wideB ws)).length (bvs (shortL (wideB ws))), cel b4 24 (bvs (wideB ws)), cel b3 30 (uvs ws)])
      · rintro v L ⟨u', rfl⟩
        simp only [List.flatten_cons, List.flatten_nil, List.append_nil]
        (conv => whnf); repeat ((first | with_reducible refine CondG.tt ?_ | with_reducible refine CondG.ff ?_); conv => whnf)
        exact ⟨_, Ent.dropL [own 1 u' (layB bs e (shortL (wideB ws))).length (bvs (layB bs e (shortL (wideB ws)))), cel p 209 [u', .int .i64 (layE bs e (shortL (wideB ws)))]] _, u', rfl⟩
theorem isZero_spec (F : List HP) (ws : List Nat) (hw : ws.length = 4) : SpecF Tryd.prog 117 [.agg ⟨uvs ws⟩] F [] (fun r L => r = .bool (decide (ws = List.replicate 4 0)) ∧ L = []) := by
  refine fun117.spec rfl ?_
  (conv => whnf); repeat ((first | with_reducible refine CondG.tt ?_ | with_reducible refine CondG.ff ?_); conv => whnf)
  intro b
  (conv => whnf); repeat ((first | with_reducible refine CondG.tt ?_ | with_reducible refine CondG.ff ?_); conv => whnf)
  refine LoadNG.at (vs := uvs ws) (by simp [uvs, hw]) .all ?_
  (conv => whnf); repeat ((first | with_reducible refine CondG.tt ?_ | with_reducible refine CondG.ff ?_); conv => whnf)
  refine BuildG.of rfl ?_
  (conv => whnf); repeat ((first | with_reducible refine CondG.tt ?_ | with_reducible refine CondG.ff ?_); conv => whnf)
  refine DoesG.eqv 4 (List.replicate 4 (.int .u64)) (by kernel_rfl) (by decide) (by kernel_rfl) (by kernel_rfl) (wt_uvs hw) (wt_uvs (ws := List.replicate 4 0) rfl) ?_
  (conv => whnf); repeat ((first | with_reducible refine CondG.tt ?_ | with_reducible refine CondG.ff ?_); conv => whnf)
  exact ⟨[], Ent.nil _, congrArg Value.bool (decide_eq_decide.2 (uvs_inj (m := List.replicate 4 0))), rfl⟩
end Go.Proofs.YthdpknlnpeaiiaaDoor
