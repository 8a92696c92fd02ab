/-
  LedgerSums by naturals: the balances of all people together are the supply, behind every step. A library of this session's own.
-/
import Derived.Test.YtnbcbdlbejdkpaaDoorZLp
import Derived.Test.YtnbcbdlbejdkpaaDoorZMb
namespace Go.Sl
open Go
def tot (m : Md) (t : Nat) (W : List (List Nat)) : Nat := (W.map (m.B t)).sum
/-- The sum is the supply, of every token. -/
structure InvM (W : List (List Nat)) (m : Md) : Prop where
  sum : ∀ t, t < 64 → tot m t W = (m.T t).sup
  lt : ∀ t, t < 64 → (m.T t).sup < m256
  non : ∀ t, t < 64 → (m.T t).there = false → m.T t = ⟨false, false, 0⟩
theorem tot_other (m : Md) {t u : Nat} (a : List Nat) (n : Nat) (W : List (List Nat)) (h : u ≠ t) : tot (m.setB t a n) u W = tot m u W := by
  unfold tot Md.setB
  congr 1
  apply List.map_congr_left
  intro b _
  simp [h]
theorem tot_setT (m : Md) (t : Nat) (x : TokN) (u : Nat) (W : List (List Nat)) : tot (m.setT t x) u W = tot m u W := rfl
theorem tot_setA (m : Md) (t : Nat) (o s : List Nat) (n : Nat) (u : Nat) (W : List (List Nat)) : tot (m.setA t o s n) u W = tot m u W := rfl
theorem tot_absent (m : Md) {t : Nat} {a : List Nat} (n : Nat) {W : List (List Nat)} (h : a ∉ W) : tot (m.setB t a n) t W = tot m t W := by
  unfold tot Md.setB
  congr 1
  apply List.map_congr_left
  intro b hb
  have : b ≠ a := fun e => h (e ▸ hb)
  simp [this]
theorem tot_setB (m : Md) {t : Nat} {a : List Nat} (n : Nat) {W : List (List Nat)} (hn : W.Nodup) (h : a ∈ W) : tot (m.setB t a n) t W + m.B t a = tot m t W + n := by
  induction W with
  | nil => cases h
  | cons b W ih =>
    obtain ⟨h1, h2⟩ := List.nodup_cons.1 hn
    have e1 : ∀ m : Md, tot m t (b :: W) = m.B t b + tot m t W := fun m => by simp [tot]
    rw [e1, e1]
    rcases List.mem_cons.1 h with rfl | h
    · rw [tot_absent m n h1]
      have : (m.setB t a n).B t a = n := by simp [Md.setB]
      rw [this]
      omega
    · have hne : b ≠ a := fun e => h1 (e ▸ h)
      have : (m.setB t a n).B t b = m.B t b := by simp [Md.setB, hne]
      rw [this]
      have := ih h2 h
      omega
theorem bal_le_tot {m : Md} {t : Nat} {a : List Nat} {W : List (List Nat)} (h : a ∈ W) : m.B t a ≤ tot m t W := by
  induction W with
  | nil => cases h
  | cons b W ih =>
    have e1 : tot m t (b :: W) = m.B t b + tot m t W := by simp [tot]
    rw [e1]
    rcases List.mem_cons.1 h with eb | h
    · rw [eb]; omega
    · have h3 := ih h
      omega
theorem two_le_tot {m : Md} {t : Nat} {a b : List Nat} {W : List (List Nat)} (hn : W.Nodup) (ha : a ∈ W) (hb : b ∈ W) (hne : a ≠ b) : m.B t a + m.B t b ≤ tot m t W := by
  induction W with
  | nil => cases ha
  | cons c W ih =>
    obtain ⟨h1, h2⟩ := List.nodup_cons.1 hn
    have e1 : tot m t (c :: W) = m.B t c + tot m t W := by simp [tot]
    rw [e1]
    rcases List.mem_cons.1 ha with ea | ha
    · rcases List.mem_cons.1 hb with eb | hb
      · exact absurd (ea.trans eb.symm) hne
      · have h3 : m.B t b ≤ tot m t W := bal_le_tot hb
        rw [ea]
        omega
    · rcases List.mem_cons.1 hb with eb | hb
      · have h3 : m.B t a ≤ tot m t W := bal_le_tot ha
        rw [eb]
        omega
      · have h3 := ih h2 ha hb
        omega
section
variable {W : List (List Nat)} {m : Md}
theorem InvM.setT (h : InvM W m) {t : Nat} (p : Bool) {n : Nat} (hs : tot m t W = n) (hn : n < m256) : InvM W (m.setT t ⟨true, p, n⟩) := by
  refine ⟨fun u hu => ?_, fun u hu => ?_, fun u hu hth => ?_⟩
  · rw [tot_setT]
    simp only [Md.setT]
    split
    · rename_i e; subst e; exact hs
    · exact h.sum u hu
  · simp only [Md.setT]
    split
    · exact hn
    · exact h.lt u hu
  · simp only [Md.setT] at hth ⊢
    split
    · rename_i e
      rw [if_pos e] at hth
      cases hth
    · rename_i e
      rw [if_neg e] at hth
      exact h.non u hu hth
theorem InvM.setA (h : InvM W m) (t : Nat) (o s : List Nat) (n : Nat) : InvM W (m.setA t o s n) := ⟨h.sum, h.lt, h.non⟩
theorem InvM.register (h : InvM W m) (t : Int) : (registerM m t).1 ≠ 75 ∧ InvM W (registerM m t).2 := by
  unfold registerM
  split
  · rename_i h1
    refine ⟨?_, h⟩
    unfold tokenM begE at h1 ⊢
    (repeat' split) <;> simp_all
  · rename_i h1
    have h1' := Classical.not_not.1 h1
    obtain ⟨k, rfl, hk⟩ := tokenM_nat h1'
    have e : (tokenM m k).1 = m.T k := by
      unfold tokenM at h1' ⊢
      split at h1'
      · rename_i h2; exact absurd h1' h2
      · rename_i h2; rw [if_neg h2, Int.toNat_natCast]
    split
    · exact ⟨(by decide : (82 : Int) ≠ 75), h⟩
    · rename_i h2
      rw [e] at h2
      have h3 := h.non k hk (by simpa using h2)
      refine ⟨(by decide : (0 : Int) ≠ 75), h.setT false ?_ (by decide)⟩
      rw [Int.toNat_natCast, h.sum k hk, h3]
theorem tokenM_no75 (m : Md) (t : Int) : (tokenM m t).2 ≠ 75 := by
  unfold tokenM begE
  (repeat' split) <;> simp_all
theorem thereM_no75 (m : Md) (t : Int) : (thereM m t).2 ≠ 75 := by
  have := tokenM_no75 m t
  unfold thereM
  (repeat' split) <;> first | exact this | decide
theorem runM_no75 (m : Md) (t : Int) : (runM m t).2 ≠ 75 := by
  have := thereM_no75 m t
  unfold runM
  split <;> first | exact this | decide
theorem InvM.pause (h : InvM W m) (t : Int) : (pauseM m t).1 ≠ 75 ∧ InvM W (pauseM m t).2 := by
  unfold pauseM
  split
  · exact ⟨runM_no75 m t, h⟩
  · rename_i h1
    have h1' := Classical.not_not.1 h1
    obtain ⟨k, rfl, hk⟩ := runM_nat h1'
    obtain ⟨e, _⟩ := runM_T hk h1'
    rw [e, Int.toNat_natCast]
    exact ⟨(by decide : (0 : Int) ≠ 75), h.setT true (h.sum k hk) (h.lt k hk)⟩
theorem InvM.resume (h : InvM W m) (t : Int) : (resumeM m t).1 ≠ 75 ∧ InvM W (resumeM m t).2 := by
  unfold resumeM
  split
  · exact ⟨thereM_no75 m t, h⟩
  · rename_i h1
    have h1' := Classical.not_not.1 h1
    obtain ⟨k, rfl, hk⟩ := thereM_nat h1'
    obtain ⟨e, _⟩ := thereM_T hk h1'
    split
    · exact ⟨(by decide : (84 : Int) ≠ 75), h⟩
    · rw [e, Int.toNat_natCast]
      exact ⟨(by decide : (0 : Int) ≠ 75), h.setT false (h.sum k hk) (h.lt k hk)⟩
theorem InvM.mint (h : InvM W m) (hw : W.Nodup) (t : Int) {a : List Nat} (ha : a ∈ W) (n : Nat) : (mintM m t a n).1 ≠ 75 ∧ InvM W (mintM m t a n).2 := by
  unfold mintM
  split
  · exact ⟨runM_no75 m t, h⟩
  · rename_i h1
    have h1' := Classical.not_not.1 h1
    obtain ⟨k, rfl, hk⟩ := runM_nat h1'
    obtain ⟨e, _⟩ := runM_T hk h1'
    rw [e, Int.toNat_natCast]
    split
    · exact ⟨(by decide : (87 : Int) ≠ 75), h⟩
    · rename_i h2
      have hb := bal_le_tot (m := m) (t := k) ha
      rw [h.sum k hk] at hb
      rw [if_neg (by omega)]
      split
      · exact ⟨(by decide : (0 : Int) ≠ 75), h⟩
      · refine ⟨(by decide : (0 : Int) ≠ 75), ?_⟩
        have ht := tot_setB (m.setT k ⟨true, (m.T k).paused, (m.T k).sup + n⟩) (t := k) (m.B k a + n) hw ha
        have ht2 : tot (m.setT k ⟨true, (m.T k).paused, (m.T k).sup + n⟩) k W = (m.T k).sup := h.sum k hk
        have hb2 : (m.setT k ⟨true, (m.T k).paused, (m.T k).sup + n⟩).B k a = m.B k a := rfl
        rw [ht2, hb2] at ht
        refine ⟨fun u hu => ?_, fun u hu => ?_, fun u hu hth => ?_⟩
        · by_cases e2 : u = k
          · subst e2
            show tot _ u W = ((m.setT u _).T u).sup
            simp only [Md.setT, if_true] at ht ⊢
            omega
          · rw [tot_other _ _ _ _ e2]
            show tot m u W = ((m.setT k _).T u).sup
            simp only [Md.setT, if_neg e2]
            exact h.sum u hu
        · show ((m.setT k _).T u).sup < m256
          simp only [Md.setT]
          split
          · show (m.T k).sup + n < m256
            omega
          · exact h.lt u hu
        · have hth' : ((m.setT k ⟨true, (m.T k).paused, (m.T k).sup + n⟩).T u).there = false := hth
          show (m.setT k _).T u = _
          simp only [Md.setT] at hth' ⊢
          split
          · rename_i e2; rw [if_pos e2] at hth'; cases hth'
          · rename_i e2; rw [if_neg e2] at hth'; exact h.non u hu hth'
theorem InvM.burn (h : InvM W m) (hw : W.Nodup) (t : Int) {a : List Nat} (ha : a ∈ W) (n : Nat) : (burnM m t a n).1 ≠ 75 ∧ InvM W (burnM m t a n).2 := by
  unfold burnM
  split
  · exact ⟨runM_no75 m t, h⟩
  · rename_i h1
    have h1' := Classical.not_not.1 h1
    obtain ⟨k, rfl, hk⟩ := runM_nat h1'
    obtain ⟨e, _⟩ := runM_T hk h1'
    rw [e, Int.toNat_natCast]
    split
    · exact ⟨(by decide : (85 : Int) ≠ 75), h⟩
    · rename_i h2
      have hb := bal_le_tot (m := m) (t := k) ha
      rw [h.sum k hk] at hb
      rw [if_neg (by omega)]
      split
      · exact ⟨(by decide : (0 : Int) ≠ 75), h⟩
      · refine ⟨(by decide : (0 : Int) ≠ 75), ?_⟩
        have hl := h.lt k hk
        have ht := tot_setB (m.setT k ⟨true, (m.T k).paused, (m.T k).sup - n⟩) (t := k) (m.B k a - n) hw ha
        have ht2 : tot (m.setT k ⟨true, (m.T k).paused, (m.T k).sup - n⟩) k W = (m.T k).sup := h.sum k hk
        have hb2 : (m.setT k ⟨true, (m.T k).paused, (m.T k).sup - n⟩).B k a = m.B k a := rfl
        rw [ht2, hb2] at ht
        refine ⟨fun u hu => ?_, fun u hu => ?_, fun u hu hth => ?_⟩
        · by_cases e2 : u = k
          · subst e2
            show tot _ u W = ((m.setT u _).T u).sup
            simp only [Md.setT, if_true] at ht ⊢
            omega
          · rw [tot_other _ _ _ _ e2]
            show tot m u W = ((m.setT k _).T u).sup
            simp only [Md.setT, if_neg e2]
            exact h.sum u hu
        · show ((m.setT k _).T u).sup < m256
          simp only [Md.setT]
          split
          · show (m.T k).sup - n < m256
            omega
          · exact h.lt u hu
        · have hth' : ((m.setT k ⟨true, (m.T k).paused, (m.T k).sup - n⟩).T u).there = false := hth
          show (m.setT k _).T u = _
          simp only [Md.setT] at hth' ⊢
          split
          · rename_i e2; rw [if_pos e2] at hth'; cases hth'
          · rename_i e2; rw [if_neg e2] at hth'; exact h.non u hu hth'
theorem InvM.funds (h : InvM W m) (hw : W.Nodup) {k : Nat} (hk : k < 64) {a b : List Nat} (ha : a ∈ W) (hb : b ∈ W) (n : Nat) : fundsM m k a b n ≠ 75 := by
  unfold fundsM
  split
  · decide
  · rename_i h1
    split
    · decide
    · rename_i hne
      have h2 := two_le_tot (m := m) (t := k) hw ha hb hne
      rw [h.sum k hk] at h2
      have := h.lt k hk
      rw [if_neg (by omega)]
      decide
theorem InvM.turn (h : InvM W m) (hw : W.Nodup) {k : Nat} {a b : List Nat} (ha : a ∈ W) (hb : b ∈ W) {n : Nat} (hn : n ≤ m.B k a) : InvM W (turnM m k a b n) := by
  unfold turnM
  split
  · exact h
  · rename_i hne
    have hab : a ≠ b := fun e => hne (.inl e)
    have t1 := tot_setB m (t := k) (m.B k a - n) hw ha
    have t2 := tot_setB (m.setB k a (m.B k a - n)) (t := k) (m.B k b + n) hw hb
    have e1 : (m.setB k a (m.B k a - n)).B k b = m.B k b := by
      have hba : ¬ b = a := fun e => hab e.symm
      simp [Md.setB, hba]
    rw [e1] at t2
    refine ⟨fun u hu => ?_, h.lt, h.non⟩
    by_cases e2 : u = k
    · subst e2
      show _ = (m.T u).sup
      have := h.sum u hu
      omega
    · rw [tot_other _ _ _ _ e2, tot_other _ _ _ _ e2]
      exact h.sum u hu
theorem fundsM_0 {k : Nat} {a b : List Nat} {n : Nat} (h : fundsM m k a b n = 0) : n ≤ m.B k a := by
  unfold fundsM at h
  split at h
  · cases h
  · omega
theorem InvM.move (h : InvM W m) (hw : W.Nodup) (t : Int) {a b : List Nat} (ha : a ∈ W) (hb : b ∈ W) (n : Nat) : (moveM m t a b n).1 ≠ 75 ∧ InvM W (moveM m t a b n).2 := by
  unfold moveM
  split
  · exact ⟨runM_no75 m t, h⟩
  · rename_i h1
    have h1' := Classical.not_not.1 h1
    obtain ⟨k, rfl, hk⟩ := runM_nat h1'
    rw [Int.toNat_natCast]
    split
    · exact ⟨h.funds hw hk ha hb n, h⟩
    · rename_i h2
      exact ⟨(by decide : (0 : Int) ≠ 75), h.turn hw ha hb (fundsM_0 (Classical.not_not.1 h2))⟩
theorem InvM.allow (h : InvM W m) (t : Int) (a b : List Nat) (n : Nat) : (allowM m t a b n).1 ≠ 75 ∧ InvM W (allowM m t a b n).2 := by
  unfold allowM
  split
  · exact ⟨thereM_no75 m t, h⟩
  · exact ⟨(by decide : (0 : Int) ≠ 75), h.setA _ _ _ _⟩
theorem InvM.pull (h : InvM W m) (hw : W.Nodup) (t : Int) (s : List Nat) {a b : List Nat} (ha : a ∈ W) (hb : b ∈ W) (n : Nat) : (pullM m t s a b n).1 ≠ 75 ∧ InvM W (pullM m t s a b n).2 := by
  unfold pullM
  split
  · exact ⟨runM_no75 m t, h⟩
  · rename_i h1
    have h1' := Classical.not_not.1 h1
    obtain ⟨k, rfl, hk⟩ := runM_nat h1'
    rw [Int.toNat_natCast]
    split
    · exact ⟨(by decide : (86 : Int) ≠ 75), h⟩
    · split
      · exact ⟨h.funds hw hk ha hb n, h⟩
      · rename_i h3
        have h4 := fundsM_0 (Classical.not_not.1 h3)
        refine ⟨(by decide : (0 : Int) ≠ 75), ?_⟩
        show InvM W (turnM _ k a b n)
        split
        · exact h.turn hw ha hb h4
        · exact (h.setA k a s _).turn hw ha hb h4
end
/-! Over views -/
theorem Led.now_iff {V U : View} {m : Md} (h : V.now = U.now) : Led V m → Led U m := fun l =>
  ⟨fun t ht => (congrFun h _).symm.trans (l.tok t ht), fun t a ht ha => (congrFun h _).symm.trans (l.bal t a ht ha), fun t o s ht ho hs => (congrFun h _).symm.trans (l.all t o s ht ho hs), l.supLt, l.balLt, l.allLt, l.non⟩
def OkF (W : List (List Nat)) (f : ByteArray → List Nat) : Prop := ∃ m, Led ⟨f, []⟩ m ∧ InvM W m
structure OkV (W : List (List Nat)) (V : View) : Prop where
  now : OkF W V.now
  hist : ∀ f ∈ V.hist, OkF W f
/-- What a step of a script answers, and what is told behind it. -/
def stepN (k : Nat) (V : View) (x : StepD) : ToldD × View :=
  if k = 0 then (told1 (registerL V x.tok).1, (registerL V x.tok).2) else
  if k = 1 then (told1 (pauseL V x.tok).1, (pauseL V x.tok).2) else
  if k = 2 then (told1 (resumeL V x.tok).1, (resumeL V x.tok).2) else
  if k = 3 then (told1 (mintL V x.tok x.a x.amt).1, (mintL V x.tok x.a x.amt).2) else
  if k = 4 then (told1 (burnL V x.tok x.a x.amt).1, (burnL V x.tok x.a x.amt).2) else
  if k = 5 then (told1 (moveL V x.tok x.a x.b x.amt).1, (moveL V x.tok x.a x.b x.amt).2) else
  if k = 6 then (told1 (allowL V x.tok x.a x.b x.amt).1, (allowL V x.tok x.a x.b x.amt).2) else
  if k = 7 then (told1 (pullL V x.tok x.a x.b x.c x.amt).1, (pullL V x.tok x.a x.b x.c x.amt).2) else
  if k = 8 then (⟨(tokenL V x.tok).2, (tokenL V x.tok).1, z4, 0⟩, V) else
  if k = 9 then (⟨(balL V x.tok x.a).2, zTok, (balL V x.tok x.a).1, 0⟩, V) else
  if k = 10 then (⟨(allowedL V x.tok x.a x.b).2, zTok, (allowedL V x.tok x.a x.b).1, 0⟩, V) else
  if k = 11 then (⟨0, zTok, z4, V.hist.length⟩, ⟨V.now, V.hist ++ [V.now]⟩) else
  (told1 (backE V x.tok), backV V x.tok)
def stepL (V : View) (x : StepD) : ToldD × View := stepN (pickN x.what 13) V x
section
variable {W : List (List Nat)} {V : View}
theorem OkV.of (h : OkV W V) {U : View} (h1 : OkF W U.now) (h2 : U.hist = V.hist) : OkV W U := ⟨h1, by rw [h2]; exact h.hist⟩
theorem OkF.led {f : ByteArray → List Nat} (h : OkF W f) {U : View} (e : U.now = f) : ∃ m, Led U m ∧ InvM W m := by
  obtain ⟨m, h1, h2⟩ := h
  exact ⟨m, Led.now_iff (V := ⟨f, []⟩) (U := U) e.symm h1, h2⟩
theorem okF_of {U : View} {m : Md} (h : Led U m) (h2 : InvM W m) : OkF W U.now := ⟨m, Led.now_iff (V := U) (U := ⟨U.now, []⟩) rfl h, h2⟩
theorem tokenL_no75 {m : Md} (h : Led V m) (t : Int) : (tokenL V t).2 ≠ 75 := by
  rw [h.tokenM t]
  exact tokenM_no75 m t
theorem begE_no75 (t : Int) : begE t ≠ 75 := by
  unfold begE
  split <;> decide
theorem balL_no75 {m : Md} (h : Led V m) (t : Int) {a : List Nat} (ha : adr a) : (balL V t a).2 ≠ 75 := by
  rw [h.balM t ha]
  unfold balM
  split
  · exact begE_no75 t
  · exact (by decide : (0 : Int) ≠ 75)
theorem allowedL_no75 {m : Md} (h : Led V m) (t : Int) {a b : List Nat} (ha : adr a) (hb : adr b) : (allowedL V t a b).2 ≠ 75 := by
  rw [h.allowedM t ha hb]
  unfold allowedM
  split
  · exact begE_no75 t
  · exact (by decide : (0 : Int) ≠ 75)
theorem registerL_hist (t : Int) : (registerL V t).2.hist = V.hist := by unfold registerL; (repeat' split) <;> rfl
theorem pauseL_hist (t : Int) : (pauseL V t).2.hist = V.hist := by unfold pauseL; (repeat' split) <;> rfl
theorem resumeL_hist (t : Int) : (resumeL V t).2.hist = V.hist := by unfold resumeL; (repeat' split) <;> rfl
theorem mintL_hist (t : Int) (a w : List Nat) : (mintL V t a w).2.hist = V.hist := by unfold mintL; (repeat' split) <;> rfl
theorem burnL_hist (t : Int) (a w : List Nat) : (burnL V t a w).2.hist = V.hist := by unfold burnL; (repeat' split) <;> rfl
theorem turnL_hist (t : Nat) (a b w l r : List Nat) : (turnL V t a b w l r).hist = V.hist := by unfold turnL; split <;> rfl
theorem moveL_hist (t : Int) (a b w : List Nat) : (moveL V t a b w).2.hist = V.hist := by
  unfold moveL
  (repeat' split) <;> first | rfl | exact turnL_hist _ _ _ _ _ _
theorem allowL_hist (t : Int) (a b w : List Nat) : (allowL V t a b w).2.hist = V.hist := by unfold allowL; (repeat' split) <;> rfl
theorem pullL_hist (t : Int) (s a b w : List Nat) : (pullL V t s a b w).2.hist = V.hist := by
  unfold pullL
  (repeat' split) <;> first | rfl | exact turnL_hist _ _ _ _ _ _ | exact (turnL_hist _ _ _ _ _ _).trans rfl
theorem step_ok (hw : W.Nodup) (h : OkV W V) {x : StepD} (hx : x.wf) (ha : x.a ∈ W) (hb : x.b ∈ W) (hc : x.c ∈ W) : (stepL V x).1.code ≠ 75 ∧ OkV W (stepL V x).2 := by
  obtain ⟨m, hl, hi⟩ := h.now.led (U := V) rfl
  unfold stepL
  generalize pickN x.what 13 = k
  unfold stepN
  by_cases e0 : k = 0
  · rw [if_pos e0]
    have h1 := hl.registerM x.tok
    have h2 := hi.register x.tok
    exact ⟨by show (registerL V x.tok).1 ≠ 75; rw [h1.1]; exact h2.1, h.of (okF_of h1.2 h2.2) (registerL_hist _)⟩
  rw [if_neg e0]
  by_cases e1 : k = 1
  · rw [if_pos e1]
    have h1 := hl.pauseM x.tok
    have h2 := hi.pause x.tok
    exact ⟨by show (pauseL V x.tok).1 ≠ 75; rw [h1.1]; exact h2.1, h.of (okF_of h1.2 h2.2) (pauseL_hist _)⟩
  rw [if_neg e1]
  by_cases e2 : k = 2
  · rw [if_pos e2]
    have h1 := hl.resumeM x.tok
    have h2 := hi.resume x.tok
    exact ⟨by show (resumeL V x.tok).1 ≠ 75; rw [h1.1]; exact h2.1, h.of (okF_of h1.2 h2.2) (resumeL_hist _)⟩
  rw [if_neg e2]
  by_cases e3 : k = 3
  · rw [if_pos e3]
    have h1 := hl.mintM x.tok hx.a hx.amt
    have h2 := hi.mint hw x.tok ha (nat4 x.amt)
    exact ⟨by show (mintL V x.tok x.a x.amt).1 ≠ 75; rw [h1.1]; exact h2.1, h.of (okF_of h1.2 h2.2) (mintL_hist _ _ _)⟩
  rw [if_neg e3]
  by_cases e4 : k = 4
  · rw [if_pos e4]
    have h1 := hl.burnM x.tok hx.a hx.amt
    have h2 := hi.burn hw x.tok ha (nat4 x.amt)
    exact ⟨by show (burnL V x.tok x.a x.amt).1 ≠ 75; rw [h1.1]; exact h2.1, h.of (okF_of h1.2 h2.2) (burnL_hist _ _ _)⟩
  rw [if_neg e4]
  by_cases e5 : k = 5
  · rw [if_pos e5]
    have h1 := hl.moveM x.tok hx.a hx.b hx.amt
    have h2 := hi.move hw x.tok ha hb (nat4 x.amt)
    exact ⟨by show (moveL V x.tok x.a x.b x.amt).1 ≠ 75; rw [h1.1]; exact h2.1, h.of (okF_of h1.2 h2.2) (moveL_hist _ _ _ _)⟩
  rw [if_neg e5]
  by_cases e6 : k = 6
  · rw [if_pos e6]
    have h1 := hl.allowM x.tok hx.a hx.b hx.amt
    have h2 := hi.allow x.tok x.a x.b (nat4 x.amt)
    exact ⟨by show (allowL V x.tok x.a x.b x.amt).1 ≠ 75; rw [h1.1]; exact h2.1, h.of (okF_of h1.2 h2.2) (allowL_hist _ _ _ _)⟩
  rw [if_neg e6]
  by_cases e7 : k = 7
  · rw [if_pos e7]
    have h1 := hl.pullM x.tok hx.a hx.b hx.c hx.amt
    have h2 := hi.pull hw x.tok x.a hb hc (nat4 x.amt)
    exact ⟨by show (pullL V x.tok x.a x.b x.c x.amt).1 ≠ 75; rw [h1.1]; exact h2.1, h.of (okF_of h1.2 h2.2) (pullL_hist _ _ _ _ _)⟩
  rw [if_neg e7]
  by_cases e8 : k = 8
  · rw [if_pos e8]
    exact ⟨tokenL_no75 hl x.tok, h⟩
  rw [if_neg e8]
  by_cases e9 : k = 9
  · rw [if_pos e9]
    exact ⟨balL_no75 hl x.tok hx.a, h⟩
  rw [if_neg e9]
  by_cases e10 : k = 10
  · rw [if_pos e10]
    exact ⟨allowedL_no75 hl x.tok hx.a hx.b, h⟩
  rw [if_neg e10]
  by_cases e11 : k = 11
  · rw [if_pos e11]
    refine ⟨(by decide : (0 : Int) ≠ 75), h.now, fun f hf => ?_⟩
    rcases List.mem_append.1 hf with hf | hf
    · exact h.hist f hf
    · rw [List.mem_singleton.1 hf]; exact h.now
  rw [if_neg e11]
  refine ⟨?_, ?_⟩
  · show backE V x.tok ≠ 75
    unfold backE
    split <;> decide
  · show OkV W (backV V x.tok)
    unfold backV
    split
    · exact h
    · split
      · rename_i f hf
        exact ⟨h.hist f (List.mem_of_getElem? hf), fun g hg => h.hist g (List.mem_of_mem_take hg)⟩
      · exact h
end
theorem told_tok {e : Int} {t : TokD} (h : t.sup.length = 4) : fillL (told1 0).cells [(0, 1, .int .i64 e), (1, 6, .agg ⟨t.cells⟩)] = some (⟨e, t, z4, 0⟩ : ToldD).cells := by
  have e1 := fill_part (a := []) (m := [Value.int .i64 0]) (m' := [.int .i64 e]) (c := zTok.cells ++ (uvs z4 ++ [Value.int .i64 0])) (v := .int .i64 e) (ps := [(1, 6, .agg ⟨t.cells⟩)]) (off := 0) (n := 1) rfl rfl rfl rfl
  have e2 := fill_part (a := [Value.int .i64 e]) (m := zTok.cells) (m' := t.cells) (c := uvs z4 ++ [Value.int .i64 0]) (v := .agg ⟨t.cells⟩) (ps := []) (off := 1) (n := 6) rfl rfl rfl (TokD.cells_len h)
  exact e1.trans (e2.trans rfl)
theorem told_amt {e : Int} {a : List Nat} (h : a.length = 4) : fillL (told1 0).cells [(0, 1, .int .i64 e), (7, 4, .agg ⟨uvs a⟩)] = some (⟨e, zTok, a, 0⟩ : ToldD).cells := by
  have e1 := fill_part (a := []) (m := [Value.int .i64 0]) (m' := [.int .i64 e]) (c := zTok.cells ++ (uvs z4 ++ [Value.int .i64 0])) (v := .int .i64 e) (ps := [(7, 4, .agg ⟨uvs a⟩)]) (off := 0) (n := 1) rfl rfl rfl rfl
  have e2 := fill_part (a := Value.int .i64 e :: zTok.cells) (m := uvs z4) (m' := uvs a) (c := [Value.int .i64 0]) (v := .agg ⟨uvs a⟩) (ps := []) (off := 7) (n := 4) rfl rfl rfl (by rw [uvs_len, h])
  exact e1.trans (e2.trans rfl)
theorem balL_len (V : View) (t : Int) (a : List Nat) : (balL V t a).1.length = 4 := by
  unfold balL
  split
  · rfl
  · exact (amtR_ok _).len
theorem allowedL_len (V : View) (t : Int) (a b : List Nat) : (allowedL V t a b).1.length = 4 := by
  unfold allowedL
  split
  · rfl
  · exact (amtR_ok _).len
end Go.Sl
