/-
  LedgerWhose's plain part: whose balance and whose allowance a step may turn, by how much; one list within another by its number; digits less digits. A library of this session's own.
-/
import Derived.Test.YtnbcbdlbejdkpaaDoorZBb
import Derived.Test.YtnbcbdlbejdkpaaDoorZBs
namespace Go.Sl
open Go
theorem flat_at {α β : Type} {f : α → List β} {k : Nat} {l : List α} (hk : ∀ a ∈ l, (f a).length = k) {i j : Nat} (hi : i < l.length) (hj : j < k) : (l.flatMap f)[i * k + j]? = (f l[i])[j]? := by
  induction l generalizing i with
  | nil => simp at hi
  | cons a l ih =>
    have ha := hk a List.mem_cons_self
    rw [List.flatMap_cons]
    cases i with
    | zero =>
      rw [Nat.zero_mul, Nat.zero_add, List.getElem?_append_left (by omega)]
      rfl
    | succ i =>
      have e : (i + 1) * k + j = (f a).length + (i * k + j) := by rw [ha, Nat.succ_mul]; omega
      rw [e, List.getElem?_append_right (by omega), Nat.add_sub_cancel_left]
      exact ih (fun b hb => hk b (List.mem_cons_of_mem _ hb)) (by simpa using hi)
theorem flat_count {α β : Type} {f : α → List β} {k : Nat} {l : List α} (hk : ∀ a ∈ l, (f a).length = k) : (l.flatMap f).length = l.length * k := by
  induction l with
  | nil => simp
  | cons a l ih =>
    rw [List.flatMap_cons, List.length_append, hk a List.mem_cons_self, ih fun b hb => hk b (List.mem_cons_of_mem _ hb), List.length_cons, Nat.succ_mul]
    omega
section
variable (V : View) (T : List Nat) (W : List (List Nat))
theorem bookB_count : (bookB V T W).length = T.length * W.length := flat_count fun t _ => List.length_map ..
theorem bookA_count : (bookA V T W).length = T.length * (W.length * W.length) := flat_count fun t _ => flat_count fun a _ => List.length_map ..
variable {T W}
theorem bookB_at {i j : Nat} (hi : i < T.length) (hj : j < W.length) : (bookB V T W)[i * W.length + j]? = some (balL V (T[i] : Nat) W[j]).1 := by
  rw [bookB, flat_at (k := W.length) (fun t _ => List.length_map ..) hi hj, List.getElem?_map, List.getElem?_eq_getElem hj]
  rfl
theorem bookA_at {i j n : Nat} (hi : i < T.length) (hj : j < W.length) (hn : n < W.length) : (bookA V T W)[(i * W.length + j) * W.length + n]? = some (allowedL V (T[i] : Nat) W[j] W[n]).1 := by
  have e : (i * W.length + j) * W.length + n = i * (W.length * W.length) + (j * W.length + n) := by rw [Nat.add_mul, Nat.mul_assoc]; omega
  have h2 : j * W.length + n < W.length * W.length := by
    have : (j + 1) * W.length ≤ W.length * W.length := Nat.mul_le_mul_right _ (by omega)
    rw [Nat.succ_mul] at this
    omega
  rw [e, bookA, flat_at (k := W.length * W.length) (fun t _ => flat_count fun a _ => List.length_map ..) hi h2, flat_at (k := W.length) (fun a _ => List.length_map ..) hj hn, List.getElem?_map, List.getElem?_eq_getElem hn]
  rfl
end
/-! What a step may turn. -/
def grows (k : Nat) (x : StepD) (a : List Nat) : Prop := (k = 3 ∧ x.a = a) ∨ (k = 5 ∧ x.b = a ∧ x.a ≠ a) ∨ (k = 7 ∧ x.c = a ∧ x.b ≠ a)
def shrinks (k : Nat) (x : StepD) (a : List Nat) : Prop := (k = 4 ∧ x.a = a) ∨ (k = 5 ∧ x.a = a ∧ x.b ≠ a) ∨ (k = 7 ∧ x.b = a ∧ x.c ≠ a)
def mayB (k : Nat) (x : StepD) (t : Int) (a : List Nat) (p q : Nat) : Prop := q = p ∨ (x.tok = t ∧ ((grows k x a ∧ q = p + nat4 x.amt) ∨ (shrinks k x a ∧ nat4 x.amt ≤ p ∧ q = p - nat4 x.amt)))
def mayA (k : Nat) (x : StepD) (t : Int) (o s : List Nat) (p q : Nat) : Prop := q = p ∨ (x.tok = t ∧ ((k = 6 ∧ x.a = o ∧ x.b = s ∧ q = nat4 x.amt) ∨ (k = 7 ∧ x.a = s ∧ x.b = o ∧ nat4 x.amt ≤ p ∧ q = p - nat4 x.amt)))
structure StepRel (k : Nat) (x : StepD) (m n : Md) : Prop where
  bal : ∀ (t : Nat) (a : List Nat), t < 64 → mayB k x t a (m.B t a) (n.B t a) ∧ (n.B t a ≠ m.B t a → (m.T t).there = true ∧ (m.T t).paused = false)
  all : ∀ (t : Nat) (o s : List Nat), mayA k x t o s (m.A t o s) (n.A t o s)
section
variable {k : Nat} {x : StepD} {m n : Md}
theorem StepRel.same (hB : n.B = m.B) (hA : n.A = m.A) : StepRel k x m n := ⟨fun t a _ => by rw [hB]; exact ⟨.inl rfl, fun h => absurd rfl h⟩, fun t o s => by rw [hA]; exact .inl rfl⟩
theorem StepRel.refl : StepRel k x m m := .same rfl rfl
theorem rel_register (t : Int) : StepRel k x m (registerM m t).2 := by
  unfold registerM
  (repeat' split) <;> exact .same rfl rfl
theorem rel_pause (t : Int) : StepRel k x m (pauseM m t).2 := by
  unfold pauseM
  (repeat' split) <;> exact .same rfl rfl
theorem rel_resume (t : Int) : StepRel k x m (resumeM m t).2 := by
  unfold resumeM
  (repeat' split) <;> exact .same rfl rfl
theorem rel_mint : StepRel 3 x m (mintM m x.tok x.a (nat4 x.amt)).2 := by
  unfold mintM
  split
  · exact .refl
  rename_i h1
  have h1 := Classical.not_not.1 h1
  obtain ⟨t, ht, hlt⟩ := runM_nat h1
  split
  · exact .refl
  split
  · exact .refl
  split
  · exact .refl
  rw [ht] at h1
  obtain ⟨_, hth, hpa⟩ := runM_T hlt h1
  refine ⟨fun u b _ => ?_, fun _ _ _ => .inl rfl⟩
  rw [ht, Int.toNat_natCast]
  by_cases e : u = t ∧ b = x.a
  · obtain ⟨rfl, rfl⟩ := e
    exact ⟨.inr ⟨ht, .inl ⟨.inl ⟨rfl, rfl⟩, by simp [Md.setB]⟩⟩, fun _ => ⟨hth, hpa⟩⟩
  · have e2 : ∀ y z, ((m.setT t y).setB t x.a z).B u b = m.B u b := fun y z => by
      show (if u = t ∧ b = x.a then z else m.B u b) = _
      rw [if_neg e]
    exact ⟨.inl (e2 _ _), fun h => absurd (e2 _ _) h⟩
theorem rel_burn : StepRel 4 x m (burnM m x.tok x.a (nat4 x.amt)).2 := by
  unfold burnM
  split
  · exact .refl
  rename_i h1
  have h1 := Classical.not_not.1 h1
  obtain ⟨t, ht, hlt⟩ := runM_nat h1
  split
  · exact .refl
  rename_i h2
  split
  · exact .refl
  split
  · exact .refl
  rw [ht] at h1
  obtain ⟨_, hth, hpa⟩ := runM_T hlt h1
  refine ⟨fun u b _ => ?_, fun _ _ _ => .inl rfl⟩
  rw [ht, Int.toNat_natCast] at h2 ⊢
  by_cases e : u = t ∧ b = x.a
  · obtain ⟨rfl, rfl⟩ := e
    exact ⟨.inr ⟨ht, .inr ⟨.inl ⟨rfl, rfl⟩, by omega, by simp [Md.setB]⟩⟩, fun _ => ⟨hth, hpa⟩⟩
  · have e2 : ∀ y z, ((m.setT t y).setB t x.a z).B u b = m.B u b := fun y z => by
      show (if u = t ∧ b = x.a then z else m.B u b) = _
      rw [if_neg e]
    exact ⟨.inl (e2 _ _), fun h => absurd (e2 _ _) h⟩
theorem turn_bal {m' : Md} (hm : m'.B = m.B) {t : Nat} {a b : List Nat} {c : Nat} (hf : fundsM m t a b c = 0) (u : Nat) (d : List Nat) :
    (turnM m' t a b c).B u d = m.B u d ∨ (u = t ∧ a ≠ b ∧ ((d = b ∧ (turnM m' t a b c).B u d = m.B u d + c) ∨ (d = a ∧ c ≤ m.B u d ∧ (turnM m' t a b c).B u d = m.B u d - c))) := by
  have hge : c ≤ m.B t a := by
    unfold fundsM at hf
    split at hf
    · cases hf
    · omega
  unfold turnM
  split
  · exact .inl (by rw [hm])
  · rename_i h
    have hne : a ≠ b := fun e => h (.inl e)
    have e0 : ((m'.setB t a (m'.B t a - c)).setB t b (m'.B t b + c)).B u d = if u = t ∧ d = b then m.B t b + c else if u = t ∧ d = a then m.B t a - c else m.B u d := by
      show (if u = t ∧ d = b then _ else if u = t ∧ d = a then _ else _) = _
      rw [hm]
    rw [e0]
    by_cases e1 : u = t ∧ d = b
    · obtain ⟨rfl, rfl⟩ := e1
      rw [if_pos ⟨rfl, rfl⟩]
      exact .inr ⟨rfl, hne, .inl ⟨rfl, rfl⟩⟩
    · rw [if_neg e1]
      by_cases e2 : u = t ∧ d = a
      · obtain ⟨rfl, rfl⟩ := e2
        rw [if_pos ⟨rfl, rfl⟩]
        exact .inr ⟨rfl, hne, .inr ⟨rfl, hge, rfl⟩⟩
      · rw [if_neg e2]
        exact .inl rfl
theorem turn_all (m' : Md) (t : Nat) (a b : List Nat) (c : Nat) : (turnM m' t a b c).A = m'.A := by
  unfold turnM
  split <;> rfl
theorem rel_move : StepRel 5 x m (moveM m x.tok x.a x.b (nat4 x.amt)).2 := by
  unfold moveM
  split
  · exact .refl
  rename_i h1
  have h1 := Classical.not_not.1 h1
  obtain ⟨t, ht, hlt⟩ := runM_nat h1
  split
  · exact .refl
  rename_i h2
  have h2 := Classical.not_not.1 h2
  rw [ht] at h1
  obtain ⟨_, hth, hpa⟩ := runM_T hlt h1
  rw [ht, Int.toNat_natCast] at h2
  refine ⟨fun u d _ => ?_, fun o s t => ?_⟩
  · show mayB 5 x u d (m.B u d) ((turnM m x.tok.toNat x.a x.b (nat4 x.amt)).B u d) ∧ ((turnM m x.tok.toNat x.a x.b (nat4 x.amt)).B u d ≠ m.B u d → _)
    rw [ht, Int.toNat_natCast]
    rcases turn_bal (m' := m) rfl h2 u d with h | ⟨rfl, hne, h⟩
    · exact ⟨.inl h, fun k => absurd h k⟩
    · refine ⟨.inr ⟨ht, ?_⟩, fun _ => ⟨hth, hpa⟩⟩
      rcases h with ⟨rfl, h⟩ | ⟨rfl, h3, h⟩
      · exact .inl ⟨.inr (.inl ⟨rfl, rfl, hne⟩), h⟩
      · exact .inr ⟨.inr (.inl ⟨rfl, rfl, fun e => hne e.symm⟩), h3, h⟩
  · exact .inl (by
      show (turnM m x.tok.toNat x.a x.b (nat4 x.amt)).A _ _ _ = _
      rw [turn_all])
theorem rel_allow : StepRel 6 x m (allowM m x.tok x.a x.b (nat4 x.amt)).2 := by
  unfold allowM
  split
  · exact .refl
  rename_i h1
  have h1 := Classical.not_not.1 h1
  obtain ⟨t, ht, hlt⟩ := thereM_nat h1
  refine ⟨fun _ _ _ => ⟨.inl rfl, fun h => absurd rfl h⟩, fun u o s => ?_⟩
  show mayA 6 x u o s (m.A u o s) (if u = x.tok.toNat ∧ o = x.a ∧ s = x.b then nat4 x.amt else m.A u o s)
  rw [ht, Int.toNat_natCast]
  by_cases e : u = t ∧ o = x.a ∧ s = x.b
  · rw [if_pos e]
    obtain ⟨rfl, rfl, rfl⟩ := e
    exact .inr ⟨ht, .inl ⟨rfl, rfl, rfl, rfl⟩⟩
  · rw [if_neg e]
    exact .inl rfl
theorem rel_pull : StepRel 7 x m (pullM m x.tok x.a x.b x.c (nat4 x.amt)).2 := by
  unfold pullM
  split
  · exact .refl
  rename_i h1
  have h1 := Classical.not_not.1 h1
  obtain ⟨t, ht, hlt⟩ := runM_nat h1
  split
  · exact .refl
  rename_i h3
  split
  · exact .refl
  rename_i h2
  have h2 := Classical.not_not.1 h2
  rw [ht] at h1
  obtain ⟨_, hth, hpa⟩ := runM_T hlt h1
  rw [ht, Int.toNat_natCast] at h2 h3
  obtain ⟨m', hm'⟩ : ∃ m' : Md, m' = if nat4 x.amt = 0 then m else m.setA t x.b x.a (m.A t x.b x.a - nat4 x.amt) := ⟨_, rfl⟩
  have hB : m'.B = m.B := by rw [hm']; split <;> rfl
  have hA : ∀ u o s, m'.A u o s = m.A u o s ∨ (u = t ∧ o = x.b ∧ s = x.a ∧ m'.A u o s = m.A u o s - nat4 x.amt) := fun u o s => by
    rw [hm']
    split
    · exact .inl rfl
    · show (if u = t ∧ o = x.b ∧ s = x.a then _ else _) = _ ∨ (_ ∧ _ ∧ _ ∧ (if u = t ∧ o = x.b ∧ s = x.a then _ else _) = _)
      by_cases e : u = t ∧ o = x.b ∧ s = x.a
      · rw [if_pos e]
        obtain ⟨rfl, rfl, rfl⟩ := e
        exact .inr ⟨rfl, rfl, rfl, rfl⟩
      · rw [if_neg e]
        exact .inl rfl
  have eN : (0, turnM (if nat4 x.amt = 0 then m else m.setA x.tok.toNat x.b x.a (m.A x.tok.toNat x.b x.a - nat4 x.amt)) x.tok.toNat x.b x.c (nat4 x.amt)).2 = turnM m' t x.b x.c (nat4 x.amt) := by
    rw [hm', ht, Int.toNat_natCast]
  refine ⟨fun u d _ => ?_, fun u o s => ?_⟩
  · rw [eN]
    rcases turn_bal (m' := m') hB h2 u d with h | ⟨rfl, hne, h⟩
    · exact ⟨.inl h, fun k => absurd h k⟩
    · refine ⟨.inr ⟨ht, ?_⟩, fun _ => ⟨hth, hpa⟩⟩
      rcases h with ⟨rfl, h⟩ | ⟨rfl, h3, h⟩
      · exact .inl ⟨.inr (.inr ⟨rfl, rfl, hne⟩), h⟩
      · exact .inr ⟨.inr (.inr ⟨rfl, rfl, fun e => hne e.symm⟩), h3, h⟩
  · rw [eN, turn_all]
    rcases hA u o s with h | ⟨rfl, rfl, rfl, h⟩
    · exact .inl h
    · exact .inr ⟨ht, .inr ⟨rfl, rfl, rfl, by omega, h⟩⟩
end
section
variable (V : View)
theorem registerL_code (t : Int) : (registerL V t).1 ≠ 0 → (registerL V t).2 = V := by unfold registerL; (repeat' split) <;> first | exact fun _ => rfl | exact fun h => absurd rfl h
theorem pauseL_code (t : Int) : (pauseL V t).1 ≠ 0 → (pauseL V t).2 = V := by unfold pauseL; (repeat' split) <;> first | exact fun _ => rfl | exact fun h => absurd rfl h
theorem resumeL_code (t : Int) : (resumeL V t).1 ≠ 0 → (resumeL V t).2 = V := by unfold resumeL; (repeat' split) <;> first | exact fun _ => rfl | exact fun h => absurd rfl h
theorem mintL_code (t : Int) (a w : List Nat) : (mintL V t a w).1 ≠ 0 → (mintL V t a w).2 = V := by unfold mintL; (repeat' split) <;> first | exact fun _ => rfl | exact fun h => absurd rfl h
theorem burnL_code (t : Int) (a w : List Nat) : (burnL V t a w).1 ≠ 0 → (burnL V t a w).2 = V := by unfold burnL; (repeat' split) <;> first | exact fun _ => rfl | exact fun h => absurd rfl h
theorem moveL_code (t : Int) (a b w : List Nat) : (moveL V t a b w).1 ≠ 0 → (moveL V t a b w).2 = V := by unfold moveL; split; exact fun _ => rfl; split; exact fun _ => rfl; exact fun h => absurd rfl h
theorem allowL_code (t : Int) (a b w : List Nat) : (allowL V t a b w).1 ≠ 0 → (allowL V t a b w).2 = V := by unfold allowL; (repeat' split) <;> first | exact fun _ => rfl | exact fun h => absurd rfl h
theorem pullL_code (t : Int) (s a b w : List Nat) : (pullL V t s a b w).1 ≠ 0 → (pullL V t s a b w).2 = V := by
  unfold pullL
  split
  · exact fun _ => rfl
  split
  · exact fun _ => rfl
  split
  · exact fun _ => rfl
  split
  · exact fun _ => rfl
  exact fun h => absurd rfl h
end
theorem step_rel {V : View} {m : Md} (hl : Led V m) {x : StepD} (hx : x.wf) (hk : pickN x.what 13 ≠ 12) :
    ∃ n, Led (stepL V x).2 n ∧ StepRel (pickN x.what 13) x m n ∧ ((stepL V x).1.code ≠ 0 → (stepL V x).2.now = V.now) := by
  have hlt : pickN x.what 13 < 13 := pickN_lt _ (by decide)
  unfold stepL
  generalize pickN x.what 13 = k at *
  unfold stepN
  by_cases e : k = 0
  · rw [if_pos e]
    exact ⟨_, (hl.registerM x.tok).2, rel_register _, fun h => congrArg View.now (registerL_code V x.tok h)⟩
  rw [if_neg e]
  by_cases e : k = 1
  · rw [if_pos e]
    exact ⟨_, (hl.pauseM x.tok).2, rel_pause _, fun h => congrArg View.now (pauseL_code V x.tok h)⟩
  rw [if_neg e]
  by_cases e : k = 2
  · rw [if_pos e]
    exact ⟨_, (hl.resumeM x.tok).2, rel_resume _, fun h => congrArg View.now (resumeL_code V x.tok h)⟩
  rw [if_neg e]
  by_cases e : k = 3
  · rw [if_pos e]
    subst e
    exact ⟨_, (hl.mintM x.tok hx.a hx.amt).2, rel_mint, fun h => congrArg View.now (mintL_code V x.tok _ _ h)⟩
  rw [if_neg e]
  by_cases e : k = 4
  · rw [if_pos e]
    subst e
    exact ⟨_, (hl.burnM x.tok hx.a hx.amt).2, rel_burn, fun h => congrArg View.now (burnL_code V x.tok _ _ h)⟩
  rw [if_neg e]
  by_cases e : k = 5
  · rw [if_pos e]
    subst e
    exact ⟨_, (hl.moveM x.tok hx.a hx.b hx.amt).2, rel_move, fun h => congrArg View.now (moveL_code V x.tok _ _ _ h)⟩
  rw [if_neg e]
  by_cases e : k = 6
  · rw [if_pos e]
    subst e
    exact ⟨_, (hl.allowM x.tok hx.a hx.b hx.amt).2, rel_allow, fun h => congrArg View.now (allowL_code V x.tok _ _ _ h)⟩
  rw [if_neg e]
  by_cases e : k = 7
  · rw [if_pos e]
    subst e
    exact ⟨_, (hl.pullM x.tok hx.a hx.b hx.c hx.amt).2, rel_pull, fun h => congrArg View.now (pullL_code V x.tok _ _ _ _ h)⟩
  rw [if_neg e]
  by_cases e : k = 8
  · rw [if_pos e]
    exact ⟨m, hl, .refl, fun _ => rfl⟩
  rw [if_neg e]
  by_cases e : k = 9
  · rw [if_pos e]
    exact ⟨m, hl, .refl, fun _ => rfl⟩
  rw [if_neg e]
  by_cases e : k = 10
  · rw [if_pos e]
    exact ⟨m, hl, .refl, fun _ => rfl⟩
  rw [if_neg e]
  by_cases e : k = 11
  · rw [if_pos e]
    exact ⟨m, Led.now_iff (V := V) rfl hl, .refl, fun _ => rfl⟩
  omega
/-! Digits less digits. -/
theorem less_step {i c d s va vb x y vo : Nat} (h : va + 2 ^ i * c = vo + vb) (hs : x + 2 * d = s + c + y) : (va + 2 ^ i * x) + 2 ^ (i + 1) * d = (vo + 2 ^ i * s) + (vb + 2 ^ i * y) := by
  have e : 2 ^ i * x + 2 ^ (i + 1) * d = 2 ^ i * s + 2 ^ i * c + 2 ^ i * y := by
    rw [Nat.pow_succ, Nat.mul_assoc, ← Nat.mul_add, hs, Nat.mul_add, Nat.mul_add]
  generalize 2 ^ (i + 1) * d = A at *
  generalize 2 ^ i * s = B at *
  generalize 2 ^ i * c = E at *
  generalize 2 ^ i * x = X at *
  generalize 2 ^ i * y = Y at *
  omega
theorem less_end {n c va vb vo : Nat} (h : va + 2 ^ n * c = vo + vb) (hc : c < 2) (ho : vo < 2 ^ n) (hv : vb ≤ va) : vo = va - vb := by
  rcases (show c = 0 ∨ c = 1 by omega) with rfl | rfl
  · omega
  · rw [Nat.mul_one] at h
    omega
end Go.Sl
