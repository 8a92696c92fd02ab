/-
  What is given can be given back: a plain law of the ledger. A library of this session's own.
-/
import Derived.Test.YtnbcbdlbejdkpaaDoorZLp
namespace Go.Sl
open Go
def Good (m : Md) (t s : Nat) : Prop := m.T t = ⟨true, false, s⟩
section
variable {m : Md} {t s : Nat} (ht : t < 64) (h : Good m t s)
include ht
theorem beg_ok : begE (t : Int) = 0 := by unfold begE; rw [if_neg (by omega)]
include h
theorem token_good : tokenM m (t : Int) = (⟨true, false, s⟩, 0) := by
  unfold tokenM
  rw [if_neg (by rw [beg_ok ht]; decide), Int.toNat_natCast, h]
theorem there_good : thereM m (t : Int) = (⟨true, false, s⟩, 0) := by
  unfold thereM
  rw [token_good ht h, if_neg (by simp), if_neg (by simp)]
theorem run_good : runM m (t : Int) = (⟨true, false, s⟩, 0) := by
  unfold runM
  rw [there_good ht h, if_neg (by simp)]
theorem mint_good {x : List Nat} {n : Nat} (h1 : s + n < m256) (h2 : m.B t x + n < m256) : (mintM m t x n).1 = 0 ∧ Good (mintM m t x n).2 t (s + n) ∧ (∀ a, (mintM m t x n).2.B t a = if a = x then m.B t x + n else m.B t a) ∧ (mintM m t x n).2.A = m.A := by
  unfold mintM
  rw [run_good ht h, if_neg (by simp), if_neg (by show ¬ m256 ≤ s + n; omega), Int.toNat_natCast, if_neg (by omega)]
  split
  · rename_i hn
    subst hn
    exact ⟨rfl, h, fun a => by split <;> simp_all, rfl⟩
  · refine ⟨rfl, ?_, fun a => ?_, rfl⟩
    · simp [Good, Md.setB, Md.setT]
    · simp [Md.setB, Md.setT]
theorem burn_good {x : List Nat} {n : Nat} (h1 : n ≤ s) (h2 : n ≤ m.B t x) : (burnM m t x n).1 = 0 ∧ Good (burnM m t x n).2 t (s - n) ∧ (∀ a, (burnM m t x n).2.B t a = if a = x then m.B t x - n else m.B t a) ∧ (burnM m t x n).2.A = m.A := by
  unfold burnM
  rw [run_good ht h, if_neg (by simp), Int.toNat_natCast, if_neg (by omega), if_neg (by show ¬ s < n; omega)]
  split
  · rename_i hn
    subst hn
    exact ⟨rfl, h, fun a => by split <;> simp_all, rfl⟩
  · refine ⟨rfl, ?_, fun a => ?_, rfl⟩
    · simp [Good, Md.setB, Md.setT]
    · simp [Md.setB, Md.setT]
theorem move_short {x y : List Nat} {n : Nat} (h1 : m.B t x < n) : (moveM m t x y n).1 = 85 := by
  unfold moveM
  rw [run_good ht h, if_neg (by simp), Int.toNat_natCast]
  have e : fundsM m t x y n = 85 := by unfold fundsM; rw [if_pos h1]
  rw [e]
  rfl
omit ht in
theorem turn_good {x y : List Nat} {n : Nat} : Good (turnM m t x y n) t s ∧ (∀ a, (turnM m t x y n).B t a = if x = y ∨ n = 0 then m.B t a else if a = y then m.B t y + n else if a = x then m.B t x - n else m.B t a) ∧ (turnM m t x y n).A = m.A := by
  unfold turnM
  split
  · exact ⟨h, fun a => rfl, rfl⟩
  · refine ⟨h, fun a => ?_, rfl⟩
    simp only [Md.setB]
    by_cases h1 : a = y <;> by_cases h2 : a = x <;> simp_all
theorem move_good {x y : List Nat} {n : Nat} (h1 : n ≤ m.B t x) (h2 : x ≠ y → m.B t y + n < m256) : (moveM m t x y n).1 = 0 ∧ (moveM m t x y n).2 = turnM m t x y n := by
  unfold moveM
  rw [run_good ht h, if_neg (by simp), Int.toNat_natCast]
  have e : fundsM m t x y n = 0 := by
    unfold fundsM
    rw [if_neg (by omega)]
    split
    · rfl
    · rename_i hne
      rw [if_neg (by have := h2 hne; omega)]
  rw [e, if_neg (by simp)]
  exact ⟨rfl, rfl⟩
theorem allow_good {x z : List Nat} {n : Nat} : (allowM m t x z n).1 = 0 ∧ (allowM m t x z n).2 = m.setA t x z n := by
  unfold allowM
  rw [there_good ht h, if_neg (by simp), Int.toNat_natCast]
  exact ⟨rfl, rfl⟩
theorem pull_no {x y z : List Nat} {n : Nat} (h1 : m.A t x z < n) : (pullM m t z x y n).1 = 86 ∧ (pullM m t z x y n).2 = m := by
  unfold pullM
  rw [run_good ht h, if_neg (by simp), Int.toNat_natCast, if_pos h1]
  exact ⟨rfl, rfl⟩
theorem pull_good {x y z : List Nat} {n : Nat} (h0 : n ≤ m.A t x z) (h1 : n ≤ m.B t x) (h2 : x ≠ y → m.B t y + n < m256) : (pullM m t z x y n).1 = 0 ∧ (pullM m t z x y n).2 = turnM (if n = 0 then m else m.setA t x z (m.A t x z - n)) t x y n := by
  unfold pullM
  rw [run_good ht h, if_neg (by simp), Int.toNat_natCast, if_neg (by omega)]
  have e : fundsM m t x y n = 0 := by
    unfold fundsM
    rw [if_neg (by omega)]
    split
    · rfl
    · rename_i hne
      rw [if_neg (by have := h2 hne; omega)]
  rw [e, if_neg (by simp)]
  exact ⟨rfl, rfl⟩
end
structure Gives3 (V2 : View) (t : Int) (x y z a b : List Nat) : Prop where
  g : (moveL V2 t x y b).1 = 0
  h : (moveL (moveL V2 t x y b).2 t y x b).1 = 0
  p : balL (moveL (moveL V2 t x y b).2 t y x b).2 t x = (a, 0)
  j : (pullL (moveL (moveL V2 t x y b).2 t y x b).2 t z x y b).1 = if b = z4 then 0 else 86
  m : (allowL (pullL (moveL (moveL V2 t x y b).2 t y x b).2 t z x y b).2 t x z b).1 = 0
  n : (pullL (allowL (pullL (moveL (moveL V2 t x y b).2 t y x b).2 t z x y b).2 t x z b).2 t z x y b).1 = 0
/-- What stands once the pull was done. -/
structure Gives7 (V7 : View) (t : Int) (x y z : List Nat) : Prop where
  left : allowedL V7 t x z = (z4, 0)
  c : (balL V7 t x).2 = 0
  d : (balL V7 t y).2 = 0
  u : (burnL V7 t x (balL V7 t x).1).1 = 0
  v : x ≠ y → (burnL (burnL V7 t x (balL V7 t x).1).2 t y (balL V7 t y).1).1 = 0
  w : tokenL (if x = y then (burnL V7 t x (balL V7 t x).1).2 else (burnL (burnL V7 t x (balL V7 t x).1).2 t y (balL V7 t y).1).2) t = (⟨true, false, z4⟩, 0)
theorem gives {t : Nat} (ht : t < 64) {x y z a b : List Nat} (hx : adr x) (hy : adr y) (hz : adr z) (ha : wOk a) (hb : wOk b) :
    (registerL (⟨fun _ => [], []⟩ : View) t).1 = 0 ∧ (mintL (registerL (⟨fun _ => [], []⟩ : View) t).2 t x a).1 = 0 ∧
    (nat4 a < nat4 b → (moveL (mintL (registerL (⟨fun _ => [], []⟩ : View) t).2 t x a).2 t x y b).1 = 85) ∧
    (¬ nat4 a < nat4 b → Gives3 (mintL (registerL (⟨fun _ => [], []⟩ : View) t).2 t x a).2 t x y z a b ∧
      Gives7 (pullL (allowL (pullL (moveL (moveL (mintL (registerL (⟨fun _ => [], []⟩ : View) t).2 t x a).2 t x y b).2 t y x b).2 t z x y b).2 t x z b).2 t z x y b).2 t x y z) := by
  have hA := nat4_lt ha
  have hB := nat4_lt hb
  have hbz : b = z4 ↔ nat4 b = 0 := nat4_zero_iff hb
  have hzero : (0 : Nat) < m256 := by decide
  -- register
  obtain ⟨r1, l1⟩ := led_none.registerM (t : Int)
  have rm : registerM m0 (t : Int) = (0, m0.setT t ⟨true, false, 0⟩) := by
    have e : tokenM m0 (t : Int) = (zN, 0) := by
      unfold tokenM
      rw [if_neg (by rw [beg_ok ht]; decide)]
      rfl
    unfold registerM
    rw [e, if_neg (by simp), if_neg (by decide), Int.toNat_natCast]
  rw [rm] at r1 l1
  have g1 : Good (m0.setT t ⟨true, false, 0⟩) t 0 := by simp [Good, Md.setT]
  have b1 : ∀ c, (m0.setT t ⟨true, false, 0⟩).B t c = 0 := fun _ => rfl
  have a1 : ∀ o p, (m0.setT t ⟨true, false, 0⟩).A t o p = 0 := fun _ _ => rfl
  generalize m0.setT t ⟨true, false, 0⟩ = m1 at *
  replace l1 : Led (registerL (⟨fun _ => [], []⟩ : View) t).2 m1 := l1
  generalize (registerL (⟨fun _ => [], []⟩ : View) t).2 = V1 at *
  refine ⟨r1, ?_⟩
  -- mint
  obtain ⟨r2, l2⟩ := l1.mintM (t : Int) hx ha
  obtain ⟨q2, g2, b2, a2⟩ := mint_good ht g1 (x := x) (n := nat4 a) (by omega) (by rw [b1]; omega)
  rw [q2] at r2
  simp only [b1, Nat.zero_add] at g2 b2
  refine ⟨r2, ?_⟩
  generalize (mintM m1 t x (nat4 a)).2 = m2 at *
  generalize (mintL V1 t x a).2 = V2 at *
  have bx : m2.B t x = nat4 a := by rw [b2, if_pos rfl]
  obtain ⟨r3, l3⟩ := l2.moveM (t : Int) hx hy hb
  refine ⟨fun hs => by rw [r3]; exact move_short ht g2 (by rw [bx]; exact hs), fun hs => ?_⟩
  have hle : nat4 b ≤ nat4 a := by omega
  -- move
  have by0 : x ≠ y → m2.B t y = 0 := fun h => by rw [b2, if_neg (fun e => h e.symm)]
  obtain ⟨q3, e3⟩ := move_good ht g2 (x := x) (y := y) (n := nat4 b) (by omega) (fun h => by rw [by0 h]; omega)
  rw [q3] at r3
  rw [e3] at l3
  obtain ⟨g3, b3, a3⟩ := turn_good g2 (x := x) (y := y) (n := nat4 b)
  generalize turnM m2 t x y (nat4 b) = m3 at *
  generalize hV3 : (moveL V2 t x y b).2 = V3 at *
  have b3x : m3.B t x = if x = y ∨ nat4 b = 0 then nat4 a else nat4 a - nat4 b := by
    rw [b3]
    by_cases h : x = y ∨ nat4 b = 0
    · rw [if_pos h, if_pos h, bx]
    · rw [if_neg h, if_neg h, if_neg (fun e => h (.inl e)), if_pos rfl, bx]
  have b3y : m3.B t y = if x = y then nat4 a else nat4 b := by
    rw [b3]
    by_cases h1 : x = y
    · rw [if_pos (.inl h1), if_pos h1, ← h1, bx]
    · by_cases h2 : nat4 b = 0
      · rw [if_pos (.inr h2), if_neg h1, by0 h1, h2]
      · rw [if_neg (fun e => e.elim h1 h2), if_neg h1, if_pos rfl, by0 h1, Nat.zero_add]
  -- back
  obtain ⟨r4, l4⟩ := l3.moveM (t : Int) hy hx hb
  obtain ⟨q4, e4⟩ := move_good ht g3 (x := y) (y := x) (n := nat4 b) (by rw [b3y]; split <;> omega) (fun h => by
    rw [b3x]
    split
    · rename_i h2
      rcases h2 with h2 | h2
      · exact absurd h2.symm h
      · omega
    · omega)
  rw [q4] at r4
  rw [e4] at l4
  obtain ⟨g4, b4, a4⟩ := turn_good g3 (x := y) (y := x) (n := nat4 b)
  generalize turnM m3 t y x (nat4 b) = m4 at *
  generalize hV4 : (moveL V3 t y x b).2 = V4 at *
  have b4x : m4.B t x = nat4 a := by
    rw [b4]
    by_cases h1 : y = x
    · rw [if_pos (.inl h1), b3x, if_pos (.inl h1.symm)]
    · by_cases h2 : nat4 b = 0
      · rw [if_pos (.inr h2), b3x, if_pos (.inr h2)]
      · rw [if_neg (fun e => e.elim h1 h2), if_pos rfl, b3x, if_neg (fun e => e.elim (fun e => h1 e.symm) h2)]
        omega
  have b4y : x ≠ y → m4.B t y = 0 := fun h1 => by
    rw [b4]
    by_cases h2 : nat4 b = 0
    · rw [if_pos (.inr h2), b3y, if_neg h1, h2]
    · rw [if_neg (fun e => e.elim (fun e => h1 e.symm) h2), if_neg (fun e => h1 e.symm), if_pos rfl, b3y, if_neg h1]
      omega
  have a40 : m4.A t x z = 0 := by rw [a4, a3, a2]; exact a1 x z
  have p4 := l4.balM (t : Int) hx
  have pm4 : balM m4 (t : Int) x = (nat4 a, 0) := by unfold balM; rw [if_neg (by rw [beg_ok ht]; decide), Int.toNat_natCast, b4x]
  rw [pm4, w4_nat4 ha] at p4
  -- a pull that was not allowed
  obtain ⟨r5, l5⟩ := l4.pullM (t : Int) hz hx hy hb
  have q5 : (pullM m4 t z x y (nat4 b)).1 = (if nat4 b = 0 then 0 else 86) ∧ (pullM m4 t z x y (nat4 b)).2 = m4 := by
    by_cases h2 : nat4 b = 0
    · obtain ⟨u1, u2⟩ := pull_good ht g4 (x := x) (y := y) (z := z) (n := nat4 b) (by omega) (by omega) (fun h => by rw [b4y h]; omega)
      refine ⟨by rw [u1, if_pos h2], ?_⟩
      rw [u2, if_pos h2, turnM, if_pos (.inr h2)]
    · obtain ⟨u1, u2⟩ := pull_no ht g4 (x := x) (y := y) (z := z) (n := nat4 b) (by omega)
      exact ⟨by rw [u1, if_neg h2], u2⟩
  rw [q5.1] at r5
  rw [q5.2] at l5
  generalize hV5 : (pullL V4 t z x y b).2 = V5 at *
  -- allow
  obtain ⟨r6, l6⟩ := l5.allowM (t : Int) hx hz hb
  obtain ⟨q6, e6⟩ := allow_good ht g4 (x := x) (z := z) (n := nat4 b)
  rw [q6] at r6
  rw [e6] at l6
  have g6 : Good (m4.setA t x z (nat4 b)) t (nat4 a) := g4
  have b6 : ∀ c, (m4.setA t x z (nat4 b)).B t c = m4.B t c := fun _ => rfl
  have a6 : (m4.setA t x z (nat4 b)).A t x z = nat4 b := by simp [Md.setA]
  generalize m4.setA t x z (nat4 b) = m6 at *
  generalize hV6 : (allowL V5 t x z b).2 = V6 at *
  -- the pull
  obtain ⟨r7, l7⟩ := l6.pullM (t : Int) hz hx hy hb
  obtain ⟨q7, e7⟩ := pull_good ht g6 (x := x) (y := y) (z := z) (n := nat4 b) (by omega) (by rw [b6]; omega) (fun h => by rw [b6, b4y h]; omega)
  rw [q7] at r7
  rw [e7] at l7
  have gi : Good (if nat4 b = 0 then m6 else m6.setA t x z (m6.A t x z - nat4 b)) t (nat4 a) := by split; exact g6; exact g6
  have bi : ∀ c, (if nat4 b = 0 then m6 else m6.setA t x z (m6.A t x z - nat4 b)).B t c = m4.B t c := fun c => by split; exact b6 c; exact b6 c
  have ai : (if nat4 b = 0 then m6 else m6.setA t x z (m6.A t x z - nat4 b)).A t x z = 0 := by
    split
    · omega
    · simp [Md.setA, a6]
  generalize (if nat4 b = 0 then m6 else m6.setA t x z (m6.A t x z - nat4 b)) = mi at *
  obtain ⟨g7, b7, a7⟩ := turn_good gi (x := x) (y := y) (n := nat4 b)
  generalize turnM mi t x y (nat4 b) = m7 at *
  generalize hV7 : (pullL V6 t z x y b).2 = V7 at *
  refine ⟨⟨r3, ?_, ?_, ?_, ?_, ?_⟩, ?_⟩
  · rw [hV3]; exact r4
  · rw [hV3, hV4]; exact p4
  · rw [hV3, hV4, r5]
    by_cases h2 : nat4 b = 0
    · rw [if_pos h2, if_pos (hbz.2 h2)]
    · rw [if_neg h2, if_neg (fun e => h2 (hbz.1 e))]
  · rw [hV3, hV4, hV5]; exact r6
  · rw [hV3, hV4, hV5, hV6]; exact r7
  have b7x : m7.B t x = if x = y ∨ nat4 b = 0 then nat4 a else nat4 a - nat4 b := by
    rw [b7]
    by_cases h : x = y ∨ nat4 b = 0
    · rw [if_pos h, if_pos h, bi, b4x]
    · rw [if_neg h, if_neg h, if_neg (fun e => h (.inl e)), if_pos rfl, bi, b4x]
  have b7y : x ≠ y → m7.B t y = nat4 b := fun h1 => by
    rw [b7]
    by_cases h2 : nat4 b = 0
    · rw [if_pos (.inr h2), bi, b4y h1, h2]
    · rw [if_neg (fun e => e.elim h1 h2), if_pos rfl, bi, b4y h1, Nat.zero_add]
  have c7 := l7.balM (t : Int) hx
  have d7 := l7.balM (t : Int) hy
  have cm7 : ∀ c, balM m7 (t : Int) c = (m7.B t c, 0) := fun c => by unfold balM; rw [if_neg (by rw [beg_ok ht]; decide), Int.toNat_natCast]
  rw [cm7] at c7 d7
  have f7 := l7.allowedM (t : Int) hx hz
  have fm7 : allowedM m7 (t : Int) x z = (0, 0) := by unfold allowedM; rw [if_neg (by rw [beg_ok ht]; decide), Int.toNat_natCast, a7, ai]
  rw [fm7] at f7
  have hbx := l7.balLt t x ht hx
  have hby := l7.balLt t y ht hy
  have hxs : m7.B t x ≤ nat4 a := by rw [b7x]; split <;> omega
  obtain ⟨r8, l8⟩ := l7.burnM (t : Int) hx (w4_ok (m7.B t x))
  obtain ⟨q8, g8, b8, a8⟩ := burn_good ht g7 (x := x) (n := m7.B t x) hxs (Nat.le_refl _)
  rw [nat4_w4 hbx] at r8 l8
  rw [q8] at r8
  generalize (burnM m7 t x (m7.B t x)).2 = m8 at *
  have t8 := l8.tokenM (t : Int)
  rw [token_good ht g8] at t8
  refine ⟨by rw [f7, w4z], by rw [c7], by rw [d7], by rw [c7]; exact r8, fun h1 => ?_, ?_⟩
  · rw [c7, d7]
    obtain ⟨r9, _⟩ := l8.burnM (t : Int) hy (w4_ok (m7.B t y))
    rw [nat4_w4 hby] at r9
    rw [r9]
    refine (burn_good ht g8 (x := y) (n := m7.B t y) ?_ ?_).1
    · rw [b7y h1, b7x]
      split
      · rename_i h2
        rcases h2 with h2 | h2
        · exact absurd h2 h1
        · omega
      · omega
    · rw [b8, if_neg (fun e => h1 e.symm)]
      exact Nat.le_refl _
  · split
    · rename_i h1
      rw [c7]
      have : nat4 a - m7.B t x = 0 := by rw [b7x, if_pos (.inl h1)]; omega
      rw [this] at t8
      rw [t8]
      show ((⟨true, false, w4 0⟩ : TokD), (0 : Int)) = _
      rw [w4z]
    · rename_i h1
      rw [c7, d7]
      obtain ⟨_, l9⟩ := l8.burnM (t : Int) hy (w4_ok (m7.B t y))
      rw [nat4_w4 hby] at l9
      have hys : m7.B t y ≤ nat4 a - m7.B t x := by
        rw [b7y h1, b7x]
        split
        · rename_i h2
          rcases h2 with h2 | h2
          · exact absurd h2 h1
          · omega
        · omega
      obtain ⟨_, g9, _, _⟩ := burn_good ht g8 (x := y) (n := m7.B t y) hys (by rw [b8, if_neg (fun e => h1 e.symm)]; exact Nat.le_refl _)
      have t9 := l9.tokenM (t : Int)
      rw [token_good ht g9] at t9
      have : nat4 a - m7.B t x - m7.B t y = 0 := by
        rw [b7y h1, b7x]
        split
        · rename_i h2
          rcases h2 with h2 | h2
          · exact absurd h2 h1
          · omega
        · omega
      rw [this] at t9
      rw [t9]
      show ((⟨true, false, w4 0⟩ : TokD), (0 : Int)) = _
      rw [w4z]
end Go.Sl
