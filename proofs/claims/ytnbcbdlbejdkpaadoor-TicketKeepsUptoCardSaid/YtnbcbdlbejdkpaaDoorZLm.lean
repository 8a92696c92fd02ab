/-
  The ledger by naturals: tokens, balances, allowances as functions; what is laid tells them. A library of this session's own.
-/
import Derived.Test.YtnbcbdlbejdkpaaDoorZLg
namespace Go.Sl
open Go
structure TokN where
  there : Bool
  paused : Bool
  sup : Nat
def adr (a : List Nat) : Prop := a.length = 20 ∧ ∀ b ∈ a, b < 256
structure Md where
  T : Nat → TokN
  B : Nat → List Nat → Nat
  A : Nat → List Nat → List Nat → Nat
def TokN.val (t : TokN) : List Nat := if t.there = true then tokB ⟨true, t.paused, w4 t.sup⟩ else []
structure Led (V : View) (m : Md) : Prop where
  tok : ∀ t, t < 64 → V (tokKey t) = (m.T t).val
  bal : ∀ t a, t < 64 → adr a → V (balKey t a) = amtB (w4 (m.B t a))
  all : ∀ t o s, t < 64 → adr o → adr s → V (allKey t o s) = amtB (w4 (m.A t o s))
  supLt : ∀ t, t < 64 → (m.T t).sup < m256
  balLt : ∀ t a, t < 64 → adr a → m.B t a < m256
  allLt : ∀ t o s, t < 64 → adr o → adr s → m.A t o s < m256
  non : ∀ t, t < 64 → (m.T t).there = false → m.T t = ⟨false, false, 0⟩
theorem tok_bytes {t : Nat} (h : t < 64) : ∀ b ∈ [116, t], b < 256 := by
  intro b hb
  simp at hb
  omega
theorem bal_bytes {t : Nat} {a : List Nat} (h : t < 64) (ha : adr a) : ∀ b ∈ 98 :: t :: a, b < 256 := by
  intro b hb
  simp only [List.mem_cons] at hb
  rcases hb with rfl | rfl | hb
  · decide
  · omega
  · exact ha.2 b hb
theorem all_bytes {t : Nat} {o s : List Nat} (h : t < 64) (ho : adr o) (hs : adr s) : ∀ b ∈ 108 :: t :: (o ++ s), b < 256 := by
  intro b hb
  simp only [List.mem_cons, List.mem_append] at hb
  rcases hb with rfl | rfl | hb | hb
  · decide
  · omega
  · exact ho.2 b hb
  · exact hs.2 b hb
theorem tok_tok {t u : Nat} (h : t < 64) (k : u < 64) : tokKey t = tokKey u ↔ t = u := by
  constructor
  · intro e
    have := strB_inj (tok_bytes h) (tok_bytes k) e
    simpa using this
  · rintro rfl; rfl
theorem tok_bal {t u : Nat} {a : List Nat} (h : t < 64) (k : u < 64) (ha : adr a) : tokKey t ≠ balKey u a := fun e => by
  have := strB_inj (tok_bytes h) (bal_bytes k ha) e
  simp at this
theorem tok_all {t u : Nat} {o s : List Nat} (h : t < 64) (k : u < 64) (ho : adr o) (hs : adr s) : tokKey t ≠ allKey u o s := fun e => by
  have := strB_inj (tok_bytes h) (all_bytes k ho hs) e
  simp at this
theorem bal_bal {t u : Nat} {a b : List Nat} (h : t < 64) (k : u < 64) (ha : adr a) (hb : adr b) : balKey t a = balKey u b ↔ t = u ∧ a = b := by
  constructor
  · intro e
    have := strB_inj (bal_bytes h ha) (bal_bytes k hb) e
    simpa using this
  · rintro ⟨rfl, rfl⟩; rfl
theorem bal_all {t u : Nat} {a o s : List Nat} (h : t < 64) (k : u < 64) (ha : adr a) (ho : adr o) (hs : adr s) : balKey t a ≠ allKey u o s := fun e => by
  have := strB_inj (bal_bytes h ha) (all_bytes k ho hs) e
  simp at this
theorem all_all {t u : Nat} {o s p q : List Nat} (h : t < 64) (k : u < 64) (ho : adr o) (hs : adr s) (hp : adr p) (hq : adr q) : allKey t o s = allKey u p q ↔ t = u ∧ o = p ∧ s = q := by
  constructor
  · intro e
    have := strB_inj (all_bytes h ho hs) (all_bytes k hp hq) e
    simp only [List.cons.injEq, true_and] at this
    exact ⟨this.1, List.append_inj this.2 (by rw [ho.1, hp.1])⟩
  · rintro ⟨rfl, rfl, rfl⟩; rfl
def Md.setT (m : Md) (t : Nat) (x : TokN) : Md := { m with T := fun u => if u = t then x else m.T u }
def Md.setB (m : Md) (t : Nat) (a : List Nat) (n : Nat) : Md := { m with B := fun u b => if u = t ∧ b = a then n else m.B u b }
def Md.setA (m : Md) (t : Nat) (o s : List Nat) (n : Nat) : Md := { m with A := fun u p q => if u = t ∧ p = o ∧ q = s then n else m.A u p q }
theorem Led.setT {V : View} {m : Md} (h : Led V m) {t : Nat} (ht : t < 64) (p : Bool) {n : Nat} (hn : n < m256) (d : TokD) (hp : d.paused = p) (hd : d.sup = w4 n) : Led (layTok V t d) (m.setT t ⟨true, p, n⟩) where
  tok u hu := by
    simp only [layTok, upd, Md.setT]
    by_cases e : u = t
    · subst e
      simp [TokN.val, tokB, hp, hd]
    · rw [if_neg (fun k => e ((tok_tok hu ht).1 k)), if_neg e]; exact h.tok u hu
  bal u a hu ha := by
    simp only [layTok, upd, Md.setT]
    rw [if_neg (fun k => tok_bal ht hu ha k.symm)]; exact h.bal u a hu ha
  all u o s hu ho hs := by
    simp only [layTok, upd, Md.setT]
    rw [if_neg (fun k => tok_all ht hu ho hs k.symm)]; exact h.all u o s hu ho hs
  supLt u hu := by
    simp only [Md.setT]
    split
    · exact hn
    · exact h.supLt u hu
  balLt := h.balLt
  allLt := h.allLt
  non u hu := by
    simp only [Md.setT]
    split
    · intro k; cases k
    · exact h.non u hu
theorem Led.setB {V : View} {m : Md} (h : Led V m) {t : Nat} (ht : t < 64) {a : List Nat} (ha : adr a) {n : Nat} (hn : n < m256) : Led (layA V (balKey t a) (w4 n)) (m.setB t a n) where
  tok u hu := by
    simp only [layA, upd, Md.setB]
    rw [if_neg (tok_bal hu ht ha)]; exact h.tok u hu
  bal u b hu hb := by
    simp only [layA, upd, Md.setB]
    by_cases e : u = t ∧ b = a
    · rw [if_pos e, if_pos ((bal_bal hu ht hb ha).2 e)]
    · rw [if_neg e, if_neg (fun k => e ((bal_bal hu ht hb ha).1 k))]; exact h.bal u b hu hb
  all u o s hu ho hs := by
    simp only [layA, upd, Md.setB]
    rw [if_neg (fun k => bal_all ht hu ha ho hs k.symm)]; exact h.all u o s hu ho hs
  supLt := h.supLt
  balLt u b hu hb := by
    simp only [Md.setB]
    split
    · exact hn
    · exact h.balLt u b hu hb
  allLt := h.allLt
  non := h.non
theorem Led.setA {V : View} {m : Md} (h : Led V m) {t : Nat} (ht : t < 64) {o s : List Nat} (ho : adr o) (hs : adr s) {n : Nat} (hn : n < m256) : Led (layA V (allKey t o s) (w4 n)) (m.setA t o s n) where
  tok u hu := by
    simp only [layA, upd, Md.setA]
    rw [if_neg (tok_all hu ht ho hs)]; exact h.tok u hu
  bal u b hu hb := by
    simp only [layA, upd, Md.setA]
    rw [if_neg (bal_all hu ht hb ho hs)]; exact h.bal u b hu hb
  all u p q hu hp hq := by
    simp only [layA, upd, Md.setA]
    by_cases e : u = t ∧ p = o ∧ q = s
    · rw [if_pos e, if_pos ((all_all hu ht hp hq ho hs).2 e)]
    · rw [if_neg e, if_neg (fun k => e ((all_all hu ht hp hq ho hs).1 k))]; exact h.all u p q hu hp hq
  supLt := h.supLt
  balLt := h.balLt
  allLt u p q hu hp hq := by
    simp only [Md.setA]
    split
    · exact hn
    · exact h.allLt u p q hu hp hq
  non := h.non
section
variable {V : View} {m : Md} (h : Led V m)
include h
theorem Led.amt {t : Nat} (ht : t < 64) {a : List Nat} (ha : adr a) : amtR (V (balKey t a)) = (w4 (m.B t a), 0) := by rw [h.bal t a ht ha, amtR_B (w4_ok _)]
theorem Led.amtA {t : Nat} (ht : t < 64) {o s : List Nat} (ho : adr o) (hs : adr s) : amtR (V (allKey t o s)) = (w4 (m.A t o s), 0) := by rw [h.all t o s ht ho hs, amtR_B (w4_ok _)]
theorem Led.token {t : Nat} (ht : t < 64) : tokenL V (t : Int) = (⟨(m.T t).there, (m.T t).paused, w4 (m.T t).sup⟩, 0) := by
  have e : begE (t : Int) = 0 := by unfold begE; rw [if_neg (by omega)]
  unfold tokenL
  rw [if_neg (by rw [e]; decide), Int.toNat_natCast, h.tok t ht]
  cases hth : (m.T t).there with
  | false =>
    have := h.non t ht hth
    rw [TokN.val, if_neg (by rw [hth]; decide), this]
    rfl
  | true => rw [TokN.val, if_pos hth, tokR_B (w4_ok _)]
end
def zN : TokN := ⟨false, false, 0⟩
def tokenM (m : Md) (t : Int) : TokN × Int := if begE t ≠ 0 then (zN, begE t) else (m.T t.toNat, 0)
def thereM (m : Md) (t : Int) : TokN × Int := if (tokenM m t).2 ≠ 0 then (zN, (tokenM m t).2) else if (tokenM m t).1.there = false then (zN, 81) else tokenM m t
def runM (m : Md) (t : Int) : TokN × Int := if (thereM m t).2 = 0 ∧ (thereM m t).1.paused = true then (zN, 83) else thereM m t
def TokN.d (t : TokN) : TokD := ⟨t.there, t.paused, w4 t.sup⟩
theorem w4z : w4 0 = z4 := w4_zero
theorem zN_d : zN.d = zTok := by rw [TokN.d, zN, w4z]; rfl
theorem amtB_0 : amtB (w4 0) = [] := by rw [w4z]; rfl
def registerM (m : Md) (t : Int) : Int × Md := if (tokenM m t).2 ≠ 0 then ((tokenM m t).2, m) else if (tokenM m t).1.there = true then (82, m) else (0, m.setT t.toNat ⟨true, false, 0⟩)
def pauseM (m : Md) (t : Int) : Int × Md := if (runM m t).2 ≠ 0 then ((runM m t).2, m) else (0, m.setT t.toNat ⟨true, true, (runM m t).1.sup⟩)
def resumeM (m : Md) (t : Int) : Int × Md := if (thereM m t).2 ≠ 0 then ((thereM m t).2, m) else if (thereM m t).1.paused = false then (84, m) else (0, m.setT t.toNat ⟨true, false, (thereM m t).1.sup⟩)
def balM (m : Md) (t : Int) (a : List Nat) : Nat × Int := if begE t ≠ 0 then (0, begE t) else (m.B t.toNat a, 0)
def allowedM (m : Md) (t : Int) (o s : List Nat) : Nat × Int := if begE t ≠ 0 then (0, begE t) else (m.A t.toNat o s, 0)
def mintM (m : Md) (t : Int) (to : List Nat) (n : Nat) : Int × Md :=
  if (runM m t).2 ≠ 0 then ((runM m t).2, m) else if m256 ≤ (runM m t).1.sup + n then (87, m) else if m256 ≤ m.B t.toNat to + n then (75, m) else
  if n = 0 then (0, m) else (0, (m.setT t.toNat ⟨true, (runM m t).1.paused, (runM m t).1.sup + n⟩).setB t.toNat to (m.B t.toNat to + n))
def burnM (m : Md) (t : Int) (a : List Nat) (n : Nat) : Int × Md :=
  if (runM m t).2 ≠ 0 then ((runM m t).2, m) else if m.B t.toNat a < n then (85, m) else if (runM m t).1.sup < n then (75, m) else
  if n = 0 then (0, m) else (0, (m.setT t.toNat ⟨true, (runM m t).1.paused, (runM m t).1.sup - n⟩).setB t.toNat a (m.B t.toNat a - n))
/-- Why a move can't be; 0: it can. -/
def fundsM (m : Md) (t : Nat) (a b : List Nat) (n : Nat) : Int := if m.B t a < n then 85 else if a = b then 0 else if m256 ≤ m.B t b + n then 75 else 0
def turnM (m : Md) (t : Nat) (a b : List Nat) (n : Nat) : Md := if a = b ∨ n = 0 then m else (m.setB t a (m.B t a - n)).setB t b (m.B t b + n)
def moveM (m : Md) (t : Int) (a b : List Nat) (n : Nat) : Int × Md :=
  if (runM m t).2 ≠ 0 then ((runM m t).2, m) else if fundsM m t.toNat a b n ≠ 0 then (fundsM m t.toNat a b n, m) else (0, turnM m t.toNat a b n)
def allowM (m : Md) (t : Int) (o s : List Nat) (n : Nat) : Int × Md := if (thereM m t).2 ≠ 0 then ((thereM m t).2, m) else (0, m.setA t.toNat o s n)
def pullM (m : Md) (t : Int) (sp a b : List Nat) (n : Nat) : Int × Md :=
  if (runM m t).2 ≠ 0 then ((runM m t).2, m) else if m.A t.toNat a sp < n then (86, m) else if fundsM m t.toNat a b n ≠ 0 then (fundsM m t.toNat a b n, m) else
  (0, turnM (if n = 0 then m else m.setA t.toNat a sp (m.A t.toNat a sp - n)) t.toNat a b n)
theorem tokenM_nat {m : Md} {t : Int} (h : (tokenM m t).2 = 0) : ∃ k : Nat, t = k ∧ k < 64 := by
  unfold tokenM at h
  split at h
  · rename_i h1; exact absurd h h1
  · rename_i h1; exact begE_nat (Classical.not_not.1 h1)
theorem thereM_nat {m : Md} {t : Int} (h : (thereM m t).2 = 0) : ∃ k : Nat, t = k ∧ k < 64 := by
  unfold thereM at h
  split at h
  · rename_i h1; exact absurd h h1
  · rename_i h1; exact tokenM_nat (Classical.not_not.1 h1)
theorem runM_nat {m : Md} {t : Int} (h : (runM m t).2 = 0) : ∃ k : Nat, t = k ∧ k < 64 := by
  unfold runM at h
  split at h
  · cases h
  · exact thereM_nat h
theorem thereM_T {m : Md} {k : Nat} (hk : k < 64) (h : (thereM m k).2 = 0) : (thereM m k).1 = m.T k ∧ (m.T k).there = true := by
  have hb : begE (k : Int) = 0 := by unfold begE; rw [if_neg (by omega)]
  have e : tokenM m k = (m.T k, 0) := by unfold tokenM; rw [if_neg (by rw [hb]; decide), Int.toNat_natCast]
  unfold thereM at h ⊢
  rw [e] at h ⊢
  simp only [ne_eq, not_true_eq_false, if_false] at h ⊢
  split at h
  · cases h
  · rename_i h1
    rw [if_neg h1]
    exact ⟨rfl, by simpa using h1⟩
theorem runM_T {m : Md} {k : Nat} (hk : k < 64) (h : (runM m k).2 = 0) : (runM m k).1 = m.T k ∧ (m.T k).there = true ∧ (m.T k).paused = false := by
  unfold runM at h ⊢
  split at h
  · cases h
  · rename_i h1
    rw [if_neg h1]
    obtain ⟨h2, h3⟩ := thereM_T hk h
    refine ⟨h2, h3, ?_⟩
    rw [← h2]
    cases hp : (thereM m k).1.paused with
    | false => rfl
    | true => exact absurd ⟨h, hp⟩ h1
section
variable {V : View} {m : Md} (h : Led V m)
include h
theorem Led.tokenM (t : Int) : tokenL V t = ((tokenM m t).1.d, (tokenM m t).2) := by
  by_cases hb : begE t = 0
  · obtain ⟨k, rfl, hk⟩ := begE_nat hb
    rw [h.token hk, Sl.tokenM, if_neg (by rw [hb]; decide), Int.toNat_natCast]
    rfl
  · rw [tokenL, if_pos hb, Sl.tokenM, if_pos hb, zN_d]
theorem Led.thereM (t : Int) : thereL V t = ((thereM m t).1.d, (thereM m t).2) := by
  unfold thereL Sl.thereM
  rw [h.tokenM t]
  by_cases h1 : (Sl.tokenM m t).2 = 0
  · simp only [h1, ne_eq, not_true_eq_false, if_false]
    obtain ⟨k, rfl, hk⟩ := tokenM_nat h1
    have e : (Sl.tokenM m k).1 = m.T k := by unfold Sl.tokenM at h1 ⊢; split at h1 <;> rename_i h2; exact absurd h1 h2; rw [if_neg h2, Int.toNat_natCast]
    rw [e]
    cases hth : (m.T k).there with
    | false =>
      rw [h.non k hk hth, show (⟨false, false, 0⟩ : TokN) = zN from rfl, zN_d, if_pos rfl]
      show _ = (zN.d, _)
      rw [zN_d]
      rfl
    | true =>
      rw [if_neg (fun hz => by have := congrArg TokD.there hz; rw [TokN.d, hth] at this; cases this), if_neg (by decide)]
      rw [← e, h1]
  · rw [if_pos h1, if_pos h1, zN_d]
theorem Led.runM (t : Int) : runL V t = ((runM m t).1.d, (runM m t).2) := by
  unfold runL Sl.runM
  rw [h.thereM t]
  have e : (Sl.thereM m t).1.d.paused = (Sl.thereM m t).1.paused := rfl
  simp only [e]
  split
  · rw [zN_d]
  · rfl
theorem Led.registerM (t : Int) : (registerL V t).1 = (registerM m t).1 ∧ Led (registerL V t).2 (registerM m t).2 := by
  unfold registerL Sl.registerM
  rw [h.tokenM t]
  have e : (Sl.tokenM m t).1.d.there = (Sl.tokenM m t).1.there := rfl
  simp only [e]
  split
  · exact ⟨rfl, h⟩
  · rename_i h1
    obtain ⟨k, rfl, hk⟩ := tokenM_nat (Classical.not_not.1 h1)
    split
    · exact ⟨rfl, h⟩
    · exact ⟨rfl, h.setT hk false (by decide) zTok rfl rfl⟩
theorem Led.pauseM (t : Int) : (pauseL V t).1 = (pauseM m t).1 ∧ Led (pauseL V t).2 (pauseM m t).2 := by
  unfold pauseL Sl.pauseM
  rw [h.runM t]
  split
  · exact ⟨rfl, h⟩
  · rename_i h1
    have h1 := Classical.not_not.1 h1
    obtain ⟨k, rfl, hk⟩ := runM_nat h1
    refine ⟨rfl, h.setT hk true ?_ _ rfl rfl⟩
    rw [(runM_T hk h1).1]
    exact h.supLt k hk
theorem Led.resumeM (t : Int) : (resumeL V t).1 = (resumeM m t).1 ∧ Led (resumeL V t).2 (resumeM m t).2 := by
  unfold resumeL Sl.resumeM
  rw [h.thereM t]
  have e : (Sl.thereM m t).1.d.paused = (Sl.thereM m t).1.paused := rfl
  simp only [e]
  split
  · exact ⟨rfl, h⟩
  · rename_i h1
    have h1 := Classical.not_not.1 h1
    obtain ⟨k, rfl, hk⟩ := thereM_nat h1
    split
    · exact ⟨rfl, h⟩
    · refine ⟨rfl, h.setT hk false ?_ _ rfl rfl⟩
      rw [(thereM_T hk h1).1]
      exact h.supLt k hk
theorem Led.balM (t : Int) {a : List Nat} (ha : adr a) : balL V t a = (w4 (balM m t a).1, (balM m t a).2) := by
  unfold balL Sl.balM
  split
  · rw [w4z]
  · rename_i h1
    obtain ⟨k, rfl, hk⟩ := begE_nat (Classical.not_not.1 h1)
    rw [Int.toNat_natCast, h.amt hk ha]
theorem Led.allowedM (t : Int) {o s : List Nat} (ho : adr o) (hs : adr s) : allowedL V t o s = (w4 (allowedM m t o s).1, (allowedM m t o s).2) := by
  unfold allowedL Sl.allowedM
  split
  · rw [w4z]
  · rename_i h1
    obtain ⟨k, rfl, hk⟩ := begE_nat (Classical.not_not.1 h1)
    rw [Int.toNat_natCast, h.amtA hk ho hs]
theorem Led.mintM (t : Int) {to a : List Nat} (ht : adr to) (ha : wOk a) : (mintL V t to a).1 = (mintM m t to (nat4 a)).1 ∧ Led (mintL V t to a).2 (mintM m t to (nat4 a)).2 := by
  unfold mintL Sl.mintM
  rw [h.runM t]
  by_cases h1 : (Sl.runM m t).2 = 0
  · obtain ⟨k, rfl, hk⟩ := runM_nat h1
    have hT := (runM_T hk h1).1
    have hs : nat4 (Sl.runM m k).1.d.sup = (Sl.runM m k).1.sup := by rw [TokN.d, nat4_w4 (by rw [hT]; exact h.supLt k hk)]
    have hb := h.balLt k to hk ht
    have hz : a = z4 ↔ nat4 a = 0 := nat4_zero_iff ha
    simp only [Int.toNat_natCast, h.amt hk ht, h1, ne_eq, not_true_eq_false, if_false, hs, nat4_w4 hb, hz]
    split
    · exact ⟨rfl, h⟩
    · split
      · exact ⟨rfl, h⟩
      · split
        · exact ⟨rfl, h⟩
        · rename_i h2 h3 h4
          refine ⟨rfl, ?_⟩
          simp only [addL, hs, nat4_w4 hb]
          exact (h.setT hk _ (by omega) _ rfl rfl).setB hk ht (by omega)
  · rw [if_pos h1, if_pos h1]
    exact ⟨rfl, h⟩
theorem Led.burnM (t : Int) {b a : List Nat} (ht : adr b) (ha : wOk a) : (burnL V t b a).1 = (burnM m t b (nat4 a)).1 ∧ Led (burnL V t b a).2 (burnM m t b (nat4 a)).2 := by
  unfold burnL Sl.burnM
  rw [h.runM t]
  by_cases h1 : (Sl.runM m t).2 = 0
  · obtain ⟨k, rfl, hk⟩ := runM_nat h1
    have hT := (runM_T hk h1).1
    have hsl : (Sl.runM m k).1.sup < m256 := by rw [hT]; exact h.supLt k hk
    have hs : nat4 (Sl.runM m k).1.d.sup = (Sl.runM m k).1.sup := by rw [TokN.d, nat4_w4 hsl]
    have hb := h.balLt k b hk ht
    have hz : a = z4 ↔ nat4 a = 0 := nat4_zero_iff ha
    simp only [Int.toNat_natCast, h.amt hk ht, h1, ne_eq, not_true_eq_false, if_false, hs, nat4_w4 hb, hz]
    split
    · exact ⟨rfl, h⟩
    · split
      · exact ⟨rfl, h⟩
      · split
        · exact ⟨rfl, h⟩
        · refine ⟨rfl, ?_⟩
          simp only [subL, hs, nat4_w4 hb]
          exact (h.setT hk _ (by omega) _ rfl rfl).setB hk ht (by omega)
  · rw [if_pos h1, if_pos h1]
    exact ⟨rfl, h⟩
theorem Led.fundsM {k : Nat} (hk : k < 64) {b c a : List Nat} (hb : adr b) (hc : adr c) (ha : wOk a) : (fundsL V k b c a).e = fundsM m k b c (nat4 a) ∧
    (fundsM m k b c (nat4 a) = 0 → b ≠ c → (fundsL V k b c a).less = w4 (m.B k b - nat4 a) ∧ (fundsL V k b c a).more = w4 (m.B k c + nat4 a) ∧ m.B k c + nat4 a < m256) := by
  have hb' := h.balLt k b hk hb
  have hc' := h.balLt k c hk hc
  unfold fundsL Sl.fundsM
  simp only [h.amt hk hb, h.amt hk hc, ne_eq, not_true_eq_false, if_false, false_or, nat4_w4 hb', nat4_w4 hc']
  split
  · exact ⟨rfl, fun h => by cases h⟩
  · split
    · rename_i e
      exact ⟨rfl, fun _ h => absurd e h⟩
    · split
      · exact ⟨rfl, fun h => by cases h⟩
      · exact ⟨rfl, fun _ _ => ⟨by rw [subL, nat4_w4 hb'], by rw [addL, nat4_w4 hc'], by omega⟩⟩
theorem Led.turnM {k : Nat} (hk : k < 64) {b c a l r : List Nat} (hb : adr b) (hc : adr c) (ha : wOk a) (hlr : b ≠ c → l = w4 (m.B k b - nat4 a) ∧ r = w4 (m.B k c + nat4 a) ∧ m.B k c + nat4 a < m256) : Led (turnL V k b c a l r) (turnM m k b c (nat4 a)) := by
  have hz : a = z4 ↔ nat4 a = 0 := nat4_zero_iff ha
  unfold turnL Sl.turnM
  simp only [hz]
  split
  · exact h
  · rename_i h1
    obtain ⟨rfl, rfl, hlt⟩ := hlr (fun e => h1 (.inl e))
    have hb' := h.balLt k b hk hb
    exact (h.setB hk hb (by omega)).setB hk hc hlt
theorem Led.moveM (t : Int) {b c a : List Nat} (hb : adr b) (hc : adr c) (ha : wOk a) : (moveL V t b c a).1 = (moveM m t b c (nat4 a)).1 ∧ Led (moveL V t b c a).2 (moveM m t b c (nat4 a)).2 := by
  unfold moveL Sl.moveM
  rw [h.runM t]
  by_cases h1 : (Sl.runM m t).2 = 0
  · obtain ⟨k, rfl, hk⟩ := runM_nat h1
    obtain ⟨h2, h3⟩ := h.fundsM hk hb hc ha
    simp only [Int.toNat_natCast, h1, ne_eq, not_true_eq_false, if_false, h2]
    split
    · exact ⟨rfl, h⟩
    · rename_i h4
      exact ⟨rfl, h.turnM hk hb hc ha (h3 (Classical.not_not.1 h4))⟩
  · rw [if_pos h1, if_pos h1]
    exact ⟨rfl, h⟩
theorem Led.allowM (t : Int) {o s a : List Nat} (ho : adr o) (hs : adr s) (ha : wOk a) : (allowL V t o s a).1 = (allowM m t o s (nat4 a)).1 ∧ Led (allowL V t o s a).2 (allowM m t o s (nat4 a)).2 := by
  unfold allowL Sl.allowM
  rw [h.thereM t]
  split
  · exact ⟨rfl, h⟩
  · rename_i h1
    obtain ⟨k, rfl, hk⟩ := thereM_nat (Classical.not_not.1 h1)
    refine ⟨rfl, ?_⟩
    have := h.setA (t := k) hk ho hs (nat4_lt ha)
    rw [w4_nat4 ha] at this
    exact this
theorem Led.pullM (t : Int) {s b c a : List Nat} (hs : adr s) (hb : adr b) (hc : adr c) (ha : wOk a) : (pullL V t s b c a).1 = (pullM m t s b c (nat4 a)).1 ∧ Led (pullL V t s b c a).2 (pullM m t s b c (nat4 a)).2 := by
  unfold pullL Sl.pullM
  rw [h.runM t]
  by_cases h1 : (Sl.runM m t).2 = 0
  · obtain ⟨k, rfl, hk⟩ := runM_nat h1
    obtain ⟨h2, h3⟩ := h.fundsM hk hb hc ha
    have hal := h.allLt k b s hk hb hs
    have hz : a = z4 ↔ nat4 a = 0 := nat4_zero_iff ha
    simp only [Int.toNat_natCast, h1, ne_eq, not_true_eq_false, if_false, h2, h.amtA hk hb hs, nat4_w4 hal]
    split
    · exact ⟨rfl, h⟩
    · split
      · exact ⟨rfl, h⟩
      · rename_i h5 h4
        refine ⟨rfl, ?_⟩
        by_cases hn : nat4 a = 0
        · rw [if_pos (hz.2 hn), if_pos hn]
          exact h.turnM hk hb hc ha (h3 (Classical.not_not.1 h4))
        · rw [if_neg (fun e => hn (hz.1 e)), if_neg hn]
          refine Led.turnM ?_ hk hb hc ha (h3 (Classical.not_not.1 h4))
          rw [subL, nat4_w4 hal]
          exact h.setA hk hb hs (by omega)
  · rw [if_pos h1, if_pos h1]
    exact ⟨rfl, h⟩
end
def m0 : Md := ⟨fun _ => zN, fun _ _ => 0, fun _ _ _ => 0⟩
theorem led_none : Led ⟨fun _ => [], []⟩ m0 := ⟨fun _ _ => rfl, fun _ _ _ _ => amtB_0.symm, fun _ _ _ _ _ _ => amtB_0.symm, fun _ _ => (by decide : 0 < m256), fun _ _ _ _ => (by decide : 0 < m256), fun _ _ _ _ _ _ => (by decide : 0 < m256), fun _ _ _ => rfl⟩
end Go.Sl
