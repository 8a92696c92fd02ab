import Derived.Test.YtjkldhalmglkpaaDoorZSl
import Derived.Test.YtjkldhalmglkpaaDoorZEq
namespace Go.Sl
open Go
section
variable {P : Program} {F L M : List HP} {sz n m : Nat} {v x : Value} {cs ys : List Value} {p : HP}
theorem DoesG.ent {s : Sem Value} {k : Value → List HP → Prop} (hL : Ent L M) (h : DoesG P F s M k) : DoesG P F s L k := by
 obtain ⟨h⟩ := h
 exact ⟨fun w hs => h w (hL w F hs)⟩
theorem own_of_cel {b : Nat} {t : TypeId} (hl : cs.length = n * sz) (hm : n ≤ maxLen) : Ent (cel b t cs :: L) (own sz (.slice (some ⟨b, 0, none⟩) n n) n cs :: L) := fun w F hs => by
 have h : Sat w (blk b (.cells ⟨cs ++ []⟩ t (0, 0)) :: (L ++ F)) := by simpa [cel] using hs
 exact h.own_of (Nat.le_refl _) hm hl (by simpa using hl)
theorem SlcG.rd {k : Option Addr → Nat → Nat → Prop} (h : RdS L v n cs) (hk : ∀ a cap, v = .slice a n cap → n ≤ cap → k a n cap) : SlcG v k := by
 cases h with
 | nil => exact ⟨_, _, _, rfl, hk _ _ rfl (Nat.le_refl _)⟩
 | zero a cap => exact ⟨_, _, _, rfl, hk _ _ rfl (Nat.zero_le _)⟩
 | mk b o n cap cs hn h => exact ⟨_, _, _, rfl, hk _ _ rfl hn⟩
theorem NilG.rd {k : Bool → Prop} (h : RdS L v n cs) (hk : ∀ b, (b = true ↔ v = .slice none 0 0) → k b) : NilG v k := by
 cases h with
 | nil => exact ⟨_, _, _, rfl, hk _ (by simp)⟩
 | zero a cap => exact ⟨_, _, _, rfl, hk _ (by simp)⟩
 | mk b o n cap cs hn h => exact ⟨_, _, _, rfl, hk _ (by simp)⟩
theorem SliceG.rd {a : Option Addr} {l h mx c : Nat} {K : Value → Prop} (hr : RdS L (.slice a n c) n cs) (h1 : l ≤ h) (h2 : h ≤ n) (h3 : h ≤ mx) (h4 : mx ≤ c) (hk : ∀ v', RdS L v' (h - l) ((cs.drop (l * sz)).take ((h - l) * sz)) → (v' = .slice none 0 0 ↔ a = none) → K v') : SliceG a sz l h mx K := by
 refine ⟨?_⟩
 cases hr with
 | nil =>
  obtain rfl : h = 0 := by omega
  obtain rfl : l = 0 := by omega
  have := hk (.slice none 0 0) (by simpa using RdS.nil) (by simp)
  obtain rfl : mx = 0 := by omega
  simpa using this
 | zero a cap =>
  obtain rfl : h = 0 := by omega
  obtain rfl : l = 0 := by omega
  split
  ·exact hk _ (by simpa using RdS.zero _ _) (by simp)
  ·exact hk _ (by simpa using RdS.zero _ _) (by simp)
 | mk b o n cap cs hn hc =>
  split
  ·rename_i he
   refine hk _ (.mk b o (h - l) (mx - l) _ (by omega) ?_) (by simp)
   have : h - l = 0 := by omega
   rw [this]; simp
   intro w _ j u hj
   simp at hj
  ·have e : Option.map (fun x => x.add (l * sz)) (some (⟨b, o, none⟩ : Addr)) = some ⟨b, o + l * sz, none⟩ := by simp [add_none]
   rw [e]
   refine hk (.slice (some ⟨b, o + l * sz, none⟩) (h - l) (mx - l)) (.mk b _ (h - l) (mx - l) _ (by omega) ?_) (by simp)
   refine hc.part ?_
   simp only [List.length_take]
   rw [List.take_eq_take_iff]
   omega
theorem RdS.nilE (h : RdS L v n cs) (hv : v = .slice none 0 0) : n = 0 ∧ cs = [] := by
 cases h with
 | nil => exact ⟨rfl, rfl⟩
 | zero a cap => cases hv
 | mk b o n cap cs hn h => cases hv
def elB (P : Program) (t e sz bs : Nat) : Bool := match P.underlying t with
 | some (.slice e') => Nat.beq e' e && Nat.blt 0 sz && (match P.info? e with
  | some i => Nat.beq i.size sz && Nat.beq i.bytes bs && (match i.zero with
   | some z => Nat.beq z.cells.size sz
   | none => false)
  | none => false)
 | _ => false
theorem ElT.of {t e sz bs : Nat} (h : elB P t e sz bs = true) : ElT P t e sz bs := by
 unfold elB at h
 split at h <;> try (cases h; done)
 rename_i e' hu
 cases hi : P.info? e with
 | none => simp [hi] at h
 | some i =>
  cases hz : i.zero with
  | none => simp [hi, hz] at h
  | some z =>
   simp only [hi, hz, Bool.and_eq_true, Nat.beq_eq, Nat.blt_eq] at h
   obtain ⟨⟨rfl, h1⟩, ⟨h2, h3⟩, h4⟩ := h
   exact ⟨hu, ⟨i, z, hi, hz, h2, h3, h4⟩, h1⟩
end
end Go.Sl
