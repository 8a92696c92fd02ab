import Derived.Test.YtjacolfhlfogkabGreatDoorZLq
import Derived.Test.YtjacolfhlfogkabGreatDoorZBs
import Derived.Test.YtjacolfhlfogkabGreatDoorZMk
namespace Go.Sl
open Go
def leN : List Nat → Nat
 | [] => 0
 | c :: l => c + 256 * leN l
theorem leN_snoc (c : Nat) : ∀ l : List Nat, leN (l ++ [c]) = leN l + 256 ^ l.length * c
 | [] => by simp [leN]
 | a :: l => by
  rw [List.cons_append, leN, leN_snoc c l, leN, List.length_cons, Nat.pow_succ, Nat.mul_add, Nat.add_assoc, Nat.mul_comm (256 ^ l.length) 256, Nat.mul_assoc]
theorem leN_lt : ∀ {l : List Nat}, (∀ b ∈ l, b < 256) → leN l < 256 ^ l.length
 | [], _ => by simp [leN]
 | a :: l, h => by
  have h1 := leN_lt (l := l) fun b hb => h b (List.mem_cons_of_mem _ hb)
  have h2 := h a List.mem_cons_self
  rw [leN, List.length_cons, Nat.pow_succ]
  omega
theorem leN_digit : ∀ {l : List Nat}, (∀ b ∈ l, b < 256) → ∀ j, leN l / 256 ^ j % 256 = l.getD j 0
 | [], _, j => by simp [leN]
 | a :: l, h, 0 => by
  have h2 := h a List.mem_cons_self
  simp only [leN, Nat.pow_zero, Nat.div_one, List.getD_cons_zero]
  omega
 | a :: l, h, j + 1 => by
  have h2 := h a List.mem_cons_self
  rw [leN, Nat.pow_succ, Nat.mul_comm (256 ^ j) 256, ← Nat.div_div_eq_div_mul, List.getD_cons_succ, ← leN_digit (fun b hb => h b (List.mem_cons_of_mem _ hb)) j]
  congr 2
  omega
theorem w4_byte {N i c : Nat} (hN : N < 256 ^ i) (hi : i < 32) (hc : c < 256) :
 (w4 N).getD (i / 8) 0 < 256 ^ (i % 8) ∧ w4 (N + 256 ^ i * c) = (w4 N).set (i / 8) ((w4 N).getD (i / 8) 0 + c * 256 ^ (i % 8)) := by
 have hA : 256 ^ (i % 8) ≤ 256 ^ 7 := Nat.pow_le_pow_right (by decide) (by omega)
 have hq : i / 8 < 4 := by omega
 have hpow : 256 ^ i = 256 ^ (8 * (i / 8)) * 256 ^ (i % 8) := by rw [← Nat.pow_add, Nat.div_add_mod]
 have hX : c * 256 ^ (i % 8) ≤ 255 * 256 ^ (i % 8) := Nat.mul_le_mul_right _ (by omega)
 rw [hpow] at hN ⊢
 rw [Nat.mul_assoc, Nat.mul_comm _ c]
 generalize c * 256 ^ (i % 8) = X at *
 generalize 256 ^ (i % 8) = A at *
 generalize i / 8 = q at *
 have h4 : ∀ {a b c d a' b' c' d' : Nat}, a = a' → b = b' → c = c' → d = d' → [a, b, c, d] = [a', b', c', d'] := by
  rintro a b c d _ _ _ _ rfl rfl rfl rfl; rfl
 clear hpow hc hi
 have hq2 : q = 0 ∨ q = 1 ∨ q = 2 ∨ q = 3 := by omega
 rcases hq2 with rfl | rfl | rfl | rfl <;> simp only [w4, m64, List.getD_cons_zero, List.getD_cons_succ, List.set_cons_zero, List.set_cons_succ, Nat.mul_zero, Nat.pow_zero, Nat.one_mul, Nat.mul_one, Nat.reduceMul, Nat.reducePow] at hN hA ⊢ <;> refine ⟨by omega, ?_⟩ <;> (refine h4 ?_ ?_ ?_ ?_ <;> omega)
theorem words_le {bs : List Nat} (hl : bs.length = 32) (hb : ∀ b ∈ bs, b < 256) : wordsN bs = w4 (leN bs.reverse) := by
 have hb' : ∀ b ∈ bs.reverse, b < 256 := fun b h => hb b (List.mem_reverse.1 h)
 have e : bs = wideB (w4 (leN bs.reverse)) := by
  refine List.ext_getElem? fun i => ?_
  rcases Nat.lt_or_ge i 32 with hi | hi
  ·have h1 := wideB_get (w4 (leN bs.reverse)) (i := 3 - i / 8) (k := 7 - i % 8) (by omega) (by omega)
   rw [show 31 - (8 * (3 - i / 8) + (7 - i % 8)) = i by omega] at h1
   rw [h1]
   have h2 := leN_digit hb' (31 - i)
   have h3 : bs.reverse.getD (31 - i) 0 = bs[i]'(by omega) := by
    have hlt : 31 - i < bs.reverse.length := by rw [List.length_reverse]; omega
    rw [List.getD_eq_getElem?_getD, List.getElem?_eq_getElem hlt, Option.getD_some, List.getElem_reverse]
    congr 1
    omega
   rw [h3] at h2
   rw [List.getElem?_eq_getElem (by omega), ← h2]
   congr 1
   have h5 : (w4 (leN bs.reverse)).getD (3 - i / 8) 0 = leN bs.reverse / 256 ^ (8 * (3 - i / 8)) % m64 := by
    generalize leN bs.reverse = N
    have hq : 3 - i / 8 = 0 ∨ 3 - i / 8 = 1 ∨ 3 - i / 8 = 2 ∨ 3 - i / 8 = 3 := by omega
    rcases hq with h | h | h | h <;> rw [h] <;> simp only [w4, m64, List.getD_cons_zero, List.getD_cons_succ, Nat.reduceMul, Nat.reducePow] <;> omega
   rw [h5]
   have h6 : 31 - i = 8 * (3 - i / 8) + (7 - i % 8) := by omega
   rw [h6, Nat.pow_add, ← Nat.div_div_eq_div_mul]
   generalize leN bs.reverse / 256 ^ (8 * (3 - i / 8)) = M
   have h7 : m64 = 256 ^ (7 - i % 8) * (256 * 256 ^ (i % 8)) := by
    rw [← Nat.pow_succ', ← Nat.pow_add, show 7 - i % 8 + (i % 8 + 1) = 8 by omega]
    rfl
   rw [h7, Nat.mod_mul_right_div_self, Nat.mod_mul_right_mod]
  ·rw [List.getElem?_eq_none (by omega), List.getElem?_eq_none (by rw [wide_len]; omega)]
 have h := words_wide (w4_ok (leN bs.reverse))
 rw [← e] at h
 exact h
structure Lim (R : RSt) (k : Nat) : Prop where
 told : R.told.length + k ≤ 3500000000000
 steps : R.steps.length + k ≤ 3500000000000
 tb : ∀ p ∈ R.told, ∀ b ∈ p.2, b < 256
 sb : ∀ p ∈ R.steps, ∀ b ∈ p.2, b < 256
def SrcF.bytes (find : SrcF) : Prop := ∀ k, ∀ b ∈ (find k).1, b < 256
theorem Lim.mono {R : RSt} {k j : Nat} (h : Lim R k) (hj : j ≤ k) : Lim R j := ⟨by have := h.told; omega, by have := h.steps; omega, h.tb, h.sb⟩
theorem Lim.ask {R : RSt} {k : Nat} {f : List Nat × Int} {key : ByteArray} (h : Lim R (k + 1)) (hf : ∀ b ∈ f.1, b < 256) : Lim (askQ f R key) k ∧ (askQ f R key).steps = R.steps := by
 have h1 := getQ_told (R := R) (f := f) (key := key)
 have h2 := (askQ_steps (R := R) (f := f) (key := key)).1
 refine ⟨⟨by have := h.told; omega, by rw [h2]; have := h.steps; omega, ?_, by rw [h2]; exact h.sb⟩, h2⟩
 unfold askQ
 split
 ·exact h.tb
 ·split
  ·intro p hp b hb
   rcases insL_mem hp with e | e
   ·rw [e] at hb; exact hf b hb
   ·exact h.tb p e b hb
  ·exact h.tb
theorem Lim.val {R : RSt} {k : Nat} (h : Lim R k) (key : ByteArray) : ∀ b ∈ R.val key, b < 256 := by
 unfold RSt.val
 cases hs : lastS R.steps key with
 | some v => exact h.sb _ (List.mem_reverse.1 (atL_mem hs))
 | none =>
  cases ht : atL R.told key with
  | some v => exact h.tb _ (atL_mem ht)
  | none => exact fun b hb => absurd hb List.not_mem_nil
theorem Lim.get {find : SrcF} (hb : SrcF.bytes find) {R : RSt} {k : Nat} (h : Lim R (k + 1)) (key : ByteArray) : Lim (gtQ find R key).2 k ∧ ∀ b ∈ (gtQ find R key).1.1, b < 256 := by
 unfold gtQ getQ
 split
 ·exact ⟨h.mono (Nat.le_succ _), fun b hb => absurd hb List.not_mem_nil⟩
 ·have h1 := (h.ask (f := find key) (key := key) (hb key)).1
  refine ⟨h1, ?_⟩
  show ∀ b ∈ (if askI (find key) R key = 0 then _ else _ : List Nat), b < 256
  split
  ·exact h1.val key
  ·exact fun b hb => absurd hb List.not_mem_nil
theorem Lim.put {find : SrcF} (hb : SrcF.bytes find) {R : RSt} {k : Nat} (h : Lim R (k + 1)) (key : ByteArray) {bs : List Nat} (hbs : ∀ b ∈ bs, b < 256) : Lim (ptQ find R key bs).2 k := by
 unfold ptQ putQ
 split
 ·exact h.mono (Nat.le_succ _)
 ·obtain ⟨h1, h2⟩ := h.ask (f := find key) (key := key) (hb key)
  show Lim (if askI (find key) R key = 0 then _ else _) k
  split
  ·refine ⟨h1.told, ?_, h1.tb, ?_⟩
   ·show ((askQ (find key) R key).steps ++ [(key, bs)]).length + k ≤ _
    rw [List.length_append, h2]
    have := h.steps
    show R.steps.length + 1 + k ≤ _
    omega
   ·intro p hp b hb
    rcases List.mem_append.1 hp with e | e
    ·exact h1.sb p e b hb
    ·rw [List.mem_singleton.1 e] at hb; exact hbs b hb
  ·exact h1
theorem Lim.amt {find : SrcF} (hb : SrcF.bytes find) {R : RSt} {k : Nat} (h : Lim R (k + 1)) (key : ByteArray) : Lim (amtQ find R key).2 k := (h.get hb key).1
theorem Lim.token {find : SrcF} (hb : SrcF.bytes find) {R : RSt} {k : Nat} (h : Lim R (k + 1)) (t : Int) : Lim (tokenQ find R t).2 k := by
 unfold tokenQ
 split
 ·exact h.mono (Nat.le_succ _)
 ·exact (h.get hb _).1
theorem Lim.there {find : SrcF} (hb : SrcF.bytes find) {R : RSt} {k : Nat} (h : Lim R (k + 1)) (t : Int) : Lim (thereQ find R t).2 k := h.token hb t
theorem Lim.run {find : SrcF} (hb : SrcF.bytes find) {R : RSt} {k : Nat} (h : Lim R (k + 1)) (t : Int) : Lim (runQ find R t).2 k := h.token hb t
theorem amtB_bytes (a : List Nat) : ∀ b ∈ amtB a, b < 256 := by
 unfold amtB
 split
 ·exact fun b hb => absurd hb List.not_mem_nil
 ·exact wideB_lt a
theorem tokB_bytes (d : TokD) : ∀ b ∈ tokB d, b < 256 := fun b hb => by
 rcases List.mem_cons.1 hb with e | e
 ·rw [e]; split <;> decide
 ·exact wideB_lt _ b e
theorem Lim.lay {find : SrcF} (hb : SrcF.bytes find) {R : RSt} {k : Nat} (h : Lim R (k + 1)) (key : ByteArray) (a : List Nat) : Lim (layQ find R key a).2 k := h.put hb key (amtB_bytes a)
theorem Lim.layTok {find : SrcF} (hb : SrcF.bytes find) {R : RSt} {k : Nat} (h : Lim R (k + 1)) (t : Nat) (d : TokD) : Lim (layTokQ find R t d).2 k := h.put hb _ (tokB_bytes d)
theorem tokR_there (bs : List Nat) : (tokR bs).1.there = false ↔ (tokR bs).1 = zTok := by
 unfold tokR
 split
 ·exact ⟨fun _ => rfl, fun _ => rfl⟩
 ·split
  ·exact ⟨fun h => (by cases h), fun h => (by cases h)⟩
  ·exact ⟨fun _ => rfl, fun _ => rfl⟩
theorem tokenQ_there (find : SrcF) (R : RSt) (t : Int) : (tokenQ find R t).1.1.there = false ↔ (tokenQ find R t).1.1 = zTok := by
 unfold tokenQ
 split
 ·exact ⟨fun _ => rfl, fun _ => rfl⟩
 ·unfold tokOf
  show (if _ then _ else _ : TokD × Int).1.there = false ↔ (if _ then _ else _ : TokD × Int).1 = zTok
  split
  ·exact ⟨fun _ => rfl, fun _ => rfl⟩
  ·exact tokR_there _
theorem runQ_run {find : SrcF} {R : RSt} {t : Int} (h : (runQ find R t).1.2 = 0) : (runQ find R t).1.1.paused = false := by
 unfold runQ runOf at h ⊢
 by_cases hc : (thereQ find R t).1.2 = 0 ∧ (thereQ find R t).1.1.paused = true
 ·simp only [hc] at h
  simp at h
 ·simp only [if_neg hc] at h ⊢
  cases hp : (thereQ find R t).1.1.paused with
  | false => rfl
  | true => exact absurd ⟨h, hp⟩ hc
def stepQn (find : SrcF) (k : Nat) (R : RSt) (x : StepD) : ToldD × RSt := match k with
 | 0 => (told1 (registerQ find R x.tok).1, (registerQ find R x.tok).2)
 | 1 => (told1 (pauseQ find R x.tok).1, (pauseQ find R x.tok).2)
 | 2 => (told1 (resumeQ find R x.tok).1, (resumeQ find R x.tok).2)
 | 3 => (told1 (mintQ find R x.tok x.a x.amt).1, (mintQ find R x.tok x.a x.amt).2)
 | 4 => (told1 (burnQ find R x.tok x.a x.amt).1, (burnQ find R x.tok x.a x.amt).2)
 | 5 => (told1 (moveQ find R x.tok x.a x.b x.amt).1, (moveQ find R x.tok x.a x.b x.amt).2)
 | 6 => (told1 (allowQ find R x.tok x.a x.b x.amt).1, (allowQ find R x.tok x.a x.b x.amt).2)
 | 7 => (told1 (pullQ find R x.tok x.a x.b x.c x.amt).1, (pullQ find R x.tok x.a x.b x.c x.amt).2)
 | 8 => (⟨(tokenQ find R x.tok).1.2, (tokenQ find R x.tok).1.1, z4, 0⟩, (tokenQ find R x.tok).2)
 | 9 => (⟨(balQ find R x.tok x.a).1.2, zTok, (balQ find R x.tok x.a).1.1, 0⟩, (balQ find R x.tok x.a).2)
 | 10 => (⟨(allowedQ find R x.tok x.a x.b).1.2, zTok, (allowedQ find R x.tok x.a x.b).1.1, 0⟩, (allowedQ find R x.tok x.a x.b).2)
 | 11 => (⟨0, zTok, z4, (markQ R).1⟩, (markQ R).2)
 | _ => (told1 (backQ R x.tok).1, (backQ R x.tok).2)
def stepQ (find : SrcF) (R : RSt) (x : StepD) : ToldD × RSt := stepQn find (pickN x.what 13) R x
theorem balQ_len (find : SrcF) (R : RSt) (t : Int) (a : List Nat) : (balQ find R t a).1.1.length = 4 := by
 unfold balQ
 split
 ·rfl
 ·exact (amtQ_ok find R _).len
theorem allowedQ_len (find : SrcF) (R : RSt) (t : Int) (a b : List Nat) : (allowedQ find R t a b).1.1.length = 4 := by
 unfold allowedQ
 split
 ·rfl
 ·exact (amtQ_ok find R _).len
structure Keeps (find : SrcF) (φ : RSt → Prop) : Prop where
 get : ∀ R k, φ R → φ (gtQ find R k).2
 put : ∀ R k bs, φ R → φ (ptQ find R k bs).2
section
variable {find : SrcF} {φ : RSt → Prop} {R : RSt} (hk : Keeps find φ)
include hk
theorem Keeps.token (t : Int) (h : φ R) : φ (tokenQ find R t).2 := by
 unfold tokenQ
 split
 ·exact h
 ·exact hk.get _ _ h
theorem Keeps.amt (k : ByteArray) (h : φ R) : φ (amtQ find R k).2 := hk.get _ _ h
theorem Keeps.lay (k : ByteArray) (a : List Nat) (h : φ R) : φ (layQ find R k a).2 := hk.put _ _ _ h
theorem Keeps.layTok (t : Nat) (d : TokD) (h : φ R) : φ (layTokQ find R t d).2 := hk.put _ _ _ h
theorem Keeps.there (t : Int) (h : φ R) : φ (thereQ find R t).2 := hk.token t h
theorem Keeps.run (t : Int) (h : φ R) : φ (runQ find R t).2 := hk.token t h
theorem Keeps.lay2 (t : Nat) (d : TokD) (k : ByteArray) (a : List Nat) (h : φ R) : φ (lay2Q find R t d k a).2 := by
 unfold lay2Q
 split
 ·exact hk.layTok _ _ h
 ·exact hk.lay _ _ (hk.layTok _ _ h)
theorem Keeps.turn (t : Nat) (fr to a l m : List Nat) (h : φ R) : φ (turnQ find R t fr to a l m).2 := by
 unfold turnQ
 split
 ·exact h
 ·split
  ·exact hk.lay _ _ h
  ·exact hk.lay _ _ (hk.lay _ _ h)
theorem Keeps.funds (t : Nat) (fr to a : List Nat) (h : φ R) : φ (fundsQ find R t fr to a).2 := by
 unfold fundsQ fundsA fundsB
 have h1 := hk.amt (balKey t fr) h
 (repeat' split) <;> first | exact h1 | exact hk.amt _ h1
theorem Keeps.step (x : StepD) (hx : pickN x.what 13 < 11) (h : φ R) : φ (stepQ find R x).2 := by
 unfold stepQ
 have hr := hk.run x.tok h
 have hth := hk.there x.tok h
 have hto := hk.token x.tok h
 generalize pickN x.what 13 = k at hx
 match k, hx with
 | 0, _ =>
  show φ (registerQ find R x.tok).2
  unfold registerQ
  (repeat' split) <;> first | exact hto | exact hk.layTok _ _ hto
 | 1, _ =>
  show φ (pauseQ find R x.tok).2
  unfold pauseQ
  (repeat' split) <;> first | exact hr | exact hk.layTok _ _ hr
 | 2, _ =>
  show φ (resumeQ find R x.tok).2
  unfold resumeQ
  (repeat' split) <;> first | exact hth | exact hk.layTok _ _ hth
 | 3, _ =>
  show φ (mintQ find R x.tok x.a x.amt).2
  unfold mintQ mintA
  (repeat' split) <;> first | exact hr | exact hk.amt _ hr | exact hk.lay2 _ _ _ _ (hk.amt _ hr)
 | 4, _ =>
  show φ (burnQ find R x.tok x.a x.amt).2
  unfold burnQ burnA
  (repeat' split) <;> first | exact hr | exact hk.amt _ hr | exact hk.lay2 _ _ _ _ (hk.amt _ hr)
 | 5, _ =>
  show φ (moveQ find R x.tok x.a x.b x.amt).2
  unfold moveQ moveB
  (repeat' split) <;> first | exact hr | exact hk.funds _ _ _ _ hr | exact hk.turn _ _ _ _ _ _ (hk.funds _ _ _ _ hr)
 | 6, _ =>
  show φ (allowQ find R x.tok x.a x.b x.amt).2
  unfold allowQ
  (repeat' split) <;> first | exact hth | exact hk.lay _ _ hth
 | 7, _ =>
  show φ (pullQ find R x.tok x.a x.b x.c x.amt).2
  unfold pullQ pullA pullB
  have ha := hk.amt (allKey x.tok.toNat x.b x.a) hr
  have hf := hk.funds x.tok.toNat x.b x.c x.amt ha
  (repeat' split) <;> first | exact hr | exact ha | exact hf | exact hk.turn _ _ _ _ _ _ hf | exact hk.lay _ _ hf | exact hk.turn _ _ _ _ _ _ (hk.lay _ _ hf)
 | 8, _ => exact hto
 | 9, _ =>
  show φ (balQ find R x.tok x.a).2
  unfold balQ
  split
  ·exact h
  ·exact hk.amt _ h
 | 10, _ =>
  show φ (allowedQ find R x.tok x.a x.b).2
  unfold allowedQ
  split
  ·exact h
  ·exact hk.amt _ h
end
structure KeepsN (find : SrcF) (φ : Nat → RSt → Prop) : Prop where
 get : ∀ n R k, φ n R → φ (n + 1) (gtQ find R k).2
 put : ∀ n R k bs, (∀ b ∈ bs, b < 256) → φ n R → φ (n + 1) (ptQ find R k bs).2
 mono : ∀ {n m R}, φ n R → n ≤ m → φ m R
section
variable {find : SrcF} {φ : Nat → RSt → Prop} {R : RSt} {n : Nat} (hk : KeepsN find φ)
include hk
theorem KeepsN.token (t : Int) (h : φ n R) : φ (n + 1) (tokenQ find R t).2 := by
 unfold tokenQ
 split
 ·exact hk.mono (h) (by omega)
 ·exact hk.mono (hk.get _ _ _ h) (by omega)
theorem KeepsN.amt (k : ByteArray) (h : φ n R) : φ (n + 1) (amtQ find R k).2 := hk.get _ _ _ h
theorem KeepsN.lay (k : ByteArray) (a : List Nat) (h : φ n R) : φ (n + 1) (layQ find R k a).2 := hk.put _ _ _ _ (amtB_bytes a) h
theorem KeepsN.layTok (t : Nat) (d : TokD) (h : φ n R) : φ (n + 1) (layTokQ find R t d).2 := hk.put _ _ _ _ (tokB_bytes d) h
theorem KeepsN.there (t : Int) (h : φ n R) : φ (n + 1) (thereQ find R t).2 := hk.token t h
theorem KeepsN.run (t : Int) (h : φ n R) : φ (n + 1) (runQ find R t).2 := hk.token t h
theorem KeepsN.lay2 (t : Nat) (d : TokD) (k : ByteArray) (a : List Nat) (h : φ n R) : φ (n + 2) (lay2Q find R t d k a).2 := by
 unfold lay2Q
 split
 ·exact hk.mono (hk.layTok _ _ h) (by omega)
 ·exact hk.mono (hk.lay _ _ (hk.layTok _ _ h)) (by omega)
theorem KeepsN.turn (t : Nat) (fr to a l m : List Nat) (h : φ n R) : φ (n + 2) (turnQ find R t fr to a l m).2 := by
 unfold turnQ
 split
 ·exact hk.mono (h) (by omega)
 ·split
  ·exact hk.mono (hk.lay _ _ h) (by omega)
  ·exact hk.mono (hk.lay _ _ (hk.lay _ _ h)) (by omega)
theorem KeepsN.funds (t : Nat) (fr to a : List Nat) (h : φ n R) : φ (n + 2) (fundsQ find R t fr to a).2 := by
 unfold fundsQ fundsA fundsB
 have h1 := hk.amt (balKey t fr) h
 (repeat' split) <;> first | exact hk.mono (h1) (by omega) | exact hk.mono (hk.amt _ h1) (by omega)
theorem KeepsN.step (x : StepD) (hx : pickN x.what 13 < 11) (h : φ n R) : φ (n + 7) (stepQ find R x).2 := by
 unfold stepQ
 have hr := hk.run x.tok h
 have hth := hk.there x.tok h
 have hto := hk.token x.tok h
 generalize pickN x.what 13 = k at hx
 match k, hx with
 | 0, _ =>
  show φ (n + 7) (registerQ find R x.tok).2
  unfold registerQ
  (repeat' split) <;> first | with_reducible exact hk.mono (hto) (by omega) | with_reducible exact hk.mono (hk.layTok _ _ hto) (by omega)
 | 1, _ =>
  show φ (n + 7) (pauseQ find R x.tok).2
  unfold pauseQ
  (repeat' split) <;> first | with_reducible exact hk.mono (hr) (by omega) | with_reducible exact hk.mono (hk.layTok _ _ hr) (by omega)
 | 2, _ =>
  show φ (n + 7) (resumeQ find R x.tok).2
  unfold resumeQ
  (repeat' split) <;> first | with_reducible exact hk.mono (hth) (by omega) | with_reducible exact hk.mono (hk.layTok _ _ hth) (by omega)
 | 3, _ =>
  show φ (n + 7) (mintQ find R x.tok x.a x.amt).2
  unfold mintQ mintA
  (repeat' split) <;> first | with_reducible exact hk.mono (hr) (by omega) | with_reducible exact hk.mono (hk.amt _ hr) (by omega) | with_reducible exact hk.mono (hk.lay2 _ _ _ _ (hk.amt _ hr)) (by omega)
 | 4, _ =>
  show φ (n + 7) (burnQ find R x.tok x.a x.amt).2
  unfold burnQ burnA
  (repeat' split) <;> first | with_reducible exact hk.mono (hr) (by omega) | with_reducible exact hk.mono (hk.amt _ hr) (by omega) | with_reducible exact hk.mono (hk.lay2 _ _ _ _ (hk.amt _ hr)) (by omega)
 | 5, _ =>
  show φ (n + 7) (moveQ find R x.tok x.a x.b x.amt).2
  unfold moveQ moveB
  (repeat' split) <;> first | with_reducible exact hk.mono (hr) (by omega) | with_reducible exact hk.mono (hk.funds _ _ _ _ hr) (by omega) | with_reducible exact hk.mono (hk.turn _ _ _ _ _ _ (hk.funds _ _ _ _ hr)) (by omega)
 | 6, _ =>
  show φ (n + 7) (allowQ find R x.tok x.a x.b x.amt).2
  unfold allowQ
  (repeat' split) <;> first | with_reducible exact hk.mono (hth) (by omega) | with_reducible exact hk.mono (hk.lay _ _ hth) (by omega)
 | 7, _ =>
  show φ (n + 7) (pullQ find R x.tok x.a x.b x.c x.amt).2
  unfold pullQ pullA pullB
  have ha := hk.amt (allKey x.tok.toNat x.b x.a) hr
  have hf := hk.funds x.tok.toNat x.b x.c x.amt ha
  (repeat' split) <;> first | with_reducible exact hk.mono (hr) (by omega) | with_reducible exact hk.mono (ha) (by omega) | with_reducible exact hk.mono (hf) (by omega) | with_reducible exact hk.mono (hk.turn _ _ _ _ _ _ hf) (by omega) | with_reducible exact hk.mono (hk.lay _ _ hf) (by omega) | with_reducible exact hk.mono (hk.turn _ _ _ _ _ _ (hk.lay _ _ hf)) (by omega)
 | 8, _ => exact hk.mono (hto) (by omega)
 | 9, _ =>
  show φ (n + 7) (balQ find R x.tok x.a).2
  unfold balQ
  split
  ·exact hk.mono (h) (by omega)
  ·exact hk.mono (hk.amt _ h) (by omega)
 | 10, _ =>
  show φ (n + 7) (allowedQ find R x.tok x.a x.b).2
  unfold allowedQ
  split
  ·exact hk.mono (h) (by omega)
  ·exact hk.mono (hk.amt _ h) (by omega)
end
theorem Lim.step {find : SrcF} (hb : SrcF.bytes find) {R : RSt} {k : Nat} (h : Lim R (k + 7)) (x : StepD) : Lim (stepQ find R x).2 k := by
 have hK : KeepsN find (fun n R => n ≤ 7 → Lim R (k + (7 - n))) := {
  get := fun n R key h hn => ((h (by omega)).mono (j := k + (7 - (n + 1)) + 1) (by omega) |>.get hb key).1
  put := fun n R key bs hbs h hn => ((h (by omega)).mono (j := k + (7 - (n + 1)) + 1) (by omega)).put hb key hbs
  mono := fun h hm hn => (h (by omega)).mono (by omega) }
 by_cases hx : pickN x.what 13 < 11
 ·exact hK.step (n := 0) x hx (fun _ => h) (by decide)
 ·unfold stepQ
  have h13 := pickN_lt x.what (n := 13) (by decide)
  have hx2 : pickN x.what 13 = 11 ∨ pickN x.what 13 = 12 := by omega
  rcases hx2 with e | e <;> rw [e]
  ·exact ⟨(h.mono (j := k) (by omega)).told, (h.mono (j := k) (by omega)).steps, h.tb, h.sb⟩
  ·show Lim (backQ R x.tok).2 k
   unfold backQ
   split
   ·exact h.mono (by omega)
   ·refine ⟨(h.mono (j := k) (by omega)).told, ?_, h.tb, fun p hp => h.sb p (List.mem_of_mem_take hp)⟩
    have h1 := (h.mono (j := k) (by omega)).steps
    show (R.steps.take _).length + k ≤ _
    rw [List.length_take]
    omega
theorem step_marks {find : SrcF} {R : RSt} {n : Nat} (h : R.marks.length ≤ n) (x : StepD) : (stepQ find R x).2.marks.length ≤ n + 1 := by
 have hK : Keeps find (fun R => R.marks.length ≤ n) := ⟨fun R k h => by show (gtQ find R k).2.marks.length ≤ n; rw [show (gtQ find R k).2.marks = R.marks from getQ_bounds.2.2]; exact h, fun R k bs h => by show (ptQ find R k bs).2.marks.length ≤ n; rw [show (ptQ find R k bs).2.marks = R.marks from putQ_bounds.2.2]; exact h⟩
 by_cases hx : pickN x.what 13 < 11
 ·exact Nat.le_succ_of_le (hK.step x hx h)
 ·unfold stepQ
  have h13 := pickN_lt x.what (n := 13) (by decide)
  have hx2 : pickN x.what 13 = 11 ∨ pickN x.what 13 = 12 := by omega
  rcases hx2 with e | e <;> rw [e]
  ·show (R.marks ++ [R.steps.length]).length ≤ n + 1
   rw [List.length_append]
   show R.marks.length + 1 ≤ n + 1
   omega
  ·show (backQ R x.tok).2.marks.length ≤ n + 1
   unfold backQ
   split
   ·exact Nat.le_succ_of_le h
   ·show (R.marks.take _).length ≤ n + 1
    rw [List.length_take]
    omega
theorem stepQ_len (find : SrcF) (R : RSt) (x : StepD) : (stepQ find R x).1.tok.sup.length = 4 ∧ (stepQ find R x).1.amt.length = 4 := by
 unfold stepQ
 have h13 := pickN_lt x.what (n := 13) (by decide)
 generalize pickN x.what 13 = k at h13
 match k, h13 with
 | 0, _ | 1, _ | 2, _ | 3, _ | 4, _ | 5, _ | 6, _ | 7, _ | 11, _ | 12, _ => exact ⟨rfl, rfl⟩
 | 8, _ => exact ⟨(tokenQ_ok find R x.tok).len, rfl⟩
 | 9, _ => exact ⟨rfl, balQ_len find R x.tok x.a⟩
 | 10, _ => exact ⟨rfl, allowedQ_len find R x.tok x.a x.b⟩
theorem withF_done {key : ByteArray} {new : KB} : ∀ l : List KB, withL Prod.fst key new true l = l.filter fun p => decide (p.1 ≠ key)
 | [] => rfl
 | p :: l => by
  unfold withL
  rw [List.filter_cons, show (true || !slt p.1 key) = true from rfl, withF_done l]
  by_cases h : p.1 = key <;> simp [h]
theorem withL_perm {key : ByteArray} {new : KB} : ∀ l : List KB, (withL Prod.fst key new false l).Perm (new :: l.filter fun p => decide (p.1 ≠ key))
 | [] => List.Perm.refl _
 | p :: l => by
  have hB : ∀ X : List KB, ((if p.1 = key then [] else [p]) ++ X) = if p.1 = key then X else p :: X := fun X => by split <;> rfl
  have hf : (p :: l).filter (fun p => decide (p.1 ≠ key)) = if p.1 = key then l.filter (fun p => decide (p.1 ≠ key)) else p :: l.filter (fun p => decide (p.1 ≠ key)) := by
   rw [List.filter_cons]
   by_cases h : p.1 = key <;> simp [h]
  unfold withL
  rw [hB, hf]
  cases hs : slt p.1 key
  ·show ([new] ++ if p.1 = key then withL Prod.fst key new true l else p :: withL Prod.fst key new true l).Perm _
   rw [withF_done l]
   exact List.Perm.refl _
  ·show ([] ++ if p.1 = key then withL Prod.fst key new false l else p :: withL Prod.fst key new false l).Perm _
   have ih := withL_perm (key := key) (new := new) l
   split
   ·exact ih
   ·exact (ih.cons p).trans (List.Perm.swap _ _ _)
theorem putP_nodup {key : ByteArray} {bs : List Nat} {l : List KB} (h : (l.map (·.1)).Nodup) : ((putP key bs l).map (·.1)).Nodup := by
 refine List.Nodup.sublist (List.Sublist.map _ List.filter_sublist) ?_
 refine ((withL_perm (key := key) (new := (key, bs)) l).map (·.1)).nodup_iff.2 ?_
 rw [List.map_cons, List.nodup_cons]
 refine ⟨fun hm => ?_, List.Nodup.sublist (List.Sublist.map _ List.filter_sublist) h⟩
 obtain ⟨p, hp, e⟩ := List.mem_map.1 hm
 have := (List.mem_filter.1 hp).2
 simp only [decide_eq_true_eq] at this
 exact this e
theorem fitB_nodup : ∀ (l out : List KB), (out.map (·.1)).Nodup → ((fitB out l).map (·.1)).Nodup
 | [], _, h => h
 | p :: l, out, h => by
  unfold fitB
  refine fitB_nodup l _ ?_
  split
  ·exact putP_nodup h
  ·exact h
end Go.Sl
