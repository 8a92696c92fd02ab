import Derived.Test.YtjacolfhlfogkabGreatDoorZLq
import Derived.Test.YtjacolfhlfogkabGreatDoorZBs
import Derived.Test.YtjacolfhlfogkabGreatDoorZMk
import Derived.Test.YtjacolfhlfogkabGreatDoorZMb
namespace Go.Sl
open Go
def leN : List Nat → Nat
 | [] => 0
 | c :: l => c + 256 * leN l
theorem leN_snoc (c : Nat) : ∀ l : List Nat, leN (l ++ [c]) = leN l + 256 ^ l.length * c
 | [] => by simp [leN]
 | a :: l => by
  rw [List.cons_append, leN, leN_snoc c l, leN, List.length_cons, Nat.pow_succ, Nat.mul_add, Nat.add_assoc, Nat.mul_comm (256 ^ l.length) 256, Nat.mul_assoc]
theorem leN_lt : ∀ {l : List Nat}, (∀ b ∈ l, b < 256) → leN l < 256 ^ l.length
 | [], _ => by simp [leN]
 | a :: l, h => by
  have h1 := leN_lt (l := l) fun b hb => h b (List.mem_cons_of_mem _ hb)
  have h2 := h a List.mem_cons_self
  rw [leN, List.length_cons, Nat.pow_succ]
  omega
theorem leN_digit : ∀ {l : List Nat}, (∀ b ∈ l, b < 256) → ∀ j, leN l / 256 ^ j % 256 = l.getD j 0
 | [], _, j => by simp [leN]
 | a :: l, h, 0 => by
  have h2 := h a List.mem_cons_self
  simp only [leN, Nat.pow_zero, Nat.div_one, List.getD_cons_zero]
  omega
 | a :: l, h, j + 1 => by
  have h2 := h a List.mem_cons_self
  rw [leN, Nat.pow_succ, Nat.mul_comm (256 ^ j) 256, ← Nat.div_div_eq_div_mul, List.getD_cons_succ, ← leN_digit (fun b hb => h b (List.mem_cons_of_mem _ hb)) j]
  congr 2
  omega
theorem w4_byte {N i c : Nat} (hN : N < 256 ^ i) (hi : i < 32) (hc : c < 256) :
 (w4 N).getD (i / 8) 0 < 256 ^ (i % 8) ∧ w4 (N + 256 ^ i * c) = (w4 N).set (i / 8) ((w4 N).getD (i / 8) 0 + c * 256 ^ (i % 8)) := by
 have hA : 256 ^ (i % 8) ≤ 256 ^ 7 := Nat.pow_le_pow_right (by decide) (by omega)
 have hq : i / 8 < 4 := by omega
 have hpow : 256 ^ i = 256 ^ (8 * (i / 8)) * 256 ^ (i % 8) := by rw [← Nat.pow_add, Nat.div_add_mod]
 have hX : c * 256 ^ (i % 8) ≤ 255 * 256 ^ (i % 8) := Nat.mul_le_mul_right _ (by omega)
 rw [hpow] at hN ⊢
 rw [Nat.mul_assoc, Nat.mul_comm _ c]
 generalize c * 256 ^ (i % 8) = X at *
 generalize 256 ^ (i % 8) = A at *
 generalize i / 8 = q at *
 have h4 : ∀ {a b c d a' b' c' d' : Nat}, a = a' → b = b' → c = c' → d = d' → [a, b, c, d] = [a', b', c', d'] := by
  rintro a b c d _ _ _ _ rfl rfl rfl rfl; rfl
 clear hpow hc hi
 have hq2 : q = 0 ∨ q = 1 ∨ q = 2 ∨ q = 3 := by omega
 rcases hq2 with rfl | rfl | rfl | rfl <;> simp only [w4, m64, List.getD_cons_zero, List.getD_cons_succ, List.set_cons_zero, List.set_cons_succ, Nat.mul_zero, Nat.pow_zero, Nat.one_mul, Nat.mul_one, Nat.reduceMul, Nat.reducePow] at hN hA ⊢ <;> refine ⟨by omega, ?_⟩ <;> (refine h4 ?_ ?_ ?_ ?_ <;> omega)
theorem words_le {bs : List Nat} (hl : bs.length = 32) (hb : ∀ b ∈ bs, b < 256) : wordsN bs = w4 (leN bs.reverse) := by
 have hb' : ∀ b ∈ bs.reverse, b < 256 := fun b h => hb b (List.mem_reverse.1 h)
 have e : bs = wideB (w4 (leN bs.reverse)) := by
  refine List.ext_getElem? fun i => ?_
  rcases Nat.lt_or_ge i 32 with hi | hi
  ·have h1 := wideB_get (w4 (leN bs.reverse)) (i := 3 - i / 8) (k := 7 - i % 8) (by omega) (by omega)
   rw [show 31 - (8 * (3 - i / 8) + (7 - i % 8)) = i by omega] at h1
   rw [h1]
   have h2 := leN_digit hb' (31 - i)
   have h3 : bs.reverse.getD (31 - i) 0 = bs[i]'(by omega) := by
    have hlt : 31 - i < bs.reverse.length := by rw [List.length_reverse]; omega
    rw [List.getD_eq_getElem?_getD, List.getElem?_eq_getElem hlt, Option.getD_some, List.getElem_reverse]
    congr 1
    omega
   rw [h3] at h2
   rw [List.getElem?_eq_getElem (by omega), ← h2]
   congr 1
   have h5 : (w4 (leN bs.reverse)).getD (3 - i / 8) 0 = leN bs.reverse / 256 ^ (8 * (3 - i / 8)) % m64 := by
    generalize leN bs.reverse = N
    have hq : 3 - i / 8 = 0 ∨ 3 - i / 8 = 1 ∨ 3 - i / 8 = 2 ∨ 3 - i / 8 = 3 := by omega
    rcases hq with h | h | h | h <;> rw [h] <;> simp only [w4, m64, List.getD_cons_zero, List.getD_cons_succ, Nat.reduceMul, Nat.reducePow] <;> omega
   rw [h5]
   have h6 : 31 - i = 8 * (3 - i / 8) + (7 - i % 8) := by omega
   rw [h6, Nat.pow_add, ← Nat.div_div_eq_div_mul]
   generalize leN bs.reverse / 256 ^ (8 * (3 - i / 8)) = M
   have h7 : m64 = 256 ^ (7 - i % 8) * (256 * 256 ^ (i % 8)) := by
    rw [← Nat.pow_succ', ← Nat.pow_add, show 7 - i % 8 + (i % 8 + 1) = 8 by omega]
    rfl
   rw [h7, Nat.mod_mul_right_div_self, Nat.mod_mul_right_mod]
  ·rw [List.getElem?_eq_none (by omega), List.getElem?_eq_none (by rw [wide_len]; omega)]
 have h := words_wide (w4_ok (leN bs.reverse))
 rw [← e] at h
 exact h
structure Lim (R : RSt) (k : Nat) : Prop where
 told : R.told.length + k ≤ 3500000000000
 steps : R.steps.length + k ≤ 4000000000000
 tb : ∀ p ∈ R.told, ∀ b ∈ p.2, b < 256
 sb : ∀ p ∈ R.steps, ∀ b ∈ p.2, b < 256
def SrcF.bytes (find : SrcF) : Prop := ∀ k, ∀ b ∈ (find k).1, b < 256
theorem Lim.mono {R : RSt} {k j : Nat} (h : Lim R k) (hj : j ≤ k) : Lim R j := ⟨by have := h.told; omega, by have := h.steps; omega, h.tb, h.sb⟩
theorem Lim.ask {R : RSt} {k : Nat} {f : List Nat × Int} {key : ByteArray} (h : Lim R (k + 1)) (hf : ∀ b ∈ f.1, b < 256) : Lim (askQ f R key) k ∧ (askQ f R key).steps = R.steps := by
 have h1 := getQ_told (R := R) (f := f) (key := key)
 have h2 := (askQ_steps (R := R) (f := f) (key := key)).1
 refine ⟨⟨by have := h.told; omega, by rw [h2]; have := h.steps; omega, ?_, by rw [h2]; exact h.sb⟩, h2⟩
 unfold askQ
 split
 ·exact h.tb
 ·split
  ·intro p hp b hb
   rcases insL_mem hp with e | e
   ·rw [e] at hb; exact hf b hb
   ·exact h.tb p e b hb
  ·exact h.tb
theorem Lim.val {R : RSt} {k : Nat} (h : Lim R k) (key : ByteArray) : ∀ b ∈ R.val key, b < 256 := by
 unfold RSt.val
 cases hs : lastS R.steps key with
 | some v => exact h.sb _ (List.mem_reverse.1 (atL_mem hs))
 | none =>
  cases ht : atL R.told key with
  | some v => exact h.tb _ (atL_mem ht)
  | none => exact fun b hb => absurd hb List.not_mem_nil
theorem Lim.get {find : SrcF} (hb : SrcF.bytes find) {R : RSt} {k : Nat} (h : Lim R (k + 1)) (key : ByteArray) : Lim (gtQ find R key).2 k ∧ ∀ b ∈ (gtQ find R key).1.1, b < 256 := by
 unfold gtQ getQ
 split
 ·exact ⟨h.mono (Nat.le_succ _), fun b hb => absurd hb List.not_mem_nil⟩
 ·have h1 := (h.ask (f := find key) (key := key) (hb key)).1
  refine ⟨h1, ?_⟩
  show ∀ b ∈ (if askI (find key) R key = 0 then _ else _ : List Nat), b < 256
  split
  ·exact h1.val key
  ·exact fun b hb => absurd hb List.not_mem_nil
theorem Lim.put {find : SrcF} (hb : SrcF.bytes find) {R : RSt} {k : Nat} (h : Lim R (k + 1)) (key : ByteArray) {bs : List Nat} (hbs : ∀ b ∈ bs, b < 256) : Lim (ptQ find R key bs).2 k := by
 unfold ptQ putQ
 split
 ·exact h.mono (Nat.le_succ _)
 ·obtain ⟨h1, h2⟩ := h.ask (f := find key) (key := key) (hb key)
  show Lim (if askI (find key) R key = 0 then _ else _) k
  split
  ·refine ⟨h1.told, ?_, h1.tb, ?_⟩
   ·show ((askQ (find key) R key).steps ++ [(key, bs)]).length + k ≤ _
    rw [List.length_append, h2]
    have := h.steps
    show R.steps.length + 1 + k ≤ _
    omega
   ·intro p hp b hb
    rcases List.mem_append.1 hp with e | e
    ·exact h1.sb p e b hb
    ·rw [List.mem_singleton.1 e] at hb; exact hbs b hb
  ·exact h1
theorem Lim.amt {find : SrcF} (hb : SrcF.bytes find) {R : RSt} {k : Nat} (h : Lim R (k + 1)) (key : ByteArray) : Lim (amtQ find R key).2 k := (h.get hb key).1
theorem Lim.token {find : SrcF} (hb : SrcF.bytes find) {R : RSt} {k : Nat} (h : Lim R (k + 1)) (t : Int) : Lim (tokenQ find R t).2 k := by
 unfold tokenQ
 split
 ·exact h.mono (Nat.le_succ _)
 ·exact (h.get hb _).1
theorem Lim.there {find : SrcF} (hb : SrcF.bytes find) {R : RSt} {k : Nat} (h : Lim R (k + 1)) (t : Int) : Lim (thereQ find R t).2 k := h.token hb t
theorem Lim.run {find : SrcF} (hb : SrcF.bytes find) {R : RSt} {k : Nat} (h : Lim R (k + 1)) (t : Int) : Lim (runQ find R t).2 k := h.token hb t
theorem amtB_bytes (a : List Nat) : ∀ b ∈ amtB a, b < 256 := by
 unfold amtB
 split
 ·exact fun b hb => absurd hb List.not_mem_nil
 ·exact wideB_lt a
theorem tokB_bytes (d : TokD) : ∀ b ∈ tokB d, b < 256 := fun b hb => by
 rcases List.mem_cons.1 hb with e | e
 ·rw [e]; split <;> decide
 ·exact wideB_lt _ b e
theorem Lim.lay {find : SrcF} (hb : SrcF.bytes find) {R : RSt} {k : Nat} (h : Lim R (k + 1)) (key : ByteArray) (a : List Nat) : Lim (layQ find R key a).2 k := h.put hb key (amtB_bytes a)
theorem Lim.layTok {find : SrcF} (hb : SrcF.bytes find) {R : RSt} {k : Nat} (h : Lim R (k + 1)) (t : Nat) (d : TokD) : Lim (layTokQ find R t d).2 k := h.put hb _ (tokB_bytes d)
theorem tokR_there (bs : List Nat) : (tokR bs).1.there = false ↔ (tokR bs).1 = zTok := by
 unfold tokR
 split
 ·exact ⟨fun _ => rfl, fun _ => rfl⟩
 ·split
  ·exact ⟨fun h => (by cases h), fun h => (by cases h)⟩
  ·exact ⟨fun _ => rfl, fun _ => rfl⟩
theorem tokenQ_there (find : SrcF) (R : RSt) (t : Int) : (tokenQ find R t).1.1.there = false ↔ (tokenQ find R t).1.1 = zTok := by
 unfold tokenQ
 split
 ·exact ⟨fun _ => rfl, fun _ => rfl⟩
 ·unfold tokOf
  show (if _ then _ else _ : TokD × Int).1.there = false ↔ (if _ then _ else _ : TokD × Int).1 = zTok
  split
  ·exact ⟨fun _ => rfl, fun _ => rfl⟩
  ·exact tokR_there _
theorem runQ_run {find : SrcF} {R : RSt} {t : Int} (h : (runQ find R t).1.2 = 0) : (runQ find R t).1.1.paused = false := by
 unfold runQ runOf at h ⊢
 by_cases hc : (thereQ find R t).1.2 = 0 ∧ (thereQ find R t).1.1.paused = true
 ·simp only [hc] at h
  simp at h
 ·simp only [if_neg hc] at h ⊢
  cases hp : (thereQ find R t).1.1.paused with
  | false => rfl
  | true => exact absurd ⟨h, hp⟩ hc
structure Keeps (find : SrcF) (φ : RSt → Prop) : Prop where
 get : ∀ R k, φ R → φ (gtQ find R k).2
 put : ∀ R k bs, φ R → φ (ptQ find R k bs).2
section
variable {find : SrcF} {φ : RSt → Prop} {R : RSt} (hk : Keeps find φ)
include hk
theorem Keeps.token (t : Int) (h : φ R) : φ (tokenQ find R t).2 := by
 unfold tokenQ
 split
 ·exact h
 ·exact hk.get _ _ h
theorem Keeps.amt (k : ByteArray) (h : φ R) : φ (amtQ find R k).2 := hk.get _ _ h
theorem Keeps.lay (k : ByteArray) (a : List Nat) (h : φ R) : φ (layQ find R k a).2 := hk.put _ _ _ h
theorem Keeps.layTok (t : Nat) (d : TokD) (h : φ R) : φ (layTokQ find R t d).2 := hk.put _ _ _ h
theorem Keeps.there (t : Int) (h : φ R) : φ (thereQ find R t).2 := hk.token t h
theorem Keeps.run (t : Int) (h : φ R) : φ (runQ find R t).2 := hk.token t h
theorem Keeps.lay2 (t : Nat) (d : TokD) (k : ByteArray) (a : List Nat) (h : φ R) : φ (lay2Q find R t d k a).2 := by
 unfold lay2Q
 split
 ·exact hk.layTok _ _ h
 ·exact hk.lay _ _ (hk.layTok _ _ h)
end
structure KeepsN (find : SrcF) (φ : Nat → RSt → Prop) : Prop where
 get : ∀ n R k, φ n R → φ (n + 1) (gtQ find R k).2
 put : ∀ n R k bs, (∀ b ∈ bs, b < 256) → φ n R → φ (n + 1) (ptQ find R k bs).2
 mono : ∀ {n m R}, φ n R → n ≤ m → φ m R
section
variable {find : SrcF} {φ : Nat → RSt → Prop} {R : RSt} {n : Nat} (hk : KeepsN find φ)
include hk
theorem KeepsN.token (t : Int) (h : φ n R) : φ (n + 1) (tokenQ find R t).2 := by
 unfold tokenQ
 split
 ·exact hk.mono (h) (by omega)
 ·exact hk.mono (hk.get _ _ _ h) (by omega)
theorem KeepsN.amt (k : ByteArray) (h : φ n R) : φ (n + 1) (amtQ find R k).2 := hk.get _ _ _ h
theorem KeepsN.there (t : Int) (h : φ n R) : φ (n + 1) (thereQ find R t).2 := hk.token t h
end
end Go.Sl
namespace Go.Sl
open Go
def tot (m : Md) (t : Nat) (W : List (List Nat)) : Nat := (W.map (m.B t)).sum
structure InvM (W : List (List Nat)) (m : Md) : Prop where
 sum : ∀ t, t < 64 → tot m t W = (m.T t).sup
 lt : ∀ t, t < 64 → (m.T t).sup < m256
 non : ∀ t, t < 64 → (m.T t).there = false → m.T t = ⟨false, false, 0⟩
section
variable {W : List (List Nat)} {m : Md}
end
/-! Over views -/
def OkF (W : List (List Nat)) (f : ByteArray → List Nat) : Prop := ∃ m, Led ⟨f, []⟩ m ∧ InvM W m
structure OkV (W : List (List Nat)) (V : View) : Prop where
 now : OkF W V.now
 hist : ∀ f ∈ V.hist, OkF W f
section
variable {W : List (List Nat)} {V : View}
theorem OkV.of (h : OkV W V) {U : View} (h1 : OkF W U.now) (h2 : U.hist = V.hist) : OkV W U := ⟨h1, by rw [h2]; exact h.hist⟩
end
end Go.Sl
namespace Go.Sl
open Go
/-! Numbers by eight bytes, there and back -/
theorem numStep_nat (a c : Nat) (ha : a < 18014398509481984) (hc : c < 256) : numStep (a : Int) c = ((256 * a + c : Nat) : Int) := by
 have e1 : (a : Int) * 2 ^ (min (8 : Int).toNat 64) = ((256 * a : Nat) : Int) := by
  show (a : Int) * 2 ^ 8 = _
  omega
 have e2 : IntKind.i64.wrap ((256 * a : Nat) : Int) = ((256 * a : Nat) : Int) := i64_wrap (by omega) (by omega)
 have e3 : IntKind.i64.wrap (c : Int) = (c : Int) := i64_wrap (by omega) (by omega)
 unfold numStep
 rw [e1, e2, e3, BitVec.toNat_or, BitVec.ofInt_natCast, BitVec.ofInt_natCast, BitVec.toNat_ofNat, BitVec.toNat_ofNat, Nat.mod_eq_of_lt (by omega), Nat.mod_eq_of_lt (by omega), or_low a c hc]
 exact i64_wrap (by omega) (by omega)
theorem numF_one {n : Nat} (h : n < 256) : numF [n] = (n : Int) := by
 show numStep ((0 : Nat) : Int) n = _
 rw [numStep_nat 0 n (by decide) h]
 simp
theorem tick_ext' : ∀ {a b : TicketD}, a.num = b.num → a.ent = b.ent → a.snd = b.snd → a.tok = b.tok → a.to = b.to → a.amt = b.amt → a = b
 | ⟨_, _, _, _, _, _⟩, ⟨_, _, _, _, _, _⟩, rfl, rfl, rfl, rfl, rfl, rfl => rfl
/-! Keys of tickets are no keys of the ledger -/
theorem strB_app (a b : List Nat) : strB a ++ strB b = strB (a ++ b) := by
 apply ByteArray.ext
 simp [strB, ByteArray.data_append]
section
variable {V : View} {k : ByteArray}
end
/-! Supplies -/
section
variable {m : Md} {W : List (List Nat)}
end
/-! Open tickets -/
section
variable {W : List (List Nat)} {V : View} {m : Md} {op : List TicketD} {cl : List Bool} {all : Nat → Nat}
end
end Go.Sl
