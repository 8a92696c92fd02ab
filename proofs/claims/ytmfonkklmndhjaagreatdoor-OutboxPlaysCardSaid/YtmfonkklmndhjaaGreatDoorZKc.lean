import Derived.Test.YtmfonkklmndhjaaGreatDoorZLv
import Derived.Test.YtmfonkklmndhjaaGreatDoorZOl
import Derived.Test.YtmfonkklmndhjaaGreatDoorZBk
import Derived.Test.YtmfonkklmndhjaaGreatDoorZSha
namespace Go.Sl
open Go
def m64 : Nat := 18446744073709551616
def m256 : Nat := 115792089237316195423570985008687907853269984665640564039457584007913129639936
structure wOk (ws : List Nat) : Prop where
 len : ws.length = 4
 lt : ∀ x ∈ ws, x < m64
def nat4 (ws : List Nat) : Nat := ws.getD 0 0 + m64 * (ws.getD 1 0 + m64 * (ws.getD 2 0 + m64 * ws.getD 3 0))
def w4 (n : Nat) : List Nat := [n % m64, n / m64 % m64, n / m64 / m64 % m64, n / m64 / m64 / m64 % m64]
theorem w4_ok (n : Nat) : wOk (w4 n) := ⟨rfl, fun x hx => by
 have h : 0 < m64 := by decide
 simp only [w4, List.mem_cons, List.not_mem_nil, or_false] at hx
 rcases hx with rfl | rfl | rfl | rfl <;> exact Nat.mod_lt _ h⟩
theorem wOk.out {ws : List Nat} (h : wOk ws) : ∃ a b c d, ws = [a, b, c, d] ∧ a < m64 ∧ b < m64 ∧ c < m64 ∧ d < m64 := by
 match ws, h.len with
 | [a, b, c, d], _ => exact ⟨a, b, c, d, rfl, h.lt a (by simp), h.lt b (by simp), h.lt c (by simp), h.lt d (by simp)⟩
/-! What the text's loops reckon. -/
theorem getD_lt {ws : List Nat} (h : wOk ws) (j : Nat) : ws.getD j 0 < m64 := by
 rw [List.getD]
 cases hj : ws[j]? with
 | none => decide
 | some x => exact h.lt x (List.mem_of_getElem? hj)
/-! Words out of bytes, and back. -/
theorem or_low (x c : Nat) (hc : c < 256) : 256 * x ||| c = 256 * x + c := by
 have := Nat.two_pow_add_eq_or_of_lt (i := 8) (b := c) (by simpa using hc) x
 simpa using this.symm
theorem wordStep_nat (a c : Nat) (ha : a < 72057594037927936) (hc : c < 256) : wordStep a c = ((a * 256 + c : Nat) : Int) := by
 have e1 : IntKind.u64.wrap ((a : Int) * 2 ^ (min (8 : Int).toNat 64)) = ((256 * a : Nat) : Int) := by
  rw [show (min (8 : Int).toNat 64) = 8 from rfl, show (2 : Int) ^ 8 = 256 from rfl]
  rw [u_wrap (k := .u64) rfl (by omega) (by show (a : Int) * 256 < 2 ^ 64; omega)]
  omega
 have e2 : IntKind.u64.wrap (c : Int) = ((c : Nat) : Int) := u_wrap (k := .u64) rfl (by omega) (by show (c : Int) < 2 ^ 64; omega)
 unfold wordStep
 rw [e1, e2, BitVec.toNat_or, BitVec.ofInt_natCast, BitVec.ofInt_natCast, BitVec.toNat_ofNat, BitVec.toNat_ofNat, Nat.mod_eq_of_lt (by omega), Nat.mod_eq_of_lt (by omega), or_low a c hc]
 rw [u_wrap (k := .u64) rfl (by omega) (by show ((256 * a + c : Nat) : Int) < 2 ^ 64; omega)]
 omega
theorem fold_aux (a x q : Nat) (h : a * 256 < 256 * q) (hx : x < 256) : a * 256 + x < 256 * q := by
 rw [Nat.mul_comm a] at h ⊢
 have h1 : a + 1 ≤ q := Nat.lt_of_mul_lt_mul_left h
 have h2 := Nat.mul_le_mul_left 256 h1
 rw [Nat.mul_add, Nat.mul_one] at h2
 exact Nat.lt_of_lt_of_le (Nat.add_lt_add_left hx _) h2
theorem fold_be (w : Nat) : ∀ (k : Nat) (a : Nat), k ≤ 8 → a * 256 ^ k < m64 → (be w k).foldl wordStep (a : Int) = ((a * 256 ^ k + w % 256 ^ k : Nat) : Int)
 | 0, a, _, _ => by simp [be, Nat.mod_one]
 | k + 1, a, hk, ha => by
  have hp : 0 < 256 ^ k := Nat.pow_pos (by decide)
  have h1 : a < 72057594037927936 := by
   have : a * 256 ≤ a * 256 ^ (k + 1) := Nat.mul_le_mul_left _ (by rw [Nat.pow_succ]; omega)
   simp only [m64] at ha
   omega
  have hlt : w / 256 ^ k % 256 < 256 := Nat.mod_lt _ (by decide)
  rw [be, List.foldl_cons, wordStep_nat a _ h1 hlt]
  have h2 : (a * 256 + w / 256 ^ k % 256) * 256 ^ k < m64 := by
   have e : a * 256 ^ (k + 1) = a * 256 * 256 ^ k := by rw [Nat.pow_succ]; ac_rfl
   rw [e] at ha
   have h3 : m64 = 256 ^ (8 - k) * 256 ^ k := by rw [← Nat.pow_add, Nat.sub_add_cancel (by omega)]; rfl
   rw [h3] at ha ⊢
   have h4 := Nat.lt_of_mul_lt_mul_right ha
   have h5 : ∃ q, 256 ^ (8 - k) = 256 * q := ⟨256 ^ (7 - k), by rw [Nat.mul_comm, ← Nat.pow_succ]; congr 1; omega⟩
   obtain ⟨q, hq⟩ := h5
   rw [hq] at h4 ⊢
   generalize w / 256 ^ k % 256 = x at hlt ⊢
   exact Nat.mul_lt_mul_of_pos_right (fold_aux a x q h4 hlt) hp
  rw [fold_be w k _ (by omega) h2]
  have e : w % 256 ^ (k + 1) = w % 256 ^ k + 256 ^ k * (w / 256 ^ k % 256) := by rw [Nat.pow_succ, Nat.mod_mul]
  have e2 : a * 256 * 256 ^ k = a * 256 ^ (k + 1) := by rw [Nat.pow_succ]; ac_rfl
  rw [e, Nat.add_mul, e2, Nat.mul_comm (w / 256 ^ k % 256)]
  congr 1
  omega
theorem be_word {w : Nat} (h : w < m64) : (be w 8).foldl wordStep 0 = (w : Int) := by
 have := fold_be w 8 0 (Nat.le_refl _) (by decide)
 have e : (256 : Nat) ^ 8 = m64 := by decide
 rw [e, Nat.zero_mul, Nat.zero_add, Nat.mod_eq_of_lt h] at this
 exact this
theorem getD_at (ws : List Int) (i : Nat) (h : i < ws.length) : ws.getD i 0 = ws[i] := by simp [List.getD, h]
theorem wordsF_app (a b : List Nat) : ∀ (i : Nat) (ws : List Int), wordsF (a ++ b) i ws = wordsF b (i + a.length) (wordsF a i ws) := by
 induction a with
 | nil => intro i ws; rfl
 | cons c a ih =>
  intro i ws
  show wordsF (a ++ b) (i + 1) _ = wordsF b _ (wordsF a (i + 1) _)
  rw [ih, List.length_cons, Nat.add_assoc, Nat.add_comm 1]
theorem wordsF_one (q : Nat) : ∀ (bs : List Nat) (i : Nat) (ws : List Int), 3 - q < ws.length → (∀ j, j < bs.length → (i + j) / 8 = q) → wordsF bs i ws = ws.set (3 - q) (bs.foldl wordStep (ws.getD (3 - q) 0))
 | [], i, ws, hq, _ => by
  simp only [wordsF, List.foldl_nil]
  rw [getD_at _ _ hq, List.set_getElem_self]
 | c :: bs, i, ws, hq, h => by
  have h0 : i / 8 = q := by simpa using h 0 (by simp)
  rw [wordsF, wordsF_one q bs (i + 1) _ (by simpa [wordsStep] using hq) (fun j hj => by rw [Nat.add_assoc, Nat.add_comm 1]; exact h (j + 1) (by simpa using hj))]
  simp only [wordsStep, h0, List.foldl_cons]
  rw [List.set_set]
  congr 2
  rw [getD_at _ _ (by simpa using hq), List.getElem_set_self]
theorem wideB_be (a b c d : Nat) : wideB [a, b, c, d] = be d 8 ++ (be c 8 ++ (be b 8 ++ be a 8)) := rfl
theorem wordsF_wide {ws : List Nat} (h : wOk ws) : wordsF (wideB ws) 0 [0, 0, 0, 0] = ws.map (fun x : Nat => (x : Int)) := by
 obtain ⟨a, b, c, d, rfl, ha, hb, hc, hd⟩ := h.out
 rw [wideB_be, wordsF_app, wordsF_app, wordsF_app]
 simp only [be_len]
 rw [wordsF_one 0 (be d 8) 0 _ (by simp) (fun j hj => by rw [be_len] at hj; omega)]
 simp only [Nat.sub_zero, List.getD_cons_zero, List.getD_cons_succ, List.set_cons_succ, List.set_cons_zero, be_word hd]
 rw [wordsF_one 1 (be c 8) _ _ (by simp) (fun j hj => by rw [be_len] at hj; omega)]
 simp only [Nat.reduceSub, List.getD_cons_zero, List.getD_cons_succ, List.set_cons_succ, List.set_cons_zero, be_word hc]
 rw [wordsF_one 2 (be b 8) _ _ (by simp) (fun j hj => by rw [be_len] at hj; omega)]
 simp only [Nat.reduceSub, List.getD_cons_zero, List.getD_cons_succ, List.set_cons_succ, List.set_cons_zero, be_word hb]
 rw [wordsF_one 3 (be a 8) _ _ (by simp) (fun j hj => by rw [be_len] at hj; omega)]
 simp only [Nat.reduceSub, List.getD_cons_zero, List.set_cons_zero, be_word ha, List.map_cons, List.map_nil]
theorem words_wide {ws : List Nat} (h : wOk ws) : wordsN (wideB ws) = ws := by
 unfold wordsN
 rw [wordsF_wide h, List.map_map]
 have : (Int.toNat ∘ fun x : Nat => (x : Int)) = id := by funext x; simp
 rw [this, List.map_id]
end Go.Sl
namespace Go.Sl
open Go
structure TokD where
 there : Bool
 paused : Bool
 sup : List Nat
 deriving DecidableEq
def z4 : List Nat := List.replicate 4 0
def zTok : TokD := ⟨false, false, z4⟩
def TokD.cells (t : TokD) : List Value := .bool t.there :: .bool t.paused :: uvs t.sup
def tokKey (t : Nat) : ByteArray := strB [116, t]
def balKey (t : Nat) (a : List Nat) : ByteArray := strB (98 :: t :: a)
def allKey (t : Nat) (o s : List Nat) : ByteArray := strB (108 :: t :: (o ++ s))
def amtR (bs : List Nat) : List Nat × Int := if bs = [] then (z4, 0) else if bs.length = 32 ∧ wordsN bs ≠ z4 then (wordsN bs, 0) else (z4, 75)
def tokR : List Nat → TokD × Int
 | [] => (zTok, 0)
 | b :: r => if r.length = 32 ∧ (b = 1 ∨ b = 3) then (⟨true, decide (b = 3), wordsN r⟩, 0) else (zTok, 75)
def begE (t : Int) : Int := if t < 0 ∨ 64 ≤ t then 80 else 0
def tokB (d : TokD) : List Nat := (if d.paused then 3 else 1) :: wideB d.sup
def amtB (a : List Nat) : List Nat := if a = z4 then [] else wideB a
def tokenL (V : View) (t : Int) : TokD × Int := if begE t ≠ 0 then (zTok, begE t) else tokR (V (tokKey t.toNat))
/-! What is laid is read again. -/
theorem amtR_B {a : List Nat} (h : wOk a) : amtR (amtB a) = (a, 0) := by
 unfold amtB
 split
 ·rename_i e; subst e; rfl
 ·rename_i e
  unfold amtR
  rw [if_neg (fun h => by have := congrArg List.length h; rw [wide_len] at this; cases this), if_pos ⟨wide_len a, by rw [words_wide h]; exact e⟩, words_wide h]
theorem tokR_B {d : TokD} (h : wOk d.sup) : tokR (tokB d) = (⟨true, d.paused, d.sup⟩, 0) := by
 unfold tokB tokR
 cases hp : d.paused <;> simp [hp, wide_len, words_wide h]
end Go.Sl
namespace Go.Sl
open Go
structure TokN where
 there : Bool
 paused : Bool
 sup : Nat
def adr (a : List Nat) : Prop := a.length = 20 ∧ ∀ b ∈ a, b < 256
structure Md where
 T : Nat → TokN
 B : Nat → List Nat → Nat
 A : Nat → List Nat → List Nat → Nat
def TokN.val (t : TokN) : List Nat := if t.there = true then tokB ⟨true, t.paused, w4 t.sup⟩ else []
structure Led (V : View) (m : Md) : Prop where
 tok : ∀ t, t < 64 → V (tokKey t) = (m.T t).val
 bal : ∀ t a, t < 64 → adr a → V (balKey t a) = amtB (w4 (m.B t a))
 all : ∀ t o s, t < 64 → adr o → adr s → V (allKey t o s) = amtB (w4 (m.A t o s))
 supLt : ∀ t, t < 64 → (m.T t).sup < m256
 balLt : ∀ t a, t < 64 → adr a → m.B t a < m256
 allLt : ∀ t o s, t < 64 → adr o → adr s → m.A t o s < m256
 non : ∀ t, t < 64 → (m.T t).there = false → m.T t = ⟨false, false, 0⟩
section
variable {V : View} {m : Md} (h : Led V m)
include h
theorem Led.amt {t : Nat} (ht : t < 64) {a : List Nat} (ha : adr a) : amtR (V (balKey t a)) = (w4 (m.B t a), 0) := by rw [h.bal t a ht ha, amtR_B (w4_ok _)]
theorem Led.token {t : Nat} (ht : t < 64) : tokenL V (t : Int) = (⟨(m.T t).there, (m.T t).paused, w4 (m.T t).sup⟩, 0) := by
 have e : begE (t : Int) = 0 := by unfold begE; rw [if_neg (by omega)]
 unfold tokenL
 rw [if_neg (by rw [e]; decide), Int.toNat_natCast, h.tok t ht]
 cases hth : (m.T t).there with
 | false =>
  have := h.non t ht hth
  rw [TokN.val, if_neg (by rw [hth]; decide), this]
  rfl
 | true => rw [TokN.val, if_pos hth, tokR_B (w4_ok _)]
end
def zN : TokN := ⟨false, false, 0⟩
section
variable {V : View} {m : Md} (h : Led V m)
include h
end
def m0 : Md := ⟨fun _ => zN, fun _ _ => 0, fun _ _ _ => 0⟩
end Go.Sl
namespace Go.Sl
open Go
structure StepD where
 what : Int
 tok : Int
 a : List Nat
 b : List Nat
 c : List Nat
 amt : List Nat
structure StepD.wf (x : StepD) : Prop where
 w1 : -9223372036854775808 ≤ x.what
 w2 : x.what ≤ 9223372036854775807
 t1 : -9223372036854775808 ≤ x.tok
 t2 : x.tok ≤ 9223372036854775807
 a : adr x.a
 b : adr x.b
 c : adr x.c
 amt : wOk x.amt
def StepD.cells (x : StepD) : List Value := .int .i64 x.what :: .int .i64 x.tok :: (bvs x.a ++ (bvs x.b ++ (bvs x.c ++ uvs x.amt)))
def stepK : List LK := .int .i64 :: .int .i64 :: (List.replicate 20 (.int .u8) ++ (List.replicate 20 (.int .u8) ++ (List.replicate 20 (.int .u8) ++ List.replicate 4 (.int .u64))))
theorem step_of {cs : List Value} (h : wtr stepK cs) : ∃ x : StepD, x.wf ∧ cs = x.cells := by
 unfold stepK at h
 obtain ⟨c1, cs1, rfl, ⟨w, rfl, h2⟩, h8⟩ := wtr_cons h
 obtain ⟨c2, cs2, rfl, ⟨t, rfl, h4⟩, h5⟩ := wtr_cons h8
 obtain ⟨h6, h7⟩ := wtr_append h5
 obtain ⟨h9, h10⟩ := wtr_append h7
 obtain ⟨h11, h12⟩ := wtr_append h10
 obtain ⟨la, a1, a2, a3⟩ := wtr_u8 h6
 obtain ⟨lb, b1, b2, b3⟩ := wtr_u8 h9
 obtain ⟨lc, k1, k2, k3⟩ := wtr_u8 h11
 obtain ⟨m, m1, m2, m3⟩ := wtr_u64 h12
 refine ⟨⟨w, t, la, lb, lc, m⟩, ⟨(i64_of_wf h2).1, (i64_of_wf h2).2, (i64_of_wf h4).1, (i64_of_wf h4).2, ⟨a1, a2⟩, ⟨b1, b2⟩, ⟨k1, k2⟩, ⟨m1, m2⟩⟩, ?_⟩
 rw [StepD.cells, ← a3, ← b3, ← k3, ← m3, List.take_append_drop, List.take_append_drop, List.take_append_drop]
structure ToldD where
 code : Int
 tok : TokD
 amt : List Nat
 mark : Int
def ToldD.cells (x : ToldD) : List Value := .int .i64 x.code :: (x.tok.cells ++ (uvs x.amt ++ [.int .i64 x.mark]))
end Go.Sl
namespace Go.Sl
open Go
def val2 : List Nat → Nat
 | [] => 0
 | b :: bs => b + 2 * val2 bs
theorem val2_app (a b : List Nat) : val2 (a ++ b) = val2 a + 2 ^ a.length * val2 b := by
 induction a with
 | nil => simp [val2]
 | cons x a ih => simp only [List.cons_append, val2, ih, List.length_cons, Nat.pow_succ, Nat.mul_add]; rw [Nat.mul_comm (2 ^ a.length) 2, Nat.mul_assoc]; omega
def isBits (l : List Nat) : Prop := ∀ b ∈ l, b < 2
theorem val2_lt {l : List Nat} (h : isBits l) : val2 l < 2 ^ l.length := by
 induction l with
 | nil => simp [val2]
 | cons b l ih =>
  have h1 := h b (by simp)
  have h2 := ih (fun x hx => h x (by simp [hx]))
  simp only [val2, List.length_cons, Nat.pow_succ]
  omega
theorem parts {a b : List Nat} (ha : isBits a) {i : Nat} (h1 : i < a.length) (h2 : i < b.length) (hd : a.drop (i + 1) = b.drop (i + 1)) (hlt : a[i] < b[i]) : val2 a < val2 b := by
 have ea : a = a.take i ++ (a[i] :: a.drop (i + 1)) := by rw [← List.drop_eq_getElem_cons h1, List.take_append_drop]
 have eb : b = b.take i ++ (b[i] :: b.drop (i + 1)) := by rw [← List.drop_eq_getElem_cons h2, List.take_append_drop]
 have la : (a.take i).length = i := by rw [List.length_take]; omega
 have lb : (b.take i).length = i := by rw [List.length_take]; omega
 have hv : val2 (a.take i) < 2 ^ i := by
  have := val2_lt (l := a.take i) (fun x hx => ha x (List.mem_of_mem_take hx))
  rwa [la] at this
 have v1 : val2 a = val2 (a.take i) + 2 ^ i * (a[i] + 2 * val2 (a.drop (i + 1))) := by
  conv => lhs; rw [ea]
  rw [val2_app, la, val2]
 have v2 : val2 b = val2 (b.take i) + 2 ^ i * (b[i] + 2 * val2 (b.drop (i + 1))) := by
  conv => lhs; rw [eb]
  rw [val2_app, lb, val2]
 rw [v1, v2, hd]
 have h3 : 2 ^ i * (a[i] + 2 * val2 (b.drop (i + 1))) + 2 ^ i * 1 ≤ 2 ^ i * (b[i] + 2 * val2 (b.drop (i + 1))) := by
  rw [← Nat.mul_add]
  exact Nat.mul_le_mul_left _ (by omega)
 omega
theorem DoesG.makeC {P : Program} {F L : List HP} {t e : TypeId} {bs n : Nat} {zv : Value} (E : ElT P t e 1 bs) (hz : zeroVT P e = some zv) (h1 : zv.cells.toList = [zv]) (kl kc : IntKind) (hb : bs * n ≤ 281474976710656) (hm : n ≤ maxLen) {k : Value → List HP → Prop}
 (hk : ∀ b, k (.slice (some ⟨b, 0, none⟩) n n) (cel b e (List.replicate n zv) :: L)) :
 DoesG P F (Instr.makeSlice t (.int kl (n : Int)) (.int kc (n : Int))) L k := ⟨fun w hs => by
 obtain ⟨i, z, hi, hz', hsz, hby, hzs⟩ := E.inf
 have ez : z = zv := by
  have : zeroVT P e = some z := by simp [zeroVT, hi, hz']
  exact Option.some.inj (this.symm.trans hz)
 subst ez
 have hr := run_make (P := P) w t e i z E.und hi hz' kl kc (n : Int) (n : Int) (Int.natCast_nonneg n) (Int.le_refl _) (by rw [hby, ← Int.natCast_mul]; omega) (by simp only [maxLen] at hm; omega)
 refine ⟨_, _, _, hr, Ext.alloc _ _, ?_, hk _⟩
 have hza : z.cells = #[z] := Array.toList_inj.1 h1
 have em : (madeCells z.cells ((n : Int).toNat * i.size)) = ⟨List.replicate n z⟩ := by
  apply Array.toList_inj.1
  rw [hsz, Int.toNat_natCast, Nat.mul_one, hza]
  apply List.ext_getElem
  ·rw [Array.length_toList, size_madeCells]; simp
  ·intro j h2 h3
   simp [madeCells, Nat.mod_one]
 rw [em]
 exact hs.alloc (.cells ⟨List.replicate n z⟩ e)⟩
end Go.Sl
namespace Go.Sl
open Go
theorem be_at (n : Nat) : ∀ (k i : Nat), i < k → (be n k)[i]? = some (n / 256 ^ (k - 1 - i) % 256)
 | 0, i, h => by omega
 | k + 1, 0, _ => by simp [be]
 | k + 1, i + 1, h => by
  simp only [be, List.getElem?_cons_succ]
  rw [be_at n k i (by omega)]
  congr 4
  omega
def tailN (l : List Nat) (i : Nat) : List Nat := List.replicate i 0 ++ l.drop i
theorem tailN_len {l : List Nat} {i : Nat} (h : i ≤ l.length) : (tailN l i).length = l.length := by simp [tailN]; omega
theorem tailN_zero (l : List Nat) : tailN l 0 = l := by simp [tailN]
theorem tailN_all (l : List Nat) : tailN l l.length = List.replicate l.length 0 := by simp [tailN]
theorem tailN_set {l : List Nat} {i : Nat} (h : i < l.length) : (bvs (tailN l (i + 1))).set i (bv l[i]) = bvs (tailN l i) := by
 have e1 : bvs (tailN l (i + 1)) = bvs (List.replicate i 0) ++ (bv 0 :: bvs (l.drop (i + 1))) := by
  rw [tailN, List.replicate_succ', bvs, List.map_append, List.map_append, List.append_assoc]; rfl
 have e2 : bvs (tailN l i) = bvs (List.replicate i 0) ++ (bv l[i] :: bvs (l.drop (i + 1))) := by
  rw [tailN, List.drop_eq_getElem_cons h, bvs, List.map_append]; rfl
 have hl : (bvs (List.replicate i 0)).length = i := by rw [bvs_len, List.length_replicate]
 rw [e1, e2, List.set_append_right _ _ (by omega), hl, Nat.sub_self]
 rfl
theorem wideB_get (ws : List Nat) {i k : Nat} (hi : i < 4) (hk : k < 8) : (wideB ws)[31 - (8 * i + k)]? = some (ws.getD i 0 / 256 ^ k % 256) := by
 unfold wideB
 rw [List.getElem?_map, List.getElem?_range (by omega)]
 simp only [Option.map_some]
 rw [show 3 - (31 - (8 * i + k)) / 8 = i by omega, show 7 - (31 - (8 * i + k)) % 8 = k by omega]
theorem strip_drop {l : List Nat} : ∀ {i : Nat}, (∀ j, j < i → l.getD j 0 = 0) → i ≤ l.length → strip l = strip (l.drop i)
 | 0, _, _ => by simp
 | i + 1, h, hl => by
  have h0 := strip_drop (l := l) (i := i) (fun j hj => h j (by omega)) (by omega)
  have hi := h i (by omega)
  have hlt : i < l.length := by omega
  have hg : l[i] = 0 := by simpa [List.getD, hlt] using hi
  rw [h0, List.drop_eq_getElem_cons hlt, hg]
  simp [strip]
theorem strip_at {l : List Nat} {i : Nat} (h : ∀ j, j < i → l.getD j 0 = 0) (hi : i < l.length) (hn : l[i] ≠ 0) : strip l = l.drop i := by
 rw [strip_drop h (by omega), List.drop_eq_getElem_cons hi]
 exact strip_cons hn
theorem strip_none {l : List Nat} (h : ∀ j, j < l.length → l.getD j 0 = 0) : strip l = [] := by
 rw [strip_drop (i := l.length) h (Nat.le_refl _), List.drop_length]
 rfl
end Go.Sl
namespace Go.Sl
open Go
/-! A leaf's bytes tell the leaf. -/
/-! The path, its last digest first. -/
def shownR (K : List W32) : List (List Nat) → Nat → Nat → List Nat → List Nat × Bool
 | [], n, _, leaf => if n = 1 then (leaf, true) else (List.replicate 32 0, false)
 | d :: r, n, i, leaf => if n = 1 then (leaf, false) else
  if i < half n then (nodeD K (shownR K r (half n) i leaf).1 d, (shownR K r (half n) i leaf).2)
  else (nodeD K d (shownR K r (n - half n) (i - half n) leaf).1, (shownR K r (n - half n) (i - half n) leaf).2)
/-! Two texts that lead to one root. -/
end Go.Sl
namespace Go.Sl
open Go Go.ChangeShapes Go.WideShapes
def K64 : List W32 := [1116352408, 1899447441, 3049323471, 3921009573, 961987163, 1508970993, 2453635748, 2870763221, 3624381080, 310598401, 607225278, 1426881987, 1925078388, 2162078206, 2614888103, 3248222580, 3835390401, 4022224774, 264347078, 604807628, 770255983, 1249150122, 1555081692, 1996064986, 2554220882, 2821834349, 2952996808, 3210313671, 3336571891, 3584528711, 113926993, 338241895, 666307205, 773529912, 1294757372, 1396182291, 1695183700, 1986661051, 2177026350, 2456956037, 2730485921, 2820302411, 3259730800, 3345764771, 3516065817, 3600352804, 4094571909, 275423344, 430227734, 506948616, 659060556, 883997877, 958139571, 1322822218, 1537002063, 1747873779, 1955562222, 2024104815, 2227730452, 2361852424, 2428436474, 2756734187, 3204031479, 3329325298]
theorem K64_len : K64.length = 64 := rfl
def tabK (K : List W32) : List Int := K.map fun w => (w.toNat : Int)
theorem words_was {P : Program} {W : World} {name : String} {K : List W32} {rest : List (String × DataW Unit)} {g : Nat} {t e : TypeId} {n : Nat} (hl : laidMet P ((name, Lib.tabData .u32 (tabK K)) :: rest) W)
 (hg : P.globalNamed name = some g) (hty : (P.globals[g]?).map (·.type) = some t) (ht : P.underlying t = some (.array n e)) (he : P.underlying e = some (.int .u32)) (hce : P.cellsOf e = 1) (hct : P.cellsOf t = n) : CelN [was W.heap] g 0 (wvs K) := by
 have h := tab_was (Lib.tabIs_of_head hg hty ht he hce hct hl) hg
 have e : (tabK K).map (fun z => Value.int .u32 z) = wvs K := by simp [tabK, wvs, wv, Function.comp_def]
 rw [e] at h
 exact h
theorem slice_okWide {P : Program} {w : World} {base : Nat} {t e : TypeId} {v : Value} (ht : P.underlying t = some (.slice e)) (h : Value.okWide P w .any base t v) : v.cells.toList = [v] ∧ ∀ a n c, v = .slice (some a) n c → a.spot = none := by
 unfold Value.okWide at h
 rw [ht] at h
 simp only [Cell.okWide, ht, Cell.ok] at h
 cases v
 case slice a n c =>
  refine ⟨rfl, fun b m d k => ?_⟩
  simp only [Value.slice.injEq] at k
  obtain ⟨rfl, rfl, rfl⟩ := k
  have h1 : World.has P w .any base b e _ := h.2.2
  exact (show _ ∧ _ ∧ _ from h1).2.1
 all_goals exact h.elim
end Go.Sl
