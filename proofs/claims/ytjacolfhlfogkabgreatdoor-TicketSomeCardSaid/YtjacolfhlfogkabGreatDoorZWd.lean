import Derived.Test.YtjacolfhlfogkabGreatDoorZOl
import Derived.Test.YtjacolfhlfogkabGreatDoorZCp
import Derived.Test.YtjacolfhlfogkabGreatDoorZAr
import Derived.Test.YtjacolfhlfogkabGreatDoorZLv
namespace Go.Sl
open Go
section
variable {P : Program} {F L M : List HP} {sz n l cap : Nat} {a : Option Addr} {cs : List Value} {v : Value}
end
structure BookOk (ls : List LeafD) (x : Value × Value × List (Value × List Nat)) : Prop where
 ts : x.2.2.map (·.2) = ls.map LeafD.bytes
 wf : ∀ l ∈ ls, l.wf
 lv : SlV x.1 ls.length
 tv : SlV x.2.1 x.2.2.length
 each : ∀ t ∈ x.2.2, SlV t.1 t.2.length
theorem BookOk.len {ls : List LeafD} {x : Value × Value × List (Value × List Nat)} (h : BookOk ls x) : x.2.2.length = ls.length := by
 have := congrArg List.length h.ts
 simpa using this
def pickN (c : Int) (n : Nat) : Nat := (if c < 0 then -(c + 1) else c).toNat % n
theorem pickN_lt (c : Int) {n : Nat} (h : 0 < n) : pickN c n < n := Nat.mod_lt _ h
theorem pickN_tmod {c : Int} {n : Nat} : (if c < 0 then -(c + 1) else c).tmod (n : Int) = ((pickN c n : Nat) : Int) := by
 have h : (0 : Int) ≤ if c < 0 then -(c + 1) else c := by split <;> omega
 unfold pickN
 generalize (if c < 0 then -(c + 1) else c) = x at h
 obtain ⟨m, rfl⟩ := Int.eq_ofNat_of_zero_le h
 rw [Int.toNat_natCast]
 rfl
structure RawD where
 ent : Int
 tok : Int
 to : List Nat
 amt : List Nat
structure RawD.wf (r : RawD) : Prop where
 e1 : -9223372036854775808 ≤ r.ent
 e2 : r.ent ≤ 9223372036854775807
 t1 : -9223372036854775808 ≤ r.tok
 t2 : r.tok ≤ 9223372036854775807
 to : r.to.length = 20
 toB : ∀ b ∈ r.to, b < 256
 amt : r.amt.length = 4
 amtB : ∀ b ∈ r.amt, b < 18446744073709551616
def RawD.cells (r : RawD) : List Value := .int .i64 r.ent :: .int .i64 r.tok :: (bvs r.to ++ uvs r.amt)
theorem i64_of_wf {n : Int} (h : (Lit.int .i64 n).wf = true) : -9223372036854775808 ≤ n ∧ n ≤ 9223372036854775807 := by
 simp only [Lit.wf, Bool.and_eq_true, decide_eq_true_eq] at h
 have e1 : IntKind.i64.min = -9223372036854775808 := by decide
 have e2 : IntKind.i64.max = 9223372036854775807 := by decide
 rw [e1, e2] at h
 exact h
theorem wtr_cons {k : LK} {ks : List LK} {cs : List Value} (h : wtr (k :: ks) cs) : ∃ v vs, cs = v :: vs ∧ wtrV k v ∧ wtr ks vs := by
 cases cs with
 | nil => exact h.elim
 | cons v vs => exact ⟨v, vs, rfl, h.1, h.2⟩
theorem be_lt (n : Nat) : ∀ (k : Nat), ∀ b ∈ be n k, b < 256
 | 0, b, h => by simp [be] at h
 | k + 1, b, h => by
  rcases List.mem_cons.1 h with rfl | h
  ·exact Nat.mod_lt _ (by decide)
  ·exact be_lt n k b h
theorem wideB_lt (ws : List Nat) : ∀ b ∈ wideB ws, b < 256 := by
 intro b hb
 obtain ⟨i, _, rfl⟩ := List.mem_map.1 hb
 exact Nat.mod_lt _ (by decide)
end Go.Sl
namespace Go.Sl
open Go
def m64 : Nat := 18446744073709551616
def m256 : Nat := 115792089237316195423570985008687907853269984665640564039457584007913129639936
structure wOk (ws : List Nat) : Prop where
 len : ws.length = 4
 lt : ∀ x ∈ ws, x < m64
def nat4 (ws : List Nat) : Nat := ws.getD 0 0 + m64 * (ws.getD 1 0 + m64 * (ws.getD 2 0 + m64 * ws.getD 3 0))
def w4 (n : Nat) : List Nat := [n % m64, n / m64 % m64, n / m64 / m64 % m64, n / m64 / m64 / m64 % m64]
theorem w4_len (n : Nat) : (w4 n).length = 4 := rfl
theorem w4_ok (n : Nat) : wOk (w4 n) := ⟨rfl, fun x hx => by
 have h : 0 < m64 := by decide
 simp only [w4, List.mem_cons, List.not_mem_nil, or_false] at hx
 rcases hx with rfl | rfl | rfl | rfl <;> exact Nat.mod_lt _ h⟩
theorem wOk.out {ws : List Nat} (h : wOk ws) : ∃ a b c d, ws = [a, b, c, d] ∧ a < m64 ∧ b < m64 ∧ c < m64 ∧ d < m64 := by
 match ws, h.len with
 | [a, b, c, d], _ => exact ⟨a, b, c, d, rfl, h.lt a (by simp), h.lt b (by simp), h.lt c (by simp), h.lt d (by simp)⟩
theorem w4_zero : w4 0 = List.replicate 4 0 := by decide
theorem zero4_ok : wOk (List.replicate 4 0) := ⟨rfl, fun x hx => by rw [(List.mem_replicate.1 hx).2]; decide⟩
/-! What the text's loops reckon. -/
def sumC (a b : List Nat) : Nat → Nat
 | 0 => 0
 | j + 1 => (a.getD j 0 + b.getD j 0 + sumC a b j) / m64
def sumO (a b : List Nat) (j : Nat) : Nat := (a.getD j 0 + b.getD j 0 + sumC a b j) % m64
def outA (f : Nat → Nat) (i : Nat) : List Nat := (List.range 4).map fun j => if j < i then f j else 0
theorem outA_len (f : Nat → Nat) (i : Nat) : (outA f i).length = 4 := by simp [outA]
theorem outA_four (f : Nat → Nat) : outA f 4 = [f 0, f 1, f 2, f 3] := rfl
theorem outA_set (f : Nat → Nat) {i : Nat} (h : i < 4) : (outA f i).set i (f i) = outA f (i + 1) := by
 match i, h with
 | 0, _ => rfl
 | 1, _ => rfl
 | 2, _ => rfl
 | 3, _ => rfl
theorem getD_lt {ws : List Nat} (h : wOk ws) (j : Nat) : ws.getD j 0 < m64 := by
 rw [List.getD]
 cases hj : ws[j]? with
 | none => decide
 | some x => exact h.lt x (List.mem_of_getElem? hj)
theorem sumC_le {a b : List Nat} (ha : wOk a) (hb : wOk b) : ∀ j, sumC a b j ≤ 1
 | 0 => by simp [sumC]
 | j + 1 => by
  have h1 := getD_lt ha j
  have h2 := getD_lt hb j
  have h3 := sumC_le ha hb j
  simp only [sumC, m64] at *
  omega
theorem sum_carry {a b : List Nat} (ha : wOk a) (hb : wOk b) : 0 < sumC a b 4 ↔ m256 ≤ nat4 a + nat4 b := by
 obtain ⟨a0, a1, a2, a3, rfl, h0, h1, h2, h3⟩ := ha.out
 obtain ⟨b0, b1, b2, b3, rfl, k0, k1, k2, k3⟩ := hb.out
 simp only [nat4, sumC, List.getD_cons_zero, List.getD_cons_succ, m64, m256, Nat.add_zero] at *
 omega
theorem sum_out {a b : List Nat} (ha : wOk a) (hb : wOk b) (h : nat4 a + nat4 b < m256) : outA (sumO a b) 4 = w4 (nat4 a + nat4 b) := by
 obtain ⟨a0, a1, a2, a3, rfl, h0, h1, h2, h3⟩ := ha.out
 obtain ⟨b0, b1, b2, b3, rfl, k0, k1, k2, k3⟩ := hb.out
 rw [outA_four]
 simp only [nat4, w4, sumO, sumC, List.getD_cons_zero, List.getD_cons_succ, m64, m256, Nat.add_zero, List.cons.injEq, and_true] at *
 refine ⟨?_, ?_, ?_, ?_⟩ <;> omega
/-! Words out of bytes, and back. -/
theorem or_low (x c : Nat) (hc : c < 256) : 256 * x ||| c = 256 * x + c := by
 have := Nat.two_pow_add_eq_or_of_lt (i := 8) (b := c) (by simpa using hc) x
 simpa using this.symm
theorem wordStep_nat (a c : Nat) (ha : a < 72057594037927936) (hc : c < 256) : wordStep a c = ((a * 256 + c : Nat) : Int) := by
 have e1 : IntKind.u64.wrap ((a : Int) * 2 ^ (min (8 : Int).toNat 64)) = ((256 * a : Nat) : Int) := by
  rw [show (min (8 : Int).toNat 64) = 8 from rfl, show (2 : Int) ^ 8 = 256 from rfl]
  rw [u_wrap (k := .u64) rfl (by omega) (by show (a : Int) * 256 < 2 ^ 64; omega)]
  omega
 have e2 : IntKind.u64.wrap (c : Int) = ((c : Nat) : Int) := u_wrap (k := .u64) rfl (by omega) (by show (c : Int) < 2 ^ 64; omega)
 unfold wordStep
 rw [e1, e2, BitVec.toNat_or, BitVec.ofInt_natCast, BitVec.ofInt_natCast, BitVec.toNat_ofNat, BitVec.toNat_ofNat, Nat.mod_eq_of_lt (by omega), Nat.mod_eq_of_lt (by omega), or_low a c hc]
 rw [u_wrap (k := .u64) rfl (by omega) (by show ((256 * a + c : Nat) : Int) < 2 ^ 64; omega)]
 omega
theorem fold_aux (a x q : Nat) (h : a * 256 < 256 * q) (hx : x < 256) : a * 256 + x < 256 * q := by
 rw [Nat.mul_comm a] at h ⊢
 have h1 : a + 1 ≤ q := Nat.lt_of_mul_lt_mul_left h
 have h2 := Nat.mul_le_mul_left 256 h1
 rw [Nat.mul_add, Nat.mul_one] at h2
 exact Nat.lt_of_lt_of_le (Nat.add_lt_add_left hx _) h2
theorem fold_be (w : Nat) : ∀ (k : Nat) (a : Nat), k ≤ 8 → a * 256 ^ k < m64 → (be w k).foldl wordStep (a : Int) = ((a * 256 ^ k + w % 256 ^ k : Nat) : Int)
 | 0, a, _, _ => by simp [be, Nat.mod_one]
 | k + 1, a, hk, ha => by
  have hp : 0 < 256 ^ k := Nat.pow_pos (by decide)
  have h1 : a < 72057594037927936 := by
   have : a * 256 ≤ a * 256 ^ (k + 1) := Nat.mul_le_mul_left _ (by rw [Nat.pow_succ]; omega)
   simp only [m64] at ha
   omega
  have hlt : w / 256 ^ k % 256 < 256 := Nat.mod_lt _ (by decide)
  rw [be, List.foldl_cons, wordStep_nat a _ h1 hlt]
  have h2 : (a * 256 + w / 256 ^ k % 256) * 256 ^ k < m64 := by
   have e : a * 256 ^ (k + 1) = a * 256 * 256 ^ k := by rw [Nat.pow_succ]; ac_rfl
   rw [e] at ha
   have h3 : m64 = 256 ^ (8 - k) * 256 ^ k := by rw [← Nat.pow_add, Nat.sub_add_cancel (by omega)]; rfl
   rw [h3] at ha ⊢
   have h4 := Nat.lt_of_mul_lt_mul_right ha
   have h5 : ∃ q, 256 ^ (8 - k) = 256 * q := ⟨256 ^ (7 - k), by rw [Nat.mul_comm, ← Nat.pow_succ]; congr 1; omega⟩
   obtain ⟨q, hq⟩ := h5
   rw [hq] at h4 ⊢
   generalize w / 256 ^ k % 256 = x at hlt ⊢
   exact Nat.mul_lt_mul_of_pos_right (fold_aux a x q h4 hlt) hp
  rw [fold_be w k _ (by omega) h2]
  have e : w % 256 ^ (k + 1) = w % 256 ^ k + 256 ^ k * (w / 256 ^ k % 256) := by rw [Nat.pow_succ, Nat.mod_mul]
  have e2 : a * 256 * 256 ^ k = a * 256 ^ (k + 1) := by rw [Nat.pow_succ]; ac_rfl
  rw [e, Nat.add_mul, e2, Nat.mul_comm (w / 256 ^ k % 256)]
  congr 1
  omega
theorem be_word {w : Nat} (h : w < m64) : (be w 8).foldl wordStep 0 = (w : Int) := by
 have := fold_be w 8 0 (Nat.le_refl _) (by decide)
 have e : (256 : Nat) ^ 8 = m64 := by decide
 rw [e, Nat.zero_mul, Nat.zero_add, Nat.mod_eq_of_lt h] at this
 exact this
theorem getD_at (ws : List Int) (i : Nat) (h : i < ws.length) : ws.getD i 0 = ws[i] := by simp [List.getD, h]
theorem wordsF_app (a b : List Nat) : ∀ (i : Nat) (ws : List Int), wordsF (a ++ b) i ws = wordsF b (i + a.length) (wordsF a i ws) := by
 induction a with
 | nil => intro i ws; rfl
 | cons c a ih =>
  intro i ws
  show wordsF (a ++ b) (i + 1) _ = wordsF b _ (wordsF a (i + 1) _)
  rw [ih, List.length_cons, Nat.add_assoc, Nat.add_comm 1]
theorem wordsF_one (q : Nat) : ∀ (bs : List Nat) (i : Nat) (ws : List Int), 3 - q < ws.length → (∀ j, j < bs.length → (i + j) / 8 = q) → wordsF bs i ws = ws.set (3 - q) (bs.foldl wordStep (ws.getD (3 - q) 0))
 | [], i, ws, hq, _ => by
  simp only [wordsF, List.foldl_nil]
  rw [getD_at _ _ hq, List.set_getElem_self]
 | c :: bs, i, ws, hq, h => by
  have h0 : i / 8 = q := by simpa using h 0 (by simp)
  rw [wordsF, wordsF_one q bs (i + 1) _ (by simpa [wordsStep] using hq) (fun j hj => by rw [Nat.add_assoc, Nat.add_comm 1]; exact h (j + 1) (by simpa using hj))]
  simp only [wordsStep, h0, List.foldl_cons]
  rw [List.set_set]
  congr 2
  rw [getD_at _ _ (by simpa using hq), List.getElem_set_self]
theorem wideB_be (a b c d : Nat) : wideB [a, b, c, d] = be d 8 ++ (be c 8 ++ (be b 8 ++ be a 8)) := rfl
theorem wordsF_wide {ws : List Nat} (h : wOk ws) : wordsF (wideB ws) 0 [0, 0, 0, 0] = ws.map (fun x : Nat => (x : Int)) := by
 obtain ⟨a, b, c, d, rfl, ha, hb, hc, hd⟩ := h.out
 rw [wideB_be, wordsF_app, wordsF_app, wordsF_app]
 simp only [be_len]
 rw [wordsF_one 0 (be d 8) 0 _ (by simp) (fun j hj => by rw [be_len] at hj; omega)]
 simp only [Nat.sub_zero, List.getD_cons_zero, List.getD_cons_succ, List.set_cons_succ, List.set_cons_zero, be_word hd]
 rw [wordsF_one 1 (be c 8) _ _ (by simp) (fun j hj => by rw [be_len] at hj; omega)]
 simp only [Nat.reduceSub, List.getD_cons_zero, List.getD_cons_succ, List.set_cons_succ, List.set_cons_zero, be_word hc]
 rw [wordsF_one 2 (be b 8) _ _ (by simp) (fun j hj => by rw [be_len] at hj; omega)]
 simp only [Nat.reduceSub, List.getD_cons_zero, List.getD_cons_succ, List.set_cons_succ, List.set_cons_zero, be_word hb]
 rw [wordsF_one 3 (be a 8) _ _ (by simp) (fun j hj => by rw [be_len] at hj; omega)]
 simp only [Nat.reduceSub, List.getD_cons_zero, List.set_cons_zero, be_word ha, List.map_cons, List.map_nil]
theorem words_wide {ws : List Nat} (h : wOk ws) : wordsN (wideB ws) = ws := by
 unfold wordsN
 rw [wordsF_wide h, List.map_map]
 have : (Int.toNat ∘ fun x : Nat => (x : Int)) = id := by funext x; simp
 rw [this, List.map_id]
theorem wordStep_lt (a : Int) (c : Nat) : wordStep a c < 18446744073709551616 := by
 show (_ : Int) % (2 ^ 64 : Int) < _
 exact Int.emod_lt_of_pos _ (by decide)
theorem wordsF_lt (bs : List Nat) : ∀ (i : Nat) (ws : List Int), (∀ z ∈ ws, z < 18446744073709551616) → ∀ z ∈ wordsF bs i ws, z < 18446744073709551616 := by
 induction bs with
 | nil => intro i ws h; exact h
 | cons c bs ih =>
  intro i ws h
  refine ih _ _ fun z hz => ?_
  rcases List.mem_or_eq_of_mem_set hz with h1 | h1
  ·exact h z h1
  ·rw [h1]; exact wordStep_lt _ _
theorem wordsN_ok (bs : List Nat) : wOk (wordsN bs) := ⟨wordsN_len bs, fun x hx => by
 obtain ⟨z, hz, rfl⟩ := List.mem_map.1 hx
 have h1 := wordsF_lt bs 0 [0, 0, 0, 0] (by decide) z hz
 have h2 := wordsF_nn bs 0 [0, 0, 0, 0] (by decide) z hz
 simp only [m64]
 omega⟩
end Go.Sl
