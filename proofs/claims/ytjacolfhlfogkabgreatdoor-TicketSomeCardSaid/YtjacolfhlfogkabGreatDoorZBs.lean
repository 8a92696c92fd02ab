import Derived.Test.YtjacolfhlfogkabGreatDoorZLm
import Derived.Test.YtjacolfhlfogkabGreatDoorZWd
import Derived.Test.YtjacolfhlfogkabGreatDoorZDg
namespace Go.Sl
open Go
structure StepD where
 what : Int
 tok : Int
 a : List Nat
 b : List Nat
 c : List Nat
 amt : List Nat
structure StepD.wf (x : StepD) : Prop where
 w1 : -9223372036854775808 ≤ x.what
 w2 : x.what ≤ 9223372036854775807
 t1 : -9223372036854775808 ≤ x.tok
 t2 : x.tok ≤ 9223372036854775807
 a : adr x.a
 b : adr x.b
 c : adr x.c
 amt : wOk x.amt
def StepD.cells (x : StepD) : List Value := .int .i64 x.what :: .int .i64 x.tok :: (bvs x.a ++ (bvs x.b ++ (bvs x.c ++ uvs x.amt)))
def stepK : List LK := .int .i64 :: .int .i64 :: (List.replicate 20 (.int .u8) ++ (List.replicate 20 (.int .u8) ++ (List.replicate 20 (.int .u8) ++ List.replicate 4 (.int .u64))))
theorem step_of {cs : List Value} (h : wtr stepK cs) : ∃ x : StepD, x.wf ∧ cs = x.cells := by
 unfold stepK at h
 obtain ⟨c1, cs1, rfl, ⟨w, rfl, h2⟩, h8⟩ := wtr_cons h
 obtain ⟨c2, cs2, rfl, ⟨t, rfl, h4⟩, h5⟩ := wtr_cons h8
 obtain ⟨h6, h7⟩ := wtr_append h5
 obtain ⟨h9, h10⟩ := wtr_append h7
 obtain ⟨h11, h12⟩ := wtr_append h10
 obtain ⟨la, a1, a2, a3⟩ := wtr_u8 h6
 obtain ⟨lb, b1, b2, b3⟩ := wtr_u8 h9
 obtain ⟨lc, k1, k2, k3⟩ := wtr_u8 h11
 obtain ⟨m, m1, m2, m3⟩ := wtr_u64 h12
 refine ⟨⟨w, t, la, lb, lc, m⟩, ⟨(i64_of_wf h2).1, (i64_of_wf h2).2, (i64_of_wf h4).1, (i64_of_wf h4).2, ⟨a1, a2⟩, ⟨b1, b2⟩, ⟨k1, k2⟩, ⟨m1, m2⟩⟩, ?_⟩
 rw [StepD.cells, ← a3, ← b3, ← k3, ← m3, List.take_append_drop, List.take_append_drop, List.take_append_drop]
structure ToldD where
 code : Int
 tok : TokD
 amt : List Nat
 mark : Int
def ToldD.cells (x : ToldD) : List Value := .int .i64 x.code :: (x.tok.cells ++ (uvs x.amt ++ [.int .i64 x.mark]))
end Go.Sl
namespace Go.Sl
open Go
theorem val2_take {l : List Nat} {i : Nat} (h : i < l.length) : val2 (l.take (i + 1)) = val2 (l.take i) + 2 ^ i * l[i] := by
 rw [List.take_succ_eq_append_getElem h, val2_app, List.length_take, Nat.min_eq_left (by omega)]
 simp [val2]
theorem val2_getD (l : List Nat) (i : Nat) : val2 (l.take (i + 1)) = val2 (l.take i) + 2 ^ i * l.getD i 0 := by
 rcases Nat.lt_or_ge i l.length with h | h
 ·rw [val2_take h]
  simp [List.getD, List.getElem?_eq_getElem h]
 ·rw [List.take_of_length_le (by omega), List.take_of_length_le (by omega)]
  simp [List.getD, List.getElem?_eq_none h]
theorem val2_snoc (l : List Nat) (b : Nat) : val2 (l ++ [b]) = val2 l + 2 ^ l.length * b := by
 rw [val2_app]
 simp [val2]
theorem plus_step {i s c va vb x y vo : Nat} (h : vo + 2 ^ i * c = va + vb) (hs : s = c + x + y) : vo + 2 ^ i * (s % 2) + 2 ^ (i + 1) * (s / 2) = (va + 2 ^ i * x) + (vb + 2 ^ i * y) := by
 have h2 : s % 2 + 2 * (s / 2) = s := by omega
 have e : 2 ^ i * (s % 2) + 2 ^ (i + 1) * (s / 2) = 2 ^ i * s := by
  rw [Nat.pow_succ, Nat.mul_assoc, ← Nat.mul_add, h2]
 have e2 : 2 ^ i * s = 2 ^ i * c + 2 ^ i * x + 2 ^ i * y := by rw [hs, Nat.mul_add, Nat.mul_add]
 generalize 2 ^ (i + 1) * (s / 2) = A at *
 generalize 2 ^ i * (s % 2) = B at *
 generalize 2 ^ i * s = D at *
 generalize 2 ^ i * c = E at *
 generalize 2 ^ i * x = X at *
 generalize 2 ^ i * y = Y at *
 omega
theorem isBits_snoc {l : List Nat} (h : isBits l) {b : Nat} (hb : b < 2) : isBits (l ++ [b]) := fun x hx => by
 rcases List.mem_append.1 hx with hx | hx
 ·exact h x hx
 ·rw [List.mem_singleton.1 hx]; exact hb
theorem val2_ones (k : Nat) : val2 (List.replicate k 1) + 1 = 2 ^ k := by
 induction k with
 | zero => rfl
 | succ k ih =>
  rw [List.replicate_succ']
  rw [val2_snoc, List.length_replicate, Nat.pow_succ]
  generalize 2 ^ k = A at *
  omega
theorem cut_short {l : List Nat} {k : Nat} (h : val2 l < 2 ^ k) : (cutL l).length ≤ k := by
 refine Nat.le_of_not_lt fun hlt => ?_
 have h1 := longer (a := List.replicate k 1) (b := l) (fun b hb => by rw [(List.mem_replicate.1 hb).2]; decide) (by rw [List.length_replicate]; exact hlt)
 rw [cutL_val] at h1
 have h2 := val2_ones k
 omega
theorem or_add {x s b : Nat} (hx : x < 2 ^ s) : x ||| (b * 2 ^ s) = x + b * 2 ^ s := by
 rw [Nat.mul_comm, Nat.or_comm, Nat.add_comm]
 exact (Nat.two_pow_add_eq_or_of_lt hx b).symm
theorem w4_bit {N i b : Nat} (hN : N < 2 ^ i) (hi : i < 256) (hb : b < 2) : (w4 N).getD (i / 64) 0 < 2 ^ (i % 64) ∧ w4 (N + 2 ^ i * b) = (w4 N).set (i / 64) ((w4 N).getD (i / 64) 0 + b * 2 ^ (i % 64)) := by
 have hr : i % 64 < 64 := Nat.mod_lt _ (by decide)
 have hA : 2 ^ (i % 64) ≤ 9223372036854775808 := by
  have : 2 ^ (i % 64) ≤ 2 ^ 63 := Nat.pow_le_pow_right (by decide) (by omega)
  omega
 have hq : i / 64 < 4 := by omega
 have hpow : 2 ^ i = 2 ^ (64 * (i / 64)) * 2 ^ (i % 64) := by rw [← Nat.pow_add, Nat.div_add_mod]
 rw [hpow] at hN ⊢
 generalize 2 ^ (i % 64) = A at *
 generalize i / 64 = q at *
 have hb2 : b = 0 ∨ b = 1 := by omega
 have h4 : ∀ {a b c d a' b' c' d' : Nat}, a = a' → b = b' → c = c' → d = d' → [a, b, c, d] = [a', b', c', d'] := by
  rintro a b c d _ _ _ _ rfl rfl rfl rfl; rfl
 have hq2 : q = 0 ∨ q = 1 ∨ q = 2 ∨ q = 3 := by omega
 rcases hq2 with rfl | rfl | rfl | rfl <;> rcases hb2 with rfl | rfl <;> simp only [w4, m64, List.getD_cons_zero, List.getD_cons_succ, List.set_cons_zero, List.set_cons_succ, Nat.mul_zero, Nat.pow_zero, Nat.one_mul, Nat.mul_one, Nat.zero_mul, Nat.add_zero, Nat.reduceMul, Nat.reducePow] at hN ⊢ <;> refine ⟨by omega, ?_⟩ <;> first | exact trivial | rfl | (refine h4 ?_ ?_ ?_ ?_ <;> omega)
end Go.Sl
