import Derived.Test.YtjacolfhlfogkabGreatDoorZWd
namespace Go.Sl
open Go
def bitsOf (w : Nat) : Nat → List Nat
 | 0 => []
 | k + 1 => w % 2 :: bitsOf (w / 2) k
theorem bitsOf_len (w k : Nat) : (bitsOf w k).length = k := by
 induction k generalizing w with
 | zero => rfl
 | succ k ih => simp [bitsOf, ih]
theorem bitsOf_get (w k : Nat) : ∀ i, i < k → (bitsOf w k)[i]? = some (w / 2 ^ i % 2) := by
 induction k generalizing w with
 | zero => intro i h; omega
 | succ k ih =>
  intro i h
  cases i with
  | zero => simp [bitsOf]
  | succ i =>
   simp only [bitsOf, List.getElem?_cons_succ]
   rw [ih (w / 2) i (by omega), Nat.div_div_eq_div_mul, Nat.pow_succ, Nat.mul_comm]
def val2 : List Nat → Nat
 | [] => 0
 | b :: bs => b + 2 * val2 bs
theorem val2_app (a b : List Nat) : val2 (a ++ b) = val2 a + 2 ^ a.length * val2 b := by
 induction a with
 | nil => simp [val2]
 | cons x a ih => simp only [List.cons_append, val2, ih, List.length_cons, Nat.pow_succ, Nat.mul_add]; rw [Nat.mul_comm (2 ^ a.length) 2, Nat.mul_assoc]; omega
theorem val2_bits (w k : Nat) : val2 (bitsOf w k) = w % 2 ^ k := by
 induction k generalizing w with
 | zero => simp [bitsOf, val2, Nat.mod_one]
 | succ k ih =>
  rw [bitsOf, val2, ih, Nat.pow_succ, Nat.mul_comm (2 ^ k) 2, Nat.mod_mul]
def isBits (l : List Nat) : Prop := ∀ b ∈ l, b < 2
theorem bitsOf_bits (w k : Nat) : isBits (bitsOf w k) := by
 induction k generalizing w with
 | zero => intro b h; simp [bitsOf] at h
 | succ k ih =>
  intro b h
  rcases List.mem_cons.1 h with rfl | h
  ·exact Nat.mod_lt _ (by decide)
  ·exact ih _ b h
theorem val2_lt {l : List Nat} (h : isBits l) : val2 l < 2 ^ l.length := by
 induction l with
 | nil => simp [val2]
 | cons b l ih =>
  have h1 := h b (by simp)
  have h2 := ih (fun x hx => h x (by simp [hx]))
  simp only [val2, List.length_cons, Nat.pow_succ]
  omega
def digs2 (ws : List Nat) : List Nat := bitsOf (ws.getD 0 0) 64 ++ (bitsOf (ws.getD 1 0) 64 ++ (bitsOf (ws.getD 2 0) 64 ++ bitsOf (ws.getD 3 0) 64))
theorem digs2_len (ws : List Nat) : (digs2 ws).length = 256 := by simp [digs2, bitsOf_len]
theorem digs2_bits (ws : List Nat) : isBits (digs2 ws) := by
 intro b h
 simp only [digs2, List.mem_append] at h
 rcases h with h | h | h | h <;> exact bitsOf_bits _ _ b h
theorem digs2_get (ws : List Nat) {i : Nat} (h : i < 256) : (digs2 ws)[i]? = some (ws.getD (i / 64) 0 / 2 ^ (i % 64) % 2) := by
 have l0 := bitsOf_len (ws.getD 0 0) 64
 have l1 := bitsOf_len (ws.getD 1 0) 64
 have l2 := bitsOf_len (ws.getD 2 0) 64
 unfold digs2
 by_cases h0 : i < 64
 ·rw [List.getElem?_append_left (by omega), bitsOf_get _ _ _ h0, show i / 64 = 0 by omega, show i % 64 = i by omega]
 rw [List.getElem?_append_right (by omega), l0]
 by_cases h1 : i < 128
 ·rw [List.getElem?_append_left (by omega), bitsOf_get _ _ _ (by omega), show i / 64 = 1 by omega, show i % 64 = i - 64 by omega]
 rw [List.getElem?_append_right (by omega), l1]
 by_cases h2 : i < 192
 ·rw [List.getElem?_append_left (by omega), bitsOf_get _ _ _ (by omega), show i / 64 = 2 by omega, show i % 64 = i - 64 - 64 by omega]
 rw [List.getElem?_append_right (by omega), l2, bitsOf_get _ _ _ (by omega), show i / 64 = 3 by omega, show i % 64 = i - 64 - 64 - 64 by omega]
theorem val2_digs {ws : List Nat} (h : wOk ws) : val2 (digs2 ws) = nat4 ws := by
 obtain ⟨a, b, c, d, rfl, ha, hb, hc, hd⟩ := h.out
 have e : (2 : Nat) ^ 64 = m64 := by decide
 simp only [digs2, val2_app, val2_bits, bitsOf_len, e, List.getD_cons_zero, List.getD_cons_succ, nat4]
 rw [Nat.mod_eq_of_lt ha, Nat.mod_eq_of_lt hb, Nat.mod_eq_of_lt hc, Nat.mod_eq_of_lt hd]
def cutN (l : List Nat) : Nat → Nat
 | 0 => 0
 | n + 1 => if l.getD n 0 = 0 then cutN l n else n + 1
theorem cutN_le (l : List Nat) : ∀ n, cutN l n ≤ n
 | 0 => Nat.le_refl 0
 | n + 1 => by unfold cutN; split; exact Nat.le_trans (cutN_le l n) (by omega); exact Nat.le_refl _
theorem cutN_val (l : List Nat) : ∀ n, n ≤ l.length → val2 (l.take (cutN l n)) = val2 (l.take n)
 | 0, _ => rfl
 | n + 1, h => by
  unfold cutN
  split
  ·rename_i hz
   rw [cutN_val l n (by omega), List.take_succ_eq_append_getElem (by omega), val2_app]
   have : l[n]'(by omega) = 0 := by simpa [List.getD, show n < l.length by omega] using hz
   simp [val2, this]
  ·rfl
theorem cutN_last (l : List Nat) : ∀ n, 0 < cutN l n → l.getD (cutN l n - 1) 0 ≠ 0
 | 0, h => by simp [cutN] at h
 | n + 1, h => by
  unfold cutN at h ⊢
  split
  ·rename_i hz
   rw [if_pos hz] at h
   exact cutN_last l n h
  ·rename_i hz
   simpa using hz
def cutL (l : List Nat) : List Nat := l.take (cutN l l.length)
theorem cutL_val (l : List Nat) : val2 (cutL l) = val2 l := by rw [cutL, cutN_val l _ (Nat.le_refl _), List.take_length]
theorem cutL_bits {l : List Nat} (h : isBits l) : isBits (cutL l) := fun b hb => h b (List.mem_of_mem_take hb)
theorem cutL_len (l : List Nat) : (cutL l).length = cutN l l.length := by rw [cutL, List.length_take]; have := cutN_le l l.length; omega
theorem longer {a b : List Nat} (ha : isBits a) (h : a.length < (cutL b).length) : val2 a < val2 (cutL b) := by
 have h1 := val2_lt ha
 have hl := cutL_len b
 have hp : 0 < cutN b b.length := by omega
 have hlast := cutN_last b b.length hp
 have hle := cutN_le b b.length
 have e : cutL b = b.take (cutN b b.length - 1) ++ [b[cutN b b.length - 1]'(by omega)] := by
  rw [cutL]
  have := List.take_succ_eq_append_getElem (l := b) (i := cutN b b.length - 1) (by omega)
  rw [show cutN b b.length - 1 + 1 = cutN b b.length by omega] at this
  exact this
 rw [e, val2_app]
 have hb : b[cutN b b.length - 1]'(by omega) ≠ 0 := by simpa [List.getD, show cutN b b.length - 1 < b.length by omega] using hlast
 have hlen : (b.take (cutN b b.length - 1)).length = cutN b b.length - 1 := by rw [List.length_take]; omega
 rw [hlen]
 simp only [val2]
 have h2 : 2 ^ a.length ≤ 2 ^ (cutN b b.length - 1) := Nat.pow_le_pow_right (by decide) (by omega)
 have h3 : 2 ^ (cutN b b.length - 1) * 1 ≤ 2 ^ (cutN b b.length - 1) * (b[cutN b b.length - 1]'(by omega) + 2 * 0) := Nat.mul_le_mul_left _ (by omega)
 omega
theorem parts {a b : List Nat} (ha : isBits a) {i : Nat} (h1 : i < a.length) (h2 : i < b.length) (hd : a.drop (i + 1) = b.drop (i + 1)) (hlt : a[i] < b[i]) : val2 a < val2 b := by
 have ea : a = a.take i ++ (a[i] :: a.drop (i + 1)) := by rw [← List.drop_eq_getElem_cons h1, List.take_append_drop]
 have eb : b = b.take i ++ (b[i] :: b.drop (i + 1)) := by rw [← List.drop_eq_getElem_cons h2, List.take_append_drop]
 have la : (a.take i).length = i := by rw [List.length_take]; omega
 have lb : (b.take i).length = i := by rw [List.length_take]; omega
 have hv : val2 (a.take i) < 2 ^ i := by
  have := val2_lt (l := a.take i) (fun x hx => ha x (List.mem_of_mem_take hx))
  rwa [la] at this
 have v1 : val2 a = val2 (a.take i) + 2 ^ i * (a[i] + 2 * val2 (a.drop (i + 1))) := by
  conv => lhs; rw [ea]
  rw [val2_app, la, val2]
 have v2 : val2 b = val2 (b.take i) + 2 ^ i * (b[i] + 2 * val2 (b.drop (i + 1))) := by
  conv => lhs; rw [eb]
  rw [val2_app, lb, val2]
 rw [v1, v2, hd]
 have h3 : 2 ^ i * (a[i] + 2 * val2 (b.drop (i + 1))) + 2 ^ i * 1 ≤ 2 ^ i * (b[i] + 2 * val2 (b.drop (i + 1))) := by
  rw [← Nat.mul_add]
  exact Nat.mul_le_mul_left _ (by omega)
 omega
def nvs (l : List Nat) : List Value := l.map fun n : Nat => Value.int .i64 n
theorem nvs_len (l : List Nat) : (nvs l).length = l.length := by simp [nvs]
theorem nvs_get {l : List Nat} {i : Nat} (h : i < l.length) : (nvs l)[i]? = some (.int .i64 l[i]) := by simp [nvs, h]
def fillD (l : List Nat) (i : Nat) : List Nat := l.take i ++ List.replicate (256 - i) 0
theorem fillD_len {l : List Nat} (h : l.length = 256) {i : Nat} (hi : i ≤ 256) : (fillD l i).length = 256 := by simp [fillD, h]; omega
theorem fillD_set {l : List Nat} (h : l.length = 256) {i : Nat} (hi : i < 256) : (nvs (fillD l i)).set i (.int .i64 (l[i]'(by omega))) = nvs (fillD l (i + 1)) := by
 obtain ⟨k, hk⟩ : ∃ k, 256 - i = k + 1 := ⟨255 - i, by omega⟩
 have hk2 : 256 - (i + 1) = k := by omega
 have hl : (nvs (l.take i)).length = i := by rw [nvs_len, List.length_take]; omega
 have e1 : nvs (fillD l i) = nvs (l.take i) ++ (.int .i64 0 :: nvs (List.replicate k 0)) := by
  rw [fillD, hk, List.replicate_succ, nvs, List.map_append]; rfl
 have e2 : nvs (fillD l (i + 1)) = nvs (l.take i) ++ (.int .i64 (l[i]'(by omega)) :: nvs (List.replicate k 0)) := by
  rw [fillD, hk2, List.take_succ_eq_append_getElem (by omega), nvs, List.map_append, List.map_append, List.append_assoc]; rfl
 rw [e1, e2, List.set_append_right _ _ (by omega), hl, Nat.sub_self]
 rfl
theorem fillD_zero (l : List Nat) : nvs (fillD l 0) = List.replicate 256 (Value.int .i64 0) := by
 unfold fillD nvs
 rw [List.take_zero, List.nil_append, List.map_replicate]
 rfl
theorem fdiv_pow (x k : Nat) : (x : Int).fdiv (2 ^ k) = ((x / 2 ^ k : Nat) : Int) := by
 rw [Int.fdiv_eq_ediv_of_nonneg _ (by exact_mod_cast Nat.zero_le _)]
 norm_cast
theorem fillD_all {l : List Nat} (h : l.length = 256) : fillD l 256 = l := by simp [fillD, List.take_of_length_le (show l.length ≤ 256 by omega)]
theorem DoesG.makeC {P : Program} {F L : List HP} {t e : TypeId} {bs n : Nat} {zv : Value} (E : ElT P t e 1 bs) (hz : zeroVT P e = some zv) (h1 : zv.cells.toList = [zv]) (kl kc : IntKind) (hb : bs * n ≤ 281474976710656) (hm : n ≤ maxLen) {k : Value → List HP → Prop}
 (hk : ∀ b, k (.slice (some ⟨b, 0, none⟩) n n) (cel b e (List.replicate n zv) :: L)) :
 DoesG P F (Instr.makeSlice t (.int kl (n : Int)) (.int kc (n : Int))) L k := ⟨fun w hs => by
 obtain ⟨i, z, hi, hz', hsz, hby, hzs⟩ := E.inf
 have ez : z = zv := by
  have : zeroVT P e = some z := by simp [zeroVT, hi, hz']
  exact Option.some.inj (this.symm.trans hz)
 subst ez
 have hr := run_make (P := P) w t e i z E.und hi hz' kl kc (n : Int) (n : Int) (Int.natCast_nonneg n) (Int.le_refl _) (by rw [hby, ← Int.natCast_mul]; omega) (by simp only [maxLen] at hm; omega)
 refine ⟨_, _, _, hr, Ext.alloc _ _, ?_, hk _⟩
 have hza : z.cells = #[z] := Array.toList_inj.1 h1
 have em : (madeCells z.cells ((n : Int).toNat * i.size)) = ⟨List.replicate n z⟩ := by
  apply Array.toList_inj.1
  rw [hsz, Int.toNat_natCast, Nat.mul_one, hza]
  apply List.ext_getElem
  ·rw [Array.length_toList, size_madeCells]; simp
  ·intro j h2 h3
   simp [madeCells, Nat.mod_one]
 rw [em]
 exact hs.alloc (.cells ⟨List.replicate n z⟩ e)⟩
end Go.Sl
