import Derived.Test.YtjkldhalmglkpaaDoorZSha
namespace Go.Sl
open Go
section
variable {P : Program} {F L : List HP} {x : Value} {cs cur : List Value} {n g o dLen dCap : Nat} {t : TypeId}
theorem DoesG.copy1 {dT ty elem : TypeId} (hu : P.underlying dT = some (.slice elem)) (hs : sizeT P elem = some 1) (hr : RdS (cel g t cur :: (L ++ F)) x n cs) (hn : cs.length = n) (hfit : o + min n dLen ≤ cur.length) (h1 : ∀ v ∈ cs, v.oneCell' = true)
 {k : Value → List HP → Prop} (hk : k (.int .i64 (min n dLen : Nat)) (cel g t (cur.take o ++ cs.take (min n dLen) ++ cur.drop (o + min n dLen)) :: L)) :
 DoesG P F (Builtin.copy_ #[dT, dT] ty #[.slice (some ⟨g, o, none⟩) dLen dCap, x]) (cel g t cur :: L) k := ⟨fun w hw => by
 have hsz := run_size hs w
 have hlen : (cs.take (min n dLen)).length = min n dLen := by simp; omega
 obtain ⟨w', hst, hx, hb, hkk⟩ := storeCells_run P g o t (cs.take (min n dLen)) 0 cur w (Sat.blk_heap hw) (by rw [hlen]; omega) (fun v hv => h1 v (List.mem_of_mem_take hv))
 have hput : Sat w' (cel g t (cur.take o ++ cs.take (min n dLen) ++ cur.drop (o + min n dLen)) :: (L ++ F)) := by
  have := Sat.put (o := .cells ⟨cur⟩ t (0, 0)) hw hb hkk
  rw [Nat.add_zero, hlen] at this
  exact this
 refine ⟨_, _, w', ?_, hx, hput, hk⟩
 cases hr with
 | nil =>
  simp at hn hst
  simp [Builtin.copy_, run_und hu, Builtin.lenOf, Builtin.firstCells, hsz, storeCells, goInt]
  simpa [storeCells] using hst
 | zero a cap =>
  simp at hn hst
  simp [Builtin.copy_, run_und hu, Builtin.lenOf, Builtin.firstCells, loadCells, loadCellsFrom, hsz, storeCells, goInt]
  simpa [storeCells] using hst
 | mk b o' n cap cs hcap h =>
  have hnews : ∀ j u, (cs.take (min n dLen))[j]? = some u → w.cell? ((⟨b, o', none⟩ : Addr).add j) = some u := fun j u hj => by
   rw [add_none]
   refine h w hw j u ?_
   rw [List.getElem?_take] at hj
   split at hj
   ·exact hj
   ·cases hj
  have hf := run_firstCells_some (P := P) w 1 (min n dLen) ⟨b, o', none⟩ n cap (cs.take (min n dLen)) (by rw [hlen]; omega) hnews
  have em : Nat.min n dLen = min n dLen := rfl
  simp [Builtin.copy_, run_und hu, Builtin.lenOf, hsz, em, hf, hst, goInt]⟩
theorem zeroCells_one (z : Array Value) (zv : Value) (hz : z.toList = [zv]) (m : Nat) : (Builtin.zeroCells z m).toList = List.replicate m zv := by
 obtain ⟨l⟩ := z
 simp only at hz
 subst hz
 apply List.ext_getElem
 ·simp [size_zeroCells]
 ·intro i h1 h2
  simp only [Builtin.zeroCells, List.getElem_map, List.getElem_replicate]
  simp [Nat.mod_one]
theorem DoesG.clear1 {dT ty elem : TypeId} {zv : Value} {cap m : Nat} (hu : P.underlying dT = some (.slice elem)) (hz : zeroT P elem = some [zv]) (hfit : o + m ≤ cur.length) (h1 : zv.oneCell' = true)
 {k : Value → List HP → Prop} (hk : k (.tuple #[]) (cel g t (cur.take o ++ List.replicate m zv ++ cur.drop (o + m)) :: L)) :
 DoesG P F (Builtin.clear_ #[dT] ty #[.slice (some ⟨g, o, none⟩) m cap]) (cel g t cur :: L) k := ⟨fun w hw => by
 obtain ⟨w', hst, hx, hb, hkk⟩ := storeCells_run P g o t (List.replicate m zv) 0 cur w (Sat.blk_heap hw) (by simpa using hfit) (fun v hv => by rw [(List.mem_replicate.1 hv).2]; exact h1)
 have hput : Sat w' (cel g t (cur.take o ++ List.replicate m zv ++ cur.drop (o + m)) :: (L ++ F)) := by
  have := Sat.put (o := .cells ⟨cur⟩ t (0, 0)) hw hb hkk
  rw [Nat.add_zero, List.length_replicate] at this
  exact this
 refine ⟨_, _, w', ?_, hx, hput, hk⟩
 cases m with
 | zero =>
  have e : w = w' := by simpa [storeCells] using hst
  subst e
  simp [Builtin.clear_, run_und hu]
 | succ m =>
  obtain ⟨v, h2, h3⟩ := run_zero hz w
  simp [Builtin.clear_, run_und hu, h2, zeroCells_one v.cells zv h3, hst]⟩
end
/-! The plain law of the digest -/
def ivW : List W32 := [1779033703, 3144134277, 1013904242, 2773480762, 1359893119, 2600822924, 528734635, 1541459225]
def stN (K : List W32) (m : List Nat) : Nat → List W32
 | 0 => ivW
 | q + 1 => takeS K (stN K m q) ((m.drop (64 * q)).take 64)
theorem stN_len (K : List W32) (m : List Nat) (q : Nat) : (stN K m q).length = 8 := by
 induction q with
 | zero => rfl
 | succ q ih => exact takeS_len ih
theorem stN_app (K : List W32) (m x : List Nat) : ∀ q, 64 * q ≤ m.length → stN K (m ++ x) q = stN K m q := by
 intro q
 induction q with
 | zero => intro _; rfl
 | succ q ih =>
  intro h
  have h1 : ((m ++ x).drop (64 * q)).take 64 = (m.drop (64 * q)).take 64 := by
   rw [List.drop_append_of_le_length (by omega), List.take_append_of_le_length (by simp; omega)]
  simp only [stN, ih (by omega), h1]
structure Hs (K : List W32) (m : List Nat) (s : List W32) (wait : List Nat) : Prop where
 st : s = stN K m (m.length / 64)
 len : wait.length = 64
 rem : wait.take (m.length % 64) = m.drop (64 * (m.length / 64))
 byte : ∀ b ∈ wait, b < 256
def hC (s : List W32) (wait : List Nat) (n : Nat) : List Value := wvs s ++ (bvs wait ++ [.int .i64 n])
theorem Hs.begin (K : List W32) : Hs K [] ivW (List.replicate 64 0) := ⟨rfl, rfl, rfl, by simp⟩
theorem Hs.step {K : List W32} {m s wait d wait'} (h : Hs K m s wait) (hd : d.length ≤ 64 - m.length % 64) (hb : ∀ b ∈ d, b < 256) (hw : wait' = wait.take (m.length % 64) ++ d ++ wait.drop (m.length % 64 + d.length)) :
 if m.length % 64 + d.length = 64 then Hs K (m ++ d) (takeS K s wait') wait' else Hs K (m ++ d) s wait' := by
 have hlt : m.length % 64 < 64 := Nat.mod_lt _ (by decide)
 have hdm := Nat.div_add_mod m.length 64
 have hl : wait'.length = 64 := by
  rw [hw]
  simp only [List.length_append, List.length_take, List.length_drop, h.len]
  omega
 have hbb : ∀ b ∈ wait', b < 256 := by
  intro b hb'
  rw [hw] at hb'
  simp only [List.mem_append] at hb'
  rcases hb' with (h1 | h1) | h1
  ·exact h.byte b (List.mem_of_mem_take h1)
  ·exact hb b h1
  ·exact h.byte b (List.mem_of_mem_drop h1)
 have hpre : wait'.take (m.length % 64 + d.length) = m.drop (64 * (m.length / 64)) ++ d := by
  rw [hw, h.rem]
  have hl2 : (m.drop (64 * (m.length / 64)) ++ d).length = m.length % 64 + d.length := by simp; omega
  rw [← hl2, List.take_left]
 split
 ·rename_i hf
  have hw64 : wait' = m.drop (64 * (m.length / 64)) ++ d := by
   rw [← hpre, hf, List.take_of_length_le (by omega)]
  have hq : (m ++ d).length / 64 = m.length / 64 + 1 := by simp; omega
  have hr : (m ++ d).length % 64 = 0 := by simp; omega
  refine ⟨?_, hl, ?_, hbb⟩
  ·rw [hq, stN, stN_app K m d _ (by omega), ← h.st]
   congr 1
   rw [List.drop_append_of_le_length (by omega), ← hw64, List.take_of_length_le (by omega)]
  ·rw [hr, List.take_zero, List.drop_eq_nil_of_le (by simp; omega)]
 ·rename_i hf
  have hq : (m ++ d).length / 64 = m.length / 64 := by simp; omega
  have hr : (m ++ d).length % 64 = m.length % 64 + d.length := by simp; omega
  refine ⟨?_, hl, ?_, hbb⟩
  ·rw [hq, stN_app K m d _ (by omega)]; exact h.st
  ·rw [hr, hq, hpre, List.drop_append_of_le_length (by omega)]
section
variable {s s' : List W32} {wait : List Nat} {n n' : Nat}
theorem hC_len (hs : s.length = 8) (hw : wait.length = 64) : (hC s wait n).length = 73 := by simp [hC, wvs_len, bvs_len, hs, hw]
theorem hC_n (hs : s.length = 8) (hw : wait.length = 64) : (hC s wait n)[72]? = some (.int .i64 n) := by
 have h1 : (wvs s).length = 8 := by rw [wvs_len, hs]
 have h2 : (bvs wait).length = 64 := by rw [bvs_len, hw]
 unfold hC
 rw [List.getElem?_append_right (by omega), List.getElem?_append_right (by omega)]
 simp [h1, h2]
theorem hC_s : ((hC s wait n).drop 0).take (wvs s).length = wvs s := by simp [hC]
theorem hC_wait (hs : s.length = 8) : ((hC s wait n).drop 8).take (bvs wait).length = bvs wait := by
 have h1 : (wvs s).length = 8 := by rw [wvs_len, hs]
 unfold hC
 rw [← h1, List.drop_left, List.take_left]
theorem hC_set_n (hs : s.length = 8) (hw : wait.length = 64) : (hC s wait n).set 72 (.int .i64 n') = hC s wait n' := by
 have h1 : (wvs s).length = 8 := by rw [wvs_len, hs]
 have h2 : (bvs wait).length = 64 := by rw [bvs_len, hw]
 unfold hC
 rw [List.set_append_right _ _ (by omega), List.set_append_right _ _ (by omega)]
 simp [h1, h2]
theorem hC_set_s (hs : s.length = 8) (hs' : s'.length = 8) : (hC s wait n).take 0 ++ wvs s' ++ (hC s wait n).drop (0 + (wvs s').length) = hC s' wait n := by
 have h1 : (wvs s).length = 8 := by rw [wvs_len, hs]
 have h2 : (wvs s').length = 8 := by rw [wvs_len, hs']
 unfold hC
 rw [h2, Nat.zero_add, ← h1, List.drop_left]
 simp
theorem hC_copy (hs : s.length = 8) (hw : wait.length = 64) {a : Nat} {d : List Nat} (hd : a + d.length ≤ 64) : (hC s wait n).take (8 + a) ++ bvs d ++ (hC s wait n).drop (8 + a + d.length) = hC s (wait.take a ++ d ++ wait.drop (a + d.length)) n := by
 have h1 : (wvs s).length = 8 := by rw [wvs_len, hs]
 have h2 : (bvs wait).length = 64 := by rw [bvs_len, hw]
 unfold hC
 rw [List.take_append, List.drop_append, h1]
 have e1 : (wvs s).take (8 + a) = wvs s := List.take_of_length_le (by omega)
 have e2 : (wvs s).drop (8 + a + d.length) = [] := List.drop_eq_nil_of_le (by omega)
 rw [e1, e2, show 8 + a - 8 = a by omega, show 8 + a + d.length - 8 = a + d.length by omega, List.take_append_of_le_length (by omega), List.drop_append_of_le_length (by omega)]
 simp [bvs]
end
def padP (m : List Nat) : List Nat := m.drop (64 * (m.length / 64)) ++ 128 :: List.replicate (63 - m.length % 64) 0
def endS (K : List W32) (m : List Nat) : List W32 := if 56 ≤ m.length % 64 then takeS K (stN K m (m.length / 64)) (padP m) else stN K m (m.length / 64)
def endP (m : List Nat) : List Nat := if 56 ≤ m.length % 64 then List.replicate 64 0 else padP m
def endQ (m : List Nat) : List Nat := (endP m).take 56 ++ be (m.length * 8) 8
def digB (s : List W32) : List Nat := (List.range 32).map fun i => (s.getD (i / 4) 0 >>> (24 - 8 * (i % 4))).toNat % 256
def dig (K : List W32) (m : List Nat) : List Nat := digB (takeS K (endS K m) (endQ m))
theorem dig_len (K : List W32) (m : List Nat) : (dig K m).length = 32 := by simp [dig, digB]
theorem dig_byte (K : List W32) (m : List Nat) : ∀ b ∈ dig K m, b < 256 := by
 intro b hb
 obtain ⟨i, _, rfl⟩ := List.mem_map.1 hb
 exact Nat.mod_lt _ (by decide)
theorem padP_len (m : List Nat) : (padP m).length = 64 := by
 have := Nat.mod_lt m.length (show 0 < 64 by decide)
 have hdm := Nat.div_add_mod m.length 64
 simp [padP]; omega
theorem endP_len (m : List Nat) : (endP m).length = 64 := by
 unfold endP
 split
 ·simp
 ·exact padP_len m
theorem endQ_len (m : List Nat) : (endQ m).length = 64 := by
 have := endP_len m
 simp [endQ, be_len]; omega
theorem pad_set {r : List Nat} {a : Nat} (ha : r.length = a) (h : a < 64) : (bvs (r ++ List.replicate (64 - a) 0)).set a (bv 128) = bvs (r ++ 128 :: List.replicate (63 - a) 0) := by
 obtain ⟨k, hk⟩ : ∃ k, 64 - a = k + 1 := ⟨63 - a, by omega⟩
 have hk2 : 63 - a = k := by omega
 simp only [bvs, hk, hk2, List.replicate_succ, List.map_append, List.map_cons]
 rw [List.set_append_right _ _ (by simp; omega)]
 simp [ha]
def tailQ (A : List Nat) (N i : Nat) : List Nat := A.take (64 - i) ++ (be N 8).drop (8 - i)
theorem tailQ_set {A : List Nat} {N i : Nat} (hA : A.length = 64) (hi : i < 8) : (bvs (tailQ A N i)).set (63 - i) (bv (N / 256 ^ i % 256)) = bvs (tailQ A N (i + 1)) := by
 have h1 : A.take (64 - i) = A.take (63 - i) ++ [A[63 - i]'(by omega)] := by
  rw [show 64 - i = 63 - i + 1 by omega, List.take_succ_eq_append_getElem (by omega)]
 have h2 : (be N 8).drop (8 - (i + 1)) = (N / 256 ^ i % 256) :: (be N 8).drop (8 - i) := by
  have hl : 7 - i < (be N 8).length := by rw [be_len]; omega
  rw [show 8 - (i + 1) = 7 - i by omega, List.drop_eq_getElem_cons hl, show 7 - i + 1 = 8 - i by omega]
  congr 1
  have := be_get N (k := 8) (i := 7 - i) (by omega)
  rw [List.getElem?_eq_getElem hl] at this
  rw [show 8 - 1 - (7 - i) = i by omega] at this
  exact Option.some.inj this
 simp only [tailQ, h1, h2, show 64 - (i + 1) = 63 - i by omega, bvs, List.map_append, List.map_cons, List.map_nil, List.append_assoc]
 rw [List.set_append_right _ _ (by simp; omega)]
 simp [hA, show 63 - i - min (63 - i) 64 = 0 by omega]
theorem tailQ_len {A : List Nat} {N i : Nat} (hA : A.length = 64) (hi : i ≤ 8) : (tailQ A N i).length = 64 := by simp [tailQ, be_len, hA]; omega
theorem shr_b (N i : Nat) (h : i < 8) : IntKind.u8.wrap ((N : Int).fdiv (2 ^ (min (8 * (i : Int)).toNat 64))) = ((N / 256 ^ i % 256 : Nat) : Int) := by
 have e1 : min (8 * (i : Int)).toNat 64 = 8 * i := by omega
 rw [e1, Int.pow_mul]
 have e2 : (2 ^ 8 : Int) = 256 := by decide
 rw [e2, Int.fdiv_eq_ediv_of_nonneg _ (Int.pow_nonneg (by decide))]
 show ((N : Int) / 256 ^ i) % 256 = _
 rw [Int.natCast_emod, Int.natCast_ediv, Int.natCast_pow]
 rfl
theorem shr_d (x : W32) (i : Nat) : IntKind.u8.wrap ((x.toNat : Int).fdiv (2 ^ (min (24 - 8 * ((i % 4 : Nat) : Int)).toNat 32))) = (((x >>> (24 - 8 * (i % 4))).toNat % 256 : Nat) : Int) := by
 have e1 : min (24 - 8 * ((i % 4 : Nat) : Int)).toNat 32 = 24 - 8 * (i % 4) := by omega
 rw [e1, w32_shr]
 rfl
theorem tailQ_zero {A : List Nat} {N : Nat} (hA : A.length = 64) : tailQ A N 0 = A := by
 unfold tailQ
 rw [List.take_of_length_le (by omega), List.drop_eq_nil_of_le (by rw [be_len]; omega), List.append_nil]
theorem tailQ_end (m : List Nat) : tailQ (endP m) (m.length * 8) 8 = endQ m := by simp [tailQ, endQ]
theorem endQ_byte {m : List Nat} (hb : ∀ b ∈ m, b < 256) : ∀ b ∈ endQ m, b < 256 := by
 have be_b : ∀ (n k b : Nat), b ∈ be n k → b < 256 := by
  intro n k
  induction k with
  | zero => intro b h; cases h
  | succ k ih =>
   intro b h
   rcases List.mem_cons.1 h with h | h
   ·rw [h]; exact Nat.mod_lt _ (by decide)
   ·exact ih b h
 intro b h
 rcases List.mem_append.1 h with h | h
 ·have h2 := List.mem_of_mem_take h
  unfold endP at h2
  split at h2
  ·rw [(List.mem_replicate.1 h2).2]; decide
  ·simp only [padP, List.mem_append, List.mem_cons, List.mem_replicate] at h2
   rcases h2 with h1 | h1 | h1
   ·exact hb b (List.mem_of_mem_drop h1)
   ·omega
   ·omega
 ·exact be_b _ _ b h
theorem endS_len (K : List W32) (m : List Nat) : (endS K m).length = 8 := by
 unfold endS
 split
 ·exact takeS_len (stN_len _ _ _)
 ·exact stN_len _ _ _
end Go.Sl
