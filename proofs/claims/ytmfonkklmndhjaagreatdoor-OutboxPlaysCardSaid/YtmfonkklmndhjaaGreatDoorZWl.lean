import Derived.Test.YtmfonkklmndhjaaGreatDoorZSl
import Derived.Test.YtmfonkklmndhjaaGreatDoorZEq
namespace Go.Sl
open Go
section
variable {P : Program} {F L M : List HP} {sz n m : Nat} {v x : Value} {cs ys : List Value} {p : HP}
theorem DoesG.ent {s : Sem Value} {k : Value → List HP → Prop} (hL : Ent L M) (h : DoesG P F s M k) : DoesG P F s L k := by
 obtain ⟨h⟩ := h
 exact ⟨fun w hs => h w (hL w F hs)⟩
theorem LoadG.ent {a : Value} {k : Value → Prop} (hL : Ent L M) (h : LoadG F a M k) : LoadG F a L k := by
 obtain ⟨q, u, ha, hv, hk⟩ := h
 exact ⟨q, u, ha, fun w hs => hv w (hL w F hs), hk⟩
theorem own_of_cel {b : Nat} {t : TypeId} (hl : cs.length = n * sz) (hm : n ≤ maxLen) : Ent (cel b t cs :: L) (own sz (.slice (some ⟨b, 0, none⟩) n n) n cs :: L) := fun w F hs => by
 have h : Sat w (blk b (.cells ⟨cs ++ []⟩ t (0, 0)) :: (L ++ F)) := by simpa [cel] using hs
 exact h.own_of (Nat.le_refl _) hm hl (by simpa using hl)
theorem SlcG.rd {k : Option Addr → Nat → Nat → Prop} (h : RdS L v n cs) (hk : ∀ a cap, v = .slice a n cap → n ≤ cap → k a n cap) : SlcG v k := by
 cases h with
 | nil => exact ⟨_, _, _, rfl, hk _ _ rfl (Nat.le_refl _)⟩
 | zero a cap => exact ⟨_, _, _, rfl, hk _ _ rfl (Nat.zero_le _)⟩
 | mk b o n cap cs hn h => exact ⟨_, _, _, rfl, hk _ _ rfl hn⟩
theorem SlcG.sl {k : Option Addr → Nat → Nat → Prop} (h : SlV v n) (hk : ∀ a cap, v = .slice a n cap → n ≤ cap → k a n cap) : SlcG v k := by
 rcases h with ⟨rfl, rfl⟩ | ⟨g, cap, rfl, hn⟩
 ·exact ⟨_, _, _, rfl, hk _ _ rfl (Nat.le_refl _)⟩
 ·exact ⟨_, _, _, rfl, hk _ _ rfl hn⟩
theorem NilG.sl {k : Bool → Prop} (h : SlV v n) (hk : ∀ b, (b = true ↔ v = .slice none 0 0) → k b) : NilG v k := by
 rcases h with ⟨rfl, rfl⟩ | ⟨g, cap, rfl, hn⟩
 ·exact ⟨_, _, _, rfl, hk _ (by simp)⟩
 ·exact ⟨_, _, _, rfl, hk _ (by simp)⟩
theorem NilG.rd {k : Bool → Prop} (h : RdS L v n cs) (hk : ∀ b, (b = true ↔ v = .slice none 0 0) → k b) : NilG v k := by
 cases h with
 | nil => exact ⟨_, _, _, rfl, hk _ (by simp)⟩
 | zero a cap => exact ⟨_, _, _, rfl, hk _ (by simp)⟩
 | mk b o n cap cs hn h => exact ⟨_, _, _, rfl, hk _ (by simp)⟩
theorem SliceG.rd {a : Option Addr} {l h mx c : Nat} {K : Value → Prop} (hr : RdS L (.slice a n c) n cs) (h1 : l ≤ h) (h2 : h ≤ n) (h3 : h ≤ mx) (h4 : mx ≤ c) (hk : ∀ v', RdS L v' (h - l) ((cs.drop (l * sz)).take ((h - l) * sz)) → (v' = .slice none 0 0 ↔ a = none) → K v') : SliceG a sz l h mx K := by
 refine ⟨?_⟩
 cases hr with
 | nil =>
  obtain rfl : h = 0 := by omega
  obtain rfl : l = 0 := by omega
  have := hk (.slice none 0 0) (by simpa using RdS.nil) (by simp)
  obtain rfl : mx = 0 := by omega
  simpa using this
 | zero a cap =>
  obtain rfl : h = 0 := by omega
  obtain rfl : l = 0 := by omega
  split
  ·exact hk _ (by simpa using RdS.zero _ _) (by simp)
  ·exact hk _ (by simpa using RdS.zero _ _) (by simp)
 | mk b o n cap cs hn hc =>
  split
  ·rename_i he
   refine hk _ (.mk b o (h - l) (mx - l) _ (by omega) ?_) (by simp)
   have : h - l = 0 := by omega
   rw [this]; simp
   intro w _ j u hj
   simp at hj
  ·have e : Option.map (fun x => x.add (l * sz)) (some (⟨b, o, none⟩ : Addr)) = some ⟨b, o + l * sz, none⟩ := by simp [add_none]
   rw [e]
   refine hk (.slice (some ⟨b, o + l * sz, none⟩) (h - l) (mx - l)) (.mk b _ (h - l) (mx - l) _ (by omega) ?_) (by simp)
   refine hc.part ?_
   simp only [List.length_take]
   rw [List.take_eq_take_iff]
   omega
theorem RdS.nilE (h : RdS L v n cs) (hv : v = .slice none 0 0) : n = 0 ∧ cs = [] := by
 cases h with
 | nil => exact ⟨rfl, rfl⟩
 | zero a cap => cases hv
 | mk b o n cap cs hn h => cases hv
theorem SlV.one (h : SlV v n) : v.oneCell' = true := by
 rcases h with ⟨rfl, _⟩ | ⟨_, _, rfl, _⟩ <;> rfl
def elB (P : Program) (t e sz bs : Nat) : Bool := match P.underlying t with
 | some (.slice e') => Nat.beq e' e && Nat.blt 0 sz && (match P.info? e with
  | some i => Nat.beq i.size sz && Nat.beq i.bytes bs && (match i.zero with
   | some z => Nat.beq z.cells.size sz
   | none => false)
  | none => false)
 | _ => false
theorem ElT.of {t e sz bs : Nat} (h : elB P t e sz bs = true) : ElT P t e sz bs := by
 unfold elB at h
 split at h <;> try (cases h; done)
 rename_i e' hu
 cases hi : P.info? e with
 | none => simp [hi] at h
 | some i =>
  cases hz : i.zero with
  | none => simp [hi, hz] at h
  | some z =>
   simp only [hi, hz, Bool.and_eq_true, Nat.beq_eq, Nat.blt_eq] at h
   obtain ⟨⟨rfl, h1⟩, ⟨h2, h3⟩, h4⟩ := h
   exact ⟨hu, ⟨i, z, hi, hz, h2, h3, h4⟩, h1⟩
end
end Go.Sl
namespace Go.Sl
open Go
def bv (b : Nat) : Value := .int .u8 b
def bvs (l : List Nat) : List Value := l.map bv
theorem bvs_len (l : List Nat) : (bvs l).length = l.length := by simp [bvs]
theorem bvs_one (l : List Nat) : ∀ u ∈ bvs l, u.oneCell' = true := fun u hu => by
 obtain ⟨b, _, rfl⟩ := List.mem_map.1 hu
 rfl
theorem bvs_append (l m : List Nat) : bvs l ++ bvs m = bvs (l ++ m) := by simp [bvs]
theorem bvs_get {l : List Nat} {i : Nat} (h : i < l.length) : (bvs l)[i]? = some (bv l[i]) := by simp [bvs, h]
def strip (l : List Nat) : List Nat := l.dropWhile (· == 0)
theorem strip_cons {b : Nat} {l : List Nat} (h : ¬ b = 0) : strip (b :: l) = b :: l := by simp [strip, h]
theorem strip_len (l : List Nat) : (strip l).length ≤ l.length := (List.dropWhile_sublist _).length_le
def shortL (l : List Nat) : List Nat := (strip l).length :: strip l
theorem short_len (l : List Nat) : (shortL l).length ≤ l.length + 1 := by have := strip_len l; simp [shortL]; omega
def be (n : Nat) : Nat → List Nat
 | 0 => []
 | k + 1 => n / 256 ^ k % 256 :: be n k
theorem be_len (n k : Nat) : (be n k).length = k := by induction k with
 | zero => rfl
 | succ k ih => simp [be, ih]
theorem be_get (n : Nat) : ∀ {k i : Nat} (h : i < k), (be n k)[i]? = some (n / 256 ^ (k - 1 - i) % 256)
 | k + 1, 0, _ => by simp [be]
 | k + 1, i + 1, h => by
  have := be_get n (k := k) (i := i) (by omega)
  simp only [be, List.getElem?_cons_succ, this]
  rw [show k + 1 - 1 - (i + 1) = k - 1 - i by omega]
theorem shr_be (N i : Nat) (h : i < 8) : IntKind.u8.wrap ((N : Int).fdiv (2 ^ (min (56 - 8 * (i : Int)).toNat 64))) = ((N / 256 ^ (7 - i) % 256 : Nat) : Int) := by
 have e1 : min (56 - 8 * (i : Int)).toNat 64 = 8 * (7 - i) := by omega
 rw [e1, Int.pow_mul]
 have e2 : (2 ^ 8 : Int) = 256 := by decide
 rw [e2, Int.fdiv_eq_ediv_of_nonneg _ (Int.pow_nonneg (by decide))]
 show ((N : Int) / 256 ^ (7 - i)) % 256 = _
 rw [Int.natCast_emod, Int.natCast_ediv, Int.natCast_pow]
 rfl
def fillB (f : Nat → Nat) (n i : Nat) : List Nat := (List.range n).map fun j => if j < i then f j else 0
theorem fillB_len (f : Nat → Nat) (n i : Nat) : (fillB f n i).length = n := by simp [fillB]
theorem fillB_zero (f : Nat → Nat) (n : Nat) : fillB f n 0 = List.replicate n 0 := by
 apply List.ext_getElem <;> simp [fillB]
theorem fillB_set (f : Nat → Nat) {n i : Nat} (h : i < n) : (bvs (fillB f n i)).set i (bv (f i)) = bvs (fillB f n (i + 1)) := by
 rw [bvs, bvs, ← List.map_set]
 congr 1
 apply List.ext_getElem
 ·simp [fillB]
 ·intro j h1 h2
  simp only [fillB, List.getElem_set, List.getElem_map, List.getElem_range]
  simp only [fillB, List.length_map, List.length_range] at h2
  by_cases hj : i = j
  ·subst hj; simp
  ·rw [if_neg hj]
   by_cases hl : j < i
   ·rw [if_pos hl, if_pos (by omega)]
   ·rw [if_neg hl, if_neg (by omega)]
theorem fillB_all (f : Nat → Nat) (n : Nat) : fillB f n n = (List.range n).map f := by
 apply List.map_congr_left
 intro j hj
 rw [if_pos (List.mem_range.1 hj)]
theorem be_range (n k : Nat) : (List.range k).map (fun i => n / 256 ^ (k - 1 - i) % 256) = be n k := by
 apply List.ext_getElem?
 intro i
 by_cases h : i < k
 ·rw [be_get n h]; simp [h]
 ·rw [List.getElem?_eq_none (by simp; omega), List.getElem?_eq_none (by rw [be_len]; omega)]
def wideB (ws : List Nat) : List Nat := (List.range 32).map fun i => ws.getD (3 - i / 8) 0 / 256 ^ (7 - i % 8) % 256
def uv (n : Nat) : Value := .int .u64 n
def uvs (l : List Nat) : List Value := l.map uv
theorem uvs_len (l : List Nat) : (uvs l).length = l.length := by simp [uvs]
theorem uvs_one (l : List Nat) : ∀ u ∈ uvs l, u.oneCell' = true := fun u hu => by
 obtain ⟨b, _, rfl⟩ := List.mem_map.1 hu
 rfl
def layE (bs : List Nat) (e : Int) (xs : List Nat) : Int := if e = 0 then (if 4194304 < bs.length + xs.length then 30 else 0) else e
def layB (bs : List Nat) (e : Int) (xs : List Nat) : List Nat := if e = 0 ∧ bs.length + xs.length ≤ 4194304 then bs ++ xs else bs
theorem wt_rep {k : LK} : ∀ {xs : List Value} (n : Nat), xs.length = n → (∀ u ∈ xs, wtV k u) → wt (List.replicate n k) xs
 | [], _, h, _ => by cases h; exact trivial
 | x :: xs, _, h, hu => by cases h; exact ⟨hu x (by simp), wt_rep _ rfl (fun u h => hu u (by simp [h]))⟩
theorem wt_uvs {ws : List Nat} {n : Nat} (h : ws.length = n) : wt (List.replicate n (.int .u64)) (uvs ws) := wt_rep n (by simp [uvs, h]) fun u hu => by
 obtain ⟨b, _, rfl⟩ := List.mem_map.1 hu
 rfl
theorem wt_bvs {ws : List Nat} {n : Nat} (h : ws.length = n) : wt (List.replicate n (.int .u8)) (bvs ws) := wt_rep n (by simp [bvs, h]) fun u hu => by
 obtain ⟨b, _, rfl⟩ := List.mem_map.1 hu
 rfl
theorem uvs_inj {l m : List Nat} : uvs l = uvs m ↔ l = m := by
 constructor
 ·intro h
  induction l generalizing m with
  | nil => cases m <;> simp [uvs] at h ⊢
  | cons a l ih => cases m with
   | nil => simp [uvs] at h
   | cons b m =>
    simp only [uvs, List.map_cons, List.cons.injEq, uv, Value.int.injEq] at h
    rw [ih h.2]
    congr 1
    omega
 ·rintro rfl; rfl
structure LeafD where
 idx : Int
 ent : Int
 tok : Int
 to : List Nat
 amt : List Nat
structure LeafD.wf (l : LeafD) : Prop where
 to : l.to.length = 20
 amt : l.amt.length = 4
def LeafD.cells (l : LeafD) : List Value := .int .i64 l.idx :: .int .i64 l.ent :: .int .i64 l.tok :: (bvs l.to ++ uvs l.amt)
theorem LeafD.cells_len {l : LeafD} (h : l.wf) : l.cells.length = 27 := by simp [LeafD.cells, bvs_len, uvs_len, h.to, h.amt]
theorem LeafD.cells_one (l : LeafD) : ∀ u ∈ l.cells, u.oneCell' = true := by
 intro u hu
 simp only [LeafD.cells, List.mem_cons, List.mem_append] at hu
 rcases hu with rfl | rfl | rfl | h | h
 ·rfl
 ·rfl
 ·rfl
 ·exact bvs_one _ u h
 ·exact uvs_one _ u h
theorem LeafD.to_at {l : LeafD} : (l.cells.drop 3).take (bvs l.to).length = bvs l.to := by simp [LeafD.cells]
theorem LeafD.amt_at {l : LeafD} (h : l.wf) : (l.cells.drop 23).take (uvs l.amt).length = uvs l.amt := by
 have e : l.cells.drop 23 = (bvs l.to ++ uvs l.amt).drop 20 := rfl
 rw [e]
 have h1 : (bvs l.to).length = 20 := by rw [bvs_len, h.to]
 rw [List.drop_append_of_le_length (by omega), ← h1, List.drop_length, List.nil_append, List.take_length]
def mayCount (n : Int) : Prop := 0 ≤ n ∧ n < 1099511627776
instance (n : Int) : Decidable (mayCount n) := inferInstanceAs (Decidable (_ ∧ _))
def LeafD.may (l : LeafD) : Prop := mayCount l.idx ∧ mayCount l.ent ∧ (0 ≤ l.tok ∧ l.tok < 64) ∧ l.amt ≠ List.replicate 4 0
instance (l : LeafD) : Decidable l.may := inferInstanceAs (Decidable (_ ∧ _))
def LeafD.bytes (l : LeafD) : List Nat := [76] ++ shortL (be l.idx.toNat 8) ++ shortL (be l.ent.toNat 8) ++ shortL (be l.tok.toNat 8) ++ l.to ++ shortL (wideB l.amt)
theorem wide_len (ws : List Nat) : (wideB ws).length = 32 := by simp [wideB]
theorem LeafD.bytes_len (l : LeafD) (h : l.wf) : l.bytes.length ≤ 81 := by
 have h1 := short_len (be l.idx.toNat 8)
 have h2 := short_len (be l.ent.toNat 8)
 have h3 := short_len (be l.tok.toNat 8)
 have h4 := short_len (wideB l.amt)
 rw [be_len] at h1 h2 h3
 rw [wide_len] at h4
 have h5 := h.to
 simp only [LeafD.bytes, List.length_append, List.length_cons, List.length_nil]
 omega
theorem layB_ok {bs xs : List Nat} (h : bs.length + xs.length ≤ 4194304) : layB bs 0 xs = bs ++ xs := by unfold layB; rw [if_pos ⟨rfl, h⟩]
theorem layE_ok {bs xs : List Nat} (h : bs.length + xs.length ≤ 4194304) : layE bs 0 xs = 0 := by unfold layE; rw [if_pos rfl, if_neg (by omega)]
def leavesC (ls : List LeafD) : List Value := ls.flatMap LeafD.cells
theorem leavesC_app (ls : List LeafD) (l : LeafD) : leavesC (ls ++ [l]) = leavesC ls ++ l.cells := by simp [leavesC]
theorem leavesC_get {ls : List LeafD} (h : ∀ l ∈ ls, l.wf) {i : Nat} (hi : i < ls.length) : ((leavesC ls).drop (i * 27)).take 27 = ls[i].cells := by
 induction ls generalizing i with
 | nil => simp at hi
 | cons l ls ih =>
  have hl := LeafD.cells_len (h l (by simp))
  cases i with
  | zero =>
   simp only [leavesC, List.flatMap_cons, Nat.zero_mul, List.drop_zero, List.getElem_cons_zero]
   rw [List.take_append_of_le_length (by omega), List.take_of_length_le (by omega)]
  | succ i =>
   have := ih (fun x hx => h x (by simp [hx])) (i := i) (by simpa using hi)
   simp only [leavesC, List.flatMap_cons, List.getElem_cons_succ] at *
   rw [show (i + 1) * 27 = l.cells.length + i * 27 by omega, ← List.drop_drop, List.drop_left]
   exact this
def textsL (ts : List (Value × List Nat)) : List HP := ts.map fun t => own 1 t.1 t.2.length (bvs t.2)
def bookL (T b : Nat) (lv tv : Value) (ls : List LeafD) (ts : List (Value × List Nat)) : List HP :=
 own 27 lv ls.length (leavesC ls) :: own 1 tv ts.length (ts.map (·.1)) :: cel b T [lv, tv] :: textsL ts
def leafK : List LK := .int .i64 :: .int .i64 :: .int .i64 :: (List.replicate 20 (.int .u8) ++ List.replicate 4 (.int .u64))
theorem LeafD.wt {l : LeafD} (h : l.wf) : Go.Sl.wt leafK l.cells := ⟨rfl, rfl, rfl, wt_join (wt_bvs h.to) (wt_uvs h.amt)⟩
end Go.Sl
