import Derived.Test.YtjacolfhlfogkabGreatDoorZSp
namespace Go.Sl
open Go
structure TicketD where
 num : Int
 ent : Int
 snd : List Nat
 tok : Int
 to : List Nat
 amt : List Nat
theorem take_drop_mid {A B C : List Value} {n : Nat} (h : A.length = n) : ((A ++ (B ++ C)).drop n).take B.length = B := by
 subst h
 rw [List.drop_left, List.take_left]
def wordStep (a : Int) (c : Nat) : Int := IntKind.u64.wrap ((BitVec.ofInt 64 (IntKind.u64.wrap (a * 2 ^ (min (8 : Int).toNat 64))) ||| BitVec.ofInt 64 (IntKind.u64.wrap (c : Int))).toNat)
def wordsStep (ws : List Int) (i : Nat) (c : Nat) : List Int := ws.set (3 - i / 8) (wordStep (ws.getD (3 - i / 8) 0) c)
def wordsF : List Nat → Nat → List Int → List Int
 | [], _, ws => ws
 | c :: bs, i, ws => wordsF bs (i + 1) (wordsStep ws i c)
def ivs (l : List Int) : List Value := l.map fun n => Value.int .u64 n
theorem wordsF_len (bs : List Nat) : ∀ (i : Nat) (ws : List Int), (wordsF bs i ws).length = ws.length := by
 induction bs with
 | nil => intro i ws; rfl
 | cons c bs ih => intro i ws; simp [wordsF, ih, wordsStep]
theorem wordsF_take (bs : List Nat) : ∀ (i k : Nat) (ws : List Int) (h : k < bs.length), wordsF (bs.take (k + 1)) i ws = wordsStep (wordsF (bs.take k) i ws) (i + k) bs[k] := by
 induction bs with
 | nil => intro i k ws h; simp at h
 | cons c bs ih =>
  intro i k ws h
  cases k with
  | zero => simp [wordsF]
  | succ k =>
   simp only [List.take_succ_cons, wordsF, List.getElem_cons_succ]
   rw [ih (i + 1) k _ (by simpa using h)]
   congr 1
   omega
theorem wide_take (ws : List Nat) (i : Nat) (h : i < 32) : (wideB ws).take (i + 1) = (wideB ws).take i ++ [ws.getD (3 - i / 8) 0 / 256 ^ (7 - i % 8) % 256] := by
 rw [List.take_succ_eq_append_getElem (by rw [wide_len]; exact h)]
 simp [wideB]
theorem LoadG.atG {F L : List HP} {b o : Nat} {v : Value} {k : Value → Prop} (h : Cel (L ++ F) b o v) (hk : k v) : LoadG F (.pointer (some ⟨b, o, none⟩)) L k := ⟨_, v, rfl, h, hk⟩
theorem splice {A B B' C : List Value} {o n : Nat} (ho : A.length = o) (hn : B.length = n) : (A ++ (B ++ C)).take o ++ B' ++ (A ++ (B ++ C)).drop (o + n) = A ++ (B' ++ C) := by
 subst ho; subst hn
 rw [List.take_left, ← List.drop_drop, List.drop_left, List.drop_left, List.append_assoc]
theorem wordStep_nn (a : Int) (c : Nat) : 0 ≤ wordStep a c := by
 show (0 : Int) ≤ _ % (2 ^ 64 : Int)
 exact Int.emod_nonneg _ (by decide)
theorem wordsF_nn (bs : List Nat) : ∀ (i : Nat) (ws : List Int), (∀ z ∈ ws, 0 ≤ z) → ∀ z ∈ wordsF bs i ws, 0 ≤ z := by
 induction bs with
 | nil => intro i ws h; exact h
 | cons c bs ih =>
  intro i ws h
  refine ih _ _ fun z hz => ?_
  rcases List.mem_or_eq_of_mem_set hz with h1 | h1
  ·exact h z h1
  ·rw [h1]; exact wordStep_nn _ _
def wordsN (bs : List Nat) : List Nat := (wordsF bs 0 [0, 0, 0, 0]).map Int.toNat
theorem wordsN_len (bs : List Nat) : (wordsN bs).length = 4 := by simp [wordsN, wordsF_len]
theorem ivs_words (bs : List Nat) : ivs (wordsF bs 0 [0, 0, 0, 0]) = uvs (wordsN bs) := by
 have h := wordsF_nn bs 0 [0, 0, 0, 0] (by decide)
 simp only [ivs, uvs, wordsN, List.map_map]
 apply List.map_congr_left
 intro z hz
 simp only [Function.comp, uv]
 rw [Int.toNat_of_nonneg (h z hz)]
end Go.Sl
namespace Go.Sl
open Go
def lv (find : ByteArray → List Nat × Int) (c : StC) (k : ByteArray) : List Nat := match getK c.now k with
 | some p => p.2
 | none => match getK c.has k with
  | some p => p.2
  | none => (find k).1
/-! Steps taken back -/
def StC.nowF (c : StC) (k : ByteArray) : Option (List Nat) := (getK c.now k).map (·.2)
def undo1 (x : StepC) (f : ByteArray → Option (List Nat)) : ByteArray → Option (List Nat) := fun k => if k = x.key then (if x.laid = true then some x.bs else none) else f k
def undoTo (l : List StepC) (a : Nat) (f : ByteArray → Option (List Nat)) : ByteArray → Option (List Nat) := (l.drop a).foldr undo1 f
theorem mayI_le {key : ByteArray} {n : Nat} (h : mayI key n = 0) : n ≤ 4096 ∧ mayI key 0 = 0 := by
 unfold mayI at *
 split at h
 ·cases h
 ·rename_i h1
  split at h
  ·cases h
  ·rename_i h2
   rw [if_neg h1, if_neg (by decide)]
   exact ⟨by omega, rfl⟩
theorem StoreG.ent {P : Program} {F L M : List HP} {n : Nat} {a : Value} {cs : List Value} {k : List HP → Prop} (hL : Ent L M) (h : StoreG P F n a cs M k) : StoreG P F n a cs L k := by
 obtain ⟨p, L', ha, hn, hw, hk⟩ := h
 exact ⟨p, L', ha, hn, fun w hs => hw w (hL w F hs), hk⟩
theorem Ent.last {L : List HP} {p : HP} : Ent (L ++ [p]) (p :: L) := Ent.perm (List.perm_append_comm (l₁ := L) (l₂ := [p]))
end Go.Sl
