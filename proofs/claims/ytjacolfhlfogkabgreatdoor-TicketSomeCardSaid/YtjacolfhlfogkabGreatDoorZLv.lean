import Derived.Test.YtjacolfhlfogkabGreatDoorZSp
namespace Go.Sl
open Go
structure TicketD where
 num : Int
 ent : Int
 snd : List Nat
 tok : Int
 to : List Nat
 amt : List Nat
structure TicketD.wf (t : TicketD) : Prop where
 snd : t.snd.length = 20
 to : t.to.length = 20
 amt : t.amt.length = 4
def TicketD.cells (t : TicketD) : List Value := .int .i64 t.num :: .int .i64 t.ent :: (bvs t.snd ++ (.int .i64 t.tok :: (bvs t.to ++ uvs t.amt)))
theorem TicketD.cells_len {t : TicketD} (h : t.wf) : t.cells.length = 47 := by simp [TicketD.cells, bvs_len, uvs_len, h.snd, h.to, h.amt]
theorem TicketD.cells_one (t : TicketD) : ∀ u ∈ t.cells, u.oneCell' = true := by
 intro u hu
 simp only [TicketD.cells, List.mem_cons, List.mem_append] at hu
 rcases hu with rfl | rfl | h | rfl | h | h
 ·rfl
 ·rfl
 ·exact bvs_one _ u h
 ·rfl
 ·exact bvs_one _ u h
 ·exact uvs_one _ u h
theorem take_drop_mid {A B C : List Value} {n : Nat} (h : A.length = n) : ((A ++ (B ++ C)).drop n).take B.length = B := by
 subst h
 rw [List.drop_left, List.take_left]
theorem TicketD.snd_at (t : TicketD) : (t.cells.drop 2).take (bvs t.snd).length = bvs t.snd := by simp [TicketD.cells]
theorem TicketD.tok_at {t : TicketD} (h : t.wf) : t.cells[22]? = some (.int .i64 t.tok) := by
 have h1 : (bvs t.snd).length = 20 := by rw [bvs_len, h.snd]
 show (bvs t.snd ++ (.int .i64 t.tok :: (bvs t.to ++ uvs t.amt)))[20]? = _
 rw [List.getElem?_append_right (by omega), h1]
 rfl
theorem TicketD.split1 (t : TicketD) : t.cells = (.int .i64 t.num :: .int .i64 t.ent :: (bvs t.snd ++ [.int .i64 t.tok])) ++ (bvs t.to ++ uvs t.amt) := by simp [TicketD.cells]
theorem TicketD.to_at {t : TicketD} (h : t.wf) : (t.cells.drop 23).take (bvs t.to).length = bvs t.to := by
 rw [t.split1]
 exact take_drop_mid (by simp [bvs_len, h.snd])
theorem TicketD.amt_at {t : TicketD} (h : t.wf) : (t.cells.drop 43).take (uvs t.amt).length = uvs t.amt := by
 have e : t.cells = (.int .i64 t.num :: .int .i64 t.ent :: (bvs t.snd ++ (.int .i64 t.tok :: bvs t.to))) ++ (uvs t.amt ++ []) := by simp [TicketD.cells]
 rw [e]
 exact take_drop_mid (by simp [bvs_len, h.snd, h.to])
def TicketD.may (t : TicketD) : Prop := (0 ≤ t.ent ∧ t.ent < 1099511627776) ∧ (0 ≤ t.tok ∧ t.tok < 64) ∧ t.amt ≠ List.replicate 4 0
instance (t : TicketD) : Decidable t.may := inferInstanceAs (Decidable (_ ∧ _))
def TicketD.value (t : TicketD) : List Nat := be t.ent.toNat 8 ++ t.snd ++ [t.tok.toNat] ++ t.to ++ wideB t.amt
theorem TicketD.value_len {t : TicketD} (h : t.wf) : t.value.length = 81 := by simp [TicketD.value, be_len, h.snd, h.to, wide_len]
def tkey (n : Nat) : ByteArray := strB [107] ++ strB (be n 8)
def numStep (a : Int) (c : Nat) : Int := IntKind.i64.wrap ((BitVec.ofInt 64 (IntKind.i64.wrap (a * 2 ^ (min (8 : Int).toNat 64))) ||| BitVec.ofInt 64 (IntKind.i64.wrap (c : Int))).toNat)
def numF (bs : List Nat) : Int := bs.foldl numStep 0
def wordStep (a : Int) (c : Nat) : Int := IntKind.u64.wrap ((BitVec.ofInt 64 (IntKind.u64.wrap (a * 2 ^ (min (8 : Int).toNat 64))) ||| BitVec.ofInt 64 (IntKind.u64.wrap (c : Int))).toNat)
def wordsStep (ws : List Int) (i : Nat) (c : Nat) : List Int := ws.set (3 - i / 8) (wordStep (ws.getD (3 - i / 8) 0) c)
def wordsF : List Nat → Nat → List Int → List Int
 | [], _, ws => ws
 | c :: bs, i, ws => wordsF bs (i + 1) (wordsStep ws i c)
def ivs (l : List Int) : List Value := l.map fun n => Value.int .u64 n
theorem wordsF_len (bs : List Nat) : ∀ (i : Nat) (ws : List Int), (wordsF bs i ws).length = ws.length := by
 induction bs with
 | nil => intro i ws; rfl
 | cons c bs ih => intro i ws; simp [wordsF, ih, wordsStep]
theorem wordsF_take (bs : List Nat) : ∀ (i k : Nat) (ws : List Int) (h : k < bs.length), wordsF (bs.take (k + 1)) i ws = wordsStep (wordsF (bs.take k) i ws) (i + k) bs[k] := by
 induction bs with
 | nil => intro i k ws h; simp at h
 | cons c bs ih =>
  intro i k ws h
  cases k with
  | zero => simp [wordsF]
  | succ k =>
   simp only [List.take_succ_cons, wordsF, List.getElem_cons_succ]
   rw [ih (i + 1) k _ (by simpa using h)]
   congr 1
   omega
theorem numF_take (bs : List Nat) (k : Nat) (h : k < bs.length) : numF (bs.take (k + 1)) = numStep (numF (bs.take k)) bs[k] := by
 simp only [numF, List.take_succ_eq_append_getElem h, List.foldl_append, List.foldl_cons, List.foldl_nil]
theorem wide_take (ws : List Nat) (i : Nat) (h : i < 32) : (wideB ws).take (i + 1) = (wideB ws).take i ++ [ws.getD (3 - i / 8) 0 / 256 ^ (7 - i % 8) % 256] := by
 rw [List.take_succ_eq_append_getElem (by rw [wide_len]; exact h)]
 simp [wideB]
theorem LoadNG.atG {F L : List HP} {n b o : Nat} {vs : List Value} {k : Value → Prop} (hn : vs.length = n) (h : CelN (L ++ F) b o vs) (hk : k (.agg ⟨vs⟩)) : LoadNG F n (.pointer (some ⟨b, o, none⟩)) L k :=
 ⟨_, vs, rfl, hn, fun w hs j u hj => by rw [add_none]; exact h w hs j u hj, hk⟩
theorem LoadG.atG {F L : List HP} {b o : Nat} {v : Value} {k : Value → Prop} (h : Cel (L ++ F) b o v) (hk : k v) : LoadG F (.pointer (some ⟨b, o, none⟩)) L k := ⟨_, v, rfl, h, hk⟩
theorem splice {A B B' C : List Value} {o n : Nat} (ho : A.length = o) (hn : B.length = n) : (A ++ (B ++ C)).take o ++ B' ++ (A ++ (B ++ C)).drop (o + n) = A ++ (B' ++ C) := by
 subst ho; subst hn
 rw [List.take_left, ← List.drop_drop, List.drop_left, List.drop_left, List.append_assoc]
def zeroT' : TicketD := ⟨0, 0, List.replicate 20 0, 0, List.replicate 20 0, List.replicate 4 0⟩
theorem TicketD.set_snd {t : TicketD} (h : t.wf) {l : List Nat} (hl : l.length = 20) : t.cells.take 2 ++ bvs l ++ t.cells.drop (2 + (bvs l).length) = { t with snd := l }.cells := by
 have e : t.cells = [.int .i64 t.num, .int .i64 t.ent] ++ (bvs t.snd ++ (.int .i64 t.tok :: (bvs t.to ++ uvs t.amt))) := rfl
 rw [e]
 exact splice (A := [.int .i64 t.num, .int .i64 t.ent]) rfl (by rw [bvs_len, bvs_len, h.snd, hl])
theorem TicketD.set_to {t : TicketD} (h : t.wf) {l : List Nat} (hl : l.length = 20) : t.cells.take 23 ++ bvs l ++ t.cells.drop (23 + (bvs l).length) = { t with to := l }.cells := by
 have e : ∀ t : TicketD, t.cells = (.int .i64 t.num :: .int .i64 t.ent :: (bvs t.snd ++ [.int .i64 t.tok])) ++ (bvs t.to ++ uvs t.amt) := fun t => t.split1
 rw [e t, e { t with to := l }]
 exact splice (by simp [bvs_len, h.snd]) (by rw [bvs_len, bvs_len, h.to, hl])
theorem TicketD.set_amt {t : TicketD} (h : t.wf) {l : List Nat} (hl : l.length = 4) : t.cells.take 43 ++ uvs l ++ t.cells.drop (43 + (uvs l).length) = { t with amt := l }.cells := by
 have e : ∀ t : TicketD, t.cells = (.int .i64 t.num :: .int .i64 t.ent :: (bvs t.snd ++ (.int .i64 t.tok :: bvs t.to))) ++ (uvs t.amt ++ []) := fun t => by simp [TicketD.cells]
 rw [e t, e { t with amt := l }]
 exact splice (by simp [bvs_len, h.snd, h.to]) (by rw [uvs_len, uvs_len, h.amt, hl])
theorem TicketD.set_tok {t : TicketD} (h : t.wf) {k : Int} : t.cells.set 22 (.int .i64 k) = { t with tok := k }.cells := by
 have hb : (bvs t.snd).length = 20 := by rw [bvs_len, h.snd]
 simp only [TicketD.cells, List.set_cons_succ, List.cons.injEq, true_and]
 rw [List.set_append_right _ _ (by omega), hb]
 rfl
theorem wordStep_nn (a : Int) (c : Nat) : 0 ≤ wordStep a c := by
 show (0 : Int) ≤ _ % (2 ^ 64 : Int)
 exact Int.emod_nonneg _ (by decide)
theorem wordsF_nn (bs : List Nat) : ∀ (i : Nat) (ws : List Int), (∀ z ∈ ws, 0 ≤ z) → ∀ z ∈ wordsF bs i ws, 0 ≤ z := by
 induction bs with
 | nil => intro i ws h; exact h
 | cons c bs ih =>
  intro i ws h
  refine ih _ _ fun z hz => ?_
  rcases List.mem_or_eq_of_mem_set hz with h1 | h1
  ·exact h z h1
  ·rw [h1]; exact wordStep_nn _ _
def wordsN (bs : List Nat) : List Nat := (wordsF bs 0 [0, 0, 0, 0]).map Int.toNat
theorem wordsN_len (bs : List Nat) : (wordsN bs).length = 4 := by simp [wordsN, wordsF_len]
theorem ivs_words (bs : List Nat) : ivs (wordsF bs 0 [0, 0, 0, 0]) = uvs (wordsN bs) := by
 have h := wordsF_nn bs 0 [0, 0, 0, 0] (by decide)
 simp only [ivs, uvs, wordsN, List.map_map]
 apply List.map_congr_left
 intro z hz
 simp only [Function.comp, uv]
 rw [Int.toNat_of_nonneg (h z hz)]
def tkOf (n : Int) (bs : List Nat) : TicketD := ⟨n, numF (bs.take 8), (bs.drop 8).take 20, numF ((bs.drop 28).take 1), (bs.drop 29).take 20, wordsN ((bs.drop 49).take 32)⟩
theorem tkOf_wf {n : Int} {bs : List Nat} (h : bs.length = 81) : (tkOf n bs).wf := ⟨by simp [tkOf, h], by simp [tkOf, h], wordsN_len _⟩
end Go.Sl
namespace Go.Sl
open Go
def lv (find : ByteArray → List Nat × Int) (c : StC) (k : ByteArray) : List Nat := match getK c.now k with
 | some p => p.2
 | none => match getK c.has k with
  | some p => p.2
  | none => (find k).1
/-! Steps taken back -/
def StC.nowF (c : StC) (k : ByteArray) : Option (List Nat) := (getK c.now k).map (·.2)
def undo1 (x : StepC) (f : ByteArray → Option (List Nat)) : ByteArray → Option (List Nat) := fun k => if k = x.key then (if x.laid = true then some x.bs else none) else f k
def undoTo (l : List StepC) (a : Nat) (f : ByteArray → Option (List Nat)) : ByteArray → Option (List Nat) := (l.drop a).foldr undo1 f
def hasF (find : ByteArray → List Nat × Int) (c : StC) (k : ByteArray) : List Nat := match getK c.has k with
 | some p => p.2
 | none => (find k).1
def rb (find : ByteArray → List Nat × Int) (c : StC) (a : Nat) (k : ByteArray) : List Nat := (undoTo c.steps a c.nowF k).getD (hasF find c k)
theorem lv_eq (find : ByteArray → List Nat × Int) (c : StC) (k : ByteArray) : lv find c k = (c.nowF k).getD (hasF find c k) := by
 unfold lv StC.nowF
 cases getK c.now k <;> rfl
theorem rb_end (find : ByteArray → List Nat × Int) (c : StC) (k : ByteArray) : rb find c c.steps.length k = lv find c k := by
 rw [lv_eq]
 simp [rb, undoTo]
structure Same (find : ByteArray → List Nat × Int) (c c' : StC) : Prop where
 lv : ∀ k, lv find c' k = lv find c k
 wf : c'.wf
 steps : c'.steps.length = c.steps.length
 marks : c'.marks = c.marks
 rb : ∀ a, a ≤ c.steps.length → ∀ k, rb find c' a k = rb find c a k
theorem Same.trans {find : ByteArray → List Nat × Int} {a b c : StC} (h : Same find a b) (k : Same find b c) : Same find a c :=
 ⟨fun x => (k.lv x).trans (h.lv x), k.wf, k.steps.trans h.steps, k.marks.trans h.marks, fun i hi x => (k.rb i (by rw [h.steps]; exact hi) x).trans (h.rb i hi x)⟩
theorem AskOk.hasF {find : ByteArray → List Nat × Int} {c c' : StC} {key : ByteArray} (h : AskOk find c key c') (k : ByteArray) : hasF find c' k = hasF find c k := by
 rcases h.out with ⟨_, rfl⟩ | ⟨h1, x, hx, hl, rfl⟩
 ·rfl
 ·simp only [Go.Sl.hasF, getK_put]
  by_cases hk : k = key
  ·subst hk; simp [h1]
  ·simp [hk]
theorem AskOk.same {find : ByteArray → List Nat × Int} {c c' : StC} {key : ByteArray} (h : AskOk find c key c') (hw : c.wf) : Same find c c' := by
 have hv := h.val
 have hn : c'.nowF = c.nowF := by unfold StC.nowF; rw [hv.1]
 refine ⟨fun k => ?_, h.wf hw, by rw [hv.2.1], hv.2.2.2, fun a _ k => ?_⟩
 ·rw [lv_eq, lv_eq, h.hasF, hn]
 ·unfold Go.Sl.rb
  rw [hv.2.1, hn, h.hasF]
theorem mayI_le {key : ByteArray} {n : Nat} (h : mayI key n = 0) : n ≤ 4096 ∧ mayI key 0 = 0 := by
 unfold mayI at *
 split at h
 ·cases h
 ·rename_i h1
  split at h
  ·cases h
  ·rename_i h2
   rw [if_neg h1, if_neg (by decide)]
   exact ⟨by omega, rfl⟩
theorem mayI_ok {key : ByteArray} {n : Nat} (h1 : 0 < key.size) (h2 : key.size ≤ 128) (h3 : n ≤ 4096) : mayI key n = 0 := by
 unfold mayI
 rw [if_neg (by omega), if_neg (by omega)]
structure SrcOk (find : ByteArray → List Nat × Int) : Prop where
 ok : ∀ k, mayI k 0 = 0 → (find k).2 = 0
 len : ∀ k, (find k).1.length ≤ 4096
theorem SrcOk.ask {find : ByteArray → List Nat × Int} (h : SrcOk find) {c : StC} {key : ByteArray} (hk : mayI key 0 = 0) : askE find c key = 0 := by
 unfold askE
 split
 ·rfl
 ·rw [h.ok key hk]
  have := h.len key
  simp
  omega
theorem tkey_size (n : Nat) : (tkey n).size = 9 := by
 simp [tkey, ByteArray.size_append, strB_size, be_len]
def ntK : ByteArray := ⟨#[110, 116]⟩
def madeR (bs : List Nat) : Int × Int := if bs = [] then (0, 0) else if bs.length ≠ 8 ∨ numF bs < 1 ∨ 1099511627776 < numF bs then (0, 75) else (numF bs, 0)
def findR (n : Int) (bs : List Nat) : TicketD × Int := if bs = [] then (zeroT', 90) else if bs.length = 81 ∧ (tkOf n bs).may then (tkOf n bs, 0) else (zeroT', 75)
theorem findR_wf (n : Int) (bs : List Nat) : (findR n bs).1.wf := by
 unfold findR
 split
 ·exact ⟨rfl, rfl, rfl⟩
 ·split
  ·rename_i h; exact tkOf_wf h.1
  ·exact ⟨rfl, rfl, rfl⟩
def tickK : List LK := .int .i64 :: .int .i64 :: (List.replicate 20 (.int .u8) ++ (.int .i64 :: (List.replicate 20 (.int .u8) ++ List.replicate 4 (.int .u64))))
theorem TicketD.wt {t : TicketD} (h : t.wf) : Go.Sl.wt tickK t.cells := ⟨rfl, rfl, wt_join (wt_bvs h.snd) (show Go.Sl.wt (_ :: _) (_ :: _) from ⟨rfl, wt_join (wt_bvs h.to) (wt_uvs h.amt)⟩)⟩
theorem StoreG.ent {P : Program} {F L M : List HP} {n : Nat} {a : Value} {cs : List Value} {k : List HP → Prop} (hL : Ent L M) (h : StoreG P F n a cs M k) : StoreG P F n a cs L k := by
 obtain ⟨p, L', ha, hn, hw, hk⟩ := h
 exact ⟨p, L', ha, hn, fun w hs => hw w (hL w F hs), hk⟩
theorem LoadNG.ent {F L M : List HP} {n : Nat} {a : Value} {k : Value → Prop} (hL : Ent L M) (h : LoadNG F n a M k) : LoadNG F n a L k := by
 obtain ⟨q, vs, ha, hn, hv, hk⟩ := h
 exact ⟨q, vs, ha, hn, fun w hs => hv w (hL w F hs), hk⟩
end Go.Sl
