/-
  TicketKeeps' plain part: tickets and the ledger together, in exact numbers. A library of this session's own.
-/
import Derived.Test.YtnbcbdlbejdkpaaDoorZSu
import Derived.Test.YtnbcbdlbejdkpaaDoorZCk
namespace Go.Sl
open Go
/-! Numbers by eight bytes, there and back -/
theorem numStep_nat (a c : Nat) (ha : a < 18014398509481984) (hc : c < 256) : numStep (a : Int) c = ((256 * a + c : Nat) : Int) := by
  have e1 : (a : Int) * 2 ^ (min (8 : Int).toNat 64) = ((256 * a : Nat) : Int) := by
    show (a : Int) * 2 ^ 8 = _
    omega
  have e2 : IntKind.i64.wrap ((256 * a : Nat) : Int) = ((256 * a : Nat) : Int) := i64_wrap (by omega) (by omega)
  have e3 : IntKind.i64.wrap (c : Int) = (c : Int) := i64_wrap (by omega) (by omega)
  unfold numStep
  rw [e1, e2, e3, BitVec.toNat_or, BitVec.ofInt_natCast, BitVec.ofInt_natCast, BitVec.toNat_ofNat, BitVec.toNat_ofNat, Nat.mod_eq_of_lt (by omega), Nat.mod_eq_of_lt (by omega), or_low a c hc]
  exact i64_wrap (by omega) (by omega)
theorem numF_fold (w : Nat) : ∀ (k : Nat) (a : Nat), a * 256 ^ k + w % 256 ^ k < 4611686018427387904 → (be w k).foldl numStep (a : Int) = ((a * 256 ^ k + w % 256 ^ k : Nat) : Int)
  | 0, a, _ => by simp [be, Nat.mod_one]
  | k + 1, a, h => by
    have hp : 0 < 256 ^ k := Nat.pow_pos (by decide)
    have h1 : a * 256 ≤ a * 256 ^ (k + 1) := Nat.mul_le_mul_left _ (by rw [Nat.pow_succ]; omega)
    have e : w % 256 ^ (k + 1) = w % 256 ^ k + 256 ^ k * (w / 256 ^ k % 256) := by rw [Nat.pow_succ, Nat.mod_mul]
    have e2 : (256 * a + w / 256 ^ k % 256) * 256 ^ k = a * 256 ^ (k + 1) + 256 ^ k * (w / 256 ^ k % 256) := by rw [Nat.add_mul, Nat.pow_succ, Nat.mul_comm (w / 256 ^ k % 256)]; congr 1; ac_rfl
    rw [be, List.foldl_cons, numStep_nat a _ (by omega) (Nat.mod_lt _ (by decide)), numF_fold w k _ (by rw [e2]; omega), e2, e]
    congr 1
    omega
theorem numF_be {n : Nat} (h : n < 4611686018427387904) : numF (be n 8) = (n : Int) := by
  have e : n % 256 ^ 8 = n := Nat.mod_eq_of_lt (Nat.lt_of_lt_of_le h (by decide))
  have := numF_fold n 8 0 (by rw [e]; omega)
  rw [e, Nat.zero_mul, Nat.zero_add] at this
  exact this
theorem numF_one {n : Nat} (h : n < 256) : numF [n] = (n : Int) := by
  show numStep ((0 : Nat) : Int) n = _
  rw [numStep_nat 0 n (by decide) h]
  simp
theorem madeR_nil : madeR [] = (0, 0) := rfl
theorem madeR_be {n : Nat} (h1 : 1 ≤ n) (h2 : n ≤ 1099511627776) : madeR (be n 8) = ((n : Int), 0) := by
  unfold madeR
  rw [if_neg (fun h => by have := congrArg List.length h; rw [be_len] at this; cases this), numF_be (by omega), if_neg (by rw [be_len]; omega)]
theorem findR_nil (n : Int) : findR n [] = (zeroT', 90) := rfl
theorem tick_ext' : ∀ {a b : TicketD}, a.num = b.num → a.ent = b.ent → a.snd = b.snd → a.tok = b.tok → a.to = b.to → a.amt = b.amt → a = b
  | ⟨_, _, _, _, _, _⟩, ⟨_, _, _, _, _, _⟩, rfl, rfl, rfl, rfl, rfl, rfl => rfl
theorem tkOf_value {t : TicketD} (hw : t.wf) (hm : t.may) (ha : wOk t.amt) {n : Int} (hn : t.num = n) : tkOf n t.value = t := by
  obtain ⟨⟨e1, e2⟩, ⟨k1, k2⟩, _⟩ := hm
  have h1 : (be t.ent.toNat 8).length = 8 := be_len _ _
  have hs := hw.snd
  have ht := hw.to
  have hv : t.value = be t.ent.toNat 8 ++ (t.snd ++ ([t.tok.toNat] ++ (t.to ++ wideB t.amt))) := by simp [TicketD.value]
  have d8 : t.value.drop 8 = t.snd ++ ([t.tok.toNat] ++ (t.to ++ wideB t.amt)) := by rw [hv, List.drop_left' h1]
  have d28 : t.value.drop 28 = [t.tok.toNat] ++ (t.to ++ wideB t.amt) := by rw [show 28 = 8 + 20 from rfl, ← List.drop_drop, d8, List.drop_left' hs]
  have d29 : t.value.drop 29 = t.to ++ wideB t.amt := by rw [show 29 = 28 + 1 from rfl, ← List.drop_drop, d28]; rfl
  have d49 : t.value.drop 49 = wideB t.amt := by rw [show 49 = 29 + 20 from rfl, ← List.drop_drop, d29, List.drop_left' ht]
  refine tick_ext' hn.symm ?_ ?_ ?_ ?_ ?_
  · show numF (t.value.take 8) = _
    rw [hv, List.take_left' h1, numF_be (by omega)]
    omega
  · show (t.value.drop 8).take 20 = _
    rw [d8, List.take_left' hs]
  · show numF ((t.value.drop 28).take 1) = _
    rw [d28, show List.take 1 ([t.tok.toNat] ++ (t.to ++ wideB t.amt)) = [t.tok.toNat] from rfl, numF_one (by omega)]
    omega
  · show (t.value.drop 29).take 20 = _
    rw [d29, List.take_left' ht]
  · show wordsN ((t.value.drop 49).take 32) = _
    rw [d49, List.take_of_length_le (by rw [wide_len]; exact Nat.le_refl _), words_wide ha]
theorem findR_value {t : TicketD} (hw : t.wf) (hm : t.may) (ha : wOk t.amt) {n : Int} (hn : t.num = n) : findR n t.value = (t, 0) := by
  have hl := TicketD.value_len hw
  unfold findR
  rw [if_neg (fun h => by rw [h] at hl; cases hl), tkOf_value hw hm ha hn, if_pos ⟨hl, hm⟩]
/-! Keys of tickets are no keys of the ledger -/
def headB (k : ByteArray) : Option UInt8 := k.data.toList.head?
theorem headB_strB (a : Nat) (l : List Nat) : headB (strB (a :: l)) = some (UInt8.ofNat a) := by simp [headB, strB]
theorem headB_tkey (n : Nat) : headB (tkey n) = some 107 := by simp [headB, tkey, strB]
theorem headB_nt : headB ntK = some 110 := rfl
def notK (k : ByteArray) : Prop := (∀ t, k ≠ tokKey t) ∧ (∀ t a, k ≠ balKey t a) ∧ (∀ t o s, k ≠ allKey t o s)
theorem notK_tkey (n : Nat) : notK (tkey n) := by
  refine ⟨fun t e => ?_, fun t a e => ?_, fun t o s e => ?_⟩ <;> (have := congrArg headB e; rw [headB_tkey] at this)
  · rw [tokKey, headB_strB] at this; exact absurd this (by decide)
  · rw [balKey, headB_strB] at this; exact absurd this (by decide)
  · rw [allKey, headB_strB] at this; exact absurd this (by decide)
theorem notK_nt : notK ntK := by
  refine ⟨fun t e => ?_, fun t a e => ?_, fun t o s e => ?_⟩ <;> (have := congrArg headB e; rw [headB_nt] at this)
  · rw [tokKey, headB_strB] at this; exact absurd this (by decide)
  · rw [balKey, headB_strB] at this; exact absurd this (by decide)
  · rw [allKey, headB_strB] at this; exact absurd this (by decide)
theorem tkey_nt (n : Nat) : tkey n ≠ ntK := fun e => by
  have := congrArg headB e
  rw [headB_tkey, headB_nt] at this
  exact absurd this (by decide)
theorem strB_app (a b : List Nat) : strB a ++ strB b = strB (a ++ b) := by
  apply ByteArray.ext
  simp [strB, ByteArray.data_append]
theorem tkey_eq (n : Nat) : tkey n = strB (107 :: be n 8) := by rw [tkey, strB_app]; rfl
theorem tkey_inj {a b : Nat} (ha : a < m64) (hb : b < m64) (h : tkey a = tkey b) : a = b := by
  rw [tkey_eq, tkey_eq] at h
  have hx : ∀ n, ∀ x ∈ 107 :: be n 8, x < 256 := fun n x hx => by
    rcases List.mem_cons.1 hx with rfl | hx
    · decide
    · exact be_lt n 8 x hx
  exact be_inj ha hb (List.cons.inj (strB_inj (hx a) (hx b) h)).2
section
variable {V : View} {k : ByteArray}
theorem layTok_keep (h : notK k) (t : Nat) (d : TokD) : (layTok V t d) k = V k := by
  show (if k = tokKey t then _ else V k) = _
  rw [if_neg (h.1 t)]
theorem layA_keep (h : notK k) (t : Nat) (a w : List Nat) : (layA V (balKey t a) w) k = V k := by
  show (if k = balKey t a then _ else V k) = _
  rw [if_neg (h.2.1 t a)]
theorem registerL_keep (h : notK k) (t : Int) : (registerL V t).2 k = V k := by unfold registerL; (repeat' split) <;> first | rfl | exact layTok_keep h _ _
theorem pauseL_keep (h : notK k) (t : Int) : (pauseL V t).2 k = V k := by unfold pauseL; (repeat' split) <;> first | rfl | exact layTok_keep h _ _
theorem resumeL_keep (h : notK k) (t : Int) : (resumeL V t).2 k = V k := by unfold resumeL; (repeat' split) <;> first | rfl | exact layTok_keep h _ _
theorem mintL_keep (h : notK k) (t : Int) (a w : List Nat) : (mintL V t a w).2 k = V k := by unfold mintL; (repeat' split) <;> first | rfl | exact (layA_keep h _ _ _).trans (layTok_keep h _ _)
theorem burnL_keep (h : notK k) (t : Int) (a w : List Nat) : (burnL V t a w).2 k = V k := by unfold burnL; (repeat' split) <;> first | rfl | exact (layA_keep h _ _ _).trans (layTok_keep h _ _)
theorem Led.other {m : Md} (h : Led V m) (hk : notK k) (bs : List Nat) : Led (upd V k bs) m where
  tok t ht := by
    show (if tokKey t = k then _ else _) = _
    rw [if_neg (fun e => hk.1 t e.symm)]
    exact h.tok t ht
  bal t a ht ha := by
    show (if balKey t a = k then _ else _) = _
    rw [if_neg (fun e => hk.2.1 t a e.symm)]
    exact h.bal t a ht ha
  all t o s ht ho hs := by
    show (if allKey t o s = k then _ else _) = _
    rw [if_neg (fun e => hk.2.2 t o s e.symm)]
    exact h.all t o s ht ho hs
  supLt := h.supLt
  balLt := h.balLt
  allLt := h.allLt
  non := h.non
end
/-! Supplies -/
section
variable {m : Md} {W : List (List Nat)}
theorem sup_setT (m : Md) (u : Nat) (x : TokN) (t : Nat) (h : x.sup = (m.T u).sup) : ((m.setT u x).T t).sup = (m.T t).sup := by
  show (if t = u then x else m.T t).sup = _
  split
  · rename_i e; rw [e, h]
  · rfl
theorem register_sup (h : InvM W m) (u : Int) (t : Nat) : ((registerM m u).2.T t).sup = (m.T t).sup := by
  unfold registerM
  split
  · rfl
  · rename_i h1
    have h1 := Classical.not_not.1 h1
    obtain ⟨k, rfl, hk⟩ := tokenM_nat h1
    have e : (tokenM m k).1 = m.T k := by unfold tokenM at h1 ⊢; split at h1 <;> rename_i h2; exact absurd h1 h2; rw [if_neg h2, Int.toNat_natCast]
    split
    · rfl
    · rename_i h2
      rw [e] at h2
      refine sup_setT m _ _ t ?_
      rw [Int.toNat_natCast, h.non k hk (by simpa using h2)]
theorem pause_sup (u : Int) (t : Nat) : ((pauseM m u).2.T t).sup = (m.T t).sup := by
  unfold pauseM
  split
  · rfl
  · rename_i h1
    have h1 := Classical.not_not.1 h1
    obtain ⟨k, rfl, hk⟩ := runM_nat h1
    refine sup_setT m _ _ t ?_
    rw [Int.toNat_natCast, (runM_T hk h1).1]
theorem resume_sup (u : Int) (t : Nat) : ((resumeM m u).2.T t).sup = (m.T t).sup := by
  unfold resumeM
  split
  · rfl
  · rename_i h1
    have h1 := Classical.not_not.1 h1
    obtain ⟨k, rfl, hk⟩ := thereM_nat h1
    split
    · rfl
    · refine sup_setT m _ _ t ?_
      rw [Int.toNat_natCast, (thereM_T hk h1).1]
theorem mint_sup {k : Nat} (hk : k < 64) (a : List Nat) (n : Nat) (t : Nat) : ((mintM m k a n).1 ≠ 0 → (mintM m k a n).2 = m) ∧ ((mintM m k a n).1 = 0 → ((mintM m k a n).2.T t).sup = (m.T t).sup + if t = k then n else 0) := by
  unfold mintM
  split
  · rename_i h; exact ⟨fun _ => rfl, fun h2 => absurd h2 h⟩
  rename_i h1
  have h1 := Classical.not_not.1 h1
  split
  · exact ⟨fun _ => rfl, fun h2 => absurd h2 (show ¬(87 : Int) = 0 by decide)⟩
  split
  · exact ⟨fun _ => rfl, fun h2 => absurd h2 (show ¬(75 : Int) = 0 by decide)⟩
  split
  · rename_i h; exact ⟨fun h => absurd rfl h, fun _ => by rw [h]; simp⟩
  · refine ⟨fun h => absurd rfl h, fun _ => ?_⟩
    show (if t = (k : Int).toNat then (⟨true, (runM m k).1.paused, (runM m k).1.sup + n⟩ : TokN) else m.T t).sup = _
    rw [Int.toNat_natCast]
    by_cases e : t = k
    · rw [if_pos e, if_pos e, (runM_T hk h1).1, e]
    · rw [if_neg e, if_neg e, Nat.add_zero]
theorem burn_sup {k : Nat} (hk : k < 64) (a : List Nat) (n : Nat) (t : Nat) : ((burnM m k a n).1 ≠ 0 → (burnM m k a n).2 = m) ∧ ((burnM m k a n).1 = 0 → ((burnM m k a n).2.T t).sup + (if t = k then n else 0) = (m.T t).sup) := by
  unfold burnM
  split
  · rename_i h; exact ⟨fun _ => rfl, fun h2 => absurd h2 h⟩
  rename_i h1
  have h1 := Classical.not_not.1 h1
  split
  · exact ⟨fun _ => rfl, fun h2 => absurd h2 (show ¬(85 : Int) = 0 by decide)⟩
  split
  · exact ⟨fun _ => rfl, fun h2 => absurd h2 (show ¬(75 : Int) = 0 by decide)⟩
  rename_i h3
  split
  · rename_i h; exact ⟨fun h => absurd rfl h, fun _ => by rw [h]; simp⟩
  · refine ⟨fun h => absurd rfl h, fun _ => ?_⟩
    show (if t = (k : Int).toNat then (⟨true, (runM m k).1.paused, (runM m k).1.sup - n⟩ : TokN) else m.T t).sup + _ = _
    rw [Int.toNat_natCast]
    rw [(runM_T hk h1).1] at h3 ⊢
    by_cases e : t = k
    · rw [if_pos e, if_pos e, e]
      show (m.T k).sup - n + n = _
      omega
    · rw [if_neg e, if_neg e, Nat.add_zero]
theorem mint_code (h : InvM W m) {k : Nat} (hk : k < 64) {a : List Nat} (ha : a ∈ W) (n : Nat) : (mintM m k a n).1 = 0 ∨ (mintM m k a n).1 = 81 ∨ (mintM m k a n).1 = 83 ∨ (mintM m k a n).1 = 87 := by
  have hr : (runM m (k : Int)).2 = 0 ∨ (runM m (k : Int)).2 = 81 ∨ (runM m (k : Int)).2 = 83 := by
    have hb : begE (k : Int) = 0 := by unfold begE; rw [if_neg (by omega)]
    have e : tokenM m (k : Int) = (m.T k, 0) := by unfold tokenM; rw [if_neg (by rw [hb]; decide), Int.toNat_natCast]
    unfold runM thereM
    rw [e]
    (repeat' split) <;> simp_all
  unfold mintM
  split
  · rcases hr with h | h | h
    · rename_i h2; exact absurd h h2
    · exact .inr (.inl h)
    · exact .inr (.inr (.inl h))
  rename_i h1
  have h1 := Classical.not_not.1 h1
  split
  · exact .inr (.inr (.inr rfl))
  rename_i h2
  split
  · rename_i h3
    exfalso
    rw [(runM_T hk h1).1] at h2
    rw [Int.toNat_natCast] at h3
    have := bal_le_tot (m := m) (t := k) ha
    rw [h.sum k hk] at this
    omega
  split <;> exact .inl rfl
end
/-! Open tickets -/
def openAmt (t : Nat) : List TicketD → List Bool → Nat
  | d :: op, c :: cl => (if c = false ∧ d.tok = (t : Int) then nat4 d.amt else 0) + openAmt t op cl
  | _, _ => 0
theorem openAmt_snoc (t : Nat) (d : TicketD) (b : Bool) : ∀ {op : List TicketD} {cl : List Bool}, cl.length = op.length → openAmt t (op ++ [d]) (cl ++ [b]) = openAmt t op cl + if b = false ∧ d.tok = (t : Int) then nat4 d.amt else 0
  | [], [], _ => by simp [openAmt]
  | [], _ :: _, h => by cases h
  | _ :: _, [], h => by cases h
  | e :: op, c :: cl, h => by
    have := openAmt_snoc t d b (op := op) (cl := cl) (by simpa using h)
    simp only [List.cons_append, openAmt, this]
    omega
theorem openAmt_close (t : Nat) : ∀ {op : List TicketD} {cl : List Bool} (i : Nat) (d : TicketD), op[i]? = some d → cl[i]? = some false → openAmt t op (cl.set i true) + (if d.tok = (t : Int) then nat4 d.amt else 0) = openAmt t op cl
  | [], _, i, d, h, _ => by simp at h
  | _ :: _, [], i, d, _, h => by simp at h
  | e :: op, c :: cl, 0, d, h, h2 => by
    simp at h h2
    subst h
    subst h2
    simp [openAmt]
    omega
  | e :: op, c :: cl, i + 1, d, h, h2 => by
    have := openAmt_close t (op := op) (cl := cl) i d (by simpa using h) (by simpa using h2)
    simp only [List.set_cons_succ, openAmt]
    omega
theorem openAmt_le (t : Nat) : ∀ (op : List TicketD) (cl : List Bool), (∀ d ∈ op, wOk d.amt) → openAmt t op cl ≤ op.length * m256
  | [], _, _ => by simp [openAmt]
  | _ :: _, [], _ => by simp [openAmt]
  | e :: op, c :: cl, h => by
    have h1 := openAmt_le t op cl fun d hd => h d (List.mem_cons_of_mem _ hd)
    have h2 := nat4_lt (h e List.mem_cons_self)
    simp only [openAmt, List.length_cons, Nat.succ_mul]
    split <;> omega
structure GoodT (W : List (List Nat)) (d : TicketD) : Prop where
  wf : d.wf
  snd : adr d.snd
  to : adr d.to
  mem : d.to ∈ W
  amt : wOk d.amt
  may : d.may
  tok : d.tok < 3
structure KeepI (W : List (List Nat)) (V : View) (m : Md) (op : List TicketD) (cl : List Bool) (all : Nat → Nat) : Prop where
  led : Led V m
  inv : InvM W m
  len : cl.length = op.length
  tick : ∀ (i : Nat) (d : TicketD) (c : Bool), op[i]? = some d → cl[i]? = some c → V (tkey (i + 1)) = if c = true then [] else d.value
  none : ∀ n, op.length < n → n ≤ 1099511627776 → V (tkey n) = []
  made : V ntK = if op.length = 0 then [] else be op.length 8
  good : ∀ (i : Nat) (d : TicketD), op[i]? = some d → GoodT W d ∧ d.num = ((i + 1 : Nat) : Int)
  sums : ∀ t, t < 3 → all t = (m.T t).sup + openAmt t op cl
section
variable {W : List (List Nat)} {V : View} {m : Md} {op : List TicketD} {cl : List Bool} {all : Nat → Nat}
def addAt (all : Nat → Nat) (k n : Nat) : Nat → Nat := fun t => if t = k then all t + n else all t
def subAt (all : Nat → Nat) (k n : Nat) : Nat → Nat := fun t => if t = k then all t - n else all t
theorem KeepI.ledger (h : KeepI W V m op cl all) {U : View} {n : Md} {al : Nat → Nat} (hl : Led U n) (hi : InvM W n) (hk : ∀ k, notK k → U k = V k) (hs : ∀ t, t < 3 → al t = (n.T t).sup + openAmt t op cl) : KeepI W U n op cl al :=
  ⟨hl, hi, h.len, fun i d c hd hc => (hk _ (notK_tkey _)).trans (h.tick i d c hd hc), fun n h1 h2 => (hk _ (notK_tkey _)).trans (h.none n h1 h2), (hk _ notK_nt).trans h.made, h.good, hs⟩
theorem KeepI.opened (h : KeepI W V m op cl all) (hn : op.length < 1099511627776) {d : TicketD} (hd : GoodT W d) (hnum : d.num = ((op.length + 1 : Nat) : Int)) {k : Nat} (hk : d.tok = (k : Int)) :
    KeepI W (upd (upd V (tkey (op.length + 1)) d.value) ntK (be (op.length + 1) 8)) m (op ++ [d]) (cl ++ [false]) (addAt all k (nat4 d.amt)) := by
  have hne : ∀ n, (upd (upd V (tkey (op.length + 1)) d.value) ntK (be (op.length + 1) 8)) (tkey n) = if tkey n = tkey (op.length + 1) then d.value else V (tkey n) := fun n => by
    show (if tkey n = ntK then be (op.length + 1) 8 else if tkey n = tkey (op.length + 1) then d.value else V (tkey n)) = _
    rw [if_neg (tkey_nt n)]
  have hin : ∀ n, n < m64 → n ≠ op.length + 1 → tkey n ≠ tkey (op.length + 1) := fun n h1 h2 e => h2 (tkey_inj h1 (by simp only [m64]; omega) e)
  refine ⟨(h.led.other (notK_tkey _) _).other notK_nt _, h.inv, by simp [h.len], fun i e c he hc => ?_, fun n h1 h2 => ?_, ?_, fun i e he => ?_, fun t ht => ?_⟩
  · rw [hne]
    rcases Nat.lt_trichotomy i op.length with hi | rfl | hi
    · rw [if_neg (hin _ (by simp only [m64]; omega) (by omega))]
      rw [List.getElem?_append_left hi] at he
      rw [List.getElem?_append_left (by rw [h.len]; exact hi)] at hc
      exact h.tick i e c he hc
    · rw [if_pos rfl]
      rw [List.getElem?_append_right (Nat.le_refl _), Nat.sub_self] at he
      rw [List.getElem?_append_right (by rw [h.len]; exact Nat.le_refl _), h.len, Nat.sub_self] at hc
      simp at he hc
      rw [← he, hc]
      simp
    · have := (List.getElem?_eq_some_iff.1 he).1
      simp at this
      omega
  · rw [List.length_append, List.length_singleton] at h1
    rw [hne, if_neg (hin _ (by simp only [m64]; omega) (by omega))]
    exact h.none n (by omega) h2
  · show (if ntK = ntK then be (op.length + 1) 8 else if ntK = tkey (op.length + 1) then d.value else V ntK) = _
    rw [if_pos rfl, List.length_append, List.length_singleton, if_neg (by omega)]
  · rcases Nat.lt_or_ge i op.length with hi | hi
    · rw [List.getElem?_append_left hi] at he
      exact h.good i e he
    · rw [List.getElem?_append_right hi] at he
      have h0 : i - op.length = 0 := by
        have := (List.getElem?_eq_some_iff.1 he).1
        simp at this
        omega
      rw [h0] at he
      simp at he
      subst he
      exact ⟨hd, by rw [hnum]; congr 1; omega⟩
  · rw [openAmt_snoc t d false h.len]
    have := h.sums t ht
    unfold addAt
    by_cases e : t = k
    · rw [if_pos e, if_pos ⟨rfl, by rw [hk, e]⟩]
      omega
    · rw [if_neg e, if_neg (fun h => e (by have := h.2; rw [hk] at this; omega))]
      omega
/-- A ticket is closed. -/
theorem KeepI.closed (h : KeepI W V m op cl all) (hn : op.length ≤ 1099511627776) {i : Nat} {d : TicketD} (hd : op[i]? = some d) (hc : cl[i]? = some false) {U : View} {n : Md} {al : Nat → Nat} (hl : Led U n) (hi : InvM W n) (hk : ∀ k, notK k → U k = V k) {k : Nat} (hkt : d.tok = (k : Int))
    (hs : ∀ t, t < 3 → al t + (if t = k then nat4 d.amt else 0) = (n.T t).sup + openAmt t op cl) :
    KeepI W (upd U (tkey (i + 1)) []) n op (cl.set i true) al := by
  have hil : i < op.length := (List.getElem?_eq_some_iff.1 hd).1
  have hne : ∀ j, (upd U (tkey (i + 1)) []) (tkey j) = if tkey j = tkey (i + 1) then [] else V (tkey j) := fun j => by
    show (if tkey j = tkey (i + 1) then _ else U (tkey j)) = _
    rw [hk _ (notK_tkey j)]
  have hin : ∀ n, n < m64 → n ≠ i + 1 → tkey n ≠ tkey (i + 1) := fun n h1 h2 e => h2 (tkey_inj h1 (by simp only [m64]; omega) e)
  refine ⟨hl.other (notK_tkey _) _, hi, by rw [List.length_set]; exact h.len, fun j e c he hce => ?_, fun n h1 h2 => ?_, ?_, h.good, fun t ht => ?_⟩
  · have hj : j < op.length := (List.getElem?_eq_some_iff.1 he).1
    rw [hne]
    by_cases e1 : j = i
    · subst e1
      rw [if_pos rfl]
      rw [List.getElem?_set_self (by rw [h.len]; exact hj)] at hce
      simp at hce
      simp [hce]
    · rw [if_neg (hin _ (by simp only [m64]; omega) (by omega))]
      rw [List.getElem?_set_ne (fun h => e1 h.symm)] at hce
      exact h.tick j e c he hce
  · rw [hne, if_neg (hin _ (by simp only [m64]; omega) (by omega))]
    exact h.none n h1 h2
  · show (if ntK = tkey (i + 1) then [] else U ntK) = _
    rw [if_neg (fun e => tkey_nt _ e.symm), hk _ notK_nt]
    exact h.made
  · have h1 := openAmt_close t i d hd hc
    have h2 := hs t ht
    by_cases e : t = k
    · rw [if_pos (by rw [hkt, e])] at h1
      rw [if_pos e] at h2
      omega
    · rw [if_neg (fun h => e (by rw [hkt] at h; omega))] at h1
      rw [if_neg e] at h2
      omega
end
end Go.Sl
