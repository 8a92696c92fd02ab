/-
  Books as one piece; slices of texts; what a law draws of numbers. A library of this session's own.
-/
import Derived.Test.YtnbcbdlbejdkpaaGreatDoorZPk
import Derived.Test.YtnbcbdlbejdkpaaGreatDoorZTr
import Derived.Test.YtnbcbdlbejdkpaaGreatDoorZAr
namespace Go.Sl
open Go
section
variable {P : Program} {F L M : List HP} {sz n l cap : Nat} {a : Option Addr} {cs : List Value} {v : Value}
theorem own_cut (hl : l ≤ n) : Ent (own sz (.slice a n cap) n cs :: L) (own sz (.slice a l cap) l (cs.take (l * sz)) :: L) := fun w F hs => by
  replace hs : Sat w (own sz (.slice a n cap) n cs :: (L ++ F)) := hs
  show Sat w (own sz (.slice a l cap) l (cs.take (l * sz)) :: (L ++ F))
  rcases hs.ownV with ⟨h1, h2⟩ | ⟨g, c, h1, h2⟩
  · cases h1
    obtain rfl : l = 0 := by omega
    obtain ⟨_, rfl, hL⟩ := hs.own_nil_open
    simpa using Sat.own_nil hL
  · cases h1
    obtain ⟨t, rest, h3, h4, h5, h6, hB⟩ := hs.own_open
    have e : cs ++ rest = cs.take (l * sz) ++ (cs.drop (l * sz) ++ rest) := by rw [← List.append_assoc, List.take_append_drop]
    have hle : l * sz ≤ n * sz := Nat.mul_le_mul_right _ hl
    rw [e] at hB h6
    exact hB.own_of (by omega) h4 (by rw [List.length_take, h5]; omega) h6
theorem DoesG.clearO {dT ty elem : TypeId} {zv : Value} (hu : P.underlying dT = some (.slice elem)) (hz : zeroT P elem = some [zv]) (h1 : zv.oneCell' = true) (hn : SlV (.slice a n cap) n) (hl : l ≤ n)
    {k : Value → List HP → Prop} (hk : k (.tuple #[]) (own 1 (.slice a n cap) n (cs.take l ++ List.replicate (n - l) zv) :: L)) :
    DoesG P F (Builtin.clear_ #[dT] ty #[.slice (if cap = l then a else a.map (·.add (l * 1))) (n - l) (cap - l)]) (own 1 (.slice a n cap) n cs :: L) k := ⟨fun w hw => by
  replace hw : Sat w (own 1 (.slice a n cap) n cs :: (L ++ F)) := hw
  have hcl := hw.ownL
  rcases hn with ⟨h1, h2⟩ | ⟨g, c, h2, h3⟩
  · cases h1
    obtain rfl : l = 0 := by omega
    obtain ⟨_, rfl, hL⟩ := hw.own_nil_open
    refine ⟨_, _, w, ?_, Ext.refl w, ?_, hk⟩
    · simp [Builtin.clear_, run_und hu]
    · simpa using Sat.own_nil hL
  · cases h2
    obtain ⟨t, rest, h4, h5, h6, h7, hB⟩ := hw.own_open
    have hfit : (if cap = l then 0 else l) + (n - l) ≤ (cs ++ rest).length := by
      rw [h7]
      split <;> omega
    have hd := DoesG.clear1 (P := P) (F := F) (L := L) (g := g) (t := t) (cur := cs ++ rest) (o := if cap = l then 0 else l) (m := n - l) (cap := cap - l) (ty := ty) hu hz hfit h1
      (k := fun v L' => v = .tuple #[] ∧ L' = cel g t ((cs ++ rest).take (if cap = l then 0 else l) ++ List.replicate (n - l) zv ++ (cs ++ rest).drop ((if cap = l then 0 else l) + (n - l))) :: L) ⟨rfl, rfl⟩
    obtain ⟨hd⟩ := hd
    obtain ⟨v, L', w', hr, hx, hs', rfl, rfl⟩ := hd w hB
    refine ⟨_, _, w', ?_, hx, ?_, hk⟩
    · have e : (if cap = l then some (⟨g, 0, none⟩ : Addr) else (some (⟨g, 0, none⟩ : Addr)).map (·.add (l * 1))) = some ⟨g, if cap = l then 0 else l, none⟩ := by
        split
        · rfl
        · simp [add_none]
      rw [e]
      exact hr
    · have e : (cs ++ rest).take (if cap = l then 0 else l) ++ List.replicate (n - l) zv ++ (cs ++ rest).drop ((if cap = l then 0 else l) + (n - l)) = (cs.take l ++ List.replicate (n - l) zv) ++ rest := by
        rw [Nat.mul_one] at h6
        split
        · rename_i hc
          have hnl : n = l := by omega
          rw [hnl, Nat.sub_self]
          simp only [List.replicate_zero, List.append_nil, List.take_zero, List.nil_append, Nat.add_zero, List.drop_zero]
          rw [List.take_of_length_le (show cs.length ≤ l by omega)]
        · rw [List.take_append_of_le_length (by omega), Nat.add_sub_cancel' hl, List.drop_append, List.drop_of_length_le (by omega), h6]
          simp
      rw [e] at hs'
      refine Sat.own_of hs' h4 h5 (by simp; omega) ?_
      rw [← h7]
      simp
      omega⟩
end
theorem RdT.cut {L : List HP} {v' : Value} {ls : List (List Nat)} {us : List Value} (h1 : us.length = ls.length) (h3 : ∀ (i : Nat) (x : Value) (l : List Nat), us[i]? = some x → ls[i]? = some l → RdS L x l.length (bvs l)) {l h : Nat} (hh : h ≤ ls.length)
    (hr : RdS L v' (h - l) ((us.drop (l * 1)).take ((h - l) * 1))) : RdT L v' ((ls.drop l).take (h - l)) := by
  have e : ((ls.drop l).take (h - l)).length = h - l := by rw [List.length_take, List.length_drop]; omega
  refine ⟨(us.drop l).take (h - l), ?_, ?_, fun i x t hx ht => ?_⟩
  · rw [e, List.length_take, List.length_drop, h1]; omega
  · rw [e]
    simpa using hr
  · rw [List.getElem?_take] at hx ht
    split at hx
    · rename_i hi
      rw [if_pos hi] at ht
      rw [List.getElem?_drop] at hx ht
      exact h3 _ _ _ hx ht
    · cases hx
theorem texts_rd {M : List HP} : ∀ {ts : List (Value × List Nat)} {i : Nat} {t : Value × List Nat}, ts[i]? = some t → SlV t.1 t.2.length → RdS (textsL ts ++ M) t.1 t.2.length (bvs t.2)
  | [], i, t, h, _ => by simp at h
  | q :: ts, 0, t, h, hv => by
    simp only [List.getElem?_cons_zero, Option.some.injEq] at h
    subst h
    exact own_rd hv (by simp [bvs_len])
  | q :: ts, i + 1, t, h, hv => RdS.tl (texts_rd (ts := ts) (i := i) (by simpa using h) hv)
theorem book_rdT {T b : Nat} {lv tv : Value} {ls : List LeafD} {ts : List (Value × List Nat)} {F : List HP} (htv : SlV tv ts.length) (hts : ∀ t ∈ ts, SlV t.1 t.2.length) : RdT (bookL T b lv tv ls ts ++ F) tv (ts.map (·.2)) := by
  refine ⟨ts.map (·.1), by simp, ?_, fun i x l hx hl => ?_⟩
  · rw [List.length_map]
    exact RdS.tl (own_rd htv (by simp))
  · simp only [List.getElem?_map, Option.map_eq_some_iff] at hx hl
    obtain ⟨t, ht, rfl⟩ := hx
    obtain ⟨t', ht', rfl⟩ := hl
    obtain rfl := Option.some.inj (ht.symm.trans ht')
    exact RdS.tl (RdS.tl (RdS.tl (texts_rd ht (hts t (List.mem_of_getElem? ht)))))
structure BookOk (ls : List LeafD) (x : Value × Value × List (Value × List Nat)) : Prop where
  ts : x.2.2.map (·.2) = ls.map LeafD.bytes
  wf : ∀ l ∈ ls, l.wf
  lv : SlV x.1 ls.length
  tv : SlV x.2.1 x.2.2.length
  each : ∀ t ∈ x.2.2, SlV t.1 t.2.length
theorem BookOk.len {ls : List LeafD} {x : Value × Value × List (Value × List Nat)} (h : BookOk ls x) : x.2.2.length = ls.length := by
  have := congrArg List.length h.ts
  simpa using this
theorem leavesC_take : ∀ {ls : List LeafD} (_ : ∀ l ∈ ls, l.wf) (n : Nat), (leavesC ls).take (n * 27) = leavesC (ls.take n)
  | [], _, n => by simp [leavesC]
  | l :: ls, _, 0 => by simp [leavesC]
  | l :: ls, h, n + 1 => by
    have hl := LeafD.cells_len (h l (by simp))
    have e : leavesC (l :: ls) = l.cells ++ leavesC ls := rfl
    have e2 : leavesC ((l :: ls).take (n + 1)) = l.cells ++ leavesC (ls.take n) := rfl
    rw [e, e2, Nat.add_mul, Nat.one_mul, Nat.add_comm, List.take_append, List.take_of_length_le (by omega), hl, Nat.add_sub_cancel_left, leavesC_take (fun x hx => h x (by simp [hx])) n]
/-- A book of these leaves, as one piece. -/
def bookP (T b : Nat) (ls : List LeafD) : HP := exL (BookOk ls) fun x => bookL T b x.1 x.2.1 ls x.2.2
theorem book_pack {T b : Nat} {ls : List LeafD} {x : Value × Value × List (Value × List Nat)} (hx : BookOk ls x) : Ent (bookL T b x.1 x.2.1 ls x.2.2) [bookP T b ls] := Ent.pack0 (ls := fun x => bookL T b x.1 x.2.1 ls x.2.2) hx
/-- The digests behind the first so many. -/
def bytesL (ls : List LeafD) : List (List Nat) := ls.map LeafD.bytes
/-- Which of n things a raw number speaks of. -/
def pickN (c : Int) (n : Nat) : Nat := (if c < 0 then -(c + 1) else c).toNat % n
theorem pickN_lt (c : Int) {n : Nat} (h : 0 < n) : pickN c n < n := Nat.mod_lt _ h
theorem pickN_tmod {c : Int} {n : Nat} : (if c < 0 then -(c + 1) else c).tmod (n : Int) = ((pickN c n : Nat) : Int) := by
  have h : (0 : Int) ≤ if c < 0 then -(c + 1) else c := by split <;> omega
  unfold pickN
  generalize (if c < 0 then -(c + 1) else c) = x at h
  obtain ⟨m, rfl⟩ := Int.eq_ofNat_of_zero_le h
  rw [Int.toNat_natCast]
  rfl
structure RawD where
  ent : Int
  tok : Int
  to : List Nat
  amt : List Nat
structure RawD.wf (r : RawD) : Prop where
  e1 : -9223372036854775808 ≤ r.ent
  e2 : r.ent ≤ 9223372036854775807
  t1 : -9223372036854775808 ≤ r.tok
  t2 : r.tok ≤ 9223372036854775807
  to : r.to.length = 20
  toB : ∀ b ∈ r.to, b < 256
  amt : r.amt.length = 4
  amtB : ∀ b ∈ r.amt, b < 18446744073709551616
def RawD.cells (r : RawD) : List Value := .int .i64 r.ent :: .int .i64 r.tok :: (bvs r.to ++ uvs r.amt)
theorem RawD.cells_len {r : RawD} (h : r.wf) : r.cells.length = 26 := by simp [RawD.cells, bvs_len, uvs_len, h.to, h.amt]
theorem RawD.cells_one (l : RawD) : ∀ u ∈ l.cells, u.oneCell' = true := by
  intro u hu
  simp only [RawD.cells, List.mem_cons, List.mem_append] at hu
  rcases hu with rfl | rfl | h | h
  · rfl
  · rfl
  · exact bvs_one _ u h
  · exact uvs_one _ u h
def rawK : List LK := .int .i64 :: .int .i64 :: (List.replicate 20 (.int .u8) ++ List.replicate 4 (.int .u64))
theorem i64_of_wf {n : Int} (h : (Lit.int .i64 n).wf = true) : -9223372036854775808 ≤ n ∧ n ≤ 9223372036854775807 := by
  simp only [Lit.wf, Bool.and_eq_true, decide_eq_true_eq] at h
  have e1 : IntKind.i64.min = -9223372036854775808 := by decide
  have e2 : IntKind.i64.max = 9223372036854775807 := by decide
  rw [e1, e2] at h
  exact h
theorem wtr_cons {k : LK} {ks : List LK} {cs : List Value} (h : wtr (k :: ks) cs) : ∃ v vs, cs = v :: vs ∧ wtrV k v ∧ wtr ks vs := by
  cases cs with
  | nil => exact h.elim
  | cons v vs => exact ⟨v, vs, rfl, h.1, h.2⟩
theorem raw_of {cs : List Value} (h : wtr rawK cs) : ∃ r : RawD, r.wf ∧ cs = r.cells := by
  unfold rawK at h
  obtain ⟨c1, cs1, rfl, ⟨e, rfl, h2⟩, h8⟩ := wtr_cons h
  obtain ⟨c2, cs2, rfl, ⟨t, rfl, h4⟩, h5⟩ := wtr_cons h8
  obtain ⟨h6, h7⟩ := wtr_append h5
  obtain ⟨l, l1, l2, l3⟩ := wtr_u8 h6
  obtain ⟨m, m1, m2, m3⟩ := wtr_u64 h7
  refine ⟨⟨e, t, l, m⟩, ⟨(i64_of_wf h2).1, (i64_of_wf h2).2, (i64_of_wf h4).1, (i64_of_wf h4).2, l1, l2, m1, m2⟩, ?_⟩
  rw [RawD.cells, ← l3, ← m3, List.take_append_drop]
def rawsC (rs : List RawD) : List Value := rs.flatMap RawD.cells
def leafD (r : RawD) (i : Nat) : LeafD := ⟨i, pickN r.ent 1099511627776, pickN r.tok 64, r.to, if r.amt = List.replicate 4 0 then [0, 0, 0, 9] else r.amt⟩
theorem leafD_wf {r : RawD} (h : r.wf) (i : Nat) : (leafD r i).wf := ⟨h.to, by unfold leafD; simp only; split; rfl; exact h.amt⟩
theorem leafD_may {r : RawD} {i : Nat} (hi : i < 1099511627776) : (leafD r i).may := by
  have h1 := pickN_lt r.ent (n := 1099511627776) (by decide)
  have h2 := pickN_lt r.tok (n := 64) (by decide)
  have a1 : (0 : Int) ≤ (i : Nat) := Int.natCast_nonneg i
  have a2 : ((i : Nat) : Int) < 1099511627776 := by omega
  have a3 : (0 : Int) ≤ (pickN r.ent 1099511627776 : Nat) := Int.natCast_nonneg _
  have a4 : ((pickN r.ent 1099511627776 : Nat) : Int) < 1099511627776 := by omega
  have a5 : (0 : Int) ≤ (pickN r.tok 64 : Nat) := Int.natCast_nonneg _
  have a6 : ((pickN r.tok 64 : Nat) : Int) < 64 := by omega
  refine ⟨⟨a1, a2⟩, ⟨a3, a4⟩, ⟨a5, a6⟩, ?_⟩
  show (if r.amt = List.replicate 4 0 then [0, 0, 0, 9] else r.amt) ≠ List.replicate 4 0
  split
  · decide
  · assumption
def lvs (rs : List RawD) : List LeafD := rs.mapIdx fun j r => leafD r j
theorem lvs_len (rs : List RawD) : (lvs rs).length = rs.length := by simp [lvs]
theorem lvs_app (rs : List RawD) (r : RawD) : lvs (rs ++ [r]) = lvs rs ++ [leafD r rs.length] := by simp [lvs]
theorem lvs_take (rs : List RawD) (n : Nat) : (lvs rs).take n = lvs (rs.take n) := by
  apply List.ext_getElem?
  intro i
  simp only [lvs, List.getElem?_take, List.getElem?_mapIdx]
  split <;> simp
theorem lvs_wf {rs : List RawD} (h : ∀ r ∈ rs, r.wf) : ∀ l ∈ lvs rs, l.wf := by
  intro l hl
  simp only [lvs, List.mem_mapIdx] at hl
  obtain ⟨i, hi, rfl⟩ := hl
  exact leafD_wf (h _ (List.getElem_mem hi)) i
theorem be_lt (n : Nat) : ∀ (k : Nat), ∀ b ∈ be n k, b < 256
  | 0, b, h => by simp [be] at h
  | k + 1, b, h => by
    rcases List.mem_cons.1 h with rfl | h
    · exact Nat.mod_lt _ (by decide)
    · exact be_lt n k b h
theorem short_lt {l : List Nat} (hn : l.length < 256) (h : ∀ b ∈ l, b < 256) : ∀ b ∈ shortL l, b < 256 := by
  intro b hb
  have hs : (strip l).length ≤ l.length := strip_len l
  rcases List.mem_cons.1 hb with rfl | hb
  · omega
  · exact h b ((List.dropWhile_suffix _).subset hb)
theorem wideB_lt (ws : List Nat) : ∀ b ∈ wideB ws, b < 256 := by
  intro b hb
  obtain ⟨i, _, rfl⟩ := List.mem_map.1 hb
  exact Nat.mod_lt _ (by decide)
theorem bytes_lt {l : LeafD} (h : ∀ b ∈ l.to, b < 256) : ∀ b ∈ l.bytes, b < 256 := by
  intro b hb
  have hk : ∀ n, (be n 8).length < 256 := fun n => by rw [be_len]; decide
  simp only [LeafD.bytes, List.mem_append, List.mem_singleton] at hb
  rcases hb with ((((rfl | hb) | hb) | hb) | hb) | hb
  · decide
  · exact short_lt (hk _) (be_lt _ _) b hb
  · exact short_lt (hk _) (be_lt _ _) b hb
  · exact short_lt (hk _) (be_lt _ _) b hb
  · exact h b hb
  · exact short_lt (by rw [wide_len]; decide) (wideB_lt _) b hb
theorem lvs_to {rs : List RawD} (h : ∀ r ∈ rs, r.wf) : ∀ l ∈ lvs rs, ∀ b ∈ l.to, b < 256 := by
  intro l hl
  simp only [lvs, List.mem_mapIdx] at hl
  obtain ⟨i, hi, rfl⟩ := hl
  exact (h _ (List.getElem_mem hi)).toB
/-- How many bits a number has. -/
def blen (x : Nat) : Nat := if x = 0 then 0 else x.log2 + 1
theorem blen_shift {x k : Nat} (h : 2 ^ k ≤ x) : blen x = k + blen (x / 2 ^ k) := by
  have hp : 0 < 2 ^ k := Nat.two_pow_pos k
  have h0 : x ≠ 0 := by omega
  have h1 : x / 2 ^ k ≠ 0 := by
    have : 0 < x / 2 ^ k := Nat.div_pos h hp
    omega
  unfold blen
  rw [if_neg h0, if_neg h1]
  have h2 : (x / 2 ^ k).log2 = x.log2 - k := by
    apply Nat.log2_eq_iff h1 |>.2
    have h3 := (Nat.log2_eq_iff h0 (k := x.log2)).1 rfl
    have h4 : k ≤ x.log2 := (Nat.le_log2 h0).2 h
    constructor
    · rw [Nat.le_div_iff_mul_le hp, ← Nat.pow_add, Nat.sub_add_cancel h4]; exact h3.1
    · rw [Nat.div_lt_iff_lt_mul hp, ← Nat.pow_add, show x.log2 - k + 1 + k = x.log2 + 1 by omega]; exact h3.2
  have h4 : k ≤ x.log2 := (Nat.le_log2 h0).2 h
  omega
theorem half_blen {n : Nat} (h : 2 ≤ n) : half n = 2 ^ (blen (n - 1) - 1) := by
  unfold half blen
  rw [if_neg (by omega), Nat.add_sub_cancel]
end Go.Sl
