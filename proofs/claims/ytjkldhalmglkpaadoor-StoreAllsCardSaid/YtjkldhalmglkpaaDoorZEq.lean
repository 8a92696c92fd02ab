import Derived.Test.YtjkldhalmglkpaaDoorZRl
import Derived.Laws.StructEq
import Derived.ChangeKeysEq
namespace Go.Sl
open Go
inductive LK where
 | int (k : IntKind)
 | bool
 | str
def wtV : LK → Value → Prop
 | .int k, .int k' _ => k = k'
 | .bool, .bool _ => True
 | .str, .string _ => True
 | _, _ => False
def wt : List LK → List Value → Prop
 | [], [] => True
 | k :: ks, v :: vs => wtV k v ∧ wt ks vs
 | _, _ => False
def flatF (rec : TypeId → Option (List LK)) (P : Program) : List Field → Nat → Option (List LK)
 | [], _ => some []
 | f :: fs, off => match rec f.type, sizeT P f.type with
  | some l, some n => if f.offset = off ∧ f.name ≠ "_" ∧ n = l.length ∧ n ≠ 0 then (flatF rec P fs (off + n)).map (l ++ ·) else none
  | _, _ => none
def flatT (P : Program) : Nat → TypeId → Option (List LK)
 | 0, _ => none
 | d + 1, t => match P.underlying t with
  | some (.int k) => some [.int k]
  | some .bool => some [.bool]
  | some .string => some [.str]
  | some (.array n e) => match flatT P d e, sizeT P e with
   | some l, some m => if m = l.length then some (List.replicate n l).flatten else none
   | _, _ => none
  | some (.struct fs) => if P.stoodInHeld t then none else flatF (flatT P d) P fs.toList 0
  | _ => none
def mkV (P : Program) (t : TypeId) (xs : List Value) : Value := match P.underlying t with
 | some (.struct _) => .agg ⟨xs⟩
 | some (.array _ _) => .agg ⟨xs⟩
 | _ => xs.getD 0 undef
theorem wt_len : ∀ {ks : List LK} {xs : List Value}, wt ks xs → xs.length = ks.length
 | [], [], _ => rfl
 | _ :: ks, _ :: xs, h => by simp [wt_len h.2]
 | [], _ :: _, h => h.elim
 | _ :: _, [], h => h.elim
theorem wt_append : ∀ {ks : List LK} {xs : List Value} {ms : List LK}, wt (ks ++ ms) xs → wt ks (xs.take ks.length) ∧ wt ms (xs.drop ks.length)
 | [], xs, ms, h => ⟨trivial, by simpa using h⟩
 | k :: ks, [], ms, h => h.elim
 | k :: ks, x :: xs, ms, h => by
  obtain ⟨h1, h2⟩ := wt_append (ks := ks) h.2
  exact ⟨⟨h.1, h1⟩, h2⟩
section
variable {P : Program} {w : World}
open Classical in
theorem leaf_eq {t : TypeId} {d : TypeDesc} (hd : P.underlying t = some d) {k : LK} (hk : (d = .bool ∧ k = .bool) ∨ (d = .string ∧ k = .str) ∨ ∃ i, d = .int i ∧ k = .int i) {x y : Value} (hx : wtV k x) (hy : wtV k y) (D : Nat) :
 (Op.equalIn (D + 1) t x y).run P w = .ok (decide (x = y)) w := by
 rcases hk with ⟨rfl, rfl⟩ | ⟨rfl, rfl⟩ | ⟨i, rfl, rfl⟩
 ·cases x <;> first | exact hx.elim | (cases y <;> first | exact hy.elim | (simp [Op.equalIn, run_und hd, Bool.beq_eq_decide_eq]))
 ·cases x <;> first | exact hx.elim | (cases y <;> first | exact hy.elim | skip)
  rename_i p q
  rw [run_equalIn_string w D t p q hd]
  have he : (p.toList == q.toList) = decide (Value.string p = Value.string q) := by
   rw [Bool.eq_iff_iff]
   simp only [beq_iff_eq, decide_eq_true_eq, Value.string.injEq]
   constructor
   ·intro hh
    rw [ByteArray.toList_eq, ByteArray.toList_eq] at hh
    obtain ⟨⟨x⟩⟩ := p
    obtain ⟨⟨y⟩⟩ := q
    simp at hh
    rw [hh]
   ·intro hh; rw [hh]
  rw [he]
 ·cases x <;> first | exact hx.elim | (cases y <;> first | exact hy.elim | skip)
  rename_i k1 p k2 q
  cases hx; cases hy
  rw [run_equalIn_int w D t _ _ p q hd]
  have he : (p == q) = decide (Value.int i p = Value.int i q) := by
   rw [Bool.eq_iff_iff]; simp
  rw [he]
theorem run_part_mk {t : TypeId} {ks : List LK} (hn : sizeT P t = some ks.length) (hk : ∀ d, P.underlying t = some d → (∀ fs, d ≠ .struct fs) → (∀ n e, d ≠ .array n e) → ks.length = 1) (hu : P.underlying t ≠ none) (cs : List Value) (off : Nat) (hl : off + ks.length ≤ cs.length) :
 (part t ⟨cs⟩ off).run P w = .ok (mkV P t ((cs.drop off).take ks.length)) w := by
 cases h : P.underlying t with
 | none => exact absurd h hu
 | some d =>
  by_cases ha : (∃ fs, d = .struct fs) ∨ ∃ n e, d = .array n e
  ·have hagg : aggT P t = some (some ks.length) := by
    unfold sizeT at hn
    rcases ha with ⟨fs, rfl⟩ | ⟨n, e, rfl⟩ <;> (simp [aggT, h]; simpa using hn)
   rw [run_part_agg hagg]
   have : (⟨cs⟩ : Array Value).extract off (off + ks.length) = ⟨(cs.drop off).take ks.length⟩ := by
    apply Array.toList_inj.1
    simp only [Array.toList_extract, List.extract_eq_take_drop]
    simp
   rw [this]
   rcases ha with ⟨fs, rfl⟩ | ⟨n, e, rfl⟩ <;> simp [mkV, h]
  ·have h1 : ∀ fs, d ≠ .struct fs := fun fs e => ha (.inl ⟨fs, e⟩)
   have h2 : ∀ n e, d ≠ .array n e := fun n e he => ha (.inr ⟨n, e, he⟩)
   have hlen := hk d h h1 h2
   have hagg : aggT P t = some none := by
    unfold aggT
    rw [h]
    cases d <;> first | rfl | exact absurd rfl (h1 _) | exact absurd rfl (h2 _ _)
   have hlt : off < cs.length := by omega
   have hv : (⟨cs⟩ : Array Value)[off]? = some cs[off] := by simp [hlt]
   rw [run_part_one hagg _ _ _ hv]
   have hm : mkV P t ((cs.drop off).take ks.length) = ((cs.drop off).take ks.length).getD 0 undef := by
    unfold mkV
    rw [h]
    cases d <;> first | rfl | exact absurd rfl (h1 _) | exact absurd rfl (h2 _ _)
   rw [hm, hlen]
   have : cs[off]? = some cs[off] := List.getElem?_eq_getElem hlt
   simp [List.getD, List.getElem?_take, List.getElem?_drop, this]
theorem flatF_cons {rec : TypeId → Option (List LK)} {f : Field} {fs : List Field} {off : Nat} {ks : List LK} (h : flatF rec P (f :: fs) off = some ks) :
 ∃ l ms, rec f.type = some l ∧ sizeT P f.type = some l.length ∧ f.offset = off ∧ f.name ≠ "_" ∧ l.length ≠ 0 ∧ flatF rec P fs (off + l.length) = some ms ∧ ks = l ++ ms := by
 simp only [flatF] at h
 split at h <;> try (cases h; done)
 rename_i l n hl hn
 split at h <;> try (cases h; done)
 rename_i hc
 obtain ⟨h1, h2, rfl, h3⟩ := hc
 obtain ⟨ms, hms, rfl⟩ := Option.map_eq_some_iff.1 h
 exact ⟨l, ms, hl, hn, h1, h2, h3, hms, rfl⟩
theorem flat_one {d : Nat} {t : TypeId} {ks : List LK} (h : flatT P d t = some ks) : P.underlying t ≠ none ∧ ∀ dd, P.underlying t = some dd → (∀ fs, dd ≠ .struct fs) → (∀ n e, dd ≠ .array n e) → ks.length = 1 := by
 cases d with
 | zero => cases h
 | succ d =>
  simp only [flatT] at h
  split at h <;> try (cases h; done)
  all_goals
   rename_i hu
   refine ⟨by rw [hu]; simp, fun dd hdd h1 h2 => ?_⟩
   rw [hu] at hdd
   cases hdd
  ·cases h; rfl
  ·cases h; rfl
  ·cases h; rfl
  ·exact absurd rfl (h2 _ _)
  ·exact absurd rfl (h1 _)
theorem mkV_agg {t : TypeId} {xs : List Value} (h : (∃ fs, P.underlying t = some (.struct fs)) ∨ ∃ n e, P.underlying t = some (.array n e)) : mkV P t xs = .agg ⟨xs⟩ := by
 rcases h with ⟨fs, h⟩ | ⟨n, e, h⟩ <;> simp [mkV, h]
open Classical in
theorem items_eq {e : TypeId} {l : List LK} (D : Nat) (hpart : ∀ (cs : List Value) off, off + l.length ≤ cs.length → (part e ⟨cs⟩ off).run P w = .ok (mkV P e ((cs.drop off).take l.length)) w)
 (heq : ∀ xs ys, wt l xs → wt l ys → (Op.equalIn D e (mkV P e xs) (mkV P e ys)).run P w = .ok (decide (xs = ys)) w) :
 ∀ (n i : Nat) (xs ys : List Value), wt (List.replicate n l).flatten (xs.drop (i * l.length)) → wt (List.replicate n l).flatten (ys.drop (i * l.length)) →
  (Op.eqItems D e l.length ⟨xs⟩ ⟨ys⟩ (List.range' i n)).run P w = .ok (decide (xs.drop (i * l.length) = ys.drop (i * l.length))) w := by
 intro n
 induction n with
 | zero =>
  intro i xs ys hx hy
  have h1 := wt_len hx
  have h2 := wt_len hy
  simp only [List.replicate_zero, List.flatten_nil, List.length_nil, List.length_eq_zero_iff] at h1 h2
  simp [Op.eqItems, h1, h2]
 | succ n ih =>
  intro i xs ys hx hy
  simp only [List.replicate_succ, List.flatten_cons] at hx hy
  obtain ⟨hx1, hx2⟩ := wt_append hx
  obtain ⟨hy1, hy2⟩ := wt_append hy
  have lx := wt_len hx
  have ly := wt_len hy
  simp only [List.length_append, List.length_drop] at lx ly
  have px := hpart xs (i * l.length) (by
   rcases Nat.lt_or_ge xs.length (i * l.length + l.length) with h | h
   ·exfalso
    have : xs.length - i * l.length < l.length ∨ l.length = 0 := by omega
    rcases this with h3 | h3
    ·omega
    ·rw [h3] at h; simp at h
   ·exact h)
  have py := hpart ys (i * l.length) (by
   rcases Nat.lt_or_ge ys.length (i * l.length + l.length) with h | h
   ·exfalso
    have : ys.length - i * l.length < l.length ∨ l.length = 0 := by omega
    rcases this with h3 | h3
    ·omega
    ·rw [h3] at h; simp at h
   ·exact h)
  rw [List.drop_drop] at hx2 hy2
  have e1 : i * l.length + l.length = (i + 1) * l.length := by rw [Nat.add_mul]; omega
  rw [e1] at hx2 hy2
  have := ih (i + 1) xs ys hx2 hy2
  simp only [List.range'_succ, Op.eqItems, Sem.run_bind, px, py, Result.andThen_ok, heq _ _ hx1 hy1]
  have hsplit : (xs.drop (i * l.length) = ys.drop (i * l.length)) ↔ ((xs.drop (i * l.length)).take l.length = (ys.drop (i * l.length)).take l.length ∧ xs.drop ((i + 1) * l.length) = ys.drop ((i + 1) * l.length)) := by
   rw [← e1, ← List.drop_drop, ← List.drop_drop]
   constructor
   ·intro h; rw [h]; exact ⟨rfl, rfl⟩
   ·rintro ⟨h1, h2⟩
    rw [← List.take_append_drop l.length (xs.drop (i * l.length)), h1, h2, List.take_append_drop]
  by_cases hc : (xs.drop (i * l.length)).take l.length = (ys.drop (i * l.length)).take l.length
  ·simp only [hc, decide_true, Bool.not_true, Bool.false_eq_true, if_false, this]
   congr 1
   rw [decide_eq_decide]
   rw [hsplit]
   exact ⟨fun h => ⟨hc, h⟩, fun h => h.2⟩
  ·simp only [hc, decide_false, Bool.not_false, if_true, Sem.run_pure]
   congr 1
   symm
   rw [decide_eq_false_iff_not, hsplit]
   exact fun h => hc h.1
open Classical in
theorem fields_eq {rec : TypeId → Option (List LK)} (D : Nat) (hrec : ∀ t l, rec t = some l → sizeT P t = some l.length → (∀ (cs : List Value) off, off + l.length ≤ cs.length → (part t ⟨cs⟩ off).run P w = .ok (mkV P t ((cs.drop off).take l.length)) w) ∧
 ∀ xs ys, wt l xs → wt l ys → (Op.equalIn D t (mkV P t xs) (mkV P t ys)).run P w = .ok (decide (xs = ys)) w) :
 ∀ (fs : List Field) (off : Nat) (ks : List LK) (xs ys : List Value), flatF rec P fs off = some ks → wt ks (xs.drop off) → wt ks (ys.drop off) →
  (Op.eqFields D ⟨xs⟩ ⟨ys⟩ fs).run P w = .ok (decide (xs.drop off = ys.drop off)) w := by
 intro fs
 induction fs with
 | nil =>
  intro off ks xs ys h hx hy
  simp only [flatF, Option.some.injEq] at h
  subst h
  have h1 := wt_len hx
  have h2 := wt_len hy
  simp only [List.length_nil, List.length_eq_zero_iff] at h1 h2
  simp [Op.eqFields, h1, h2]
 | cons f fs ih =>
  intro off ks xs ys h hx hy
  obtain ⟨l, ms, h1, h2, h3, h4, hz, h5, rfl⟩ := flatF_cons h
  obtain ⟨hx1, hx2⟩ := wt_append hx
  obtain ⟨hy1, hy2⟩ := wt_append hy
  have lx := wt_len hx
  have ly := wt_len hy
  simp only [List.length_append, List.length_drop] at lx ly
  obtain ⟨hp, he⟩ := hrec f.type l h1 h2
  have px := hp xs off (by omega)
  have py := hp ys off (by omega)
  rw [List.drop_drop] at hx2 hy2
  have := ih (off + l.length) ms xs ys h5 hx2 hy2
  simp only [Op.eqFields, ne_eq, h4, not_false_eq_true, if_true, Sem.run_bind, h3, px, py, Result.andThen_ok, he _ _ hx1 hy1]
  have hsplit : (xs.drop off = ys.drop off) ↔ ((xs.drop off).take l.length = (ys.drop off).take l.length ∧ xs.drop (off + l.length) = ys.drop (off + l.length)) := by
   rw [← List.drop_drop, ← List.drop_drop]
   constructor
   ·intro h; rw [h]; exact ⟨rfl, rfl⟩
   ·rintro ⟨h1, h2⟩
    rw [← List.take_append_drop l.length (xs.drop off), h1, h2, List.take_append_drop]
  by_cases hc : (xs.drop off).take l.length = (ys.drop off).take l.length
  ·simp only [hc, decide_true, Bool.not_true, Bool.false_eq_true, if_false, this]
   congr 1
   rw [decide_eq_decide]
   rw [hsplit]
   exact ⟨fun h => ⟨hc, h⟩, fun h => h.2⟩
  ·simp only [hc, decide_false, Bool.not_false, if_true, Sem.run_pure]
   congr 1
   symm
   rw [decide_eq_false_iff_not, hsplit]
   exact fun h => hc h.1
theorem size_cells {e : TypeId} {n : Nat} (h : sizeT P e = some n) : ∃ i, P.info? e = some i ∧ P.cellsOf e = n := by
 unfold sizeT at h
 obtain ⟨i, hi, rfl⟩ := Option.map_eq_some_iff.1 h
 exact ⟨i, hi, by simp [Program.cellsOf, hi]⟩
open Classical in
theorem eqT : ∀ (d D : Nat) (t : TypeId) (ks : List LK), flatT P d t = some ks → d ≤ D → ∀ xs ys, wt ks xs → wt ks ys → (Op.equalIn D t (mkV P t xs) (mkV P t ys)).run P w = .ok (decide (xs = ys)) w := by
 intro d
 induction d with
 | zero => intro D t ks h; cases h
 | succ d ih =>
  intro D t ks h hD xs ys hx hy
  obtain ⟨D, rfl⟩ : ∃ E, D = E + 1 := ⟨D - 1, by omega⟩
  have hone := flat_one h
  have leaf : ∀ (dd : TypeDesc) (k : LK), P.underlying t = some dd → ks = [k] → ((dd = .bool ∧ k = .bool) ∨ (dd = .string ∧ k = .str) ∨ ∃ i, dd = .int i ∧ k = .int i) →
   (Op.equalIn (D + 1) t (mkV P t xs) (mkV P t ys)).run P w = .ok (decide (xs = ys)) w := by
   intro dd k hu hk hc
   subst hk
   have lx := wt_len hx
   have ly := wt_len hy
   obtain ⟨x, rfl⟩ : ∃ x, xs = [x] := List.length_eq_one_iff.1 lx
   obtain ⟨y, rfl⟩ : ∃ y, ys = [y] := List.length_eq_one_iff.1 ly
   have e1 : ∀ v, mkV P t [v] = v := by
    intro v
    rcases hc with ⟨rfl, _⟩ | ⟨rfl, _⟩ | ⟨i, rfl, _⟩ <;> simp [mkV, hu]
   rw [e1, e1, leaf_eq hu hc hx.1 hy.1 D]
   simp
  simp only [flatT] at h
  split at h <;> try (cases h; done)
  ·rename_i k hu; cases h; exact leaf _ _ hu rfl (.inr (.inr ⟨k, rfl, rfl⟩))
  ·rename_i hu; cases h; exact leaf _ _ hu rfl (.inl ⟨rfl, rfl⟩)
  ·rename_i hu; cases h; exact leaf _ _ hu rfl (.inr (.inl ⟨rfl, rfl⟩))
  ·rename_i n e hu
   split at h <;> try (cases h; done)
   rename_i l m hl hm
   split at h <;> try (cases h; done)
   rename_i hml
   cases h
   subst hml
   obtain ⟨i, hi, hc⟩ := size_cells hm
   rw [mkV_agg (.inr ⟨n, e, hu⟩), mkV_agg (.inr ⟨n, e, hu⟩), run_equalIn_array w D _ _ hu hi, hc, List.range_eq_range']
   have o := flat_one hl
   have := items_eq (P := P) (w := w) (e := e) (l := l) D (fun cs off hlen => run_part_mk hm o.2 o.1 cs off hlen) (fun xs ys hx hy => ih D e l hl (by omega) xs ys hx hy) n 0 xs ys (by simpa using hx) (by simpa using hy)
   simpa using this
  ·rename_i fs hu
   split at h <;> try (cases h; done)
   rename_i hst
   rw [mkV_agg (.inl ⟨fs, hu⟩), mkV_agg (.inl ⟨fs, hu⟩)]
   have hf : P.fieldsOf t = fs := by simp [Program.fieldsOf, hu]
   rw [run_equalIn_struct w D t _ _ (by rw [hf]; exact hu) (by simpa using hst), hf]
   have := fields_eq (P := P) (w := w) (rec := flatT P d) D (fun t l hl hs => by
    have o := flat_one hl
    exact ⟨fun cs off hlen => run_part_mk hs o.2 o.1 cs off hlen, fun xs ys hx hy => ih D t l hl (by omega) xs ys hx hy⟩) fs.toList 0 ks xs ys h (by simpa using hx) (by simpa using hy)
   simpa using this
open Classical in
theorem DoesG.eqv {F L : List HP} {t : TypeId} {xs ys : List Value} {k : Value → List HP → Prop} (d : Nat) (ks : List LK) (hf : flatT P d t = some ks) (hd : d ≤ 10000) (ha : mkV P t xs = .agg ⟨xs⟩) (hb : mkV P t ys = .agg ⟨ys⟩) (hx : wt ks xs) (hy : wt ks ys) (hk : k (.bool (decide (xs = ys))) L) :
 DoesG P F (.bool <$> Op.equal t (.agg ⟨xs⟩) (.agg ⟨ys⟩)) L k := by
 refine DoesG.of (fun v L' => v = .bool (decide (xs = ys)) ∧ L' = L) (fun w hs => ?_) (fun v L' h => by rw [h.1, h.2]; exact hk)
 refine ⟨_, L, w, ?_, Ext.refl w, hs, rfl, rfl⟩
 have := eqT (P := P) (w := w) d 10000 t ks hf hd xs ys hx hy
 rw [ha, hb] at this
 simp only [Sem.run_map]
 unfold Op.equal Op.maxDepth
 rw [this]
 rfl
end
end Go.Sl
