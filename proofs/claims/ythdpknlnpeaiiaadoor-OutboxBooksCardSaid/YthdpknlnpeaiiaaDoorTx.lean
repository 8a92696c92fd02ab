/-
  The document's texts of a path.
-/
import Derived.Test.YthdpknlnpeaiiaaDoorRl
import Derived.Test.YthdpknlnpeaiiaaDoorCo
namespace Go.Proofs.YthdpknlnpeaiiaaDoor
open Go Go.Sl
theorem boolsT : ElT Tryd.prog 121 4 1 1 := .of (by kernel_rfl)
def bos (s : List Bool) : List Value := s.map Value.bool
theorem bos_len (s : List Bool) : (bos s).length = s.length := by simp [bos]
theorem ltext_spec (F : List HP) (v : Value) (bs : List Nat) (hv : RdS F v bs.length (bvs bs)) (hl : bs.length ≤ 1099511627776) : SpecF Tryd.prog 64 [v] F [] (fun r L => SlV r (0 :: bs).length ∧ L = [own 1 r (0 :: bs).length (bvs (0 :: bs))]) := by
  refine fun64.spec rfl ?_
  (conv => whnf); repeat ((first | with_reducible refine CondG.tt ?_ | with_reducible refine CondG.ff ?_); conv => whnf)
  refine BuildG.of (cs := bvs [0]) rfl ?_
  (conv => whnf); repeat ((first | with_reducible refine CondG.tt ?_ | with_reducible refine CondG.ff ?_); conv => whnf)
  intro b4
  (conv => whnf); repeat ((first | with_reducible refine CondG.tt ?_ | with_reducible refine CondG.ff ?_); conv => whnf)
  refine DoesG.ent (own_of_cel (n := 1) (sz := 1) rfl (by decide)) ?_
  refine app_own bytesT 79 (m := bs.length) (ys := bvs bs) (.tl hv) (by rw [bvs_len, Nat.mul_one]) (bvs_one _) (by simp only [maxLen]; omega) (by omega) fun q hq hql _ => ?_
  have el : 1 + bs.length = (0 :: bs).length := by simp; omega
  rw [el] at hq ⊢
  (conv => whnf); repeat ((first | with_reducible refine CondG.tt ?_ | with_reducible refine CondG.ff ?_); conv => whnf)
  exact ret_here ⟨hq, rfl⟩
theorem ntext_spec (F : List HP) (a b : List Nat) (ha : a.length = 32) (hb : b.length = 32) : SpecF Tryd.prog 67 [.agg ⟨bvs a⟩, .agg ⟨bvs b⟩] F [] (fun r L => SlV r (1 :: (a ++ b)).length ∧ L = [own 1 r (1 :: (a ++ b)).length (bvs (1 :: (a ++ b)))]) := by
  refine fun67.spec rfl ?_
  (conv => whnf); repeat ((first | with_reducible refine CondG.tt ?_ | with_reducible refine CondG.ff ?_); conv => whnf)
  intro b2
  (conv => whnf); repeat ((first | with_reducible refine CondG.tt ?_ | with_reducible refine CondG.ff ?_); conv => whnf)
  intro b3
  (conv => whnf); repeat ((first | with_reducible refine CondG.tt ?_ | with_reducible refine CondG.ff ?_); conv => whnf)
  refine BuildG.of (cs := bvs [1]) rfl ?_
  (conv => whnf); repeat ((first | with_reducible refine CondG.tt ?_ | with_reducible refine CondG.ff ?_); conv => whnf)
  intro b6
  (conv => whnf); repeat ((first | with_reducible refine CondG.tt ?_ | with_reducible refine CondG.ff ?_); conv => whnf)
  refine SideG.of (by decide) ?_
  (conv => whnf); repeat ((first | with_reducible refine CondG.tt ?_ | with_reducible refine CondG.ff ?_); conv => whnf)
  refine SliceG.zero ?_
  (conv => whnf); repeat ((first | with_reducible refine CondG.tt ?_ | with_reducible refine CondG.ff ?_); conv => whnf)
  refine DoesG.ent (own_of_cel (n := 1) (sz := 1) rfl (by decide)) ?_
  refine app_own bytesT 79 (m := 32) (ys := bvs a) (.mk _ _ _ _ _ (by decide) (.tl (.tl .all))) (by rw [bvs_len, ha]) (bvs_one _) (by simp only [maxLen]; omega) (by omega) fun q hq hql _ => ?_
  (conv => whnf); repeat ((first | with_reducible refine CondG.tt ?_ | with_reducible refine CondG.ff ?_); conv => whnf)
  refine SideG.of (by decide) ?_
  (conv => whnf); repeat ((first | with_reducible refine CondG.tt ?_ | with_reducible refine CondG.ff ?_); conv => whnf)
  refine SliceG.zero ?_
  (conv => whnf); repeat ((first | with_reducible refine CondG.tt ?_ | with_reducible refine CondG.ff ?_); conv => whnf)
  refine app_own bytesT 79 (m := 32) (ys := bvs b) (.mk _ _ _ _ _ (by decide) (.tl .all)) (by rw [bvs_len, hb]) (bvs_one _) (by simp only [maxLen]; omega) (by omega) fun q2 hq2 hql2 _ => ?_
  (conv => whnf); repeat ((first | with_reducible refine CondG.tt ?_ | with_reducible refine CondG.ff ?_); conv => whnf)
  have el : 1 + 32 + 32 = (1 :: (a ++ b)).length := by simp [ha, hb]
  have ec : bvs [1] ++ bvs a ++ bvs b = bvs (1 :: (a ++ b)) := by simp [bvs]
  rw [el] at hq2 ⊢
  rw [ec]
  exact ⟨_, Ent.sel (T := []) (A := [_, _, _]) [0] rfl, hq2, rfl⟩
theorem half_at {n j : Nat} (h1 : 2 ^ j < n) (h2 : n ≤ 2 ^ (j + 1)) : half n = 2 ^ j := by
  have e : (n - 1).log2 = j := (Nat.log2_eq_iff (by have := Nat.two_pow_pos j; omega)).2 ⟨by omega, by have := Nat.two_pow_pos (j + 1); omega⟩
  rw [half, e]
theorem below_spec (F : List HP) (n : Nat) (h2 : 2 ≤ n) (hn : n ≤ 1099511627776) : SpecF Tryd.prog 105 [.int .i64 n] F [] (fun v L => v = .int .i64 (half n) ∧ L = []) := by
  refine fun105.spec rfl ?_
  (conv => whnf); repeat ((first | with_reducible refine CondG.tt ?_ | with_reducible refine CondG.ff ?_); conv => whnf)
  refine LoopG.mk (fun mm e L => ∃ j k, k = 2 ^ j ∧ k < n ∧ mm = n - k ∧ e = [(0, .int .i64 n), (3, .int .i64 (k : Nat))] ∧ L = []) (n - 1)
    [(0, .int .i64 n), (3, .int .i64 1)] _ ⟨rfl, rfl, trivial⟩ (Ent.refl _) ⟨0, 1, rfl, by omega, rfl, rfl, rfl⟩ ?_
  rintro mm e L ⟨j, k, hk, hkn, rfl, rfl, rfl⟩
  (conv => whnf); repeat ((first | with_reducible refine CondG.tt ?_ | with_reducible refine CondG.ff ?_); conv => whnf)
  refine ArithG.i64 (by omega) ?_
  (conv => whnf); repeat ((first | with_reducible refine CondG.tt ?_ | with_reducible refine CondG.ff ?_); conv => whnf)
  refine CondG.dec (fun h3 => ?_) (fun h3 => ?_)
  · (conv => whnf); repeat ((first | with_reducible refine CondG.tt ?_ | with_reducible refine CondG.ff ?_); conv => whnf)
    refine ArithG.i64' ((2 * k : Nat) : Int) (by omega) (by omega) ?_
    (conv => whnf); repeat ((first | with_reducible refine CondG.tt ?_ | with_reducible refine CondG.ff ?_); conv => whnf)
    have hp : 0 < k := by rw [hk]; exact Nat.two_pow_pos j
    refine ⟨n - 2 * k, _, _, by omega, ?_, Ent.refl _, j + 1, 2 * k, by rw [Nat.pow_succ, hk, Nat.mul_comm], by omega, rfl, rfl, rfl⟩
    exact ⟨rfl, rfl, trivial⟩
  · (conv => whnf); repeat ((first | with_reducible refine CondG.tt ?_ | with_reducible refine CondG.ff ?_); conv => whnf)
    refine ret_here ⟨?_, rfl⟩
    rw [half_at (j := j) (by omega) (by rw [Nat.pow_succ]; omega), ← hk]
    rfl
theorem sides_spec : ∀ (k : Nat) (F : List HP) (n i : Nat), n ≤ k → 1 ≤ n → n ≤ 1099511627776 → i < n → SpecF Tryd.prog 65 [.int .i64 n, .int .i64 i] F [] (fun r L => SlV r (sides n i).length ∧ L = [own 1 r (sides n i).length (bos (sides n i))])
  | 0, F, n, i, h, h1, _, _ => by omega
  | k + 1, F, n, i, h, h1, h2, h3 => by
    have hsl := sides_le n n i (Nat.le_refl _)
    refine fun65.spec rfl ?_
    (conv => whnf); repeat ((first | with_reducible refine CondG.tt ?_ | with_reducible refine CondG.ff ?_); conv => whnf)
    refine CondG.dec (fun h4 => ?_) (fun h4 => ?_)
    · obtain rfl : n = 1 := by omega
      (conv => whnf); repeat ((first | with_reducible refine CondG.tt ?_ | with_reducible refine CondG.ff ?_); conv => whnf)
      exact ⟨[own 1 (.slice none 0 0) 0 []], fun w G hs => Sat.own_nil hs, .inl ⟨rfl, rfl⟩, rfl⟩
    have hp := half_pos n
    have hh := half_lt (n := n) (by omega)
    have hs := sides_two (n := n) i (by omega)
    (conv => whnf); repeat ((first | with_reducible refine CondG.tt ?_ | with_reducible refine CondG.ff ?_); conv => whnf)
    refine CallG.pure (below_spec _ n (by omega) h2) ?_
    rintro _ _ ⟨rfl, rfl⟩
    (conv => whnf); repeat ((first | with_reducible refine CondG.tt ?_ | with_reducible refine CondG.ff ?_); conv => whnf)
    refine CondG.dec (fun h5 => ?_) (fun h5 => ?_)
    · rw [if_pos (by omega)] at hs
      (conv => whnf); repeat ((first | with_reducible refine CondG.tt ?_ | with_reducible refine CondG.ff ?_); conv => whnf)
      refine CallG.pure (sides_spec k _ (half n) i (by omega) (by omega) (by omega) (by omega)) ?_
      rintro r _ ⟨hr, rfl⟩
      have hsl2 := sides_le (half n) (half n) i (Nat.le_refl _)
      (conv => whnf); repeat ((first | with_reducible refine CondG.tt ?_ | with_reducible refine CondG.ff ?_); conv => whnf)
      refine BuildG.of (cs := bos [true]) rfl ?_
      (conv => whnf); repeat ((first | with_reducible refine CondG.tt ?_ | with_reducible refine CondG.ff ?_); conv => whnf)
      intro b19
      (conv => whnf); repeat ((first | with_reducible refine CondG.tt ?_ | with_reducible refine CondG.ff ?_); conv => whnf)
      refine DoesG.ent (Ent.front 1 rfl) ?_
      refine app_own boolsT 121 (m := 1) (ys := bos [true]) (.mk _ _ _ _ _ (by decide) (.tl (.left .all _))) rfl (by simp [bos, Value.oneCell']) (by simp only [maxLen]; omega) (by omega) fun q hq hql _ => ?_
      (conv => whnf); repeat ((first | with_reducible refine CondG.tt ?_ | with_reducible refine CondG.ff ?_); conv => whnf)
      have el : (sides (half n) i).length + 1 = (sides n i).length := by rw [hs]; simp
      have ec : bos (sides (half n) i) ++ bos [true] = bos (sides n i) := by rw [hs]; simp [bos]
      rw [el] at hq ⊢
      rw [ec]
      exact ⟨_, Ent.dropL [_] _, hq, rfl⟩
    · rw [if_neg (by omega)] at hs
      (conv => whnf); repeat ((first | with_reducible refine CondG.tt ?_ | with_reducible refine CondG.ff ?_); conv => whnf)
      refine ArithG.i64' ((n - half n : Nat) : Int) (by omega) (by omega) ?_
      (conv => whnf); repeat ((first | with_reducible refine CondG.tt ?_ | with_reducible refine CondG.ff ?_); conv => whnf)
      refine ArithG.i64' ((i - half n : Nat) : Int) (by omega) (by omega) ?_
      (conv => whnf); repeat ((first | with_reducible refine CondG.tt ?_ | with_reducible refine CondG.ff ?_); conv => whnf)
      refine CallG.pure (sides_spec k _ (n - half n) (i - half n) (by omega) (by omega) (by omega) (by omega)) ?_
      rintro r _ ⟨hr, rfl⟩
      have hsl2 := sides_le (n - half n) (n - half n) (i - half n) (Nat.le_refl _)
      (conv => whnf); repeat ((first | with_reducible refine CondG.tt ?_ | with_reducible refine CondG.ff ?_); conv => whnf)
      refine BuildG.of (cs := bos [false]) rfl ?_
      (conv => whnf); repeat ((first | with_reducible refine CondG.tt ?_ | with_reducible refine CondG.ff ?_); conv => whnf)
      intro b19
      (conv => whnf); repeat ((first | with_reducible refine CondG.tt ?_ | with_reducible refine CondG.ff ?_); conv => whnf)
      refine DoesG.ent (Ent.front 1 rfl) ?_
      refine app_own boolsT 121 (m := 1) (ys := bos [false]) (.mk _ _ _ _ _ (by decide) (.tl (.left .all _))) rfl (by simp [bos, Value.oneCell']) (by simp only [maxLen]; omega) (by omega) fun q hq hql _ => ?_
      (conv => whnf); repeat ((first | with_reducible refine CondG.tt ?_ | with_reducible refine CondG.ff ?_); conv => whnf)
      have el : (sides (n - half n) (i - half n)).length + 1 = (sides n i).length := by rw [hs]; simp
      have ec : bos (sides (n - half n) (i - half n)) ++ bos [false] = bos (sides n i) := by rw [hs]; simp [bos]
      rw [el] at hq ⊢
      rw [ec]
      exact ⟨_, Ent.dropL [_] _, hq, rfl⟩
def fsts (ts : List (Value × List Nat)) : List Value := ts.map (·.1)
structure TxOk (ts : List (Value × List Nat)) (lv : Value) (l : List (List Nat)) : Prop where
  txt : ts.map (·.2) = l
  lv : SlV lv ts.length
  each : ∀ t ∈ ts, SlV t.1 t.2.length
theorem TxOk.len {ts : List (Value × List Nat)} {lv : Value} {l : List (List Nat)} (h : TxOk ts lv l) : ts.length = l.length := by rw [← h.txt, List.length_map]
theorem TxOk.rdT {ts : List (Value × List Nat)} {lv : Value} {l : List (List Nat)} (h : TxOk ts lv l) (M : List HP) : RdT (own 1 lv ts.length (fsts ts) :: (textsL ts ++ M)) lv l := by
  have hl := h.len
  refine ⟨fsts ts, by rw [fsts, List.length_map, hl], ?_, fun i x t hx ht => ?_⟩
  · rw [← hl]
    exact own_rd h.lv (by simp [fsts])
  · rw [← h.txt] at ht
    simp only [fsts, List.getElem?_map, Option.map_eq_some_iff] at hx ht
    obtain ⟨y, hy, rfl⟩ := hx
    obtain ⟨y', hy', rfl⟩ := ht
    obtain rfl := Option.some.inj (hy.symm.trans hy')
    exact RdS.tl (texts_rd hy (h.each y (List.mem_of_getElem? hy)))
theorem nodeT_byte {r : Bool} {p d : List Nat} (hp : ∀ b ∈ p, b < 256) (hd : ∀ b ∈ d, b < 256) : ∀ b ∈ nodeT r p d, b < 256 := by
  intro b hb
  cases r
  · simp only [nodeT, Bool.false_eq_true, if_false, List.mem_cons, List.mem_append] at hb
    rcases hb with rfl | hb | hb
    · decide
    · exact hp b hb
    · exact hd b hb
  · simp only [nodeT, if_true, List.mem_cons, List.mem_append] at hb
    rcases hb with rfl | hb | hb
    · decide
    · exact hd b hb
    · exact hp b hb
theorem walkL_ok (K : List W32) {N : Nat} (hN : 65 ≤ N) : ∀ (t : List Nat) (l : List (Bool × List Nat)), (t.length ≤ N ∧ ∀ b ∈ t, b < 256) → (∀ x ∈ l, DigOk x.2) → ∀ u ∈ walkL K t l, u.length ≤ N ∧ ∀ b ∈ u, b < 256
  | t, [], ht, _, u, hu => by
    rw [walkL, List.mem_singleton] at hu
    exact hu ▸ ht
  | t, (r, p) :: l, ht, hl, u, hu => by
    rw [walkL, List.mem_cons] at hu
    rcases hu with rfl | hu
    · exact ht
    · have hp := hl (r, p) (by simp)
      have hd := dig_len K t
      refine walkL_ok K hN _ l ⟨?_, nodeT_byte hp.byte (dig_byte K t)⟩ (fun x hx => hl x (by simp [hx])) u hu
      have hp' : p.length = 32 := hp.len
      cases r <;> simp [nodeT, hp', hd] <;> omega
theorem textsL_snoc {c : HP} {r q v : Value} {n : Nat} {bs : List Value} {l : List Nat} {ts : List (Value × List Nat)} :
    Ent (own 1 v (ts.length + 1) (fsts ts ++ [q]) :: c :: own 1 q l.length (bvs l) :: own 1 r n bs :: textsL ts) (own 1 v (ts ++ [(q, l)]).length (fsts (ts ++ [(q, l)])) :: own 1 r n bs :: textsL (ts ++ [(q, l)])) := by
  have e1 : (ts ++ [(q, l)]).length = ts.length + 1 := by simp
  have e2 : fsts (ts ++ [(q, l)]) = fsts ts ++ [q] := by simp [fsts]
  have e3 : textsL (ts ++ [(q, l)]) = textsL ts ++ [own 1 q l.length (bvs l)] := by simp [textsL]
  rw [e1, e2, e3]
  exact (Ent.sel (T := textsL ts) (A := [_, _, _, _]) [0, 3, 2] rfl).trans (Ent.cons _ (Ent.cons _ (Ent.perm (List.perm_append_comm (l₁ := [_])))))
theorem strB_inj {a b : List Nat} (ha : ∀ x ∈ a, x < 256) (hb : ∀ x ∈ b, x < 256) : strB a = strB b ↔ a = b := by
  refine ⟨fun h => ?_, fun h => by rw [h]⟩
  have h1 : a.map UInt8.ofNat = b.map UInt8.ofNat := by
    simp only [strB, ByteArray.mk.injEq, Array.mk.injEq] at h
    simpa using h
  have h2 : ∀ {l : List Nat}, (∀ x ∈ l, x < 256) → (l.map UInt8.ofNat).map UInt8.toNat = l := fun {l} hl => by
    rw [List.map_map]
    conv => rhs; rw [← List.map_id l]
    exact List.map_congr_left fun x hx => by simp [Nat.mod_eq_of_lt (hl x hx)]
  rw [← h2 ha, h1, h2 hb]
section
variable (K : List W32) (hk : K.length = 64)
include hk
theorem texts_spec (F : List HP) (hK : CelN F 1 0 (wvs K)) (hB : CelN F 0 0 (wvs ivW)) (n i : Nat) (v pv : Value) (t : List Nat) (p : List (List Nat)) (h1 : 1 ≤ n) (h2 : n ≤ 1099511627776) (h3 : i < n)
    (hv : RdS F v t.length (bvs t)) (ht : t.length ≤ 4096) (htb : ∀ b ∈ t, b < 256) (hpv : RdS F pv p.length (digsC p)) (hp : ∀ d ∈ p, DigOk d) (hlen : p.length = (sides n i).length) :
    SpecF Tryd.prog 29 [.int .i64 n, .int .i64 i, v, pv] F [] (fun r L => ∃ ts, TxOk ts r (walkL K (0 :: t) ((sides n i).zip p)) ∧ L = own 1 r ts.length (fsts ts) :: textsL ts) := by
  have hsl := sides_le n n i (Nat.le_refl _)
  have hz : ((sides n i).zip p).length = (sides n i).length := by rw [List.length_zip]; omega
  have hpl : (digsC p).length = p.length * 32 := digs_len fun x hx => (hp x hx).len
  have hzd : ∀ x ∈ (sides n i).zip p, DigOk x.2 := fun x hx => hp _ (List.of_mem_zip (a := x.1) (b := x.2) hx).2
  refine fun29.spec rfl ?_
  (conv => whnf); repeat ((first | with_reducible refine CondG.tt ?_ | with_reducible refine CondG.ff ?_); conv => whnf)
  refine CallG.pure (ltext_spec _ v t (.right hv _) (by omega)) ?_
  rintro q0 _ ⟨hq0, rfl⟩
  (conv => whnf); repeat ((first | with_reducible refine CondG.tt ?_ | with_reducible refine CondG.ff ?_); conv => whnf)
  refine BuildG.of (cs := [q0]) (by obtain ⟨a, c, rfl⟩ := hq0.len; rfl) ?_
  (conv => whnf); repeat ((first | with_reducible refine CondG.tt ?_ | with_reducible refine CondG.ff ?_); conv => whnf)
  intro b17
  (conv => whnf); repeat ((first | with_reducible refine CondG.tt ?_ | with_reducible refine CondG.ff ?_); conv => whnf)
  refine CallG.pure (sides_spec n _ n i (Nat.le_refl _) h1 h2 h3) ?_
  rintro rv _ ⟨hrv, rfl⟩
  (conv => whnf); repeat ((first | with_reducible refine CondG.tt ?_ | with_reducible refine CondG.ff ?_); conv => whnf)
  generalize hs : sides n i = s at *
  refine LoopG.mk (fun mm e L => ∃ k lv ts, k ≤ s.length ∧ mm = s.length - k ∧ e = [(3, pv), (10, lv), (11, rv), (12, .int .i64 (k : Nat))] ∧ TxOk ts lv (walkL K (0 :: t) ((s.zip p).take k)) ∧
      L = own 1 lv ts.length (fsts ts) :: own 1 rv s.length (bos s) :: textsL ts) s.length
    [(3, pv), (10, .slice (some ⟨b17, 0, none⟩) 1 1), (11, rv), (12, .int .i64 0)] _ ⟨rfl, rfl, rfl, rfl, trivial⟩ (Ent.trans (Ent.front 1 rfl) (own_of_cel (n := 1) (sz := 1) rfl (by decide)))
    ⟨0, .slice (some ⟨b17, 0, none⟩) 1 1, [(q0, 0 :: t)], by omega, rfl, rfl, ⟨rfl, .inr ⟨b17, 1, rfl, Nat.le_refl _⟩, by simpa using hq0⟩, rfl⟩ ?_
  rintro mm e L ⟨k, lv, ts, hks, rfl, rfl, hok, rfl⟩
  have htl : ts.length = k + 1 := by rw [hok.len, walkL_len, List.length_take]; omega
  (conv => whnf); repeat ((first | with_reducible refine CondG.tt ?_ | with_reducible refine CondG.ff ?_); conv => whnf)
  refine LenG.sl hrv ?_
  (conv => whnf); repeat ((first | with_reducible refine CondG.tt ?_ | with_reducible refine CondG.ff ?_); conv => whnf)
  refine CondG.dec (fun h4 => ?_) (fun h4 => ?_)
  · have hk1 : k < s.length := by omega
    have hk2 : k < p.length := by omega
    have hpk := hp p[k] (List.getElem_mem hk2)
    have hpk32 : (bvs p[k]).length = 32 := by rw [bvs_len, hpk.len]
    obtain ⟨u, hu, htop⟩ := walkL_last K (0 :: t) ((s.zip p).take k)
    rw [List.length_take, Nat.min_eq_left (by omega), ← hok.txt, List.getElem?_map, Option.map_eq_some_iff] at hu
    obtain ⟨y, hy, rfl⟩ := hu
    have hyo := walkL_ok K (N := 4097) (by decide) (0 :: t) ((s.zip p).take k) ⟨by simp; omega, by intro b hb; rcases List.mem_cons.1 hb with rfl | hb; decide; exact htb b hb⟩ (fun x hx => hzd x (List.mem_of_mem_take hx)) y.2 (by rw [← hok.txt]; exact List.mem_map_of_mem (List.mem_of_getElem? hy))
    have hrd : RdS (own 1 lv ts.length (fsts ts) :: (own 1 rv s.length (bos s) :: textsL ts)) lv ts.length (fsts ts) := own_rd hok.lv (by simp [fsts])
    have hrs : RdS (own 1 lv ts.length (fsts ts) :: (own 1 rv s.length (bos s) :: textsL ts)) rv s.length (bos s) := .tl (own_rd hrv (by rw [bos_len, Nat.mul_one]))
    have hye := hok.each y (List.mem_of_getElem? hy)
    (conv => whnf); repeat ((first | with_reducible refine CondG.tt ?_ | with_reducible refine CondG.ff ?_); conv => whnf)
    refine IdxG.rd hrd (by omega) fun c o hc => ?_
    (conv => whnf); repeat ((first | with_reducible refine CondG.tt ?_ | with_reducible refine CondG.ff ?_); conv => whnf)
    refine LoadG.at (v := y.1) (hc.one (i := ((k : Nat) : Int).toNat * 1) (by rw [Int.toNat_natCast, Nat.mul_one, fsts, List.getElem?_map, hy]; rfl)) ?_
    (conv => whnf); repeat ((first | with_reducible refine CondG.tt ?_ | with_reducible refine CondG.ff ?_); conv => whnf)
    refine CallG.pure (rsum_spec _ K (.right hK _) (.right hB _) hk y.1 y.2 (RdS.tl (RdS.tl (texts_rd hy hye))) (by omega) hyo.2) ?_
    rintro _ _ ⟨rfl, rfl⟩
    have hdl := dig_len K y.2
    have hd32 : (bvs (dig K y.2)).length = 32 := by rw [bvs_len, hdl]
    (conv => whnf); repeat ((first | with_reducible refine CondG.tt ?_ | with_reducible refine CondG.ff ?_); conv => whnf)
    intro b13
    (conv => whnf); repeat ((first | with_reducible refine CondG.tt ?_ | with_reducible refine CondG.ff ?_); conv => whnf)
    refine StoreG.at hd32 (Upd.whole (by rw [hd32]; rfl) (bvs_one _)) ?_
    (conv => whnf); repeat ((first | with_reducible refine CondG.tt ?_ | with_reducible refine CondG.ff ?_); conv => whnf)
    refine IdxG.rd (L := cel b13 25 (bvs (dig K y.2)) :: own 1 lv ts.length (fsts ts) :: own 1 rv s.length (bos s) :: textsL ts) (.tl hrs) (by omega) fun c o hc => ?_
    (conv => whnf); repeat ((first | with_reducible refine CondG.tt ?_ | with_reducible refine CondG.ff ?_); conv => whnf)
    refine LoadG.at (v := .bool s[k]) (hc.one (i := ((k : Nat) : Int).toNat * 1) (by rw [Int.toNat_natCast, Nat.mul_one]; simp [bos, hk1])) ?_
    (conv => whnf); repeat ((first | with_reducible refine CondG.tt ?_ | with_reducible refine CondG.ff ?_); conv => whnf)
    have hzk : (s.zip p).take (k + 1) = (s.zip p).take k ++ [(s[k], p[k])] := by
      rw [List.take_succ_eq_append_getElem (by omega), List.getElem_zip]
    have hwk : walkL K (0 :: t) ((s.zip p).take (k + 1)) = walkL K (0 :: t) ((s.zip p).take k) ++ [nodeT s[k] p[k] (dig K y.2)] := by
      rw [hzk, walkL_snoc, htop]
    refine CondG.split (fun h5 => ?_) (fun h5 => ?_)
    · (conv => whnf); repeat ((first | with_reducible refine CondG.tt ?_ | with_reducible refine CondG.ff ?_); conv => whnf)
      refine DrawG.mk 6 (cel b13 25 (bvs (dig K y.2)) :: own 1 lv ts.length (fsts ts) :: own 1 rv s.length (bos s) :: textsL ts) [] (Ent.refl _) ?_
      (conv => whnf); repeat ((first | with_reducible refine CondG.tt ?_ | with_reducible refine CondG.ff ?_); conv => whnf)
      refine .take 0 ?_
      (conv => whnf); repeat ((first | with_reducible refine CondG.tt ?_ | with_reducible refine CondG.ff ?_); conv => whnf)
      refine ⟨rfl, ?_⟩
      (conv => whnf); repeat ((first | with_reducible refine CondG.tt ?_ | with_reducible refine CondG.ff ?_); conv => whnf)
      refine LoadNG.at (vs := bvs (dig K y.2)) hd32 .all ?_
      (conv => whnf); repeat ((first | with_reducible refine CondG.tt ?_ | with_reducible refine CondG.ff ?_); conv => whnf)
      refine .take 1 ?_
      (conv => whnf); repeat ((first | with_reducible refine CondG.tt ?_ | with_reducible refine CondG.ff ?_); conv => whnf)
      refine ⟨rfl, ?_⟩
      (conv => whnf); repeat ((first | with_reducible refine CondG.tt ?_ | with_reducible refine CondG.ff ?_); conv => whnf)
      refine .take 2 ?_
      (conv => whnf); repeat ((first | with_reducible refine CondG.tt ?_ | with_reducible refine CondG.ff ?_); conv => whnf)
      refine ⟨rfl, ?_⟩
      (conv => whnf); repeat ((first | with_reducible refine CondG.tt ?_ | with_reducible refine CondG.ff ?_); conv => whnf)
      refine .take 3 ?_
      (conv => whnf); repeat ((first | with_reducible refine CondG.tt ?_ | with_reducible refine CondG.ff ?_); conv => whnf)
      refine ⟨rfl, ?_⟩
      (conv => whnf); repeat ((first | with_reducible refine CondG.tt ?_ | with_reducible refine CondG.ff ?_); conv => whnf)
      refine IdxG.rd hpv (by omega) fun c o hc => ?_
      (conv => whnf); repeat ((first | with_reducible refine CondG.tt ?_ | with_reducible refine CondG.ff ?_); conv => whnf)
      refine .take 4 ?_
      (conv => whnf); repeat ((first | with_reducible refine CondG.tt ?_ | with_reducible refine CondG.ff ?_); conv => whnf)
      refine ⟨rfl, ?_⟩
      (conv => whnf); repeat ((first | with_reducible refine CondG.tt ?_ | with_reducible refine CondG.ff ?_); conv => whnf)
      refine LoadNG.atF (vs := bvs p[k]) hpk32 (hc.part (by rw [hpk32, Int.toNat_natCast]; exact flat_get (fun d hd => by rw [bvs_len, (hp d hd).len]) hk2)) ?_
      (conv => whnf); repeat ((first | with_reducible refine CondG.tt ?_ | with_reducible refine CondG.ff ?_); conv => whnf)
      refine .all ?_
      (conv => whnf); repeat ((first | with_reducible refine CondG.tt ?_ | with_reducible refine CondG.ff ?_); conv => whnf)
      refine ⟨by decide, ?_⟩
      (conv => whnf); repeat ((first | with_reducible refine CondG.tt ?_ | with_reducible refine CondG.ff ?_); conv => whnf)
      refine CallG.pure (ntext_spec _ (dig K y.2) p[k] hdl hpk.len) ?_
      rintro q _ ⟨hq, rfl⟩
      (conv => whnf); repeat ((first | with_reducible refine CondG.tt ?_ | with_reducible refine CondG.ff ?_); conv => whnf)
      refine .all ?_
      (conv => whnf); repeat ((first | with_reducible refine CondG.tt ?_ | with_reducible refine CondG.ff ?_); conv => whnf)
      refine ⟨by decide, ?_⟩
      (conv => whnf); repeat ((first | with_reducible refine CondG.tt ?_ | with_reducible refine CondG.ff ?_); conv => whnf)
      refine ⟨rfl, ?_⟩
      (conv => whnf); repeat ((first | with_reducible refine CondG.tt ?_ | with_reducible refine CondG.ff ?_); conv => whnf)
      refine ⟨rfl, ?_⟩
      (conv => whnf); repeat ((first | with_reducible refine CondG.tt ?_ | with_reducible refine CondG.ff ?_); conv => whnf)
      refine BuildG.of (cs := [q]) (by obtain ⟨a, c, rfl⟩ := hq.len; rfl) ?_
      (conv => whnf); repeat ((first | with_reducible refine CondG.tt ?_ | with_reducible refine CondG.ff ?_); conv => whnf)
      intro b50
      (conv => whnf); repeat ((first | with_reducible refine CondG.tt ?_ | with_reducible refine CondG.ff ?_); conv => whnf)
      refine DoesG.ent (Ent.sel (T := textsL ts) (A := [_, _, _, _, _]) [3, 0, 1, 4] rfl) ?_
      refine app_own partsT 44 (m := 1) (ys := [q]) (.mk _ _ _ _ _ (Nat.le_refl _) (.tl (.left .all _))) rfl (by intro u hu; rw [List.mem_singleton.1 hu]; exact hq.one) (by simp only [maxLen]; omega) (by omega) fun lv' hlv' hll _ => ?_
      (conv => whnf); repeat ((first | with_reducible refine CondG.tt ?_ | with_reducible refine CondG.ff ?_); conv => whnf)
      refine ArithG.i64 (by omega) ?_
      (conv => whnf); repeat ((first | with_reducible refine CondG.tt ?_ | with_reducible refine CondG.ff ?_); conv => whnf)
      have en : nodeT s[k] p[k] (dig K y.2) = 1 :: (dig K y.2 ++ p[k]) := by rw [h5]; rfl
      rw [en] at hwk
      refine ⟨s.length - (k + 1), [(3, pv), (10, lv'), (11, rv), (12, .int .i64 ((k + 1 : Nat) : Int))], _, by omega, ⟨rfl, rfl, rfl, rfl, trivial⟩, textsL_snoc, k + 1, lv', ts ++ [(q, 1 :: (dig K y.2 ++ p[k]))], by omega, rfl, rfl, ⟨?_, by rw [List.length_append]; exact hlv', ?_⟩, rfl⟩
      · rw [List.map_append, hok.txt, hwk]; rfl
      · intro x hx
        rcases List.mem_append.1 hx with hx | hx
        · exact hok.each x hx
        · rw [List.mem_singleton.1 hx]; exact hq
    · (conv => whnf); repeat ((first | with_reducible refine CondG.tt ?_ | with_reducible refine CondG.ff ?_); conv => whnf)
      refine DrawG.mk 6 (cel b13 25 (bvs (dig K y.2)) :: own 1 lv ts.length (fsts ts) :: own 1 rv s.length (bos s) :: textsL ts) [] (Ent.refl _) ?_
      (conv => whnf); repeat ((first | with_reducible refine CondG.tt ?_ | with_reducible refine CondG.ff ?_); conv => whnf)
      refine .take 0 ?_
      (conv => whnf); repeat ((first | with_reducible refine CondG.tt ?_ | with_reducible refine CondG.ff ?_); conv => whnf)
      refine ⟨rfl, ?_⟩
      (conv => whnf); repeat ((first | with_reducible refine CondG.tt ?_ | with_reducible refine CondG.ff ?_); conv => whnf)
      refine .take 1 ?_
      (conv => whnf); repeat ((first | with_reducible refine CondG.tt ?_ | with_reducible refine CondG.ff ?_); conv => whnf)
      refine ⟨rfl, ?_⟩
      (conv => whnf); repeat ((first | with_reducible refine CondG.tt ?_ | with_reducible refine CondG.ff ?_); conv => whnf)
      refine .take 2 ?_
      (conv => whnf); repeat ((first | with_reducible refine CondG.tt ?_ | with_reducible refine CondG.ff ?_); conv => whnf)
      refine ⟨rfl, ?_⟩
      (conv => whnf); repeat ((first | with_reducible refine CondG.tt ?_ | with_reducible refine CondG.ff ?_); conv => whnf)
      refine IdxG.rd hpv (by omega) fun c o hc => ?_
      (conv => whnf); repeat ((first | with_reducible refine CondG.tt ?_ | with_reducible refine CondG.ff ?_); conv => whnf)
      refine .take 3 ?_
      (conv => whnf); repeat ((first | with_reducible refine CondG.tt ?_ | with_reducible refine CondG.ff ?_); conv => whnf)
      refine ⟨rfl, ?_⟩
      (conv => whnf); repeat ((first | with_reducible refine CondG.tt ?_ | with_reducible refine CondG.ff ?_); conv => whnf)
      refine LoadNG.atF (vs := bvs p[k]) hpk32 (hc.part (by rw [hpk32, Int.toNat_natCast]; exact flat_get (fun d hd => by rw [bvs_len, (hp d hd).len]) hk2)) ?_
      (conv => whnf); repeat ((first | with_reducible refine CondG.tt ?_ | with_reducible refine CondG.ff ?_); conv => whnf)
      refine .take 4 ?_
      (conv => whnf); repeat ((first | with_reducible refine CondG.tt ?_ | with_reducible refine CondG.ff ?_); conv => whnf)
      refine ⟨rfl, ?_⟩
      (conv => whnf); repeat ((first | with_reducible refine CondG.tt ?_ | with_reducible refine CondG.ff ?_); conv => whnf)
      refine LoadNG.at (vs := bvs (dig K y.2)) hd32 .all ?_
      (conv => whnf); repeat ((first | with_reducible refine CondG.tt ?_ | with_reducible refine CondG.ff ?_); conv => whnf)
      refine .all ?_
      (conv => whnf); repeat ((first | with_reducible refine CondG.tt ?_ | with_reducible refine CondG.ff ?_); conv => whnf)
      refine ⟨by decide, ?_⟩
      (conv => whnf); repeat ((first | with_reducible refine CondG.tt ?_ | with_reducible refine CondG.ff ?_); conv => whnf)
      refine CallG.pure (ntext_spec _ p[k] (dig K y.2) hpk.len hdl) ?_
      rintro q _ ⟨hq, rfl⟩
      (conv => whnf); repeat ((first | with_reducible refine CondG.tt ?_ | with_reducible refine CondG.ff ?_); conv => whnf)
      refine .all ?_
      (conv => whnf); repeat ((first | with_reducible refine CondG.tt ?_ | with_reducible refine CondG.ff ?_); conv => whnf)
      refine ⟨by decide, ?_⟩
      (conv => whnf); repeat ((first | with_reducible refine CondG.tt ?_ | with_reducible refine CondG.ff ?_); conv => whnf)
      refine ⟨rfl, ?_⟩
      (conv => whnf); repeat ((first | with_reducible refine CondG.tt ?_ | with_reducible refine CondG.ff ?_); conv => whnf)
      refine ⟨rfl, ?_⟩
      (conv => whnf); repeat ((first | with_reducible refine CondG.tt ?_ | with_reducible refine CondG.ff ?_); conv => whnf)
      refine BuildG.of (cs := [q]) (by obtain ⟨a, c, rfl⟩ := hq.len; rfl) ?_
      (conv => whnf); repeat ((first | with_reducible refine CondG.tt ?_ | with_reducible refine CondG.ff ?_); conv => whnf)
      intro b50
      (conv => whnf); repeat ((first | with_reducible refine CondG.tt ?_ | with_reducible refine CondG.ff ?_); conv => whnf)
      refine DoesG.ent (Ent.sel (T := textsL ts) (A := [_, _, _, _, _]) [3, 0, 1, 4] rfl) ?_
      refine app_own partsT 44 (m := 1) (ys := [q]) (.mk _ _ _ _ _ (Nat.le_refl _) (.tl (.left .all _))) rfl (by intro u hu; rw [List.mem_singleton.1 hu]; exact hq.one) (by simp only [maxLen]; omega) (by omega) fun lv' hlv' hll _ => ?_
      (conv => whnf); repeat ((first | with_reducible refine CondG.tt ?_ | with_reducible refine CondG.ff ?_); conv => whnf)
      refine ArithG.i64 (by omega) ?_
      (conv => whnf); repeat ((first | with_reducible refine CondG.tt ?_ | with_reducible refine CondG.ff ?_); conv => whnf)
      have en : nodeT s[k] p[k] (dig K y.2) = 1 :: (p[k] ++ dig K y.2) := by rw [h5]; rfl
      rw [en] at hwk
      refine ⟨s.length - (k + 1), [(3, pv), (10, lv'), (11, rv), (12, .int .i64 ((k + 1 : Nat) : Int))], _, by omega, ⟨rfl, rfl, rfl, rfl, trivial⟩, textsL_snoc, k + 1, lv', ts ++ [(q, 1 :: (p[k] ++ dig K y.2))], by omega, rfl, rfl, ⟨?_, by rw [List.length_append]; exact hlv', ?_⟩, rfl⟩
      · rw [List.map_append, hok.txt, hwk]; rfl
      · intro x hx
        rcases List.mem_append.1 hx with hx | hx
        · exact hok.each x hx
        · rw [List.mem_singleton.1 hx]; exact hq
  · obtain rfl : k = s.length := by omega
    rw [List.take_of_length_le (by omega)] at hok
    (conv => whnf); repeat ((first | with_reducible refine CondG.tt ?_ | with_reducible refine CondG.ff ?_); conv => whnf)
    exact ⟨_, Ent.sel (T := textsL ts) (A := [_, _]) [0] rfl, ts, hok, rfl⟩
theorem clash_spec (F : List HP) (hK : CelN F 1 0 (wvs K)) (hB : CelN F 0 0 (wvs ivW)) (v : Value) (ls : List (List Nat)) (hv : RdT F v ls) (hll : ls.length ≤ 4096) (hls : ∀ l ∈ ls, l.length ≤ 1099511627776 ∧ ∀ b ∈ l, b < 256) (hcl : ∃ a b, b < a ∧ a < ls.length ∧ ClP K ls a b) :
    SpecF Tryd.prog 31 [v] F [] (fun r L => r = .bool true ∧ L = []) := by
  obtain ⟨us, h1, h2, h3⟩ := hv.out
  refine fun31.spec rfl ?_
  (conv => whnf); repeat ((first | with_reducible refine CondG.tt ?_ | with_reducible refine CondG.ff ?_); conv => whnf)
  refine LoopG.mk (fun mm e L => ∃ i, i ≤ ls.length ∧ mm = ls.length - i ∧ e = [(0, v), (3, .int .i64 (i : Nat))] ∧ L = [] ∧ ∀ a, a < i → ∀ b, b < a → ¬ ClP K ls a b) ls.length
    [(0, v), (3, .int .i64 0)] _ ⟨rfl, rfl, trivial⟩ (Ent.refl _) ⟨0, by omega, rfl, rfl, rfl, by omega⟩ ?_
  rintro mm e L ⟨i, hi, rfl, rfl, rfl, hno⟩
  (conv => whnf); repeat ((first | with_reducible refine CondG.tt ?_ | with_reducible refine CondG.ff ?_); conv => whnf)
  refine LenG.rd h2 ?_
  (conv => whnf); repeat ((first | with_reducible refine CondG.tt ?_ | with_reducible refine CondG.ff ?_); conv => whnf)
  refine CondG.dec (fun h4 => ?_) (fun h4 => ?_)
  · have hi1 : i < ls.length := by omega
    (conv => whnf); repeat ((first | with_reducible refine CondG.tt ?_ | with_reducible refine CondG.ff ?_); conv => whnf)
    refine LoopG.mk (fun mm e L => ∃ k, k ≤ i ∧ mm = i - k ∧ e = [(0, v), (3, .int .i64 (i : Nat)), (4, .int .i64 (k : Nat))] ∧ L = [] ∧ ∀ b, b < k → ¬ ClP K ls i b) i
      [(0, v), (3, .int .i64 i), (4, .int .i64 0)] _ ⟨rfl, rfl, rfl, trivial⟩ (Ent.refl _) ⟨0, by omega, rfl, rfl, rfl, by omega⟩ ?_
    rintro mm e L ⟨k, hki, rfl, rfl, rfl, hno2⟩
    (conv => whnf); repeat ((first | with_reducible refine CondG.tt ?_ | with_reducible refine CondG.ff ?_); conv => whnf)
    refine CondG.dec (fun h5 => ?_) (fun h5 => ?_)
    · have hk1 : k < ls.length := by omega
      have xi := h3 i _ _ (List.getElem?_eq_getElem (by omega : i < us.length)) (List.getElem?_eq_getElem hi1)
      have xk := h3 k _ _ (List.getElem?_eq_getElem (by omega : k < us.length)) (List.getElem?_eq_getElem hk1)
      have li := hls _ (List.getElem_mem hi1)
      have lk := hls _ (List.getElem_mem hk1)
      have hC : ClP K ls i k ↔ ls[i] ≠ ls[k] ∧ dig K ls[i] = dig K ls[k] := by simp [ClP, List.getD, hi1, hk1]
      have cI : ∀ {c o : Nat}, CelN F c o us → Cel F c (o + ((i : Nat) : Int).toNat * 1) us[i] := fun hc => hc.one (by rw [Int.toNat_natCast, Nat.mul_one]; exact List.getElem?_eq_getElem _)
      have cK : ∀ {c o : Nat}, CelN F c o us → Cel F c (o + ((k : Nat) : Int).toNat * 1) us[k] := fun hc => hc.one (by rw [Int.toNat_natCast, Nat.mul_one]; exact List.getElem?_eq_getElem _)
      have hstr : strB ls[i] = strB ls[k] ↔ ls[i] = ls[k] := strB_inj li.2 lk.2
      (conv => whnf); repeat ((first | with_reducible refine CondG.tt ?_ | with_reducible refine CondG.ff ?_); conv => whnf)
      refine DrawG.mk 24 [] [] (Ent.refl _) ?_
      (conv => whnf); repeat ((first | with_reducible refine CondG.tt ?_ | with_reducible refine CondG.ff ?_); conv => whnf)
      refine .take 0 ?_
      (conv => whnf); repeat ((first | with_reducible refine CondG.tt ?_ | with_reducible refine CondG.ff ?_); conv => whnf)
      refine ⟨rfl, ?_⟩
      (conv => whnf); repeat ((first | with_reducible refine CondG.tt ?_ | with_reducible refine CondG.ff ?_); conv => whnf)
      refine .take 1 ?_
      (conv => whnf); repeat ((first | with_reducible refine CondG.tt ?_ | with_reducible refine CondG.ff ?_); conv => whnf)
      refine ⟨rfl, ?_⟩
      (conv => whnf); repeat ((first | with_reducible refine CondG.tt ?_ | with_reducible refine CondG.ff ?_); conv => whnf)
      refine .take 2 ?_
      (conv => whnf); repeat ((first | with_reducible refine CondG.tt ?_ | with_reducible refine CondG.ff ?_); conv => whnf)
      refine ⟨rfl, ?_⟩
      (conv => whnf); repeat ((first | with_reducible refine CondG.tt ?_ | with_reducible refine CondG.ff ?_); conv => whnf)
      refine IdxG.rd h2 (by omega) fun c o hc => ?_
      (conv => whnf); repeat ((first | with_reducible refine CondG.tt ?_ | with_reducible refine CondG.ff ?_); conv => whnf)
      refine .take 3 ?_
      (conv => whnf); repeat ((first | with_reducible refine CondG.tt ?_ | with_reducible refine CondG.ff ?_); conv => whnf)
      refine ⟨rfl, ?_⟩
      (conv => whnf); repeat ((first | with_reducible refine CondG.tt ?_ | with_reducible refine CondG.ff ?_); conv => whnf)
      refine LoadG.atF (cI hc) ?_
      (conv => whnf); repeat ((first | with_reducible refine CondG.tt ?_ | with_reducible refine CondG.ff ?_); conv => whnf)
      refine .take 5 ?_
      (conv => whnf); repeat ((first | with_reducible refine CondG.tt ?_ | with_reducible refine CondG.ff ?_); conv => whnf)
      refine ⟨rfl, ?_⟩
      (conv => whnf); repeat ((first | with_reducible refine CondG.tt ?_ | with_reducible refine CondG.ff ?_); conv => whnf)
      refine .take 6 ?_
      (conv => whnf); repeat ((first | with_reducible refine CondG.tt ?_ | with_reducible refine CondG.ff ?_); conv => whnf)
      refine ⟨rfl, ?_⟩
      (conv => whnf); repeat ((first | with_reducible refine CondG.tt ?_ | with_reducible refine CondG.ff ?_); conv => whnf)
      refine .take 7 ?_
      (conv => whnf); repeat ((first | with_reducible refine CondG.tt ?_ | with_reducible refine CondG.ff ?_); conv => whnf)
      refine ⟨rfl, ?_⟩
      (conv => whnf); repeat ((first | with_reducible refine CondG.tt ?_ | with_reducible refine CondG.ff ?_); conv => whnf)
      refine IdxG.rd h2 (by omega) fun c o hc => ?_
      (conv => whnf); repeat ((first | with_reducible refine CondG.tt ?_ | with_reducible refine CondG.ff ?_); conv => whnf)
      refine .take 8 ?_
      (conv => whnf); repeat ((first | with_reducible refine CondG.tt ?_ | with_reducible refine CondG.ff ?_); conv => whnf)
      refine ⟨rfl, ?_⟩
      (conv => whnf); repeat ((first | with_reducible refine CondG.tt ?_ | with_reducible refine CondG.ff ?_); conv => whnf)
      refine LoadG.atF (cK hc) ?_
      (conv => whnf); repeat ((first | with_reducible refine CondG.tt ?_ | with_reducible refine CondG.ff ?_); conv => whnf)
      refine .all ?_
      (conv => whnf); repeat ((first | with_reducible refine CondG.tt ?_ | with_reducible refine CondG.ff ?_); conv => whnf)
      refine ⟨by decide, ?_, ?_⟩
      (conv => whnf); repeat ((first | with_reducible refine CondG.tt ?_ | with_reducible refine CondG.ff ?_); conv => whnf)
      refine DoesG.toStr (e := 5) (bs := ls[i]) (by kernel_rfl) (by kernel_rfl) (by kernel_rfl) (.right (.right xi []) []) rfl ?_
      (conv => whnf); repeat ((first | with_reducible refine CondG.tt ?_ | with_reducible refine CondG.ff ?_); conv => whnf)
      refine .all ?_
      (conv => whnf); repeat ((first | with_reducible refine CondG.tt ?_ | with_reducible refine CondG.ff ?_); conv => whnf)
      refine ⟨by decide, ?_⟩
      (conv => whnf); repeat ((first | with_reducible refine CondG.tt ?_ | with_reducible refine CondG.ff ?_); conv => whnf)
      refine DoesG.toStr (e := 5) (bs := ls[k]) (by kernel_rfl) (by kernel_rfl) (by kernel_rfl) (.right (.right xk []) []) rfl ?_
      rotate_left
      (conv => whnf); repeat ((first | with_reducible refine CondG.tt ?_ | with_reducible refine CondG.ff ?_); conv => whnf)
      refine DoesG.toStr (e := 5) (bs := ls[k]) (by kernel_rfl) (by kernel_rfl) (by kernel_rfl) (.right (.right xk []) []) rfl ?_
      (conv => whnf); repeat ((first | with_reducible refine CondG.tt ?_ | with_reducible refine CondG.ff ?_); conv => whnf)
      refine .all ?_
      (conv => whnf); repeat ((first | with_reducible refine CondG.tt ?_ | with_reducible refine CondG.ff ?_); conv => whnf)
      refine ⟨by decide, ?_⟩
      (conv => whnf); repeat ((first | with_reducible refine CondG.tt ?_ | with_reducible refine CondG.ff ?_); conv => whnf)
      refine DoesG.toStr (e := 5) (bs := ls[i]) (by kernel_rfl) (by kernel_rfl) (by kernel_rfl) (.right (.right xi []) []) rfl ?_
      rotate_left
      all_goals
        (conv => whnf); repeat ((first | with_reducible refine CondG.tt ?_ | with_reducible refine CondG.ff ?_); conv => whnf)
        refine .take 10 ?_
        (conv => whnf); repeat ((first | with_reducible refine CondG.tt ?_ | with_reducible refine CondG.ff ?_); conv => whnf)
        refine ⟨rfl, ?_⟩
        (conv => whnf); repeat ((first | with_reducible refine CondG.tt ?_ | with_reducible refine CondG.ff ?_); conv => whnf)
        by_cases hne : ls[i] = ls[k]
        · rw [show (decide (strB ls[i] = strB ls[k])) = true from by simp [hne]]
          refine .take 11 ?_
          (conv => whnf); repeat ((first | with_reducible refine CondG.tt ?_ | with_reducible refine CondG.ff ?_); conv => whnf)
          refine ⟨rfl, ?_⟩
          (conv => whnf); repeat ((first | with_reducible refine CondG.tt ?_ | with_reducible refine CondG.ff ?_); conv => whnf)
          refine .take 12 ?_
          (conv => whnf); repeat ((first | with_reducible refine CondG.tt ?_ | with_reducible refine CondG.ff ?_); conv => whnf)
          refine ⟨rfl, ?_⟩
          (conv => whnf); repeat ((first | with_reducible refine CondG.tt ?_ | with_reducible refine CondG.ff ?_); conv => whnf)
          refine CondG.ff ?_
          (conv => whnf); repeat ((first | with_reducible refine CondG.tt ?_ | with_reducible refine CondG.ff ?_); conv => whnf)
          refine .take 13 ?_
          (conv => whnf); repeat ((first | with_reducible refine CondG.tt ?_ | with_reducible refine CondG.ff ?_); conv => whnf)
          refine ⟨rfl, ?_⟩
          (conv => whnf); repeat ((first | with_reducible refine CondG.tt ?_ | with_reducible refine CondG.ff ?_); conv => whnf)
          refine .take 14 ?_
          (conv => whnf); repeat ((first | with_reducible refine CondG.tt ?_ | with_reducible refine CondG.ff ?_); conv => whnf)
          refine ⟨rfl, ?_⟩
          (conv => whnf); repeat ((first | with_reducible refine CondG.tt ?_ | with_reducible refine CondG.ff ?_); conv => whnf)
          refine .take 15 ?_
          (conv => whnf); repeat ((first | with_reducible refine CondG.tt ?_ | with_reducible refine CondG.ff ?_); conv => whnf)
          refine ⟨rfl, ?_⟩
          (conv => whnf); repeat ((first | with_reducible refine CondG.tt ?_ | with_reducible refine CondG.ff ?_); conv => whnf)
          refine .take 17 ?_
          (conv => whnf); repeat ((first | with_reducible refine CondG.tt ?_ | with_reducible refine CondG.ff ?_); conv => whnf)
          refine ⟨rfl, ?_⟩
          (conv => whnf); repeat ((first | with_reducible refine CondG.tt ?_ | with_reducible refine CondG.ff ?_); conv => whnf)
          refine .take 18 ?_
          (conv => whnf); repeat ((first | with_reducible refine CondG.tt ?_ | with_reducible refine CondG.ff ?_); conv => whnf)
          refine ⟨rfl, ?_⟩
          (conv => whnf); repeat ((first | with_reducible refine CondG.tt ?_ | with_reducible refine CondG.ff ?_); conv => whnf)
          refine .take 19 ?_
          (conv => whnf); repeat ((first | with_reducible refine CondG.tt ?_ | with_reducible refine CondG.ff ?_); conv => whnf)
          refine ⟨rfl, ?_⟩
          (conv => whnf); repeat ((first | with_reducible refine CondG.tt ?_ | with_reducible refine CondG.ff ?_); conv => whnf)
          refine .take 20 ?_
          (conv => whnf); repeat ((first | with_reducible refine CondG.tt ?_ | with_reducible refine CondG.ff ?_); conv => whnf)
          refine ⟨rfl, ?_⟩
          (conv => whnf); repeat ((first | with_reducible refine CondG.tt ?_ | with_reducible refine CondG.ff ?_); conv => whnf)
          refine .all ?_
          (conv => whnf); repeat ((first | with_reducible refine CondG.tt ?_ | with_reducible refine CondG.ff ?_); conv => whnf)
          refine ⟨by decide, ?_⟩
          (conv => whnf); repeat ((first | with_reducible refine CondG.tt ?_ | with_reducible refine CondG.ff ?_); conv => whnf)
          refine .all ?_
          (conv => whnf); repeat ((first | with_reducible refine CondG.tt ?_ | with_reducible refine CondG.ff ?_); conv => whnf)
          refine ⟨by decide, ?_⟩
          (conv => whnf); repeat ((first | with_reducible refine CondG.tt ?_ | with_reducible refine CondG.ff ?_); conv => whnf)
          refine .all ?_
          (conv => whnf); repeat ((first | with_reducible refine CondG.tt ?_ | with_reducible refine CondG.ff ?_); conv => whnf)
          refine ⟨by decide, ?_⟩
          (conv => whnf); repeat ((first | with_reducible refine CondG.tt ?_ | with_reducible refine CondG.ff ?_); conv => whnf)
          refine .take 23 ?_
          (conv => whnf); repeat ((first | with_reducible refine CondG.tt ?_ | with_reducible refine CondG.ff ?_); conv => whnf)
          refine ⟨rfl, ?_⟩
          (conv => whnf); repeat ((first | with_reducible refine CondG.tt ?_ | with_reducible refine CondG.ff ?_); conv => whnf)
          refine ⟨rfl, ?_⟩
          (conv => whnf); repeat ((first | with_reducible refine CondG.tt ?_ | with_reducible refine CondG.ff ?_); conv => whnf)
          refine ArithG.i64 (by omega) ?_
          (conv => whnf); repeat ((first | with_reducible refine CondG.tt ?_ | with_reducible refine CondG.ff ?_); conv => whnf)
          refine ⟨i - (k + 1), _, _, by omega, ?_, Ent.refl _, k + 1, by omega, rfl, rfl, rfl, fun b hb => ?_⟩
          · exact ⟨rfl, rfl, rfl, trivial⟩
          · rcases Nat.lt_or_ge b k with h | h
            · exact hno2 b h
            · obtain rfl : b = k := by omega
              exact fun hc => (hC.1 hc).1 hne
        · rw [show (decide (strB ls[i] = strB ls[k])) = false from by simp [hstr, hne]]
          refine .take 11 ?_
          (conv => whnf); repeat ((first | with_reducible refine CondG.tt ?_ | with_reducible refine CondG.ff ?_); conv => whnf)
          refine ⟨rfl, ?_⟩
          (conv => whnf); repeat ((first | with_reducible refine CondG.tt ?_ | with_reducible refine CondG.ff ?_); conv => whnf)
          refine .take 12 ?_
          (conv => whnf); repeat ((first | with_reducible refine CondG.tt ?_ | with_reducible refine CondG.ff ?_); conv => whnf)
          refine ⟨rfl, ?_⟩
          (conv => whnf); repeat ((first | with_reducible refine CondG.tt ?_ | with_reducible refine CondG.ff ?_); conv => whnf)
          refine CondG.tt ?_
          (conv => whnf); repeat ((first | with_reducible refine CondG.tt ?_ | with_reducible refine CondG.ff ?_); conv => whnf)
          refine .take 13 ?_
          (conv => whnf); repeat ((first | with_reducible refine CondG.tt ?_ | with_reducible refine CondG.ff ?_); conv => whnf)
          refine ⟨rfl, ?_⟩
          (conv => whnf); repeat ((first | with_reducible refine CondG.tt ?_ | with_reducible refine CondG.ff ?_); conv => whnf)
          refine .take 14 ?_
          (conv => whnf); repeat ((first | with_reducible refine CondG.tt ?_ | with_reducible refine CondG.ff ?_); conv => whnf)
          refine ⟨rfl, ?_⟩
          (conv => whnf); repeat ((first | with_reducible refine CondG.tt ?_ | with_reducible refine CondG.ff ?_); conv => whnf)
          refine IdxG.rd h2 (by omega) fun c o hc => ?_
          (conv => whnf); repeat ((first | with_reducible refine CondG.tt ?_ | with_reducible refine CondG.ff ?_); conv => whnf)
          refine .take 15 ?_
          (conv => whnf); repeat ((first | with_reducible refine CondG.tt ?_ | with_reducible refine CondG.ff ?_); conv => whnf)
          refine ⟨rfl, ?_⟩
          (conv => whnf); repeat ((first | with_reducible refine CondG.tt ?_ | with_reducible refine CondG.ff ?_); conv => whnf)
          refine LoadG.atF (cI hc) ?_
          (conv => whnf); repeat ((first | with_reducible refine CondG.tt ?_ | with_reducible refine CondG.ff ?_); conv => whnf)
          refine .take 17 ?_
          (conv => whnf); repeat ((first | with_reducible refine CondG.tt ?_ | with_reducible refine CondG.ff ?_); conv => whnf)
          refine ⟨rfl, ?_⟩
          (conv => whnf); repeat ((first | with_reducible refine CondG.tt ?_ | with_reducible refine CondG.ff ?_); conv => whnf)
          refine .take 18 ?_
          (conv => whnf); repeat ((first | with_reducible refine CondG.tt ?_ | with_reducible refine CondG.ff ?_); conv => whnf)
          refine ⟨rfl, ?_⟩
          (conv => whnf); repeat ((first | with_reducible refine CondG.tt ?_ | with_reducible refine CondG.ff ?_); conv => whnf)
          refine .take 19 ?_
          (conv => whnf); repeat ((first | with_reducible refine CondG.tt ?_ | with_reducible refine CondG.ff ?_); conv => whnf)
          refine ⟨rfl, ?_⟩
          (conv => whnf); repeat ((first | with_reducible refine CondG.tt ?_ | with_reducible refine CondG.ff ?_); conv => whnf)
          refine IdxG.rd h2 (by omega) fun c o hc => ?_
          (conv => whnf); repeat ((first | with_reducible refine CondG.tt ?_ | with_reducible refine CondG.ff ?_); conv => whnf)
          refine .take 20 ?_
          (conv => whnf); repeat ((first | with_reducible refine CondG.tt ?_ | with_reducible refine CondG.ff ?_); conv => whnf)
          refine ⟨rfl, ?_⟩
          (conv => whnf); repeat ((first | with_reducible refine CondG.tt ?_ | with_reducible refine CondG.ff ?_); conv => whnf)
          refine LoadG.atF (cK hc) ?_
          (conv => whnf); repeat ((first | with_reducible refine CondG.tt ?_ | with_reducible refine CondG.ff ?_); conv => whnf)
          refine .all ?_
          (conv => whnf); repeat ((first | with_reducible refine CondG.tt ?_ | with_reducible refine CondG.ff ?_); conv => whnf)
          refine ⟨by decide, ?_⟩
          (conv => whnf); repeat ((first | with_reducible refine CondG.tt ?_ | with_reducible refine CondG.ff ?_); conv => whnf)
          refine CallG.pure (rsum_spec _ K (.right (.right hK _) _) (.right (.right hB _) _) hk us[i] ls[i] (.right (.right xi _) _) li.1 li.2) ?_
          rintro _ _ ⟨rfl, rfl⟩
          (conv => whnf); repeat ((first | with_reducible refine CondG.tt ?_ | with_reducible refine CondG.ff ?_); conv => whnf)
          refine .all ?_
          (conv => whnf); repeat ((first | with_reducible refine CondG.tt ?_ | with_reducible refine CondG.ff ?_); conv => whnf)
          refine ⟨by decide, ?_⟩
          (conv => whnf); repeat ((first | with_reducible refine CondG.tt ?_ | with_reducible refine CondG.ff ?_); conv => whnf)
          refine CallG.pure (rsum_spec _ K (.right (.right hK _) _) (.right (.right hB _) _) hk us[k] ls[k] (.right (.right xk _) _) lk.1 lk.2) ?_
          rintro _ _ ⟨rfl, rfl⟩
          (conv => whnf); repeat ((first | with_reducible refine CondG.tt ?_ | with_reducible refine CondG.ff ?_); conv => whnf)
          refine .all ?_
          (conv => whnf); repeat ((first | with_reducible refine CondG.tt ?_ | with_reducible refine CondG.ff ?_); conv => whnf)
          refine ⟨by decide, ?_⟩
          (conv => whnf); repeat ((first | with_reducible refine CondG.tt ?_ | with_reducible refine CondG.ff ?_); conv => whnf)
          refine DoesG.eqv 8 (List.replicate 32 (.int .u8)) (by kernel_rfl) (by decide) (by kernel_rfl) (by kernel_rfl) (wt_bvs (dig_len _ _)) (wt_bvs (dig_len _ _)) ?_
          (conv => whnf); repeat ((first | with_reducible refine CondG.tt ?_ | with_reducible refine CondG.ff ?_); conv => whnf)
          refine .take 23 ?_
          (conv => whnf); repeat ((first | with_reducible refine CondG.tt ?_ | with_reducible refine CondG.ff ?_); conv => whnf)
          refine ⟨rfl, ?_⟩
          (conv => whnf); repeat ((first | with_reducible refine CondG.tt ?_ | with_reducible refine CondG.ff ?_); conv => whnf)
          refine ⟨rfl, ?_⟩
          (conv => whnf); repeat ((first | with_reducible refine CondG.tt ?_ | with_reducible refine CondG.ff ?_); conv => whnf)
          refine CondG.split (fun h7 => ?_) (fun h7 => ?_)
          · (conv => whnf); repeat ((first | with_reducible refine CondG.tt ?_ | with_reducible refine CondG.ff ?_); conv => whnf)
            exact ret_here ⟨rfl, rfl⟩
          · (conv => whnf); repeat ((first | with_reducible refine CondG.tt ?_ | with_reducible refine CondG.ff ?_); conv => whnf)
            refine ArithG.i64 (by omega) ?_
            (conv => whnf); repeat ((first | with_reducible refine CondG.tt ?_ | with_reducible refine CondG.ff ?_); conv => whnf)
            refine ⟨i - (k + 1), _, _, by omega, ?_, Ent.refl _, k + 1, by omega, rfl, rfl, rfl, fun b hb => ?_⟩
            · exact ⟨rfl, rfl, rfl, trivial⟩
            · rcases Nat.lt_or_ge b k with h | h
              · exact hno2 b h
              · obtain rfl : b = k := by omega
                exact fun hc => by
                  have := (hC.1 hc).2
                  rw [this] at h7
                  simp at h7
    · obtain rfl : k = i := by omega
      (conv => whnf); repeat ((first | with_reducible refine CondG.tt ?_ | with_reducible refine CondG.ff ?_); conv => whnf)
      refine ArithG.i64 (by omega) ?_
      (conv => whnf); repeat ((first | with_reducible refine CondG.tt ?_ | with_reducible refine CondG.ff ?_); conv => whnf)
      refine ⟨ls.length - (k + 1), _, _, by omega, ?_, Ent.refl _, k + 1, by omega, rfl, rfl, rfl, fun a ha b hb => ?_⟩
      · exact ⟨rfl, rfl, trivial⟩
      · rcases Nat.lt_or_ge a k with h | h
        · exact hno a h b hb
        · obtain rfl : a = k := by omega
          exact hno2 b hb
  · obtain ⟨a, b, hb, ha, hc⟩ := hcl
    exact absurd hc (hno a (by omega) b hb)
end
end Go.Proofs.YthdpknlnpeaiiaaDoor
