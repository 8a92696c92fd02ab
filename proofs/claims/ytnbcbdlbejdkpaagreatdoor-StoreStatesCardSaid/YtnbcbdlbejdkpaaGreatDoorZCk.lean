/-
  Paths that are shown, as plain data: where two of them lead to one root, two texts have one digest. A library of this session's own.
-/
import Derived.Test.YtnbcbdlbejdkpaaGreatDoorZRb
namespace Go.Sl
open Go
/-! A leaf's bytes tell the leaf. -/
theorem strip_pad (l : List Nat) : List.replicate (l.length - (strip l).length) 0 ++ strip l = l := by
  induction l with
  | nil => rfl
  | cons b l ih =>
    by_cases h : b = 0
    · subst h
      have hs : strip (0 :: l) = strip l := by simp [strip]
      have hl := strip_len l
      have e : l.length + 1 - (strip l).length = (l.length - (strip l).length) + 1 := by omega
      rw [hs, List.length_cons, e, List.replicate_succ, List.cons_append, ih]
    · rw [strip_cons h]; simp
theorem short_app {a b x y : List Nat} (h : shortL a ++ x = shortL b ++ y) (hl : a.length = b.length) : a = b ∧ x = y := by
  simp only [shortL, List.cons_append, List.cons.injEq] at h
  obtain ⟨h1, h2⟩ := h
  obtain ⟨h3, h4⟩ := List.append_inj h2 h1
  refine ⟨?_, h4⟩
  rw [← strip_pad a, ← strip_pad b, h3, hl]
theorem be_inj {a b : Nat} (ha : a < m64) (hb : b < m64) (h : be a 8 = be b 8) : a = b := by
  have h1 := be_word ha
  have h2 := be_word hb
  rw [h] at h1
  exact Int.ofNat.inj (h1.symm.trans h2)
theorem wideB_inj {a b : List Nat} (ha : wOk a) (hb : wOk b) (h : wideB a = wideB b) : a = b := by
  rw [← words_wide ha, h, words_wide hb]
theorem toNat_inj {a b : Int} (ha : 0 ≤ a) (hb : 0 ≤ b) (h : a.toNat = b.toNat) : a = b := by omega
theorem bytes_inj {a b : LeafD} (ha : a.wf) (hb : b.wf) (ma : a.may) (mb : b.may) (wa : wOk a.amt) (wb : wOk b.amt) (h : a.bytes = b.bytes) : a = b := by
  obtain ⟨⟨a1, a2⟩, ⟨a3, a4⟩, ⟨a5, a6⟩, _⟩ := ma
  obtain ⟨⟨b1, b2⟩, ⟨b3, b4⟩, ⟨b5, b6⟩, _⟩ := mb
  simp only [LeafD.bytes, List.append_assoc, List.cons_append, List.nil_append, List.cons.injEq, true_and] at h
  obtain ⟨h1, h⟩ := short_app h (by rw [be_len, be_len])
  obtain ⟨h2, h⟩ := short_app h (by rw [be_len, be_len])
  obtain ⟨h3, h⟩ := short_app h (by rw [be_len, be_len])
  obtain ⟨h4, h⟩ := List.append_inj h (by rw [ha.to, hb.to])
  rw [← List.append_nil (shortL (wideB a.amt)), ← List.append_nil (shortL (wideB b.amt))] at h
  obtain ⟨h5, _⟩ := short_app h (by rw [wide_len, wide_len])
  have e1 := toNat_inj a1 b1 (be_inj (by simp only [m64]; omega) (by simp only [m64]; omega) h1)
  have e2 := toNat_inj a3 b3 (be_inj (by simp only [m64]; omega) (by simp only [m64]; omega) h2)
  have e3 := toNat_inj a5 b5 (be_inj (by simp only [m64]; omega) (by simp only [m64]; omega) h3)
  have e5 := wideB_inj wa wb h5
  cases a
  cases b
  simp only at e1 e2 e3 h4 e5
  subst e1 e2 e3 h4 e5
  rfl
/-! The path, its last digest first. -/
def shownR (K : List W32) : List (List Nat) → Nat → Nat → List Nat → List Nat × Bool
  | [], n, _, leaf => if n = 1 then (leaf, true) else (List.replicate 32 0, false)
  | d :: r, n, i, leaf => if n = 1 then (leaf, false) else
    if i < half n then (nodeD K (shownR K r (half n) i leaf).1 d, (shownR K r (half n) i leaf).2)
    else (nodeD K d (shownR K r (n - half n) (i - half n) leaf).1, (shownR K r (n - half n) (i - half n) leaf).2)
theorem shownR_len (K : List W32) : ∀ (p : List (List Nat)) (n i : Nat) (leaf : List Nat), leaf.length = 32 → (shownR K p n i leaf).1.length = 32
  | [], n, i, leaf, h => by
    unfold shownR
    split
    · exact h
    · simp
  | d :: r, n, i, leaf, h => by
    unfold shownR
    split
    · exact h
    · split <;> exact dig_len _ _
theorem shownR_byte (K : List W32) : ∀ (p : List (List Nat)) (n i : Nat) (leaf : List Nat), (∀ b ∈ leaf, b < 256) → ∀ b ∈ (shownR K p n i leaf).1, b < 256
  | [], n, i, leaf, h => by
    unfold shownR
    split
    · exact h
    · intro b hb
      rw [List.eq_of_mem_replicate hb]
      decide
  | d :: r, n, i, leaf, h => by
    unfold shownR
    split
    · exact h
    · split <;> exact dig_byte _ _
/-- Of the path of a leaf, from the leaf up: does the other one stand on the right? -/
def sidesF : Nat → Nat → Nat → List Bool
  | 0, _, _ => []
  | f + 1, n, i => if n < 2 then [] else if i < half n then sidesF f (half n) i ++ [true] else sidesF f (n - half n) (i - half n) ++ [false]
theorem sidesF_more : ∀ (f g n i : Nat), n ≤ f → n ≤ g → sidesF f n i = sidesF g n i
  | 0, 0, _, _, _, _ => rfl
  | 0, g + 1, n, i, h, _ => by
    obtain rfl : n = 0 := by omega
    rfl
  | f + 1, 0, n, i, _, h => by
    obtain rfl : n = 0 := by omega
    rfl
  | f + 1, g + 1, n, i, h1, h2 => by
    have hp := half_pos n
    unfold sidesF
    split
    · rfl
    · have hl := half_lt (n := n) (by omega)
      rw [sidesF_more f g (half n) i (by omega) (by omega), sidesF_more f g (n - half n) (i - half n) (by omega) (by omega)]
def sides (n i : Nat) : List Bool := sidesF n n i
theorem sides_one (i : Nat) : sides 1 i = [] := rfl
theorem sides_two {n : Nat} (i : Nat) (h : 2 ≤ n) : sides n i = if i < half n then sides (half n) i ++ [true] else sides (n - half n) (i - half n) ++ [false] := by
  have hp := half_pos n
  have hl := half_lt h
  obtain ⟨f, hf⟩ : ∃ f, n = f + 1 := ⟨n - 1, by omega⟩
  have e : sides n i = sidesF (f + 1) n i := by rw [sides, ← hf]
  rw [e, sidesF, if_neg (by omega), sides, sides, sidesF_more f (half n) (half n) i (by omega) (Nat.le_refl _), sidesF_more f (n - half n) (n - half n) (i - half n) (by omega) (Nat.le_refl _)]
theorem sides_le : ∀ (k n i : Nat), n ≤ k → (sides n i).length ≤ n
  | 0, n, i, h => by
    obtain rfl : n = 0 := by omega
    exact Nat.le_refl 0
  | k + 1, n, i, h => by
    rcases Nat.lt_or_ge n 2 with h2 | h2
    · rcases (by omega : n = 0 ∨ n = 1) with rfl | rfl
      · exact Nat.le_refl 0
      · exact Nat.zero_le _
    · have hp := half_pos n
      have hl := half_lt h2
      rw [sides_two i h2]
      split
      · have := sides_le k (half n) i (by omega)
        rw [List.length_append, List.length_singleton]
        omega
      · have := sides_le k (n - half n) (i - half n) (by omega)
        rw [List.length_append, List.length_singleton]
        omega
/-- The next text. -/
def nodeT (r : Bool) (p d : List Nat) : List Nat := if r then 1 :: (d ++ p) else 1 :: (p ++ d)
def topL (K : List W32) : List Nat → List (Bool × List Nat) → List Nat
  | t, [] => dig K t
  | t, (r, p) :: l => topL K (nodeT r p (dig K t)) l
def walkL (K : List W32) : List Nat → List (Bool × List Nat) → List (List Nat)
  | t, [] => [t]
  | t, (r, p) :: l => t :: walkL K (nodeT r p (dig K t)) l
theorem topL_snoc (K : List W32) : ∀ (t : List Nat) (l : List (Bool × List Nat)) (x : Bool × List Nat), topL K t (l ++ [x]) = dig K (nodeT x.1 x.2 (topL K t l))
  | t, [], x => rfl
  | t, (r, p) :: l, x => topL_snoc K _ l x
theorem walkL_snoc (K : List W32) : ∀ (t : List Nat) (l : List (Bool × List Nat)) (x : Bool × List Nat), walkL K t (l ++ [x]) = walkL K t l ++ [nodeT x.1 x.2 (topL K t l)]
  | t, [], x => rfl
  | t, (r, p) :: l, x => by
    show t :: walkL K _ (l ++ [x]) = _
    rw [walkL_snoc]
    rfl
theorem walkL_len (K : List W32) : ∀ (t : List Nat) (l : List (Bool × List Nat)), (walkL K t l).length = l.length + 1
  | t, [] => rfl
  | t, (r, p) :: l => by simp [walkL, walkL_len K]
theorem walkL_last (K : List W32) : ∀ (t : List Nat) (l : List (Bool × List Nat)), ∃ u, (walkL K t l)[l.length]? = some u ∧ topL K t l = dig K u
  | t, [] => ⟨t, rfl, rfl⟩
  | t, (r, p) :: l => by
    obtain ⟨u, h1, h2⟩ := walkL_last K (nodeT r p (dig K t)) l
    exact ⟨u, by simpa [walkL] using h1, h2⟩
/-- What is shown is the last digest of the texts. -/
theorem shown_top (K : List W32) (t : List Nat) : ∀ (p : List (List Nat)) (n i : Nat), 1 ≤ n → (shownR K p n i (dig K t)).2 = true →
    p.length = (sides n i).length ∧ (shownR K p n i (dig K t)).1 = topL K t ((sides n i).zip p.reverse)
  | [], n, i, hn, h => by
    by_cases h1 : n = 1
    · subst h1
      exact ⟨rfl, rfl⟩
    · simp [shownR, h1] at h
  | d :: r, n, i, hn, h => by
    by_cases h1 : n = 1
    · subst h1
      simp [shownR] at h
    · have hp := half_pos n
      have hl := half_lt (n := n) (by omega)
      unfold shownR at h ⊢
      rw [if_neg h1] at h ⊢
      rw [sides_two i (by omega)]
      by_cases h2 : i < half n
      · rw [if_pos h2] at h ⊢
        obtain ⟨h3, h4⟩ := shown_top K t r (half n) i (by omega) h
        rw [if_pos h2, List.reverse_cons, List.zip_append (by rw [List.length_reverse]; exact h3.symm), List.zip_cons_cons, List.zip_nil_left, topL_snoc, ← h4]
        exact ⟨by simp [h3], rfl⟩
      · rw [if_neg h2] at h ⊢
        obtain ⟨h3, h4⟩ := shown_top K t r (n - half n) (i - half n) (by omega) h
        rw [if_neg h2, List.reverse_cons, List.zip_append (by rw [List.length_reverse]; exact h3.symm), List.zip_cons_cons, List.zip_nil_left, topL_snoc, ← h4]
        exact ⟨by simp [h3], rfl⟩
/-- A leaf is shown by its path. -/
theorem shown_path (K : List W32) : ∀ (k : Nat) (ls : List (List Nat)) (i : Nat) (l : List Nat), ls.length ≤ k → ls[i]? = some l → shownR K (pathD K ls i).reverse ls.length i (leafT K l) = (rootD K ls, true)
  | 0, ls, i, l, h, hi => by
    obtain rfl : ls = [] := List.eq_nil_of_length_eq_zero (by omega)
    simp at hi
  | k + 1, ls, i, l, h, hi => by
    rcases Nat.lt_or_ge ls.length 2 with h2 | h2
    · match ls, h2, hi with
      | [], _, hi => simp at hi
      | [x], _, hi =>
        obtain rfl : i = 0 := by
          rcases Nat.eq_zero_or_pos i with h | h
          · exact h
          · rw [List.getElem?_eq_none (by simp; omega)] at hi
            cases hi
        obtain rfl : x = l := by simpa using hi
        rfl
    · have hp := half_pos ls.length
      have hl := half_lt h2
      rw [pathD_two K ls i h2, rootD_two K ls h2]
      have ht : (ls.take (half ls.length)).length = half ls.length := by rw [List.length_take]; omega
      have hd : (ls.drop (half ls.length)).length = ls.length - half ls.length := List.length_drop
      split
      · rename_i h3
        have := shown_path K k (ls.take (half ls.length)) i l (by omega) (by rw [List.getElem?_take, if_pos h3]; exact hi)
        rw [ht] at this
        rw [List.reverse_append, List.reverse_singleton, List.singleton_append, shownR, if_neg (by omega), if_pos h3, this]
      · rename_i h3
        have := shown_path K k (ls.drop (half ls.length)) (i - half ls.length) l (by omega) (by rw [List.getElem?_drop, show half ls.length + (i - half ls.length) = i by omega]; exact hi)
        rw [hd] at this
        rw [List.reverse_append, List.reverse_singleton, List.singleton_append, shownR, if_neg (by omega), if_neg h3, this]
theorem pathD_byte (K : List W32) : ∀ (n : Nat) (ls : List (List Nat)) (i : Nat), ls.length ≤ n → ∀ d ∈ pathD K ls i, ∀ b ∈ d, b < 256
  | 0, ls, i, h, d, hd => by
    obtain rfl : ls = [] := List.eq_nil_of_length_eq_zero (by omega)
    simp [pathD, pathF] at hd
  | n + 1, ls, i, h, d, hd => by
    rcases Nat.lt_or_ge ls.length 2 with h2 | h2
    · match ls, h2, hd with
      | [], _, hd => simp [pathD, pathF] at hd
      | [l], _, hd => rw [pathD_one] at hd; simp at hd
    · have hp := half_pos ls.length
      have hl := half_lt h2
      rw [pathD_two K ls i h2] at hd
      split at hd
      · rcases List.mem_append.1 hd with hd | hd
        · exact pathD_byte K n _ _ (by rw [List.length_take]; omega) d hd
        · rw [List.mem_singleton.1 hd]; exact rootD_byte _ _
      · rcases List.mem_append.1 hd with hd | hd
        · exact pathD_byte K n _ _ (by rw [List.length_drop]; omega) d hd
        · rw [List.mem_singleton.1 hd]; exact rootD_byte _ _
/-! Two texts that lead to one root. -/
theorem nodeT_inj {r : Bool} {p q d e : List Nat} (hp : p.length = 32) (hq : q.length = 32) (hd : d.length = 32) (he : e.length = 32) (h : nodeT r p d = nodeT r q e) : d = e := by
  cases r
  · simp only [nodeT, Bool.false_eq_true, if_false, List.cons.injEq, true_and] at h
    exact (List.append_inj h (by rw [hp, hq])).2
  · simp only [nodeT, if_true, List.cons.injEq, true_and] at h
    exact (List.append_inj h (by rw [hd, he])).1
theorem clash_of (K : List W32) : ∀ (s : List Bool) (t u : List Nat) (p q : List (List Nat)), (∀ d ∈ p, d.length = 32) → (∀ d ∈ q, d.length = 32) → p.length = s.length → q.length = s.length → t ≠ u →
    topL K t (s.zip p) = topL K u (s.zip q) → ∃ (k : Nat) (x y : List Nat), (walkL K t (s.zip p))[k]? = some x ∧ (walkL K u (s.zip q))[k]? = some y ∧ x ≠ y ∧ dig K x = dig K y
  | [], t, u, p, q, _, _, _, _, hne, h => ⟨0, t, u, by simp [walkL], by simp [walkL], hne, by simpa [topL] using h⟩
  | r :: s, t, u, [], q, _, _, h, _, _, _ => by simp at h
  | r :: s, t, u, a :: p, [], _, _, _, h, _, _ => by simp at h
  | r :: s, t, u, a :: p, b :: q, hp, hq, h1, h2, hne, h => by
    by_cases he : dig K t = dig K u
    · exact ⟨0, t, u, by simp [walkL], by simp [walkL], hne, he⟩
    · obtain ⟨k, x, y, h3, h4, h5, h6⟩ := clash_of K s (nodeT r a (dig K t)) (nodeT r b (dig K u)) p q (fun d hd => hp d (by simp [hd])) (fun d hd => hq d (by simp [hd])) (by simpa using h1) (by simpa using h2)
        (fun e => he (nodeT_inj (hp a (by simp)) (hq b (by simp)) (dig_len _ _) (dig_len _ _) e)) (by simpa [topL] using h)
      exact ⟨k + 1, x, y, by simpa [walkL] using h3, by simpa [walkL] using h4, h5, h6⟩
def ClP (K : List W32) (ls : List (List Nat)) (a b : Nat) : Prop := ls.getD a [] ≠ ls.getD b [] ∧ dig K (ls.getD a []) = dig K (ls.getD b [])
/-- Two unlike texts of one place and one root: among the texts of both two unlike ones have one digest. -/
theorem one_clash (K : List W32) {n i : Nat} {x y : List Nat} {p q : List (List Nat)} {root : List Nat} (h1 : 1 ≤ n) (hp : ∀ d ∈ p, d.length = 32) (hq : ∀ d ∈ q, d.length = 32)
    (hx2 : (shownR K p.reverse n i (leafT K x)).2 = true) (hx1 : (shownR K p.reverse n i (leafT K x)).1 = root) (hy2 : (shownR K q.reverse n i (leafT K y)).2 = true) (hy1 : (shownR K q.reverse n i (leafT K y)).1 = root) (hne : x ≠ y) :
    ∃ a b, b < a ∧ a < (walkL K (0 :: x) ((sides n i).zip p) ++ walkL K (0 :: y) ((sides n i).zip q)).length ∧ ClP K (walkL K (0 :: x) ((sides n i).zip p) ++ walkL K (0 :: y) ((sides n i).zip q)) a b := by
  obtain ⟨l1, t1⟩ := shown_top K (0 :: x) p.reverse n i h1 hx2
  obtain ⟨l2, t2⟩ := shown_top K (0 :: y) q.reverse n i h1 hy2
  rw [List.length_reverse] at l1 l2
  rw [List.reverse_reverse] at t1 t2
  obtain ⟨k, u, v, h3, h4, h5, h6⟩ := clash_of K (sides n i) (0 :: x) (0 :: y) p q hp hq l1 l2 (fun e => hne (List.cons.inj e).2) (by rw [← t1, ← t2]; exact hx1.trans hy1.symm)
  have hk1 := (List.getElem?_eq_some_iff.1 h3).1
  have hk2 := (List.getElem?_eq_some_iff.1 h4).1
  refine ⟨(walkL K (0 :: x) ((sides n i).zip p)).length + k, k, by omega, by rw [List.length_append]; omega, ?_⟩
  have g1 : (walkL K (0 :: x) ((sides n i).zip p) ++ walkL K (0 :: y) ((sides n i).zip q)).getD ((walkL K (0 :: x) ((sides n i).zip p)).length + k) [] = v := by
    rw [List.getD, List.getElem?_append_right (Nat.le_add_right _ _), Nat.add_sub_cancel_left, h4]
    rfl
  have g2 : (walkL K (0 :: x) ((sides n i).zip p) ++ walkL K (0 :: y) ((sides n i).zip q)).getD k [] = u := by
    rw [List.getD, List.getElem?_append_left hk1, h3]
    rfl
  unfold ClP
  rw [g1, g2]
  exact ⟨fun e => h5 e.symm, h6.symm⟩
theorem half_le {n k : Nat} (h2 : 2 ≤ n) (h : n ≤ 2 ^ (k + 1)) : half n ≤ 2 ^ k ∧ n - half n ≤ 2 ^ k := by
  have h1 : (n - 1).log2 ≤ k := by
    have := (Nat.log2_lt (n := n - 1) (k := k + 1) (by omega)).2 (by omega)
    omega
  have h3 : half n ≤ 2 ^ k := Nat.pow_le_pow_right (by decide) h1
  have h4 : n - 1 < 2 ^ ((n - 1).log2 + 1) := Nat.lt_log2_self
  have h5 : 2 ^ ((n - 1).log2 + 1) = half n + half n := by rw [half, Nat.pow_succ]; omega
  exact ⟨h3, by omega⟩
theorem sides_log : ∀ (k n i : Nat), n ≤ 2 ^ k → (sides n i).length ≤ k
  | 0, n, i, h => by
    rcases (by omega : n = 0 ∨ n = 1) with rfl | rfl
    · exact Nat.le_refl 0
    · exact Nat.le_refl 0
  | k + 1, n, i, h => by
    rcases Nat.lt_or_ge n 2 with h2 | h2
    · rcases (by omega : n = 0 ∨ n = 1) with rfl | rfl
      · exact Nat.zero_le _
      · exact Nat.zero_le _
    · obtain ⟨h3, h4⟩ := half_le h2 h
      rw [sides_two i h2]
      split
      · have := sides_log k (half n) i h3
        rw [List.length_append, List.length_singleton]
        omega
      · have := sides_log k (n - half n) (i - half n) h4
        rw [List.length_append, List.length_singleton]
        omega
end Go.Sl
