import Derived.Test.YtjkldhalmglkpaaDoorZTc
namespace Go.Sl
open Go Go.Sort
abbrev KvB := ByteArray × List Nat
theorem withT_eq {key : ByteArray} {new : KvB} : ∀ l : List KvB, withL Prod.fst key new true l = l.filter fun p => decide (p.1 ≠ key)
 | [] => rfl
 | p :: l => by
  unfold withL
  rw [List.filter_cons, show (true || !slt p.1 key) = true from rfl, withT_eq l]
  by_cases h : p.1 = key <;> simp [h]
theorem withL_rise {key : ByteArray} {bs : List Nat} : ∀ {l : List KvB}, l.Pairwise (fun a b => slt a.1 b.1 = true) → (withL Prod.fst key (key, bs) false l).Pairwise (fun a b => slt a.1 b.1 = true) ∧ (∀ p, p ∈ withL Prod.fst key (key, bs) false l ↔ p = (key, bs) ∨ (p ∈ l ∧ p.1 ≠ key))
 | [], _ => by
  have e : withL Prod.fst key (key, bs) false ([] : List KvB) = [(key, bs)] := rfl
  rw [e]
  exact ⟨List.pairwise_singleton _ _, fun p => by simp⟩
 | q :: l, h => by
  obtain ⟨h1, h2⟩ := List.pairwise_cons.1 h
  obtain ⟨i1, i2⟩ := withL_rise (key := key) (bs := bs) h2
  cases hs : slt q.1 key with
  | true =>
   have hne : q.1 ≠ key := fun e => by rw [e, slt_irrefl] at hs; cases hs
   have e : withL Prod.fst key (key, bs) false (q :: l) = q :: withL Prod.fst key (key, bs) false l := by
    conv => lhs; unfold withL
    simp [hs, hne]
   rw [e]
   refine ⟨List.pairwise_cons.2 ⟨fun p hp => ?_, i1⟩, fun p => ?_⟩
   ·rcases (i2 p).1 hp with rfl | ⟨h3, _⟩
    ·exact hs
    ·exact h1 p h3
   ·rw [List.mem_cons, i2, List.mem_cons]
    constructor
    ·rintro (rfl | h3 | ⟨h3, h4⟩)
     ·exact .inr ⟨.inl rfl, hne⟩
     ·exact .inl h3
     ·exact .inr ⟨.inr h3, h4⟩
    ·rintro (h3 | ⟨rfl | h3, h4⟩)
     ·exact .inr (.inl h3)
     ·exact .inl rfl
     ·exact .inr (.inr ⟨h3, h4⟩)
  | false =>
   have e : withL Prod.fst key (key, bs) false (q :: l) = (key, bs) :: (q :: l).filter fun p => decide (p.1 ≠ key) := by
    conv => lhs; unfold withL
    rw [show (false || !slt q.1 key) = true by rw [hs]; rfl, withT_eq, List.filter_cons]
    by_cases h3 : q.1 = key <;> simp [h3, hs, slt_irrefl]
   rw [e]
   refine ⟨List.pairwise_cons.2 ⟨fun p hp => ?_, h.filter _⟩, fun p => ?_⟩
   ·obtain ⟨h3, h4⟩ := List.mem_filter.1 hp
    have h5 : p.1 ≠ key := of_decide_eq_true h4
    have hq : ∀ x : ByteArray, slt x key = false → x ≠ key → slt key x = true := fun x h6 h7 => by
     cases h8 : slt key x with
     | true => rfl
     | false => exact absurd (slt_tri h6 h8) h7
    rcases List.mem_cons.1 h3 with rfl | h6
    ·exact hq _ hs h5
    ·by_cases h7 : q.1 = key
     ·rw [← h7]; exact h1 p h6
     ·exact slt_trans (hq _ hs h7) (h1 p h6)
   ·rw [List.mem_cons, List.mem_filter, decide_eq_true_eq]
theorem AllD.put {f : ByteArray → List Nat} {l : List KvB} (h : AllD f l) {key : ByteArray} {bs : List Nat} (hm : mayI key bs.length = 0) : AllD (putC f key bs) (putP key bs l) := by
 obtain ⟨h1, h2⟩ := withL_rise (key := key) (bs := bs) h.rise
 have e : putC f key bs = fun k => if k = key then bs else f k := by unfold putC; rw [if_pos hm]
 rw [e]
 unfold putP
 refine ⟨h1.filter _, fun p hp => ?_, fun k hk => ?_⟩
 ·obtain ⟨h3, h4⟩ := List.mem_filter.1 hp
  have h5 : p.2 ≠ [] := fun e => by rw [e] at h4; simp at h4
  rcases (h2 p).1 h3 with rfl | ⟨h6, h7⟩
  ·exact ⟨if_pos rfl, h5⟩
  ·exact ⟨by show (if p.1 = key then bs else f p.1) = p.2; rw [if_neg h7]; exact (h.mem p h6).1, h5⟩
 ·by_cases hkk : k = key
  ·subst hkk
   have hb : bs ≠ [] := by simpa using hk
   exact List.mem_map.2 ⟨(k, bs), List.mem_filter.2 ⟨(h2 _).2 (.inl rfl), by simp; exact List.length_pos_iff.2 hb⟩, rfl⟩
  ·have hf : f k ≠ [] := by simpa [hkk] using hk
   obtain ⟨p, hp, rfl⟩ := List.mem_map.1 (h.all k hf)
   obtain ⟨h3, h4⟩ := h.mem p hp
   exact List.mem_map.2 ⟨p, List.mem_filter.2 ⟨(h2 _).2 (.inr ⟨hp, hkk⟩), by simp; exact List.length_pos_iff.2 h4⟩, rfl⟩
theorem AllD.first : AllD (fun _ => []) [] := ⟨List.Pairwise.nil, fun _ h => absurd h List.not_mem_nil, fun _ h => absurd rfl h⟩
end Go.Sl
