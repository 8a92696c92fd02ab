import Derived.Test.YtjacolfhlfogkabGreatDoorZTu
namespace Go.Sl
open Go
def few : List ByteArray := ntK :: (List.range 64).map tokKey
def fewB (k : ByteArray) : Bool := few.any fun j => decide (j = k)
theorem fewB_mem {k : ByteArray} : fewB k = true ↔ k ∈ few := by
 unfold fewB
 rw [List.any_eq_true]
 constructor
 ·rintro ⟨j, hj, e⟩
  rw [← of_decide_eq_true e]
  exact hj
 ·exact fun h => ⟨k, h, by simp⟩
def cntT (l : List KB) : Nat := l.countP fun p => !fewB p.1
theorem few_len : few.length = 65 := by simp [few]
theorem nodup_le {α : Type} [DecidableEq α] : ∀ {l m : List α}, l.Nodup → (∀ x ∈ l, x ∈ m) → l.length ≤ m.length
 | [], m, _, _ => Nat.zero_le _
 | a :: l, m, hn, hs => by
  rw [List.nodup_cons] at hn
  have ha := hs a List.mem_cons_self
  have h1 : l.length ≤ (m.erase a).length := nodup_le hn.2 fun x hx => by
   refine (List.mem_erase_of_ne fun e => hn.1 (by rw [← e]; exact hx)).2 (hs x (List.mem_cons_of_mem _ hx))
  have h2 := List.length_erase_of_mem ha
  have h3 : 0 < m.length := List.length_pos_of_mem ha
  rw [List.length_cons]
  omega
theorem told_le {l : List KB} (h : (l.map (·.1)).Nodup) : l.length ≤ 65 + cntT l := by
 have e : l.length = (l.filter fun p => fewB p.1).length + cntT l := by
  clear h
  unfold cntT
  induction l with
  | nil => rfl
  | cons p l ih =>
   rw [List.filter_cons, List.countP_cons]
   cases hp : fewB p.1 <;> simp <;> omega
 have h1 : ((l.filter fun p => fewB p.1).map (·.1)).length ≤ few.length := by
  refine nodup_le ?_ fun x hx => ?_
  ·exact h.sublist (List.Sublist.map _ List.filter_sublist)
  ·obtain ⟨p, hp, rfl⟩ := List.mem_map.1 hx
   exact fewB_mem.1 (List.mem_filter.1 hp).2
 rw [List.length_map, few_len] at h1
 omega
def wt9 (k : ByteArray) : Nat := if fewB k then 0 else 1
theorem wt9_le (k : ByteArray) : wt9 k ≤ 1 := by unfold wt9; split <;> omega
theorem wt9_few {k : ByteArray} (h : k ∈ few) : wt9 k = 0 := by unfold wt9; rw [if_pos (fewB_mem.2 h)]
theorem wt9_tok {t : Nat} (h : t < 64) : wt9 (tokKey t) = 0 := wt9_few (List.mem_cons_of_mem _ (List.mem_map_of_mem (List.mem_range.2 h)))
theorem wt9_nt : wt9 ntK = 0 := wt9_few List.mem_cons_self
structure Cnt (R : RSt) (a b : Nat) : Prop where
 rise : Rise R.told
 keys : cntT R.told ≤ a
 steps : R.steps.length ≤ b
theorem Cnt.told {R : RSt} {a b : Nat} (h : Cnt R a b) : R.told.length ≤ 65 + a := Nat.le_trans (told_le h.rise.nodup) (Nat.add_le_add_left h.keys _)
theorem Cnt.mono {R : RSt} {a b c d : Nat} (h : Cnt R a b) (h1 : a ≤ c) (h2 : b ≤ d) : Cnt R c d := ⟨h.rise, Nat.le_trans h.keys h1, Nat.le_trans h.steps h2⟩
section
variable {find : SrcF} {R : RSt} {a b : Nat}
theorem Cnt.ask (h : Cnt R a b) (f : List Nat × Int) (k : ByteArray) : Cnt (askQ f R k) (a + wt9 k) b := by
 unfold askQ
 split
 ·exact h.mono (Nat.le_add_right _ _) (Nat.le_refl _)
 ·rename_i hn
  have hk : k ∉ R.told.map (·.1) := by rw [← atL_none]; simpa using hn
  split
  ·refine ⟨insL_rise h.rise hk, ?_, h.steps⟩
   show cntT (insL R.told k f.1) ≤ _
   unfold cntT
   rw [(insL_perm (v := f.1) hk).countP_eq, List.countP_append]
   have := h.keys
   unfold cntT at this
   refine Nat.add_le_add this ?_
   unfold wt9
   cases hf : fewB k <;> simp [hf]
  ·exact ⟨h.rise, Nat.le_trans h.keys (Nat.le_add_right _ _), h.steps⟩
theorem Cnt.get (h : Cnt R a b) (k : ByteArray) : Cnt (gtQ find R k).2 (a + wt9 k) b := by
 unfold gtQ
 rw [getQ_state]
 split
 ·exact h.ask _ k
 ·exact h.mono (Nat.le_add_right _ _) (Nat.le_refl _)
theorem Cnt.put (h : Cnt R a b) (k : ByteArray) (bs : List Nat) : Cnt (ptQ find R k bs).2 (a + wt9 k) (b + 1) := by
 unfold ptQ putQ
 split
 ·exact h.mono (Nat.le_add_right _ _) (Nat.le_succ _)
 ·have h1 := h.ask (find k) k
  show Cnt (if askI (find k) R k = 0 then _ else _) _ _
  split
  ·refine ⟨h1.rise, h1.keys, ?_⟩
   show ((askQ (find k) R k).steps ++ [(k, bs)]).length ≤ _
   rw [List.length_append]
   exact Nat.succ_le_succ h1.steps
  ·exact h1.mono (Nat.le_refl _) (Nat.le_succ _)
theorem Cnt.put0 (h : Cnt R a b) {k : ByteArray} (bs : List Nat) (ht : (atL R.told k).isSome = true) : Cnt (ptQ find R k bs).2 a (b + 1) := by
 unfold ptQ putQ
 split
 ·exact h.mono (Nat.le_refl _) (Nat.le_succ _)
 ·rw [askQ_there ht]
  show Cnt (if askI (find k) R k = 0 then _ else _) _ _
  split
  ·refine ⟨h.rise, h.keys, ?_⟩
   show (R.steps ++ [(k, bs)]).length ≤ _
   rw [List.length_append]
   exact Nat.succ_le_succ h.steps
  ·exact h.mono (Nat.le_refl _) (Nat.le_succ _)
theorem begE_lt {t : Int} (h : begE t = 0) : t.toNat < 64 := by
 obtain ⟨m, rfl, hm⟩ := begE_nat h
 simpa using hm
theorem Cnt.token (h : Cnt R a b) (t : Int) : Cnt (tokenQ find R t).2 a b := by
 unfold tokenQ
 split
 ·exact h
 ·rename_i h1
  have := h.get (find := find) (tokKey t.toNat)
  rw [wt9_tok (begE_lt (Classical.not_not.1 h1))] at this
  exact this
theorem Cnt.layTok (h : Cnt R a b) {t : Nat} (ht : t < 64) (d : TokD) : Cnt (layTokQ find R t d).2 a (b + 1) := by
 have := h.put (find := find) (tokKey t) (tokB d)
 rw [wt9_tok ht] at this
 exact this
theorem tokenQ_lt {t : Int} (h : (tokenQ find R t).1.2 = 0) : t.toNat < 64 := by
 obtain ⟨m, rfl, hm⟩ := tokenQ_nat find h
 simpa using hm
theorem runQ_lt {t : Int} (h : (runQ find R t).1.2 = 0) : t.toNat < 64 := by
 obtain ⟨m, rfl, hm⟩ := runQ_nat find h
 simpa using hm
theorem thereQ_lt {t : Int} (h : (thereQ find R t).1.2 = 0) : t.toNat < 64 := by
 obtain ⟨m, rfl, hm⟩ := thereQ_nat find h
 simpa using hm
theorem Cnt.register (h : Cnt R a b) (t : Int) : Cnt (registerQ find R t).2 a (b + 1) := by
 have h1 := h.token (find := find) t
 by_cases c1 : (tokenQ find R t).1.2 ≠ 0
 ·rw [registerQ, if_pos c1]; exact h1.mono (Nat.le_refl _) (Nat.le_succ _)
 have hlt := tokenQ_lt (Classical.not_not.1 c1)
 by_cases c2 : (tokenQ find R t).1.1.there = true
 ·rw [registerQ, if_neg c1, if_pos c2]; exact h1.mono (Nat.le_refl _) (Nat.le_succ _)
 ·rw [registerQ, if_neg c1, if_neg c2]; exact h1.layTok hlt _
theorem Cnt.pause (h : Cnt R a b) (t : Int) : Cnt (pauseQ find R t).2 a (b + 1) := by
 have h1 : Cnt (runQ find R t).2 a b := h.token t
 by_cases c1 : (runQ find R t).1.2 ≠ 0
 ·rw [pauseQ, if_pos c1]; exact h1.mono (Nat.le_refl _) (Nat.le_succ _)
 ·rw [pauseQ, if_neg c1]; exact h1.layTok (runQ_lt (Classical.not_not.1 c1)) _
theorem Cnt.resume (h : Cnt R a b) (t : Int) : Cnt (resumeQ find R t).2 a (b + 1) := by
 have h1 : Cnt (thereQ find R t).2 a b := h.token t
 by_cases c1 : (thereQ find R t).1.2 ≠ 0
 ·rw [resumeQ, if_pos c1]; exact h1.mono (Nat.le_refl _) (Nat.le_succ _)
 ·by_cases c2 : (thereQ find R t).1.1.paused = false
  ·rw [resumeQ, if_neg c1, if_pos c2]; exact h1.mono (Nat.le_refl _) (Nat.le_succ _)
  ·rw [resumeQ, if_neg c1, if_neg c2]; exact h1.layTok (thereQ_lt (Classical.not_not.1 c1)) _
theorem Cnt.mint (h : Cnt R a b) (t : Int) {to : List Nat} (hto : to.length = 20) (w : List Nat) : Cnt (mintQ find R t to w).2 (a + 1) (b + 2) := by
 have h1 : Cnt (runQ find R t).2 a b := h.token t
 have h2 : Cnt (amtQ find (runQ find R t).2 (balKey t.toNat to)).2 (a + 1) b := (h1.get (find := find) (balKey t.toNat to)).mono (Nat.add_le_add_left (wt9_le _) _) (Nat.le_refl _)
 by_cases c1 : (runQ find R t).1.2 ≠ 0
 ·rw [mintQ, if_pos c1]; exact h1.mono (by omega) (by omega)
 have hlt := runQ_lt (Classical.not_not.1 c1)
 have hs : (balKey t.toNat to).size = 22 := by rw [balKey, strB_size]; simp [hto]
 have ht : (amtQ find (runQ find R t).2 (balKey t.toNat to)).1.2 = 0 → (atL (amtQ find (runQ find R t).2 (balKey t.toNat to)).2.told (balKey t.toNat to)).isSome = true := fun e => by
  refine gtQ_told (mayI_ok (by rw [hs]; decide) (by rw [hs]; decide) (by decide)) ?_
  unfold amtQ amtOf at e
  simp only at e
  split at e
  ·exact e
  ·rename_i h3; exact Classical.not_not.1 h3
 rw [mintQ, if_neg c1]
 by_cases c2 : m256 ≤ nat4 (runQ find R t).1.1.sup + nat4 w
 ·rw [if_pos c2]; exact h1.mono (by omega) (by omega)
 rw [if_neg c2]
 generalize amtQ find (runQ find R t).2 (balKey t.toNat to) = y at h2 ht
 by_cases c3 : y.1.2 ≠ 0
 ·rw [mintA, if_pos c3]; exact h2.mono (by omega) (by omega)
 rw [mintA, if_neg c3]
 by_cases c4 : m256 ≤ nat4 y.1.1 + nat4 w
 ·rw [if_pos c4]; exact h2.mono (by omega) (by omega)
 rw [if_neg c4]
 by_cases c5 : w = z4
 ·rw [if_pos c5]; exact h2.mono (by omega) (by omega)
 rw [if_neg c5]
 have h3 := h2.layTok (find := find) hlt { (runQ find R t).1.1 with sup := addL (runQ find R t).1.1.sup w }
 have ht2 := ptQ_told (find := find) (k := tokKey t.toNat) (bs := tokB { (runQ find R t).1.1 with sup := addL (runQ find R t).1.1.sup w }) (ht (Classical.not_not.1 c3))
 unfold lay2Q
 split
 ·exact h3.mono (by omega) (by omega)
 ·exact h3.put0 _ ht2
theorem Cnt.tfind (h : Cnt R a b) (n : Int) : Cnt (tfindQ find R n).2 (a + 1) b := by
 unfold tfindQ
 split
 ·exact h.mono (Nat.le_succ _) (Nat.le_refl _)
 ·exact (h.get (find := find) (tkey n.toNat)).mono (Nat.add_le_add_left (wt9_le _) _) (Nat.le_refl _)
theorem tfindQ_told {n : Int} (h : (tfindQ find R n).1.2 = 0) : (atL (tfindQ find R n).2.told (tkey n.toNat)).isSome = true := by
 have hr := tfindQ_num h
 unfold tfindQ at h ⊢
 rw [if_neg (by omega)] at h ⊢
 refine gtQ_told (tkey_may _) ?_
 unfold findOf at h
 simp only at h
 split at h
 ·exact h
 ·rename_i h3; exact Classical.not_not.1 h3
def Has9 (key : ByteArray) (S : RSt) : Prop := (atL S.told key).isSome = true
theorem Has9.keeps (find : SrcF) (key : ByteArray) : Keeps find (Has9 key) := ⟨fun S k h => gtQ_told2 h, fun S k bs h => ptQ_told h⟩
theorem Keeps.mint {φ : RSt → Prop} (hk : Keeps find φ) (t : Int) (to w : List Nat) (h : φ R) : φ (mintQ find R t to w).2 := by
 have hr := hk.run t h
 unfold mintQ mintA
 (repeat' split) <;> first | exact hr | exact hk.amt _ hr | exact hk.lay2 _ _ _ _ (hk.amt _ hr)
theorem mintQ_told (t : Int) (to w : List Nat) {key : ByteArray} (h : (atL R.told key).isSome = true) : (atL (mintQ find R t to w).2.told key).isSome = true := (Has9.keeps find key).mint t to w h
theorem Cnt.retry (h : Cnt R a b) (n : Int) : Cnt (retryQ find R n).2 (a + 2) (b + 3) := by
 have h1 := h.tfind (find := find) n
 have hw := tfindQ_wf find R n
 have ht := fun e => tfindQ_told (find := find) (R := R) (n := n) e
 rw [retryQ]
 generalize tfindQ find R n = g at h1 hw ht
 by_cases c1 : g.1.2 ≠ 0
 ·rw [retryA, if_pos c1]; exact h1.mono (by omega) (by omega)
 rw [retryA, if_neg c1]
 have h2 := h1.mint (find := find) g.1.1.tok hw.to g.1.1.amt
 have ht2 := mintQ_told (find := find) g.1.1.tok g.1.1.to g.1.1.amt (ht (Classical.not_not.1 c1))
 by_cases c2 : (mintQ find g.2 g.1.1.tok g.1.1.to g.1.1.amt).1 ≠ 0
 ·rw [retryB, if_pos c2]; exact h2.mono (by omega) (by omega)
 ·rw [retryB, if_neg c2]; exact h2.put0 _ ht2
theorem Cnt.cancel (h : Cnt R a b) (n : Int) (w : List Nat) : Cnt (cancelQ find R n w).2 (a + 1) (b + 1) := by
 have h1 := h.tfind (find := find) n
 have ht := fun e => tfindQ_told (find := find) (R := R) (n := n) e
 rw [cancelQ]
 generalize tfindQ find R n = g at h1 ht
 by_cases c1 : g.1.2 ≠ 0
 ·rw [cancelA, if_pos c1]; exact h1.mono (by omega) (by omega)
 rw [cancelA, if_neg c1]
 by_cases c2 : g.1.1.snd ≠ w
 ·rw [if_pos c2]; exact h1.mono (by omega) (by omega)
 rw [if_neg c2]
 have h2 := h1.put0 (find := find) [] (ht (Classical.not_not.1 c1))
 unfold cancelB
 split <;> exact h2
theorem Cnt.made (h : Cnt R a b) : Cnt (madeQ find R).2 a b := by
 have := h.get (find := find) ntK
 rw [wt9_nt] at this
 exact this
theorem Cnt.open_ (h : Cnt R a b) (t : TicketD) : Cnt (openQ find R t).2 (a + 1) (b + 2) := by
 have h1 := h.made (find := find)
 unfold openQ
 split
 ·exact h.mono (by omega) (by omega)
 ·generalize madeQ find R = g at h1
  have h2 : Cnt (ptQ find g.2 (tkey (g.1.1.toNat + 1)) t.value).2 (a + 1) (b + 1) := (h1.put (find := find) _ t.value).mono (Nat.add_le_add_left (wt9_le _) _) (Nat.le_refl _)
  have h3 := h2.put (find := find) ntK (be (g.1.1.toNat + 1) 8)
  rw [wt9_nt] at h3
  unfold openA openB
  (repeat' split) <;> first | exact h1.mono (by omega) (by omega) | exact h2.mono (by omega) (by omega) | exact h3
theorem Cnt.lim {i : Nat} (h : Cnt R (2 * i) (3 * i)) (hl : Lim R 0) (hi : i ≤ 1172812402961) : Lim R 7 := by
 have h1 := h.told
 have h2 := h.steps
 exact ⟨by omega, by omega, hl.tb, hl.sb⟩
theorem Cnt.tick (h : Cnt R a b) (x : StepT) : Cnt (stepTk find R x).2 (a + 2) (b + 3) := by
 unfold stepTk
 generalize pickN x.what 14 = j
 unfold stepTn
 split
 ·exact (h.open_ x.t).mono (by omega) (by omega)
 ·exact (h.open_ x.t).mono (by omega) (by omega)
 ·exact (h.open_ x.t).mono (by omega) (by omega)
 ·exact (h.tfind x.num).mono (by omega) (by omega)
 ·exact h.made.mono (by omega) (by omega)
 ·exact h.retry x.num
 ·exact h.retry x.num
 ·exact (h.cancel x.num _).mono (by omega) (by omega)
 ·exact (h.cancel x.num _).mono (by omega) (by omega)
 ·exact (h.register _).mono (by omega) (by omega)
 ·exact (h.pause _).mono (by omega) (by omega)
 ·exact (h.resume _).mono (by omega) (by omega)
 ·exact ⟨h.rise, Nat.le_trans h.keys (by omega), Nat.le_trans h.steps (by omega)⟩
 ·show Cnt (backQ R x.num).2 _ _
  unfold backQ
  split
  ·exact h.mono (by omega) (by omega)
  ·refine ⟨h.rise, Nat.le_trans h.keys (by omega), ?_⟩
   have := h.steps
   show (R.steps.take _).length ≤ _
   rw [List.length_take]
   omega
end
end Go.Sl
