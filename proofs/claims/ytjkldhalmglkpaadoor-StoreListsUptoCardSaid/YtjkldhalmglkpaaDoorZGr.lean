import Derived.Test.YtjkldhalmglkpaaDoorZAp
import Derived.Test.YtjkldhalmglkpaaDoorZPk
namespace Go.Sl
open Go
def repE (n : Nat) (c : List Value) : List Value := (List.replicate n c).flatten
section
variable {P : Program} {F L : List HP} {sz n k : Nat} {c : List Value} {v g : Value}
theorem repE_len (hc : c.length = sz) (n : Nat) : (repE n c).length = n * sz := by
 unfold repE
 rw [List.length_flatten, List.map_replicate, List.sum_replicate_nat, hc]
theorem repE_add (n k : Nat) (c : List Value) : repE (n + k) c = repE n c ++ repE k c := by
 unfold repE
 rw [← List.replicate_append_replicate, List.flatten_append]
theorem repE_one (c : List Value) : repE 1 c = c := by simp [repE]
def gLs (sz : Nat) (v : Value) (n : Nat) (c : List Value) (k : Nat) (g : Value) : Bool → List HP
 | true => [own sz g (n + k) (repE (n + k) c)]
 | false => [own sz g (n + k) (repE (n + k) c), own sz v n (repE n c)]
structure GOk (v : Value) (n k : Nat) (g : Value) (s : Bool) : Prop where
 hv : SlV v n
 hg : SlV g (n + k)
 same : s = true → ∃ a c, v = .slice a n c ∧ g = .slice a (n + k) c
def gP (sz : Nat) (v : Value) (n : Nat) (c : List Value) (k : Nat) (g : Value) : HP := exL (GOk v n k g) (gLs sz v n c k g)
theorem gP_begin (hv : SlV v n) : Ent (own sz v n (repE n c) :: L) (gP sz v n c 0 v :: L) := by
 obtain ⟨a, x, e⟩ := hv.len
 exact Ent.pack (φ := GOk v n 0 v) (ls := gLs sz v n c 0 v) (a := true) ⟨hv, hv, fun _ => ⟨a, x, e, e⟩⟩
theorem DoesG_post {s : Sem Value} {k k' : Value → List HP → Prop} (h : DoesG P F s L k') (hk : ∀ v M, k' v M → ∃ M', Ent M M' ∧ k v M') : DoesG P F s L k := by
 obtain ⟨f⟩ := h
 refine ⟨fun w hs => ?_⟩
 obtain ⟨v, M, w', hr, hx, hs', hkk⟩ := f w hs
 obtain ⟨M', hE, hk2⟩ := hk v M hkk
 exact ⟨v, M', w', hr, hx, hE w' F hs', hk2⟩
theorem gP_app {t e bs : TypeId} {x : Value} (E : ElT P t e sz bs) (ty : TypeId) (hc : c.length = sz) (h1 : ∀ u ∈ c, u.oneCell' = true) {K : Value → List HP → Prop} (hx : ∀ M, RdS (M ++ (L ++ F)) x 1 c) (hmax : n + k + 1 ≤ maxLen) (hb : (n + k + 1) * bs ≤ 140737488355328)
 (hk : ∀ g', SlV g' (n + (k + 1)) → K g' (gP sz v n c (k + 1) g' :: L)) : DoesG P F (Builtin.append_ #[t, t] ty #[g, x]) (gP sz v n c k g :: L) K := by
 have h32 : c.length = 1 * sz := by rw [Nat.one_mul]; exact hc
 have ec : repE (n + k) c ++ c = repE (n + (k + 1)) c := by rw [← Nat.add_assoc, repE_add (n + k) 1, repE_one]
 refine DoesG_post (k' := fun v M => ∃ M', Ent M M' ∧ K v M') ?_ (fun v M h => h)
 refine DoesG.exL fun s hs => ?_
 cases s
 ·refine app_two E ty (m := 1) (ys := c) (hx [_, _]) h32 h1 hmax hb (fun g' a y hg' e1 e2 => ?_) (fun g' hg' => ?_)
  ·rw [ec]
   exact ⟨_, Ent.pack (φ := GOk v n (k + 1) g') (ls := gLs sz v n c (k + 1) g') (a := false) ⟨hs.hv, hg', fun h => by cases h⟩, hk g' hg'⟩
  ·rw [ec]
   exact ⟨_, Ent.trans (Ent.sel (T := L) (A := [_, _, _]) [0, 2] rfl) (Ent.pack (φ := GOk v n (k + 1) g') (ls := gLs sz v n c (k + 1) g') (a := false) ⟨hs.hv, hg', fun h => by cases h⟩), hk g' hg'⟩
 ·obtain ⟨a0, c0, e3, e4⟩ := hs.same rfl
  refine app_two E ty (m := 1) (ys := c) (hx [_]) h32 h1 hmax hb (fun g' a y hg' e1 e2 => ?_) (fun g' hg' => ?_)
  ·rw [ec]
   refine ⟨_, Ent.pack (φ := GOk v n (k + 1) g') (ls := gLs sz v n c (k + 1) g') (a := true) ⟨hs.hv, hg', fun _ => ⟨a0, c0, e3, ?_⟩⟩, hk g' hg'⟩
   rw [e4] at e1
   simp only [Value.slice.injEq] at e1
   obtain ⟨rfl, _, rfl⟩ := e1
   exact e2
  ·rw [ec]
   refine ⟨_, Ent.trans (Ent.cons _ ?_) (Ent.pack (φ := GOk v n (k + 1) g') (ls := gLs sz v n c (k + 1) g') (a := false) ⟨hs.hv, hg', fun h => by cases h⟩), hk g' hg'⟩
   have h := own_cut (a := a0) (cap := c0) (n := n + k) (l := n) (sz := sz) (cs := repE (n + k) c) (L := L) (Nat.le_add_right _ _)
   have e5 : (repE (n + k) c).take (n * sz) = repE n c := by rw [repE_add, ← repE_len hc n, List.take_left]
   rw [← e4, ← e3, e5] at h
   exact h
theorem rd_exL {α : Type} {φ : α → Prop} {ls : α → List HP} {M : List HP} {v : Value} {n : Nat} {cs : List Value} (hv : SlV v n) (h0 : n = 0 → cs = []) (h : ∀ a, φ a → RdS (ls a ++ M) v n cs) : RdS (exL φ ls :: M) v n cs := by
 rcases hv with ⟨h1, h2⟩ | ⟨b, cap, h1, hn⟩
 ·rw [h1, h0 h2, h2]
  exact .nil
 ·rw [h1]
  refine .mk _ _ _ _ _ hn fun w hs => ?_
  obtain ⟨a, ha, hs'⟩ := Sat.exL.1 hs
  have hr := h a ha
  rw [h1] at hr
  cases hr with
  | zero a c => intro j u hj; cases hj
  | mk _ _ _ _ _ _ hh => exact hh w hs'
theorem rd_cut {L : List HP} {v g : Value} {n m x : Nat} {a : Option Addr} {cs ds : List Value} (e : cs.take ds.length = ds) (e1 : v = .slice a n x) (e2 : g = .slice a m x) (hv : SlV v n) (h0 : n = 0 → ds = []) (h : RdS L g m cs) : RdS L v n ds := by
 rcases hv with ⟨h1, h2⟩ | ⟨b, cap, h1, hn⟩
 ·rw [h1, h0 h2, h2]
  exact .nil
 ·rw [h1]
  rw [h1] at e1
  simp only [Value.slice.injEq, true_and] at e1
  obtain ⟨rfl, rfl⟩ := e1
  subst e2
  refine .mk _ _ _ _ _ hn fun w hs => ?_
  cases h with
  | zero a y =>
   rw [List.take_nil] at e
   rw [← e]
   intro j u hj
   cases hj
  | mk _ _ _ _ _ _ hh =>
   intro j u hj
   refine hh w hs j u ?_
   rw [← e, List.getElem?_take] at hj
   split at hj
   ·exact hj
   ·cases hj
theorem gP_rd (hc : c.length = sz) (hv : SlV v n) (hg : SlV g (n + k)) (M : List HP) : RdS (gP sz v n c k g :: M) v n (repE n c) ∧ RdS (gP sz v n c k g :: M) g (n + k) (repE (n + k) c) := by
 have hc1 := repE_len hc n
 have hc2 := repE_len hc (n + k)
 have hz : ∀ m : Nat, m = 0 → repE m c = [] := fun m h => by rw [h]; rfl
 refine ⟨rd_exL hv (hz _) fun s hs => ?_, rd_exL hg (hz _) fun s hs => ?_⟩
 ·cases s
  ·exact .tl (own_rd hv hc1)
  ·obtain ⟨a, x, e1, e2⟩ := hs.same rfl
   have h := own_rd (L := M) hg hc2
   show RdS (own sz g (n + k) (repE (n + k) c) :: M) v n (repE n c)
   have e5 : (repE (n + k) c).take (n * sz) = repE n c := by rw [repE_add, ← hc1, List.take_left]
   exact rd_cut (by rw [hc1]; exact e5) e1 e2 hv (hz _) h
 ·cases s
  ·exact own_rd hg hc2
  ·exact own_rd hg hc2
theorem gP_end (hc : c.length = sz) : Ent (gP sz v n c k g :: L) (own sz v n (repE n c) :: L) := fun w H h => by
 obtain ⟨s, hs, h2⟩ := Sat.exL.1 h
 cases s
 ·exact Sat.tail (h2 : Sat w (own sz g (n + k) (repE (n + k) c) :: own sz v n (repE n c) :: (L ++ H)))
 ·obtain ⟨a, x, e1, e2⟩ := hs.same rfl
  have h3 := own_cut (a := a) (cap := x) (n := n + k) (l := n) (sz := sz) (cs := repE (n + k) c) (L := L) (Nat.le_add_right _ _)
  have e5 : (repE (n + k) c).take (n * sz) = repE n c := by rw [repE_add, ← repE_len hc n, List.take_left]
  rw [← e2, ← e1, e5] at h3
  exact h3 w H h2
end
def anyP (v : Value) (n : Nat) : HP := exL (fun cs : List Value => cs.length = n) (fun cs => [own 1 v n cs])
theorem anyP_of {L : List HP} {v : Value} {n : Nat} {cs : List Value} (h : cs.length = n) : Ent (own 1 v n cs :: L) (anyP v n :: L) := Ent.pack (φ := fun cs : List Value => cs.length = n) (ls := fun cs => [own 1 v n cs]) h
abbrev Slf := List (Value × Nat)
def slfL (l : Slf) : List HP := l.map fun d => anyP d.1 d.2
def mkB (b i : Nat) : Value := .int .u8 ((i / b % 251 : Nat) : Int)
def slfM (b : Nat) : Nat → Slf → List HP
 | _, [] => []
 | j, d :: l => own 1 d.1 d.2 (repE d.2 [mkB b j]) :: slfM b (j + 1) l
theorem slfM_snoc (b : Nat) (d : Value × Nat) : ∀ (j : Nat) (l : Slf), slfM b j (l ++ [d]) = slfM b j l ++ [own 1 d.1 d.2 (repE d.2 [mkB b (j + l.length)])]
 | j, [] => rfl
 | j, e :: l => by
  show own 1 e.1 e.2 _ :: slfM b (j + 1) (l ++ [d]) = own 1 e.1 e.2 _ :: (slfM b (j + 1) l ++ _)
  rw [slfM_snoc b d (j + 1) l, List.length_cons, Nat.add_assoc, Nat.add_comm 1]
def grM (b : Nat) : Nat → Slf → List Value → List HP
 | j, d :: l, g :: G => gP 1 d.1 d.2 [mkB b j] 24 g :: grM b (j + 1) l G
 | _, _, _ => []
theorem grM_snoc (b : Nat) {d : Value × Nat} {g : Value} : ∀ {j : Nat} {l : Slf} {G : List Value}, G.length = l.length → grM b j (l ++ [d]) (G ++ [g]) = grM b j l G ++ [gP 1 d.1 d.2 [mkB b (j + l.length)] 24 g]
 | j, [], [], _ => rfl
 | j, [], _ :: _, h => by cases h
 | j, _ :: _, [], h => by cases h
 | j, e :: l, q :: G, h => by
  show gP 1 e.1 e.2 _ 24 q :: grM b (j + 1) (l ++ [d]) (G ++ [g]) = gP 1 e.1 e.2 _ 24 q :: (grM b (j + 1) l G ++ _)
  rw [grM_snoc b (j := j + 1) (l := l) (G := G) (by simpa using h), List.length_cons, Nat.add_assoc, Nat.add_comm 1]
theorem grM_rd {M : List HP} (b : Nat) : ∀ {j : Nat} {l : Slf} {G : List Value} {i : Nat} {d : Value × Nat} {g : Value}, l[i]? = some d → G[i]? = some g → SlV d.1 d.2 → SlV g (d.2 + 24) →
 RdS (grM b j l G ++ M) d.1 d.2 (repE d.2 [mkB b (j + i)]) ∧ RdS (grM b j l G ++ M) g (d.2 + 24) (repE (d.2 + 24) [mkB b (j + i)])
 | j, [], G, i, d, g, h, _, _, _ => by simp at h
 | j, e :: l, [], i, d, g, _, h, _, _ => by simp at h
 | j, e :: l, q :: G, 0, d, g, h1, h2, hv, hg => by
  obtain rfl : e = d := by simpa using h1
  obtain rfl : q = g := by simpa using h2
  exact gP_rd rfl hv hg _
 | j, e :: l, q :: G, i + 1, d, g, h1, h2, hv, hg => by
  have ih := grM_rd (M := M) b (j := j + 1) (l := l) (G := G) (i := i) (by simpa using h1) (by simpa using h2) hv hg
  rw [show j + 1 + i = j + (i + 1) by omega] at ih
  exact ⟨.tl ih.1, .tl ih.2⟩
theorem grM_end (b : Nat) : ∀ {j : Nat} {l : Slf} {G : List Value}, G.length = l.length → ∀ L, Ent (grM b j l G ++ L) (slfL l ++ L)
 | j, [], [], _, L => Ent.refl _
 | j, [], _ :: _, h, _ => by cases h
 | j, _ :: _, [], h, _ => by cases h
 | j, d :: l, q :: G, h, L => by
  have h1 : Ent (gP 1 d.1 d.2 [mkB b j] 24 q :: (grM b (j + 1) l G ++ L)) (anyP d.1 d.2 :: (grM b (j + 1) l G ++ L)) := (gP_end rfl).trans (anyP_of (by rw [repE_len (sz := 1) rfl, Nat.mul_one]))
  exact h1.trans (Ent.cons _ (grM_end b (by simpa using h) L))
theorem Upd.exL {P : Program} {L L' : List HP} {α β : Type} {φ : α → Prop} {ls : α → List HP} {ψ : β → Prop} {ms : β → List HP} {b o : Nat} {vs : List Value} (h : ∀ a, φ a → ∃ a', ψ a' ∧ Upd P (ls a ++ L) b o vs (ms a' ++ L')) : Upd P (exL φ ls :: L) b o vs (exL ψ ms :: L') := fun F w hs => by
 obtain ⟨a, ha, hs'⟩ := Sat.exL.1 hs
 obtain ⟨a', ha', hu⟩ := h a ha
 obtain ⟨w', h1, h2, h3⟩ := hu F w (by rw [List.append_assoc]; exact hs')
 exact ⟨w', h1, h2, Sat.exL.2 ⟨a', ha', by rw [List.append_assoc] at h3; exact h3⟩⟩
def partP (v : Value) (n k : Nat) (c : Value) : HP := Go.Sl.exL (fun cs : List Value => cs.length = n) (fun cs => [own 1 v n (repE k [c] ++ cs.drop k)])
theorem partP_end {L : List HP} (v : Value) (n : Nat) (c : Value) : Ent (partP v n n c :: L) (own 1 v n (repE n [c]) :: L) := fun w H hs => by
 obtain ⟨cs, hc, hs'⟩ := Sat.exL.1 hs
 rw [List.drop_eq_nil_of_le (by omega), List.append_nil] at hs'
 exact hs'
theorem partP_upd {P : Program} {L : List HP} {g cap n k : Nat} {c : Value} (h1 : c.oneCell' = true) (hk : k < n) : Upd P (partP (.slice (some ⟨g, 0, none⟩) n cap) n k c :: L) g k [c] (partP (.slice (some ⟨g, 0, none⟩) n cap) n (k + 1) c :: L) := by
 refine Upd.exL fun cs hc => ⟨cs, hc, ?_⟩
 have hl : (repE k [c]).length = k := by rw [repE_len (sz := 1) rfl, Nat.mul_one]
 refine Upd.own (cs' := repE (k + 1) [c] ++ cs.drop (k + 1)) ?_ (by simpa using h1) ?_
 ·rw [List.length_append, hl, List.length_drop, List.length_singleton]; omega
 ·rw [List.length_singleton]
  have e1 : (repE k [c] ++ cs.drop k).take k = repE k [c] := by rw [List.take_append_of_le_length (by omega), List.take_of_length_le (by omega)]
  have e2 : (repE k [c] ++ cs.drop k).drop (k + 1) = cs.drop (k + 1) := by
   rw [List.drop_append, List.drop_eq_nil_of_le (by omega), hl, List.nil_append, List.drop_drop]
   congr 1
   omega
  rw [e1, e2, repE_add, repE_one]
theorem slv_some {v : Value} {n : Nat} (h : SlV v n) (h0 : 0 < n) : ∃ g cap, v = .slice (some ⟨g, 0, none⟩) n cap ∧ n ≤ cap := by
 rcases h with ⟨_, h2⟩ | h
 ·omega
 ·exact h
theorem repE_get {n i : Nat} {x : Value} (h : i < n) : (repE n [x])[i]? = some x := by
 have e : repE n [x] = List.replicate n x := by
  unfold repE
  induction n with
  | zero => rfl
  | succ n ih =>
   cases n with
   | zero => rfl
   | succ n =>
    rw [List.replicate_succ, List.flatten_cons, List.replicate_succ (n := n + 1)]
    by_cases h2 : i < n + 1
    ·rw [ih h2]; rfl
    ·obtain rfl : i = n + 1 := by omega
     have : ∀ m, (List.replicate m [x]).flatten = List.replicate m x := fun m => by
      induction m with
      | zero => rfl
      | succ m ih => rw [List.replicate_succ, List.flatten_cons, ih]; rfl
     rw [this]
     rfl
 rw [e, List.getElem?_replicate, if_pos h]
end Go.Sl
