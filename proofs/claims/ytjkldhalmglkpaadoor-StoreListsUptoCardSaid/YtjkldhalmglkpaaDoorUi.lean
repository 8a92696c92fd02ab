import Derived.Test.YtjkldhalmglkpaaDoorUg
import Derived.Test.YtjkldhalmglkpaaDoorSo
import Derived.Test.YtjkldhalmglkpaaDoorZVb
namespace Go.Proofs.YtjkldhalmglkpaaDoor
open Go Go.Sl Go.Sort
theorem spec_frame {f : FuncId} {args : List Value} {F pre rest : List HP} {R : Value → List HP → Prop} (h : SpecF Tryd.prog f args (rest ++ F) pre R) : SpecF Tryd.prog f args F (pre ++ rest) (fun v L => ∃ L', R v L' ∧ L = L' ++ rest) := fun w hs =>
 (h w (by rw [← List.append_assoc]; exact hs)).mono fun e w' ⟨v, L, he, hv, hx, hs'⟩ => ⟨v, L ++ rest, he, ⟨L, hv, rfl⟩, hx, by rw [List.append_assoc]; exact hs'⟩
def ShX (sh m : Nat) (q : Value × Slf) : Prop := SlV q.1 q.2.length ∧ q.2.length ≤ m ∧ ∀ d ∈ q.2, SlV d.1 d.2 ∧ d.2 ≤ 1099511627776
def shL (sh : Nat) (q : Value × Slf) : List HP := cel sh 56 [q.1] :: own 1 q.1 q.2.length (q.2.map (·.1)) :: slfL q.2
def shX (sh m : Nat) : HP := Go.Sl.exL (ShX sh m) (shL sh)
theorem shX_begin {L : List HP} (sh : Nat) : Ent (cel sh 56 [.slice none 0 0] :: L) (shX sh 0 :: L) :=
 Ent.trans (m := own 1 (.slice none 0 0) 0 [] :: cel sh 56 [.slice none 0 0] :: L) (fun w H hs => Sat.own_nil hs)
  ((Ent.perm (List.Perm.swap _ _ _)).trans (Ent.pack (φ := ShX sh 0) (ls := shL sh) (a := (.slice none 0 0, [])) ⟨.inl ⟨rfl, rfl⟩, Nat.le_refl 0, fun d hd => absurd hd List.not_mem_nil⟩))
theorem shX_take (F : List HP) (sh m : Nat) (v : Value) (n : Nat) (cs : List Value) (hv : SlV v n) (hc : cs.length = n) (hn : n ≤ 1099511627776) (hm : m ≤ 9000000000000) :
 SpecF Tryd.prog 26 [.pointer (some ⟨sh, 0, none⟩), v] F [own 1 v n cs, shX sh m] (fun _ L => L = [shX sh (m + 1)]) := by
 refine SpecF.from (M := [shX sh m, own 1 v n cs]) ?_ (Ent.perm (List.Perm.swap _ _ _))
 refine SpecF.unpack fun q hq => ?_
 obtain ⟨lv, l⟩ := q
 obtain ⟨h1, h2, h3⟩ := hq
 simp only at h1 h2 h3
 have hvl : (l.map (·.1)).length = l.length := List.length_map _
 have ht := slfTake_spec (slfL l ++ ([own 1 v n cs] ++ F)) sh lv (l.map (·.1)) v (by rw [hvl]; omega) (hv.len.imp fun a h => ⟨n, h⟩)
 rw [hvl, ← List.append_assoc] at ht
 refine (spec_frame ht).turn fun _ L h => ?_
 obtain ⟨L', ⟨lv', hlv, rfl⟩, rfl⟩ := h
 refine ⟨_, rfl, ?_⟩
 have e1 : l.map (·.1) ++ [v] = (l ++ [(v, n)]).map (·.1) := by rw [List.map_append]; rfl
 rw [e1, List.length_map] at hlv
 rw [e1, List.length_map]
 have h4 : ∀ d ∈ l ++ [(v, n)], SlV d.1 d.2 ∧ d.2 ≤ 1099511627776 := fun d hd => by
  rcases List.mem_append.1 hd with hd | hd
  ·exact h3 d hd
  ·rw [List.mem_singleton.1 hd]; exact ⟨hv, hn⟩
 refine Ent.trans (m := shL sh (lv', l ++ [(v, n)])) ?_ (Ent.pack0 (φ := ShX sh (m + 1)) (ls := shL sh) ⟨hlv, by rw [List.length_append, List.length_singleton]; omega, h4⟩)
 have e2 : slfL (l ++ [(v, n)]) = slfL l ++ [anyP v n] := by unfold slfL; rw [List.map_append]; rfl
 show Ent (cel sh 56 [lv'] :: own 1 lv' (l ++ [(v, n)]).length ((l ++ [(v, n)]).map (·.1)) :: (slfL l ++ [own 1 v n cs])) (cel sh 56 [lv'] :: own 1 lv' (l ++ [(v, n)]).length ((l ++ [(v, n)]).map (·.1)) :: slfL (l ++ [(v, n)]))
 rw [e2]
 refine Ent.cons _ (Ent.cons _ ?_)
 exact ((Ent.perm (List.perm_append_singleton _ _)).trans (anyP_of hc)).trans (Ent.perm (List.perm_append_singleton _ _).symm)
theorem shX_owned (F : List HP) (sh m : Nat) (hm : m ≤ 9000000000000) : SpecF Tryd.prog 37 [.pointer (some ⟨sh, 0, none⟩)] F [shX sh m] (fun r L => r = .bool true ∧ L = [shX sh m]) := by
 refine SpecF.unpack0 fun q hq => ?_
 obtain ⟨lv, l⟩ := q
 have hq2 := hq
 obtain ⟨h1, h2, h3⟩ := hq2
 simp only at h1 h2 h3
 refine (owned_spec F sh lv l (by omega) h3 h1).turn fun r L h => ?_
 obtain ⟨rfl, rfl⟩ := h
 exact ⟨_, ⟨rfl, rfl⟩, Ent.pack0 (φ := ShX sh m) (ls := shL sh) hq⟩
def lsP (v : Value) (l : List ChD) : List HP := own 3 v l.length (l.flatMap ChD.cells) :: chS l
def LsV (v : Value) (l : List ChD) : Prop := SlV v l.length ∧ ∀ d ∈ l, SlV d.ov d.old.length ∧ SlV d.nv d.new.length
def LsRd (F : List HP) (v : Value) (l : List ChD) : Prop := RdS F v l.length (l.flatMap ChD.cells) ∧ ChRd F l
theorem LsRd.right {F : List HP} {v : Value} {l : List ChD} (h : LsRd F v l) (X : List HP) : LsRd (X ++ F) v l := ⟨h.1.right X, fun d hd => ⟨(h.2 d hd).1.right X, (h.2 d hd).2.right X⟩⟩
theorem LsRd.left {F : List HP} {v : Value} {l : List ChD} (h : LsRd F v l) (X : List HP) : LsRd (F ++ X) v l := ⟨h.1.left X, fun d hd => ⟨(h.2 d hd).1.left X, (h.2 d hd).2.left X⟩⟩
theorem LsRd.tl {F : List HP} {v : Value} {l : List ChD} {p : HP} (h : LsRd F v l) : LsRd (p :: F) v l := h.right [p]
theorem lsP_rd {v : Value} {l : List ChD} (h : LsV v l) (G : List HP) : LsRd (lsP v l ++ G) v l := ⟨own_rd h.1 (chC_len l), fun d hd => ⟨.tl (chS_rd h.2 d hd).1, .tl (chS_rd h.2 d hd).2⟩⟩
def keysOf (c : StC) : List ByteArray := ((c.has.map fun p => p.1.data.toList).mergeSort leB).map strOfB
theorem sort_eq {a b : List (List UInt8)} (h : a.Perm b) : a.mergeSort leB = b.mergeSort leB :=
 List.Perm.eq_of_pairwise (le := fun a b => leB a b = true) (fun a b _ _ x y => leB_anti x y) (leB_pair a) (leB_pair b) (((List.mergeSort_perm a leB).trans h).trans (List.mergeSort_perm b leB).symm)
section
variable {find : ByteArray → List Nat × Int}
def StQ (find : ByteArray → List Nat × Int) (V : View) (n a : Nat) (T : List ByteArray) (c : StC) : Prop := AtK find V n a c ∧ keysOf c = T
def stQ (s : Nat) (src : Value) (find : ByteArray → List Nat × Int) (V : View) (n a : Nat) (T : List ByteArray) : HP := Go.Sl.exL (StQ find V n a T) fun c => c.pieces 95 s src
theorem keysOf_len {V : View} {n a : Nat} {c : StC} (h : AtK find V n a c) : (keysOf c).length ≤ a := by
 unfold keysOf
 rw [List.length_map, List.length_mergeSort, List.length_map]
 exact h.cnt
theorem changes_at (F : List HP) (s : Nat) (src : Value) (V : View) (n a : Nat) (ha : a ≤ 3500000000000) (c : StC) (hc : AtK find V n a c) :
 SpecF Tryd.prog 32 [.pointer (some ⟨s, 0, none⟩)] F (c.pieces 95 s src) (fun r L => ∃ l : List ChD, ChIs find V l ∧ LsV r l ∧ l.length ≤ a ∧ L = stQ s src find V n a (keysOf c) :: lsP r l) := by
 intro w hw
 have hG : MapG Value.string (fun _ => True) (c.pieces 95 s src ++ F) c.hb (kvM c.has) := MapG.left (.tl .here) F
 obtain ⟨o, _, hM⟩ := hG w hw
 have hnd : (c.has.map fun p => p.1).Nodup := by
  have h := hM.keys
  rw [kvM, List.map_map] at h
  exact h
 refine ((changes_c F s src c hc.atV.wf (Nat.le_trans hc.cnt ha) fun p hp => (hc.src.has p hp).2).turn fun v L h => ?_) w hw
 obtain ⟨ss, l, hp, hv, hsv, hl, rfl⟩ := h
 have hcnt : l.length ≤ a := by
  have h1 := congrArg List.length hl
  rw [List.length_map, List.length_map] at h1
  rw [h1]
  refine Nat.le_trans (List.length_filter_le _ _) ?_
  rw [List.length_map, List.length_mergeSort, hp.length_eq, List.length_map]
  exact hc.cnt
 exact ⟨_, ⟨l, hc.changes hnd hp hl, ⟨hv, hsv⟩, hcnt, rfl⟩, Ent.pack (φ := StQ find V n a (keysOf c)) (ls := fun c => StC.pieces 95 s src c) ⟨hc, rfl⟩⟩
theorem changes_q0 (F : List HP) (s : Nat) (src : Value) (V : View) (n a : Nat) (ha : a ≤ 3500000000000) :
 SpecF Tryd.prog 32 [.pointer (some ⟨s, 0, none⟩)] F [stK 95 s src find V n a] (fun r L => ∃ (l : List ChD) (T : List ByteArray), ChIs find V l ∧ LsV r l ∧ l.length ≤ a ∧ T.length ≤ a ∧ L = stQ s src find V n a T :: lsP r l) :=
 SpecF.unpack0 fun c hc => (changes_at F s src V n a ha c hc).turn fun v L ⟨l, h1, h2, h3, h4⟩ => ⟨L, ⟨l, keysOf c, h1, h2, h3, keysOf_len hc, h4⟩, Ent.refl _⟩
theorem changes_q (F : List HP) (s : Nat) (src : Value) (V : View) (n a : Nat) (T : List ByteArray) (ha : a ≤ 3500000000000) :
 SpecF Tryd.prog 32 [.pointer (some ⟨s, 0, none⟩)] F [stQ s src find V n a T] (fun r L => ∃ l : List ChD, ChIs find V l ∧ LsV r l ∧ l.length ≤ a ∧ L = stQ s src find V n a T :: lsP r l) :=
 SpecF.unpack0 fun c hc => (changes_at F s src V n a ha c hc.1).turn fun v L ⟨l, h1, h2, h3, h4⟩ => ⟨L, ⟨l, h1, h2, h3, by rw [h4, hc.2]⟩, Ent.refl _⟩
theorem touched_q (F : List HP) (s : Nat) (src : Value) (V : View) (n a : Nat) (T : List ByteArray) (ha : a ≤ 8796093022207) :
 SpecF Tryd.prog 34 [.pointer (some ⟨s, 0, none⟩)] F [stQ s src find V n a T] (fun r L => SlV r T.length ∧ L = [own 1 r T.length (keysB T), stQ s src find V n a T]) := by
 refine SpecF.unpack0 fun c hc => ?_
 refine (touched_c F s src c (Nat.le_trans hc.1.cnt ha) fun p hp => (hc.1.src.has p hp).2).turn fun v L h => ?_
 obtain ⟨ss, hv, hp, rfl⟩ := h
 have e0 : T = (ss.mergeSort leB).map strOfB := by rw [← hc.2, keysOf, sort_eq hp]
 have e1 : T.length = ss.length := by rw [e0, List.length_map, List.length_mergeSort]
 have e2 : keysB T = (ss.mergeSort leB).map encStr := by rw [e0, keysB, List.map_map]; rfl
 refine ⟨_, ⟨by rw [e1]; exact hv, rfl⟩, ?_⟩
 rw [e1, e2]
 exact Ent.under (Ent.pack0 (φ := StQ find V n a T) (ls := fun c => StC.pieces 95 s src c) hc) [_]
end
end Go.Proofs.YtjkldhalmglkpaaDoor
