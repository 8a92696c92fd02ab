/-
  The law of checks, walked.
-/
import Derived.Test.YthdpknlnpeaiiaaDoorOc
import Derived.Test.YthdpknlnpeaiiaaDoorZMk
namespace Go.Proofs.YthdpknlnpeaiiaaDoor
open Go Go.Sl
theorem known_h (F : List HP) : SpecF Tryd.prog 11 [] F [] (fun v L => v = .bool true ∧ L = []) := (known_spec F).turn fun _ L h => ⟨[], ⟨h, rfl⟩, Ent.nil L⟩
structure ShD where
  root : List Nat
  size : Int
  leaf : LeafD
  pv : Value
  path : List (List Nat)
def ShD.cells (s : ShD) : List Value := bvs s.root ++ (.int .i64 s.size :: (s.leaf.cells ++ [s.pv]))
structure ShD.wf (F : List HP) (s : ShD) : Prop where
  root : DigOk s.root
  leaf : s.leaf.wf
  to : ∀ b ∈ s.leaf.to, b < 256
  amt : wOk s.leaf.amt
  path : ∀ d ∈ s.path, DigOk d
  rd : RdS F s.pv s.path.length (digsC s.path)
  fit : 32 * (s.path.length + 2) ≤ 281474976710656
theorem ShD.len {F : List HP} {s : ShD} (h : s.wf F) : s.cells.length = 61 := by
  simp [ShD.cells, bvs_len, h.root.len, LeafD.cells_len h.leaf]
def dg1 (x : Nat) : List Nat := x :: List.replicate 31 0
def flip1 (d : List Nat) : List Nat := d.set 31 (d.getD 31 0 ^^^ 1)
theorem flip1_ok {d : List Nat} (h : DigOk d) : DigOk (flip1 d) := by
  refine ⟨by rw [flip1, List.length_set, h.len], fun b hb => ?_⟩
  have h31 : d.getD 31 0 < 256 := by
    have hl := h.len
    rw [List.getD, List.getElem?_eq_getElem (by omega)]
    exact h.byte _ (List.getElem_mem _)
  rcases List.mem_or_eq_of_mem_set hb with hb | rfl
  · exact h.byte b hb
  · exact Nat.xor_lt_two_pow (n := 8) h31 (by decide)
def flipN (p : List (List Nat)) (k : Nat) : List (List Nat) := (p.take k).map flip1 ++ p.drop k
theorem flipN_len (p : List (List Nat)) (k : Nat) : (flipN p k).length = p.length := by simp [flipN]; omega
theorem flipN_ok {p : List (List Nat)} (h : ∀ d ∈ p, DigOk d) (k : Nat) : ∀ d ∈ flipN p k, DigOk d := by
  intro d hd
  rcases List.mem_append.1 hd with hd | hd
  · obtain ⟨e, he, rfl⟩ := List.mem_map.1 hd
    exact flip1_ok (h e (List.mem_of_mem_take he))
  · exact h d (List.mem_of_mem_drop hd)
theorem digs_one (p : List (List Nat)) : ∀ u ∈ digsC p, u.oneCell' = true := by
  intro u hu
  obtain ⟨d, _, hd⟩ := List.mem_flatMap.1 hu
  exact bvs_one d u hd
theorem ShD.one {F : List HP} {s : ShD} (h : s.wf F) : ∀ u ∈ s.cells, u.oneCell' = true := by
  intro u hu
  simp only [ShD.cells, List.mem_append, List.mem_cons, List.mem_singleton] at hu
  rcases hu with hu | rfl | hu | rfl | hu
  · exact bvs_one _ u hu
  · rfl
  · exact LeafD.cells_one _ u hu
  · obtain ⟨a, c, e⟩ := h.rd.len
    rw [e]
    rfl
  · cases hu
def fullC (p : List (List Nat)) : List Value := digsC p ++ (bvs (dg1 1) ++ bvs (dg1 2))
theorem flipN_split {p : List (List Nat)} (hp : ∀ d ∈ p, DigOk d) {k : Nat} (h : k < p.length) : ∃ A, A.length = k * 32 ∧ fullC (flipN p k) = A ++ (bvs p[k] ++ (digsC (p.drop (k + 1)) ++ (bvs (dg1 1) ++ bvs (dg1 2)))) ∧
    fullC (flipN p (k + 1)) = A ++ (bvs (flip1 p[k]) ++ (digsC (p.drop (k + 1)) ++ (bvs (dg1 1) ++ bvs (dg1 2)))) := by
  refine ⟨digsC ((p.take k).map flip1), ?_, ?_, ?_⟩
  · rw [digs_len fun d hd => ?_]
    · rw [List.length_map, List.length_take, Nat.min_eq_left (by omega)]
    · obtain ⟨e, he, rfl⟩ := List.mem_map.1 hd
      exact (flip1_ok (hp e (List.mem_of_mem_take he))).len
  · rw [fullC, flipN, List.drop_eq_getElem_cons h]
    simp only [digsC, List.flatMap_append, List.flatMap_cons, List.append_assoc]
  · rw [fullC, flipN, List.take_succ_eq_append_getElem h]
    simp only [digsC, List.flatMap_append, List.flatMap_cons, List.append_assoc, List.map_append, List.map_cons, List.map_nil, List.flatMap_nil, List.append_nil, List.nil_append]
theorem xor1 : ∀ x, x < 256 → IntKind.u8.wrap ((BitVec.ofInt IntKind.u8.bits (x : Nat) ^^^ BitVec.ofInt IntKind.u8.bits 1).toNat : Int) = ((x ^^^ 1 : Nat) : Int) := by decide +kernel
theorem flip_at {p : List (List Nat)} (hp : ∀ d ∈ p, DigOk d) {k : Nat} (h : k < p.length) (h31 : 31 < p[k].length) : (fullC (flipN p k))[k * 32 + 31]? = some (bv p[k][31]) := by
  obtain ⟨A, h1, h2, _⟩ := flipN_split hp h
  rw [h2, List.getElem?_append_right (by omega), h1, Nat.add_sub_cancel_left, List.getElem?_append_left (by rw [bvs_len]; exact h31)]
  exact bvs_get h31
theorem flip_set {p : List (List Nat)} (hp : ∀ d ∈ p, DigOk d) {k : Nat} (h : k < p.length) (h31 : 31 < p[k].length) : (fullC (flipN p k)).set (k * 32 + 31) (bv (p[k][31] ^^^ 1)) = fullC (flipN p (k + 1)) := by
  obtain ⟨A, h1, h2, h3⟩ := flipN_split hp h
  rw [h2, h3, List.set_append_right _ _ (by omega), h1, Nat.add_sub_cancel_left, List.set_append_left _ _ (by rw [bvs_len]; exact h31)]
  congr 2
  rw [flip1, List.getD, List.getElem?_eq_getElem h31, Option.getD_some, bvs, bvs, List.map_set]
theorem law_spec (K : List W32) (hk : K.length = 64) (F : List HP) (hK : CelN F 4 0 (wvs K)) (hC' : CelN F 1 0 (wvs K)) (hB : CelN F 0 0 (wvs ivW)) (lv : Value) (ss : List ShD) (hmax : ss.length ≤ maxLen) (hs : ∀ s ∈ ss, s.wf F) (hl : RdS F lv ss.length (ss.flatMap ShD.cells)) :
    SpecF Tryd.prog 3 [lv] F [] (fun v _ => v = .bool true) := by
  simp only [maxLen] at hmax
  refine fun3.spec rfl ?_
  (conv => whnf); repeat ((first | with_reducible refine CondG.tt ?_ | with_reducible refine CondG.ff ?_); conv => whnf)
  refine CallG.pure (known_h _) ?_
  rintro _ _ ⟨rfl, rfl⟩
  (conv => whnf); repeat ((first | with_reducible refine CondG.tt ?_ | with_reducible refine CondG.ff ?_); conv => whnf)
  refine CondG.ff ?_
  (conv => whnf); repeat ((first | with_reducible refine CondG.tt ?_ | with_reducible refine CondG.ff ?_); conv => whnf)
  refine LoopG.mk (fun mm e L => ∃ i, i ≤ ss.length ∧ mm = ss.length - i ∧ e = [(0, lv), (3, .int .i64 (i : Nat))] ∧ L = []) ss.length
    [(0, lv), (3, .int .i64 0)] _ ⟨rfl, rfl, trivial⟩ (Ent.refl _) ⟨0, by omega, rfl, rfl, rfl⟩ ?_
  rintro mm e L ⟨i, hi, rfl, rfl, rfl⟩
  (conv => whnf); repeat ((first | with_reducible refine CondG.tt ?_ | with_reducible refine CondG.ff ?_); conv => whnf)
  refine LenG.rd hl ?_
  (conv => whnf); repeat ((first | with_reducible refine CondG.tt ?_ | with_reducible refine CondG.ff ?_); conv => whnf)
  refine CondG.dec (fun h1 => ?_) (fun h1 => ?_)
  rotate_left
  · (conv => whnf); repeat ((first | with_reducible refine CondG.tt ?_ | with_reducible refine CondG.ff ?_); conv => whnf)
    exact ret_here rfl
  have hi1 : i < ss.length := by omega
  have hw := hs ss[i] (List.getElem_mem hi1)
  have hsl := ShD.len hw
  have hpart : ((ss.flatMap ShD.cells).drop (i * 61)).take 61 = ss[i].cells := flat_get (fun s h => ShD.len (hs s h)) hi1
  (conv => whnf); repeat ((first | with_reducible refine CondG.tt ?_ | with_reducible refine CondG.ff ?_); conv => whnf)
  refine IdxG.rd hl (by omega) fun c o hc => ?_
  (conv => whnf); repeat ((first | with_reducible refine CondG.tt ?_ | with_reducible refine CondG.ff ?_); conv => whnf)
  refine LoadNG.atF (vs := ss[i].cells) hsl (hc.part (by rw [hsl, Int.toNat_natCast]; exact hpart)) ?_
  (conv => whnf); repeat ((first | with_reducible refine CondG.tt ?_ | with_reducible refine CondG.ff ?_); conv => whnf)
  intro b4
  (conv => whnf); repeat ((first | with_reducible refine CondG.tt ?_ | with_reducible refine CondG.ff ?_); conv => whnf)
  refine StoreG.at hsl (Upd.whole (by rw [hsl]; rfl) (ShD.one hw)) ?_
  generalize ss[i] = s at *
  have hr32 : (bvs s.root).length = 32 := by rw [bvs_len, hw.root.len]
  have hll := LeafD.cells_len hw.leaf
  have hat : s.cells[60]? = some s.pv := by
    rw [ShD.cells, List.getElem?_append_right (by omega), hr32, show 60 - 32 = 27 + 1 by rfl, List.getElem?_cons_succ, List.getElem?_append_right (by omega), hll]
    rfl
  have hsz : s.cells[32]? = some (.int .i64 s.size) := by
    rw [ShD.cells, List.getElem?_append_right (by omega), hr32]
    rfl
  have hrt : (s.cells.drop 0).take (bvs s.root).length = bvs s.root := by
    rw [List.drop_zero, ShD.cells, List.take_left]
  have hlf : (s.cells.drop 33).take s.leaf.cells.length = s.leaf.cells := by
    rw [ShD.cells, List.drop_append, List.drop_of_length_le (by omega), hr32, List.nil_append]
    show ((Value.int .i64 s.size :: (s.leaf.cells ++ [s.pv])).drop 1).take _ = _
    rw [List.drop_one, List.tail_cons, List.take_left]
  have hpl : (digsC s.path).length = s.path.length * 32 := digs_len fun d hd => (hw.path d hd).len
  have hfit := hw.fit
  (conv => whnf); repeat ((first | with_reducible refine CondG.tt ?_ | with_reducible refine CondG.ff ?_); conv => whnf)
  refine LoadG.at (v := s.pv) (.here hat) ?_
  (conv => whnf); repeat ((first | with_reducible refine CondG.tt ?_ | with_reducible refine CondG.ff ?_); conv => whnf)
  refine LenG.rd hw.rd ?_
  (conv => whnf); repeat ((first | with_reducible refine CondG.tt ?_ | with_reducible refine CondG.ff ?_); conv => whnf)
  refine ArithG.i64' ((s.path.length + 2 : Nat) : Int) (by omega) (by have := hw.fit; omega) ?_
  (conv => whnf); repeat ((first | with_reducible refine CondG.tt ?_ | with_reducible refine CondG.ff ?_); conv => whnf)
  refine DoesG.makeG (n := s.path.length + 2) digsT .i64 .i64 hw.fit (by have := hw.fit; simp only [maxLen]; omega) fun b5 zs hzs => ?_
  (conv => whnf); repeat ((first | with_reducible refine CondG.tt ?_ | with_reducible refine CondG.ff ?_); conv => whnf)
  refine LoadG.at (v := s.pv) (.tl (.here hat)) ?_
  (conv => whnf); repeat ((first | with_reducible refine CondG.tt ?_ | with_reducible refine CondG.ff ?_); conv => whnf)
  have hz2 : (zs.drop (s.path.length * 32)).length = 64 := by rw [List.length_drop]; omega
  refine DoesG.copyG (n := s.path.length) (cs := digsC s.path) (elem := 25) (by kernel_rfl) (sz := 32) (by kernel_rfl) (.tl (.right hw.rd _)) hpl (by omega) (digs_one _) ?_
  have e1 : zs.take 0 ++ (digsC s.path).take (min s.path.length (s.path.length + 2) * 32) ++ zs.drop (0 + min s.path.length (s.path.length + 2) * 32) = digsC s.path ++ zs.drop (s.path.length * 32) := by
    rw [Nat.min_eq_left (by omega), List.take_zero, List.nil_append, ← hpl, List.take_length, Nat.zero_add]
  rw [e1]
  generalize zs.drop (s.path.length * 32) = z2 at hz2
  (conv => whnf); repeat ((first | with_reducible refine CondG.tt ?_ | with_reducible refine CondG.ff ?_); conv => whnf)
  refine LoadG.at (v := s.pv) (.tl (.here hat)) ?_
  (conv => whnf); repeat ((first | with_reducible refine CondG.tt ?_ | with_reducible refine CondG.ff ?_); conv => whnf)
  refine LenG.rd hw.rd ?_
  (conv => whnf); repeat ((first | with_reducible refine CondG.tt ?_ | with_reducible refine CondG.ff ?_); conv => whnf)
  refine BuildG.of (cs := bvs (dg1 1)) rfl ?_
  (conv => whnf); repeat ((first | with_reducible refine CondG.tt ?_ | with_reducible refine CondG.ff ?_); conv => whnf)
  refine ⟨b5, 0, s.path.length + 2, s.path.length + 2, rfl, by omega, ?_⟩
  (conv => whnf); repeat ((first | with_reducible refine CondG.tt ?_ | with_reducible refine CondG.ff ?_); conv => whnf)
  refine StoreG.at (cs := bvs (dg1 1)) rfl (Upd.hereN (cs' := digsC s.path ++ (bvs (dg1 1) ++ z2.drop 32)) (by rw [List.length_append, hpl, hz2]; show 0 + (s.path.length : Int).toNat * 32 + 32 ≤ _; omega) (bvs_one _) ?_) ?_
  · rw [show 0 + ((s.path.length : Nat) : Int).toNat * 32 = s.path.length * 32 by omega, ← hpl, List.take_left, ← List.drop_drop, List.drop_left, List.append_assoc]
    rfl
  (conv => whnf); repeat ((first | with_reducible refine CondG.tt ?_ | with_reducible refine CondG.ff ?_); conv => whnf)
  refine LoadG.at (v := s.pv) (.tl (.here hat)) ?_
  (conv => whnf); repeat ((first | with_reducible refine CondG.tt ?_ | with_reducible refine CondG.ff ?_); conv => whnf)
  refine LenG.rd hw.rd ?_
  (conv => whnf); repeat ((first | with_reducible refine CondG.tt ?_ | with_reducible refine CondG.ff ?_); conv => whnf)
  refine ArithG.i64' ((s.path.length + 1 : Nat) : Int) (by omega) (by omega) ?_
  (conv => whnf); repeat ((first | with_reducible refine CondG.tt ?_ | with_reducible refine CondG.ff ?_); conv => whnf)
  refine BuildG.of (cs := bvs (dg1 2)) rfl ?_
  (conv => whnf); repeat ((first | with_reducible refine CondG.tt ?_ | with_reducible refine CondG.ff ?_); conv => whnf)
  refine ⟨b5, 0, s.path.length + 2, s.path.length + 2, rfl, by omega, ?_⟩
  (conv => whnf); repeat ((first | with_reducible refine CondG.tt ?_ | with_reducible refine CondG.ff ?_); conv => whnf)
  refine StoreG.at (cs := bvs (dg1 2)) rfl (Upd.hereN (cs' := fullC s.path) (by simp only [List.length_append, hpl, bvs_len, dg1, List.length_drop, hz2, List.length_cons, List.length_replicate]; omega) (bvs_one _) ?_) ?_
  · have hA : (digsC s.path ++ bvs (dg1 1)).length = s.path.length * 32 + 32 := by simp [hpl, bvs_len, dg1]
    have h32 : (bvs (dg1 2)).length = 32 := rfl
    rw [show 0 + ((s.path.length + 1 : Nat) : Int).toNat * 32 = s.path.length * 32 + 32 by omega, ← hA, ← List.append_assoc, List.take_left, ← List.drop_drop, List.drop_left, h32, List.drop_of_length_le (l := z2.drop 32) (by rw [List.length_drop]; omega), List.append_nil, List.append_assoc]
    rfl
  (conv => whnf); repeat ((first | with_reducible refine CondG.tt ?_ | with_reducible refine CondG.ff ?_); conv => whnf)
  refine LoadG.at (v := s.pv) (.tl (.here hat)) ?_
  (conv => whnf); repeat ((first | with_reducible refine CondG.tt ?_ | with_reducible refine CondG.ff ?_); conv => whnf)
  refine LenG.rd hw.rd ?_
  (conv => whnf); repeat ((first | with_reducible refine CondG.tt ?_ | with_reducible refine CondG.ff ?_); conv => whnf)
  refine SlcG.lit ?_
  (conv => whnf); repeat ((first | with_reducible refine CondG.tt ?_ | with_reducible refine CondG.ff ?_); conv => whnf)
  refine SideG.of (by omega) ?_
  (conv => whnf); repeat ((first | with_reducible refine CondG.tt ?_ | with_reducible refine CondG.ff ?_); conv => whnf)
  refine SliceG.zero ?_
  have ex1 : (((s.path.length : Nat) : Int)).toNat = s.path.length := rfl
  have ex2 : (((s.path.length + 2 : Nat) : Int)).toNat = s.path.length + 2 := rfl
  (conv => whnf); repeat ((first | with_reducible refine CondG.tt ?_ | with_reducible refine CondG.ff ?_); conv => whnf)
  refine LoadNG.at (vs := bvs s.root) hr32 (.tl (.here hrt)) ?_
  (conv => whnf); repeat ((first | with_reducible refine CondG.tt ?_ | with_reducible refine CondG.ff ?_); conv => whnf)
  refine LoadG.at (v := .int .i64 s.size) (.tl (.here hsz)) ?_
  (conv => whnf); repeat ((first | with_reducible refine CondG.tt ?_ | with_reducible refine CondG.ff ?_); conv => whnf)
  refine LoadNG.at (vs := s.leaf.cells) hll (.tl (.here hlf)) ?_
  (conv => whnf); repeat ((first | with_reducible refine CondG.tt ?_ | with_reducible refine CondG.ff ?_); conv => whnf)
  have hfull : (((fullC s.path).drop 0).take (digsC s.path).length) = digsC s.path := by rw [List.drop_zero, fullC, List.take_left]
  refine CallG.pure (ocheck_all K hk _ (.right hK _) s.root hw.root.len s.size s.leaf hw.leaf hw.to s.path _ (.left (.mk b5 0 s.path.length (s.path.length + 2) _ (by omega) (.here hfull)) F) hw.path) ?_
  rintro _ _ ⟨rfl, rfl⟩
  (conv => whnf); repeat ((first | with_reducible refine CondG.tt ?_ | with_reducible refine CondG.ff ?_); conv => whnf)
  refine LoadNG.at (vs := bvs s.root) hr32 (.tl (.here hrt)) ?_
  (conv => whnf); repeat ((first | with_reducible refine CondG.tt ?_ | with_reducible refine CondG.ff ?_); conv => whnf)
  refine LoadG.at (v := .int .i64 s.size) (.tl (.here hsz)) ?_
  (conv => whnf); repeat ((first | with_reducible refine CondG.tt ?_ | with_reducible refine CondG.ff ?_); conv => whnf)
  refine LoadNG.at (vs := s.leaf.cells) hll (.tl (.here hlf)) ?_
  (conv => whnf); repeat ((first | with_reducible refine CondG.tt ?_ | with_reducible refine CondG.ff ?_); conv => whnf)
  refine LoadG.at (v := s.pv) (.tl (.here hat)) ?_
  (conv => whnf); repeat ((first | with_reducible refine CondG.tt ?_ | with_reducible refine CondG.ff ?_); conv => whnf)
  refine CallG.pure (rcheck_all K hk _ (.right hC' _) (.right hB _) s.root hw.root.len s.size s.leaf hw.leaf hw.amt hw.to s.path s.pv (.right hw.rd _) hw.path) ?_
  rintro _ _ ⟨rfl, rfl⟩
  (conv => whnf); repeat ((first | with_reducible refine CondG.tt ?_ | with_reducible refine CondG.ff ?_); conv => whnf)
  refine CondG.ndec (fun h => absurd rfl h) (fun _ => ?_)
  (conv => whnf); repeat ((first | with_reducible refine CondG.tt ?_ | with_reducible refine CondG.ff ?_); conv => whnf)
  refine LoadG.at (v := s.pv) (.tl (.here hat)) ?_
  (conv => whnf); repeat ((first | with_reducible refine CondG.tt ?_ | with_reducible refine CondG.ff ?_); conv => whnf)
  have hdo : digsOk s.path := fun d hd => (hw.path d hd).len
  refine CallG.pure (samePath_spec _ (.slice (some ⟨b5, 0, none⟩) s.path.length (s.path.length + 2)) s.pv s.path s.path (.left (.mk b5 0 s.path.length (s.path.length + 2) _ (by omega) (.here hfull)) F) (.right hw.rd _) hdo hdo (by omega)) ?_
  rintro _ _ ⟨rfl, rfl⟩
  rw [decide_eq_true rfl]
  (conv => whnf); repeat ((first | with_reducible refine CondG.tt ?_ | with_reducible refine CondG.ff ?_); conv => whnf)
  refine CondG.ff ?_
  (conv => whnf); repeat ((first | with_reducible refine CondG.tt ?_ | with_reducible refine CondG.ff ?_); conv => whnf)
  refine LenG.lit ?_
  (conv => whnf); repeat ((first | with_reducible refine CondG.tt ?_ | with_reducible refine CondG.ff ?_); conv => whnf)
  have h1c : ((fullC s.path).drop (0 + ((s.path.length : Nat) : Int).toNat * 32)).take 32 = bvs (dg1 1) := by
    rw [show 0 + ((s.path.length : Nat) : Int).toNat * 32 = s.path.length * 32 by omega, fullC, ← hpl, List.drop_left]
    rfl
  have h2c : ((fullC s.path).drop (0 + ((s.path.length + 1 : Nat) : Int).toNat * 32)).take 32 = bvs (dg1 2) := by
    have hA : (digsC s.path ++ bvs (dg1 1)).length = s.path.length * 32 + 32 := by simp [hpl, bvs_len, dg1]
    rw [show 0 + ((s.path.length + 1 : Nat) : Int).toNat * 32 = s.path.length * 32 + 32 by omega, fullC, ← List.append_assoc, ← hA, List.drop_left]
    rfl
  refine ⟨b5, 0, s.path.length + 2, s.path.length + 2, rfl, by omega, ?_⟩
  (conv => whnf); repeat ((first | with_reducible refine CondG.tt ?_ | with_reducible refine CondG.ff ?_); conv => whnf)
  refine LoadNG.at (vs := bvs (dg1 1)) rfl (.here h1c) ?_
  (conv => whnf); repeat ((first | with_reducible refine CondG.tt ?_ | with_reducible refine CondG.ff ?_); conv => whnf)
  refine BuildG.of (cs := bvs (dg1 1)) rfl ?_
  (conv => whnf); repeat ((first | with_reducible refine CondG.tt ?_ | with_reducible refine CondG.ff ?_); conv => whnf)
  refine DoesG.eqv 8 (List.replicate 32 (.int .u8)) (by kernel_rfl) (by decide) (by kernel_rfl) (by kernel_rfl) (wt_bvs (ws := dg1 1) rfl) (wt_bvs (ws := dg1 1) rfl) ?_
  (conv => whnf); repeat ((first | with_reducible refine CondG.tt ?_ | with_reducible refine CondG.ff ?_); conv => whnf)
  refine CondG.split (fun h => absurd h (by simp)) (fun _ => ?_)
  (conv => whnf); repeat ((first | with_reducible refine CondG.tt ?_ | with_reducible refine CondG.ff ?_); conv => whnf)
  refine LenG.lit ?_
  (conv => whnf); repeat ((first | with_reducible refine CondG.tt ?_ | with_reducible refine CondG.ff ?_); conv => whnf)
  refine ArithG.i64' ((s.path.length + 1 : Nat) : Int) (by omega) (by omega) ?_
  (conv => whnf); repeat ((first | with_reducible refine CondG.tt ?_ | with_reducible refine CondG.ff ?_); conv => whnf)
  refine ⟨b5, 0, s.path.length + 2, s.path.length + 2, rfl, by omega, ?_⟩
  (conv => whnf); repeat ((first | with_reducible refine CondG.tt ?_ | with_reducible refine CondG.ff ?_); conv => whnf)
  refine LoadNG.at (vs := bvs (dg1 2)) rfl (.here h2c) ?_
  (conv => whnf); repeat ((first | with_reducible refine CondG.tt ?_ | with_reducible refine CondG.ff ?_); conv => whnf)
  refine BuildG.of (cs := bvs (dg1 2)) rfl ?_
  (conv => whnf); repeat ((first | with_reducible refine CondG.tt ?_ | with_reducible refine CondG.ff ?_); conv => whnf)
  refine DoesG.eqv 8 (List.replicate 32 (.int .u8)) (by kernel_rfl) (by decide) (by kernel_rfl) (by kernel_rfl) (wt_bvs (ws := dg1 2) rfl) (wt_bvs (ws := dg1 2) rfl) ?_
  (conv => whnf); repeat ((first | with_reducible refine CondG.tt ?_ | with_reducible refine CondG.ff ?_); conv => whnf)
  refine CondG.split (fun h => absurd h (by simp)) (fun _ => ?_)
  (conv => whnf); repeat ((first | with_reducible refine CondG.tt ?_ | with_reducible refine CondG.ff ?_); conv => whnf)
  refine LoopG.mk (fun mm e L => ∃ k, k ≤ s.path.length ∧ mm = s.path.length - k ∧ e = [(0, lv), (3, .int .i64 (i : Nat)), (4, .pointer (some ⟨b4, 0, none⟩)), (6, .slice (some ⟨b5, 0, none⟩) s.path.length (s.path.length + 2)), (8, .int .i64 (k : Nat))] ∧
      L = [cel b5 25 (fullC (flipN s.path k)), cel b4 35 s.cells]) s.path.length
    [(0, lv), (3, .int .i64 (i : Nat)), (4, .pointer (some ⟨b4, 0, none⟩)), (6, .slice (some ⟨b5, 0, none⟩) s.path.length (s.path.length + 2)), (8, .int .i64 0)] _ ⟨rfl, rfl, rfl, rfl, rfl, trivial⟩ (Ent.refl _)
    ⟨0, by omega, rfl, rfl, rfl⟩ ?_
  rintro mm e L ⟨k, hkl, rfl, rfl, rfl⟩
  have hfo := flipN_ok hw.path k
  have hfl := flipN_len s.path k
  have hfc : (digsC (flipN s.path k)).length = s.path.length * 32 := by rw [digs_len fun d hd => (hfo d hd).len, hfl]
  have hfc2 : (fullC (flipN s.path k)).length = s.path.length * 32 + 64 := by rw [fullC, List.length_append, hfc]; rfl
  (conv => whnf); repeat ((first | with_reducible refine CondG.tt ?_ | with_reducible refine CondG.ff ?_); conv => whnf)
  refine LenG.lit ?_
  (conv => whnf); repeat ((first | with_reducible refine CondG.tt ?_ | with_reducible refine CondG.ff ?_); conv => whnf)
  refine CondG.dec (fun h3 => ?_) (fun h3 => ?_)
  · have hk1 : k < s.path.length := by omega
    have hdk := hw.path s.path[k] (List.getElem_mem hk1)
    have hdl := hdk.len
    have hat2 := flip_at hw.path hk1 (by omega)
    (conv => whnf); repeat ((first | with_reducible refine CondG.tt ?_ | with_reducible refine CondG.ff ?_); conv => whnf)
    refine DrawG.mk 10 [cel b5 25 (fullC (flipN s.path k)), cel b4 35 s.cells] [] (Ent.refl _) ?_
    (conv => whnf); repeat ((first | with_reducible refine CondG.tt ?_ | with_reducible refine CondG.ff ?_); conv => whnf)
    refine .take 0 ?_
    (conv => whnf); repeat ((first | with_reducible refine CondG.tt ?_ | with_reducible refine CondG.ff ?_); conv => whnf)
    refine ⟨rfl, ?_⟩
    (conv => whnf); repeat ((first | with_reducible refine CondG.tt ?_ | with_reducible refine CondG.ff ?_); conv => whnf)
    refine .take 1 ?_
    (conv => whnf); repeat ((first | with_reducible refine CondG.tt ?_ | with_reducible refine CondG.ff ?_); conv => whnf)
    refine ⟨rfl, ?_⟩
    (conv => whnf); repeat ((first | with_reducible refine CondG.tt ?_ | with_reducible refine CondG.ff ?_); conv => whnf)
    refine .take 2 ?_
    (conv => whnf); repeat ((first | with_reducible refine CondG.tt ?_ | with_reducible refine CondG.ff ?_); conv => whnf)
    refine ⟨rfl, ?_⟩
    (conv => whnf); repeat ((first | with_reducible refine CondG.tt ?_ | with_reducible refine CondG.ff ?_); conv => whnf)
    refine .take 3 ?_
    (conv => whnf); repeat ((first | with_reducible refine CondG.tt ?_ | with_reducible refine CondG.ff ?_); conv => whnf)
    refine ⟨rfl, ?_⟩
    (conv => whnf); repeat ((first | with_reducible refine CondG.tt ?_ | with_reducible refine CondG.ff ?_); conv => whnf)
    refine .take 4 ?_
    (conv => whnf); repeat ((first | with_reducible refine CondG.tt ?_ | with_reducible refine CondG.ff ?_); conv => whnf)
    refine ⟨rfl, ?_⟩
    (conv => whnf); repeat ((first | with_reducible refine CondG.tt ?_ | with_reducible refine CondG.ff ?_); conv => whnf)
    refine ⟨b5, 0, s.path.length, s.path.length + 2, rfl, by omega, ?_⟩
    (conv => whnf); repeat ((first | with_reducible refine CondG.tt ?_ | with_reducible refine CondG.ff ?_); conv => whnf)
    refine .take 5 ?_
    (conv => whnf); repeat ((first | with_reducible refine CondG.tt ?_ | with_reducible refine CondG.ff ?_); conv => whnf)
    refine ⟨rfl, ?_⟩
    (conv => whnf); repeat ((first | with_reducible refine CondG.tt ?_ | with_reducible refine CondG.ff ?_); conv => whnf)
    refine SideG.of (by decide) ?_
    (conv => whnf); repeat ((first | with_reducible refine CondG.tt ?_ | with_reducible refine CondG.ff ?_); conv => whnf)
    refine .take 6 ?_
    (conv => whnf); repeat ((first | with_reducible refine CondG.tt ?_ | with_reducible refine CondG.ff ?_); conv => whnf)
    refine ⟨rfl, ?_⟩
    (conv => whnf); repeat ((first | with_reducible refine CondG.tt ?_ | with_reducible refine CondG.ff ?_); conv => whnf)
    refine LoadG.at (v := bv s.path[k][31]) (.here (by rw [show 0 + ((k : Nat) : Int).toNat * 32 + (31 : Int).toNat * 1 = k * 32 + 31 by omega]; exact hat2)) ?_
    (conv => whnf); repeat ((first | with_reducible refine CondG.tt ?_ | with_reducible refine CondG.ff ?_); conv => whnf)
    refine .take 7 ?_
    (conv => whnf); repeat ((first | with_reducible refine CondG.tt ?_ | with_reducible refine CondG.ff ?_); conv => whnf)
    refine ⟨rfl, ?_⟩
    (conv => whnf); repeat ((first | with_reducible refine CondG.tt ?_ | with_reducible refine CondG.ff ?_); conv => whnf)
    refine .all ?_
    (conv => whnf); repeat ((first | with_reducible refine CondG.tt ?_ | with_reducible refine CondG.ff ?_); conv => whnf)
    refine ⟨by decide, ?_⟩
    (conv => whnf); repeat ((first | with_reducible refine CondG.tt ?_ | with_reducible refine CondG.ff ?_); conv => whnf)
    refine ⟨b5, 0, s.path.length, s.path.length + 2, rfl, by omega, ?_⟩
    (conv => whnf); repeat ((first | with_reducible refine CondG.tt ?_ | with_reducible refine CondG.ff ?_); conv => whnf)
    refine .all ?_
    (conv => whnf); repeat ((first | with_reducible refine CondG.tt ?_ | with_reducible refine CondG.ff ?_); conv => whnf)
    refine ⟨by decide, ?_⟩
    (conv => whnf); repeat ((first | with_reducible refine CondG.tt ?_ | with_reducible refine CondG.ff ?_); conv => whnf)
    refine SideG.of (by decide) ?_
    (conv => whnf); repeat ((first | with_reducible refine CondG.tt ?_ | with_reducible refine CondG.ff ?_); conv => whnf)
    refine .all ?_
    (conv => whnf); repeat ((first | with_reducible refine CondG.tt ?_ | with_reducible refine CondG.ff ?_); conv => whnf)
    refine ⟨by decide, ?_⟩
    (conv => whnf); repeat ((first | with_reducible refine CondG.tt ?_ | with_reducible refine CondG.ff ?_); conv => whnf)
    refine ⟨rfl, ?_⟩
    (conv => whnf); repeat ((first | with_reducible refine CondG.tt ?_ | with_reducible refine CondG.ff ?_); conv => whnf)
    rw [xor1 _ (hdk.byte _ (List.getElem_mem _))]
    refine StoreG.at (cs := [_]) rfl (Upd.here (by rw [hfc2]; omega) rfl) ?_
    have es : (fullC (flipN s.path k)).set (0 + ((k : Nat) : Int).toNat * 32 + (31 : Int).toNat * 1) (.int .u8 ((s.path[k][31] ^^^ 1 : Nat) : Int)) = fullC (flipN s.path (k + 1)) := by
      rw [show 0 + ((k : Nat) : Int).toNat * 32 + (31 : Int).toNat * 1 = k * 32 + 31 by omega]
      exact flip_set hw.path hk1 (by omega)
    rw [es]
    (conv => whnf); repeat ((first | with_reducible refine CondG.tt ?_ | with_reducible refine CondG.ff ?_); conv => whnf)
    refine ⟨rfl, ?_⟩
    (conv => whnf); repeat ((first | with_reducible refine CondG.tt ?_ | with_reducible refine CondG.ff ?_); conv => whnf)
    refine ArithG.i64 (by omega) ?_
    (conv => whnf); repeat ((first | with_reducible refine CondG.tt ?_ | with_reducible refine CondG.ff ?_); conv => whnf)
    refine ⟨s.path.length - (k + 1), _, _, by omega, ?_, Ent.refl _, k + 1, by omega, rfl, rfl, rfl⟩
    exact ⟨rfl, rfl, rfl, rfl, rfl, trivial⟩
  · obtain rfl : k = s.path.length := by omega
    generalize flipN s.path s.path.length = q at *
    have hfull2 : (((fullC q).drop 0).take (digsC q).length) = digsC q := by rw [List.drop_zero, fullC, List.take_left]
    have hrd : RdS [cel b5 25 (fullC q), cel b4 35 s.cells] (.slice (some ⟨b5, 0, none⟩) s.path.length (s.path.length + 2)) q.length (digsC q) := by
      rw [hfl]
      exact .mk b5 0 s.path.length (s.path.length + 2) _ (by omega) (.here hfull2)
    (conv => whnf); repeat ((first | with_reducible refine CondG.tt ?_ | with_reducible refine CondG.ff ?_); conv => whnf)
    refine DrawG.mk 17 [cel b5 25 (fullC q), cel b4 35 s.cells] [] (Ent.refl _) ?_
    (conv => whnf); repeat ((first | with_reducible refine CondG.tt ?_ | with_reducible refine CondG.ff ?_); conv => whnf)
    refine .take 0 ?_
    (conv => whnf); repeat ((first | with_reducible refine CondG.tt ?_ | with_reducible refine CondG.ff ?_); conv => whnf)
    refine ⟨rfl, ?_⟩
    (conv => whnf); repeat ((first | with_reducible refine CondG.tt ?_ | with_reducible refine CondG.ff ?_); conv => whnf)
    refine .take 1 ?_
    (conv => whnf); repeat ((first | with_reducible refine CondG.tt ?_ | with_reducible refine CondG.ff ?_); conv => whnf)
    refine ⟨rfl, ?_⟩
    (conv => whnf); repeat ((first | with_reducible refine CondG.tt ?_ | with_reducible refine CondG.ff ?_); conv => whnf)
    refine LoadNG.at (vs := bvs s.root) hr32 (.tl (.here hrt)) ?_
    (conv => whnf); repeat ((first | with_reducible refine CondG.tt ?_ | with_reducible refine CondG.ff ?_); conv => whnf)
    refine .take 2 ?_
    (conv => whnf); repeat ((first | with_reducible refine CondG.tt ?_ | with_reducible refine CondG.ff ?_); conv => whnf)
    refine ⟨rfl, ?_⟩
    (conv => whnf); repeat ((first | with_reducible refine CondG.tt ?_ | with_reducible refine CondG.ff ?_); conv => whnf)
    refine .take 3 ?_
    (conv => whnf); repeat ((first | with_reducible refine CondG.tt ?_ | with_reducible refine CondG.ff ?_); conv => whnf)
    refine ⟨rfl, ?_⟩
    (conv => whnf); repeat ((first | with_reducible refine CondG.tt ?_ | with_reducible refine CondG.ff ?_); conv => whnf)
    refine LoadG.at (v := .int .i64 s.size) (.tl (.here hsz)) ?_
    (conv => whnf); repeat ((first | with_reducible refine CondG.tt ?_ | with_reducible refine CondG.ff ?_); conv => whnf)
    refine .take 4 ?_
    (conv => whnf); repeat ((first | with_reducible refine CondG.tt ?_ | with_reducible refine CondG.ff ?_); conv => whnf)
    refine ⟨rfl, ?_⟩
    (conv => whnf); repeat ((first | with_reducible refine CondG.tt ?_ | with_reducible refine CondG.ff ?_); conv => whnf)
    refine .take 5 ?_
    (conv => whnf); repeat ((first | with_reducible refine CondG.tt ?_ | with_reducible refine CondG.ff ?_); conv => whnf)
    refine ⟨rfl, ?_⟩
    (conv => whnf); repeat ((first | with_reducible refine CondG.tt ?_ | with_reducible refine CondG.ff ?_); conv => whnf)
    refine LoadNG.at (vs := s.leaf.cells) hll (.tl (.here hlf)) ?_
    (conv => whnf); repeat ((first | with_reducible refine CondG.tt ?_ | with_reducible refine CondG.ff ?_); conv => whnf)
    refine .take 6 ?_
    (conv => whnf); repeat ((first | with_reducible refine CondG.tt ?_ | with_reducible refine CondG.ff ?_); conv => whnf)
    refine ⟨rfl, ?_⟩
    (conv => whnf); repeat ((first | with_reducible refine CondG.tt ?_ | with_reducible refine CondG.ff ?_); conv => whnf)
    refine .take 8 ?_
    (conv => whnf); repeat ((first | with_reducible refine CondG.tt ?_ | with_reducible refine CondG.ff ?_); conv => whnf)
    refine ⟨rfl, ?_⟩
    (conv => whnf); repeat ((first | with_reducible refine CondG.tt ?_ | with_reducible refine CondG.ff ?_); conv => whnf)
    refine .take 9 ?_
    (conv => whnf); repeat ((first | with_reducible refine CondG.tt ?_ | with_reducible refine CondG.ff ?_); conv => whnf)
    refine ⟨rfl, ?_⟩
    (conv => whnf); repeat ((first | with_reducible refine CondG.tt ?_ | with_reducible refine CondG.ff ?_); conv => whnf)
    refine LoadNG.at (vs := bvs s.root) hr32 (.tl (.here hrt)) ?_
    (conv => whnf); repeat ((first | with_reducible refine CondG.tt ?_ | with_reducible refine CondG.ff ?_); conv => whnf)
    refine .take 10 ?_
    (conv => whnf); repeat ((first | with_reducible refine CondG.tt ?_ | with_reducible refine CondG.ff ?_); conv => whnf)
    refine ⟨rfl, ?_⟩
    (conv => whnf); repeat ((first | with_reducible refine CondG.tt ?_ | with_reducible refine CondG.ff ?_); conv => whnf)
    refine .take 11 ?_
    (conv => whnf); repeat ((first | with_reducible refine CondG.tt ?_ | with_reducible refine CondG.ff ?_); conv => whnf)
    refine ⟨rfl, ?_⟩
    (conv => whnf); repeat ((first | with_reducible refine CondG.tt ?_ | with_reducible refine CondG.ff ?_); conv => whnf)
    refine LoadG.at (v := .int .i64 s.size) (.tl (.here hsz)) ?_
    (conv => whnf); repeat ((first | with_reducible refine CondG.tt ?_ | with_reducible refine CondG.ff ?_); conv => whnf)
    refine .take 12 ?_
    (conv => whnf); repeat ((first | with_reducible refine CondG.tt ?_ | with_reducible refine CondG.ff ?_); conv => whnf)
    refine ⟨rfl, ?_⟩
    (conv => whnf); repeat ((first | with_reducible refine CondG.tt ?_ | with_reducible refine CondG.ff ?_); conv => whnf)
    refine .take 13 ?_
    (conv => whnf); repeat ((first | with_reducible refine CondG.tt ?_ | with_reducible refine CondG.ff ?_); conv => whnf)
    refine ⟨rfl, ?_⟩
    (conv => whnf); repeat ((first | with_reducible refine CondG.tt ?_ | with_reducible refine CondG.ff ?_); conv => whnf)
    refine LoadNG.at (vs := s.leaf.cells) hll (.tl (.here hlf)) ?_
    (conv => whnf); repeat ((first | with_reducible refine CondG.tt ?_ | with_reducible refine CondG.ff ?_); conv => whnf)
    refine .take 14 ?_
    (conv => whnf); repeat ((first | with_reducible refine CondG.tt ?_ | with_reducible refine CondG.ff ?_); conv => whnf)
    refine ⟨rfl, ?_⟩
    (conv => whnf); repeat ((first | with_reducible refine CondG.tt ?_ | with_reducible refine CondG.ff ?_); conv => whnf)
    refine .all ?_
    (conv => whnf); repeat ((first | with_reducible refine CondG.tt ?_ | with_reducible refine CondG.ff ?_); conv => whnf)
    refine ⟨by decide, ?_⟩
    (conv => whnf); repeat ((first | with_reducible refine CondG.tt ?_ | with_reducible refine CondG.ff ?_); conv => whnf)
    refine CallG.pure (ocheck_all K hk _ (.right (.right hK _) _) s.root hw.root.len s.size s.leaf hw.leaf hw.to q _ (.right (.left hrd F) []) hfo) ?_
    rintro _ _ ⟨rfl, rfl⟩
    (conv => whnf); repeat ((first | with_reducible refine CondG.tt ?_ | with_reducible refine CondG.ff ?_); conv => whnf)
    refine .all ?_
    (conv => whnf); repeat ((first | with_reducible refine CondG.tt ?_ | with_reducible refine CondG.ff ?_); conv => whnf)
    refine ⟨by decide, ?_⟩
    (conv => whnf); repeat ((first | with_reducible refine CondG.tt ?_ | with_reducible refine CondG.ff ?_); conv => whnf)
    refine CallG.pure (rcheck_all K hk _ (.right (.right hC' _) _) (.right (.right hB _) _) s.root hw.root.len s.size s.leaf hw.leaf hw.amt hw.to q _ (.right (.left hrd F) []) hfo) ?_
    rintro _ _ ⟨rfl, rfl⟩
    (conv => whnf); repeat ((first | with_reducible refine CondG.tt ?_ | with_reducible refine CondG.ff ?_); conv => whnf)
    refine .take 16 ?_
    (conv => whnf); repeat ((first | with_reducible refine CondG.tt ?_ | with_reducible refine CondG.ff ?_); conv => whnf)
    refine ⟨rfl, ?_⟩
    (conv => whnf); repeat ((first | with_reducible refine CondG.tt ?_ | with_reducible refine CondG.ff ?_); conv => whnf)
    refine ⟨rfl, ?_⟩
    (conv => whnf); repeat ((first | with_reducible refine CondG.tt ?_ | with_reducible refine CondG.ff ?_); conv => whnf)
    refine CondG.ndec (fun h => absurd rfl h) (fun _ => ?_)
    (conv => whnf); repeat ((first | with_reducible refine CondG.tt ?_ | with_reducible refine CondG.ff ?_); conv => whnf)
    refine ArithG.i64 (by omega) ?_
    (conv => whnf); repeat ((first | with_reducible refine CondG.tt ?_ | with_reducible refine CondG.ff ?_); conv => whnf)
    refine ⟨ss.length - (i + 1), _, [], by omega, ?_, Ent.nil _, i + 1, by omega, rfl, rfl, rfl⟩
    exact ⟨rfl, rfl, trivial⟩
end Go.Proofs.YthdpknlnpeaiiaaDoor
