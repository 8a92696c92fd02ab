import Derived.Test.YtmfonkklmndhjaaGreatDoorZLv
import Derived.Test.YtmfonkklmndhjaaGreatDoorZCp
import Derived.Test.YtmfonkklmndhjaaGreatDoorZHp
import Derived.ChangeSame
import Derived.ChangeReads
import Derived.ReadAgain
import Derived.OpenShut
import Derived.RowKit
namespace Go.Sl
open Go
section
variable {P : Program} {f : FuncId} {args : List Value} {F L M pre : List HP} {R R' : Value → List HP → Prop} {α : Type} {φ : α → Prop} {ls : α → List HP}
def exL (φ : α → Prop) (ls : α → List HP) : HP := fun h => ∃ a, φ a ∧ sepL (ls a) h
theorem Sat.exL {w : World} : Sat w (exL φ ls :: L) ↔ ∃ a, φ a ∧ Sat w (ls a ++ L) := by
 constructor
 ·intro h
  obtain ⟨x, y, hok, ⟨a, ha, hx⟩, hy, hf1, hf2⟩ := Sat.cons.1 h
  exact ⟨a, ha, Sat.append.2 ⟨x, y, hok, hx, hy, hf1, hf2⟩⟩
 ·rintro ⟨a, ha, h⟩
  obtain ⟨x, y, hok, hx, hy, hf1, hf2⟩ := Sat.append.1 h
  exact Sat.cons.2 ⟨x, y, hok, ⟨a, ha, hx⟩, hy, hf1, hf2⟩
theorem Ent.pack {a : α} (ha : φ a) : Ent (ls a ++ L) (exL φ ls :: L) := fun w F h => Sat.exL.2 ⟨a, ha, by simpa [List.append_assoc] using h⟩
theorem Ent.pack0 {a : α} (ha : φ a) : Ent (ls a) [exL φ ls] := fun w F h => Sat.exL.2 ⟨a, ha, h⟩
theorem SpecF.unpack (h : ∀ a, φ a → SpecF P f args F (ls a ++ pre) R) : SpecF P f args F (exL φ ls :: pre) R := fun w hs => by
 obtain ⟨a, ha, hs'⟩ := Sat.exL.1 hs
 exact h a ha w (by simpa [List.append_assoc] using hs')
theorem SpecF.unpack0 (h : ∀ a, φ a → SpecF P f args F (ls a) R) : SpecF P f args F [exL φ ls] R := SpecF.unpack fun a ha => by rw [List.append_nil]; exact h a ha
theorem SpecF.turn (h : SpecF P f args F pre R) (hR : ∀ v L, R v L → ∃ L', R' v L' ∧ Ent L L') : SpecF P f args F pre R' := fun w hs => (h w hs).mono fun e w' ⟨v, L, he, hv, hx, hs'⟩ => by
 obtain ⟨L', h1, h2⟩ := hR v L hv
 exact ⟨v, L', he, h1, hx, h2 w' F hs'⟩
end
structure View where
 now : ByteArray → List Nat
 hist : List (ByteArray → List Nat)
instance : CoeFun View fun _ => ByteArray → List Nat := ⟨View.now⟩
def upd (V : View) (key : ByteArray) (bs : List Nat) : View := ⟨fun k => if k = key then bs else V k, V.hist⟩
structure At (find : ByteArray → List Nat × Int) (V : View) (n : Nat) (c : StC) : Prop where
 lv : ∀ k, lv find c k = V k
 wf : c.wf
 steps : c.steps.length ≤ n
 marks : c.marks.length = V.hist.length
 rise : c.marks.Pairwise (· ≤ ·)
 hist : ∀ (j a : Nat) (f : ByteArray → List Nat), c.marks[j]? = some a → V.hist[j]? = some f → a ≤ c.steps.length ∧ ∀ k, rb find c a k = f k
theorem At.same {find : ByteArray → List Nat × Int} {V : View} {n : Nat} {c c' : StC} (h : At find V n c) (hs : Same find c c') : At find V n c' := by
 refine ⟨fun k => (hs.lv k).trans (h.lv k), hs.wf, by rw [hs.steps]; exact h.steps, by rw [hs.marks]; exact h.marks, by rw [hs.marks]; exact h.rise, fun j a f hj hf => ?_⟩
 rw [hs.marks] at hj
 obtain ⟨h1, h2⟩ := h.hist j a f hj hf
 exact ⟨by rw [hs.steps]; exact h1, fun k => (hs.rb a h1 k).trans (h2 k)⟩
end Go.Sl
namespace Go.Sl
open Go
def padZ (m : List Nat) : Nat := if m.length % 64 < 56 then 55 - m.length % 64 else 119 - m.length % 64
def padL (m : List Nat) : List Nat := m ++ (128 :: List.replicate (padZ m) 0 ++ be (m.length * 8) 8)
theorem padL_len (m : List Nat) : (padL m).length = 64 * (if m.length % 64 < 56 then m.length / 64 + 1 else m.length / 64 + 2) := by
 have hdm := Nat.div_add_mod m.length 64
 have hlt := Nat.mod_lt m.length (show 0 < 64 by decide)
 simp only [padL, padZ, List.length_append, List.length_cons, List.length_replicate, be_len]
 split <;> omega
theorem padL_drop (m : List Nat) : (padL m).drop (64 * (m.length / 64)) = m.drop (64 * (m.length / 64)) ++ (128 :: List.replicate (padZ m) 0 ++ be (m.length * 8) 8) := by
 have hdm := Nat.div_add_mod m.length 64
 unfold padL
 rw [List.drop_append_of_le_length (by omega)]
theorem dig_pad (K : List W32) (m : List Nat) : dig K m = digB (stN K (padL m) ((padL m).length / 64)) := by
 have hdm := Nat.div_add_mod m.length 64
 have hlt := Nat.mod_lt m.length (show 0 < 64 by decide)
 have hrl : (m.drop (64 * (m.length / 64))).length = m.length % 64 := by simp; omega
 have hq : stN K (padL m) (m.length / 64) = stN K m (m.length / 64) := stN_app K m _ _ (by omega)
 unfold dig
 congr 1
 by_cases h : m.length % 64 < 56
 ·have hl : (padL m).length / 64 = m.length / 64 + 1 := by rw [padL_len, if_pos h]; omega
  rw [hl, stN, hq, padL_drop]
  have he : endS K m = stN K m (m.length / 64) := by unfold endS; rw [if_neg (by omega)]
  rw [he]
  congr 1
  have hp : endP m = padP m := by unfold endP; rw [if_neg (by omega)]
  have hz : padZ m = 55 - m.length % 64 := by unfold padZ; rw [if_pos h]
  rw [endQ, hp, padP, hz]
  have hll : (m.drop (64 * (m.length / 64)) ++ (128 :: List.replicate (55 - m.length % 64) 0 ++ be (m.length * 8) 8)).length = 64 := by
   simp only [List.length_append, List.length_cons, List.length_replicate, be_len, hrl]; omega
  have hR : (m.drop (64 * (m.length / 64)) ++ (128 :: List.replicate (55 - m.length % 64) 0 ++ be (m.length * 8) 8)).take 64 = m.drop (64 * (m.length / 64)) ++ (128 :: List.replicate (55 - m.length % 64) 0 ++ be (m.length * 8) 8) := List.take_of_length_le (by omega)
  rw [hR]
  have e1 : (128 :: List.replicate (63 - m.length % 64) 0).take (56 - m.length % 64) = 128 :: List.replicate (55 - m.length % 64) 0 := by
   obtain ⟨k, hk⟩ : ∃ k, 56 - m.length % 64 = k + 1 := ⟨55 - m.length % 64, by omega⟩
   rw [hk, List.take_succ_cons, List.take_replicate]
   congr 2
   omega
  have hL : (m.drop (64 * (m.length / 64)) ++ 128 :: List.replicate (63 - m.length % 64) 0).take 56 = m.drop (64 * (m.length / 64)) ++ 128 :: List.replicate (55 - m.length % 64) 0 := by
   have h1 : (m.drop (64 * (m.length / 64))).take 56 = m.drop (64 * (m.length / 64)) := List.take_of_length_le (by omega)
   rw [List.take_append, h1, hrl, e1]
  rw [hL]
  simp
 ·have hl : (padL m).length / 64 = m.length / 64 + 1 + 1 := by rw [padL_len, if_neg h]; omega
  have he : endS K m = takeS K (stN K m (m.length / 64)) (padP m) := by unfold endS; rw [if_pos (by omega)]
  have hz : padZ m = (63 - m.length % 64) + 56 := by unfold padZ; rw [if_neg h]; omega
  have hp : endP m = List.replicate 64 0 := by unfold endP; rw [if_pos (by omega)]
  have e0 : m.drop (64 * (m.length / 64)) ++ (128 :: List.replicate (padZ m) 0 ++ be (m.length * 8) 8) = padP m ++ (List.replicate 56 0 ++ be (m.length * 8) 8) := by
   rw [hz, ← List.replicate_append_replicate, padP]
   simp
  have hd2 : (padL m).drop (64 * (m.length / 64 + 1)) = List.replicate 56 0 ++ be (m.length * 8) 8 := by
   rw [show 64 * (m.length / 64 + 1) = 64 * (m.length / 64) + 64 by omega, ← List.drop_drop, padL_drop, e0]
   have := padP_len m
   rw [← this, List.drop_left]
  rw [hl, stN, stN, hq, padL_drop, e0, hd2, he]
  have t1 : (padP m ++ (List.replicate 56 0 ++ be (m.length * 8) 8)).take 64 = padP m := by
   have := padP_len m
   rw [← this, List.take_left]
  rw [t1, List.take_of_length_le (by simp [be_len]), endQ, hp]
  simp
end Go.Sl
namespace Go.Sl
open Go
def half (n : Nat) : Nat := 2 ^ (n - 1).log2
def nodeD (K : List W32) (a b : List Nat) : List Nat := dig K (1 :: (a ++ b))
def leafT (K : List W32) (a : List Nat) : List Nat := dig K (0 :: a)
def digsC (ds : List (List Nat)) : List Value := ds.flatMap bvs
end Go.Sl
namespace Go.Sl
open Go Go.ChangeShapes Go.WideShapes
variable {H : Type} {P : Program} {enc : TypeId × Value → H}
theorem old_of_was {W W' : World} {L : List HP} (hs : Sat W' (L ++ [was W.heap])) : ∀ i, i < W.heap.size → W'.heap[i]? = W.heap[i]? := fun i hi => by
 have h : W.heap[i]? = some W.heap[i] := by simp [hi]
 rw [h]
 exact Sat.was_heap (Sat.right hs) h
theorem keptBut_of_old {W W' : World} (hx : Ext W W') (ho : ∀ i, i < W.heap.size → W'.heap[i]? = W.heap[i]?) (may : MemPlace → Prop) : W.keptBut W' may := by
 refine ⟨hx.os, hx.output, fun i hi => ?_⟩
 rw [ho i hi]
 cases W.heap[i]? with
 | none => rfl
 | some o => cases o <;> simp
theorem frozen_of_old {W W' : World} (ho : ∀ i, i < W.heap.size → W'.heap[i]? = W.heap[i]?) (a : Addr) (ha : a.block < W.heap.size) : W'.frozen? a = W.frozen? a := by
 simp only [World.frozen?, ho _ ha]
theorem post_of_old {f : Func} {s : ChangeSpec} {apart fresh handsOn again : Bool} {W W' : World} {args : Array Value} {v : Value} {ds gs : List (DataW H)} {before pa pv : List MemPlace}
 (hW : DataW.Whole enc P f.params.toList s.vars apart W args.toList ds gs before)
 (hres : ∀ (b : Nat) (sp : Nat → Bool) (hd : Bool), DataW.TrodAll enc P W' b sp hd f.resultTypes.toList (v.resultList f.resultTypes.size) (s.fn H (ds ++ gs)).results [])
 (hargs : ∀ sp : Nat → Bool, (∀ p ∈ before, sp p.block = true) → DataW.TrodAll enc P W' 0 sp true f.params.toList args.toList (s.fn H (ds ++ gs)).args pa)
 (hvars : ∀ sp : Nat → Bool, (∀ p ∈ before, sp p.block = true) → DataW.TrodVars enc P W' sp s.vars (s.fn H (ds ++ gs)).vars pv)
 (hps : before = pa ++ pv) (hx : Ext W W') (ho : ∀ i, i < W.heap.size → W'.heap[i]? = W.heap[i]?)
 (hok : ∀ (j : Nat) (t : TypeId) (r : Value), f.resultTypes[j]? = some t → (v.resultList f.resultTypes.size)[j]? = some r → Value.okWide P W' .any 0 t r) :
 s.post enc P f apart fresh handsOn again W args v W' := by
 have hold : ∀ p ∈ before, (fun b => decide (b < W.heap.size)) p.block = true := fun p hp => by simpa using hW.lt p hp
 have hlt : ∀ p ∈ before, p.block < W.heap.size := fun p hp => hW.lt p hp
 refine ⟨ds, gs, before, [], pa, pv, hW, hres _ _ _, hargs _ hold, hvars _ hold, keptBut_of_old hx ho _, fun _ => ?_⟩
 obtain ⟨_, _, _, _, _, hz, hn⟩ := hW
 refine ⟨hok, _, _, ([] ++ pa) ++ pv, ⟨[] ++ pa, pv, trodAll_append (hargs _ (fun _ _ => rfl)) (hres _ _ _), hvars _ (fun _ _ => rfl), rfl, ?_, ?_⟩, ?_⟩
 ·intro b off hp
  have hb : (MemPlace.cell b off) ∈ before := by rw [hps]; simpa using hp
  rw [frozen_of_old ho _ (by have := hlt _ hb; simpa [MemPlace.block] using this)]
  exact hz b off hb
 ·intro ha
  have := hn ha
  rw [hps] at this
  simpa using this
 ·intro p hp _
  rw [hps]
  simpa using hp
end Go.Sl
namespace Go.Sl
open Go Go.ChangeShapes Go.WideShapes Go.RowKit
theorem mapM_mono {α β : Type} {f g : α → Option β} (h : ∀ x y, f x = some y → g x = some y) : ∀ {l : List α} {r : List β}, l.mapM f = some r → l.mapM g = some r
 | [], r, e => by simpa using e
 | x :: l, r, e => by
  simp only [List.mapM_cons, Option.bind_eq_bind, Option.bind_eq_some_iff] at e
  obtain ⟨y, hy, ys, hys, he⟩ := e
  simp only [List.mapM_cons, Option.bind_eq_bind, h x y hy, mapM_mono h hys, Option.bind_some]
  exact he
section
variable {H : Type} {enc : TypeId × Value → H} {P : Program} {w w' : World} {base : Nat} {spare : Nat → Bool} {held : Bool}
theorem cell_old (ho : ∀ i, i < w.heap.size → w'.heap[i]? = w.heap[i]?) {a : Addr} {v : Value} (h : w.cell? a = some v) : w'.cell? a = some v := by
 have hlt := World.block_lt_of_cell? w a h
 unfold World.cell? at h ⊢
 rw [ho _ hlt]
 exact h
theorem cells_old (ho : ∀ i, i < w.heap.size → w'.heap[i]? = w.heap[i]?) {a : Addr} {n : Nat} {cs : List Value} (h : w.cells? base a n = some cs) : w'.cells? base a n = some cs := by
 unfold World.cells? at h ⊢
 split at h
 ·rename_i hb
  rw [if_pos hb]
  exact mapM_mono (fun i y hy => cell_old ho hy) h
 ·cases h
theorem bind_mono {α β : Type} {o o' : Option α} {f g : α → Option β} {r : β} (h1 : ∀ x, o = some x → o' = some x) (h2 : ∀ x y, f x = some y → g x = some y) (h : o.bind f = some r) : o'.bind g = some r := by
 obtain ⟨x, hx, hy⟩ := Option.bind_eq_some_iff.1 h
 rw [h1 x hx]
 exact h2 x r hy
theorem map_mono {α β : Type} {o o' : Option α} {f : α → β} {r : β} (h1 : ∀ x, o = some x → o' = some x) (h : o.map f = some r) : o'.map f = some r := by
 obtain ⟨x, hx, hy⟩ := Option.map_eq_some_iff.1 h
 rw [h1 x hx, ← hy]
 rfl
theorem trodStep_old (ho : ∀ i, i < w.heap.size → w'.heap[i]? = w.heap[i]?) {r r' : TypeId → List Value → Option (DataW H × List MemPlace)} (hr : ∀ t cs x, r t cs = some x → r' t cs = some x) {t : TypeId} {cs : List Value} {x : DataW H × List MemPlace}
 (h : DataW.trodStep enc P w base spare held r t cs = some x) : DataW.trodStep enc P w' base spare held r' t cs = some x := by
 unfold DataW.trodStep at h ⊢
 split at h
 case h_1 => exact h
 case h_2 => exact h
 case h_3 => exact h
 case h_4 => exact h
 case h_5 => exact h
 case h_6 => exact map_mono (fun y hy => bind_mono (fun z hz => cells_old ho hz) (fun z q hq => hr _ _ _ hq) hy) h
 case h_7 => exact h
 case h_8 =>
  simp only at h ⊢
  split at h
  ·rename_i hc
   rw [if_pos hc]
   refine bind_mono (fun y hy => mapM_mono (fun i z hz => bind_mono (fun q hq => cells_old ho hq) (fun q z hz => hr _ _ _ hz) hz) hy) (fun y z hz => map_mono (fun q hq => ?_) hz) h
   split at hq
   ·rename_i hs
    rw [if_pos hs]
    exact mapM_mono (fun i z hz => bind_mono (fun q hq => cells_old ho hq) (fun q z hz => hr _ _ _ hz) hz) hq
   ·rename_i hs
    rw [if_neg hs]
    exact hq
  ·cases h
 case h_9 =>
  split at h
  ·rename_i hc
   rw [if_pos hc]
   exact map_mono (fun y hy => mapM_mono (fun f z hz => hr _ _ _ hz) hy) h
  ·cases h
 case h_10 =>
  split at h
  ·rename_i hc
   rw [if_pos hc]
   exact map_mono (fun y hy => mapM_mono (fun f z hz => hr _ _ _ hz) hy) h
  ·cases h
 case h_11 => exact h
 case h_12 =>
  split at h
  ·exact h
  ·exact map_mono (fun z hz => hr _ _ _ hz) h
  ·cases h
 case h_13 => exact h
 case h_14 k e b _ =>
  split at h
  ·rename_i es clock hb
   have hb' : w'.heap[b]? = some (.map es clock) := by
    rw [ho b (by
     rcases Nat.lt_or_ge b w.heap.size with h' | h'
     ·exact h'
     ·simp [Array.getElem?_eq_none h'] at hb)]
    exact hb
   rw [hb']
   simp only
   split at h
   ·rename_i hc
    rw [if_pos hc]
    refine bind_mono (fun y hy => mapM_mono (fun z q hq => bind_mono (fun _ h => h) (fun key q hq => ?_) hq) hy) (fun _ _ h => h) h
    split at hq
    ·rename_i hf
     simp only [hf, if_true]
     exact map_mono (fun z hz => hr _ _ _ hz) hq
    ·cases hq
   ·cases h
  ·cases h
 all_goals exact h
theorem trod_old (ho : ∀ i, i < w.heap.size → w'.heap[i]? = w.heap[i]?) : ∀ (n : Nat) (t : TypeId) (cs : List Value) (x : DataW H × List MemPlace), DataW.trod enc P w base spare held n t cs = some x → DataW.trod enc P w' base spare held n t cs = some x := by
 intro n
 induction n with
 | zero => intro t cs x h; simp [DataW.trod] at h
 | succ n ih =>
  intro t cs x h
  rw [DataW.trod_step] at h ⊢
  exact trodStep_old ho ih h
theorem trodAll_old (ho : ∀ i, i < w.heap.size → w'.heap[i]? = w.heap[i]?) : ∀ {ts : List TypeId} {vs : List Value} {ds : List (DataW H)} {ps : List MemPlace}, DataW.TrodAll enc P w base spare held ts vs ds ps → DataW.TrodAll enc P w' base spare held ts vs ds ps
 | [], [], [], _, h => h
 | _ :: _, _ :: _, _ :: _, _, ⟨a, b, ⟨n, h1⟩, h2, e⟩ => ⟨a, b, ⟨n, trod_old ho n _ _ _ h1⟩, trodAll_old ho h2, e⟩
end
theorem post_true {H : Type} {P : Program} {enc : TypeId × Value → H} {f : Func} {s : ChangeSpec} {tb : TypeId} {W W' : World} {args : Array Value} {ds : List (DataW H)} {before : List MemPlace} (K : Kids P (· < P.types.size)) (hz : ∀ t e, t < P.types.size → P.underlying t = some (.slice e) → 0 < P.cellsOf e) (hts : ∀ t ∈ f.params.toList, t < P.types.size) (hvars : s.vars = [])
 (hW : DataW.Whole enc P f.params.toList [] false W args.toList ds [] before) (hb : P.underlying tb = some .bool) (hr : f.resultTypes = #[tb])
 (hs : s.fn H ds = { results := [.lit (.bool true)], args := ds }) (hx : Ext W W') (ho : ∀ i, i < W.heap.size → W'.heap[i]? = W.heap[i]?) :
 s.post enc P f false true false false W args (.bool true) W' := by
 have hW' := hW
 obtain ⟨p, q, hA, hV, hp, hfz, hnd⟩ := hW
 have hV' : q = [] := hV
 subst hV'
 rw [List.append_nil] at hp
 subst hp
 refine post_of_old (pa := before) (pv := []) (by rw [hvars]; exact hW') (fun _ _ _ => ?_) (fun sp hsp => ?_) (fun _ _ => ?_) (List.append_nil _).symm hx ho ?_
 ·rw [List.append_nil, hs, hr]
  exact trodAll_cons_mk (shut_bool hb _) trodAll_mk0
 ·rw [List.append_nil, hs]
  exact trodAll_old ho (hA.respare K hz hts hsp)
 ·rw [List.append_nil, hs, hvars]
  rfl
 ·exact ok_one hr rfl (okWide_bool_mk hb _)
end Go.Sl
