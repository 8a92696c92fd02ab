import Derived.Test.YtjkldhalmglkpaaDoorZPo
import Derived.ChangeReads
import Derived.ReadAgain
import Derived.OpenShut
import Derived.RowKit
namespace Go.Sl
open Go Go.ChangeShapes Go.WideShapes Go.RowKit
theorem mapM_mono {α β : Type} {f g : α → Option β} (h : ∀ x y, f x = some y → g x = some y) : ∀ {l : List α} {r : List β}, l.mapM f = some r → l.mapM g = some r
 | [], r, e => by simpa using e
 | x :: l, r, e => by
  simp only [List.mapM_cons, Option.bind_eq_bind, Option.bind_eq_some_iff] at e
  obtain ⟨y, hy, ys, hys, he⟩ := e
  simp only [List.mapM_cons, Option.bind_eq_bind, h x y hy, mapM_mono h hys, Option.bind_some]
  exact he
section
variable {H : Type} {enc : TypeId × Value → H} {P : Program} {w w' : World} {base : Nat} {spare : Nat → Bool} {held : Bool}
theorem cell_old (ho : ∀ i, i < w.heap.size → w'.heap[i]? = w.heap[i]?) {a : Addr} {v : Value} (h : w.cell? a = some v) : w'.cell? a = some v := by
 have hlt := World.block_lt_of_cell? w a h
 unfold World.cell? at h ⊢
 rw [ho _ hlt]
 exact h
theorem cells_old (ho : ∀ i, i < w.heap.size → w'.heap[i]? = w.heap[i]?) {a : Addr} {n : Nat} {cs : List Value} (h : w.cells? base a n = some cs) : w'.cells? base a n = some cs := by
 unfold World.cells? at h ⊢
 split at h
 ·rename_i hb
  rw [if_pos hb]
  exact mapM_mono (fun i y hy => cell_old ho hy) h
 ·cases h
theorem bind_mono {α β : Type} {o o' : Option α} {f g : α → Option β} {r : β} (h1 : ∀ x, o = some x → o' = some x) (h2 : ∀ x y, f x = some y → g x = some y) (h : o.bind f = some r) : o'.bind g = some r := by
 obtain ⟨x, hx, hy⟩ := Option.bind_eq_some_iff.1 h
 rw [h1 x hx]
 exact h2 x r hy
theorem map_mono {α β : Type} {o o' : Option α} {f : α → β} {r : β} (h1 : ∀ x, o = some x → o' = some x) (h : o.map f = some r) : o'.map f = some r := by
 obtain ⟨x, hx, hy⟩ := Option.map_eq_some_iff.1 h
 rw [h1 x hx, ← hy]
 rfl
theorem trodStep_old (ho : ∀ i, i < w.heap.size → w'.heap[i]? = w.heap[i]?) {r r' : TypeId → List Value → Option (DataW H × List MemPlace)} (hr : ∀ t cs x, r t cs = some x → r' t cs = some x) {t : TypeId} {cs : List Value} {x : DataW H × List MemPlace}
 (h : DataW.trodStep enc P w base spare held r t cs = some x) : DataW.trodStep enc P w' base spare held r' t cs = some x := by
 unfold DataW.trodStep at h ⊢
 split at h
 case h_1 => exact h
 case h_2 => exact h
 case h_3 => exact h
 case h_4 => exact h
 case h_5 => exact h
 case h_6 => exact map_mono (fun y hy => bind_mono (fun z hz => cells_old ho hz) (fun z q hq => hr _ _ _ hq) hy) h
 case h_7 => exact h
 case h_8 =>
  simp only at h ⊢
  split at h
  ·rename_i hc
   rw [if_pos hc]
   refine bind_mono (fun y hy => mapM_mono (fun i z hz => bind_mono (fun q hq => cells_old ho hq) (fun q z hz => hr _ _ _ hz) hz) hy) (fun y z hz => map_mono (fun q hq => ?_) hz) h
   split at hq
   ·rename_i hs
    rw [if_pos hs]
    exact mapM_mono (fun i z hz => bind_mono (fun q hq => cells_old ho hq) (fun q z hz => hr _ _ _ hz) hz) hq
   ·rename_i hs
    rw [if_neg hs]
    exact hq
  ·cases h
 case h_9 =>
  split at h
  ·rename_i hc
   rw [if_pos hc]
   exact map_mono (fun y hy => mapM_mono (fun f z hz => hr _ _ _ hz) hy) h
  ·cases h
 case h_10 =>
  split at h
  ·rename_i hc
   rw [if_pos hc]
   exact map_mono (fun y hy => mapM_mono (fun f z hz => hr _ _ _ hz) hy) h
  ·cases h
 case h_11 => exact h
 case h_12 =>
  split at h
  ·exact h
  ·exact map_mono (fun z hz => hr _ _ _ hz) h
  ·cases h
 case h_13 => exact h
 case h_14 k e b _ =>
  split at h
  ·rename_i es clock hb
   have hb' : w'.heap[b]? = some (.map es clock) := by
    rw [ho b (by
     rcases Nat.lt_or_ge b w.heap.size with h' | h'
     ·exact h'
     ·simp [Array.getElem?_eq_none h'] at hb)]
    exact hb
   rw [hb']
   simp only
   split at h
   ·rename_i hc
    rw [if_pos hc]
    refine bind_mono (fun y hy => mapM_mono (fun z q hq => bind_mono (fun _ h => h) (fun key q hq => ?_) hq) hy) (fun _ _ h => h) h
    split at hq
    ·rename_i hf
     simp only [hf, if_true]
     exact map_mono (fun z hz => hr _ _ _ hz) hq
    ·cases hq
   ·cases h
  ·cases h
 all_goals exact h
theorem trod_old (ho : ∀ i, i < w.heap.size → w'.heap[i]? = w.heap[i]?) : ∀ (n : Nat) (t : TypeId) (cs : List Value) (x : DataW H × List MemPlace), DataW.trod enc P w base spare held n t cs = some x → DataW.trod enc P w' base spare held n t cs = some x := by
 intro n
 induction n with
 | zero => intro t cs x h; simp [DataW.trod] at h
 | succ n ih =>
  intro t cs x h
  rw [DataW.trod_step] at h ⊢
  exact trodStep_old ho ih h
theorem trodAll_old (ho : ∀ i, i < w.heap.size → w'.heap[i]? = w.heap[i]?) : ∀ {ts : List TypeId} {vs : List Value} {ds : List (DataW H)} {ps : List MemPlace}, DataW.TrodAll enc P w base spare held ts vs ds ps → DataW.TrodAll enc P w' base spare held ts vs ds ps
 | [], [], [], _, h => h
 | _ :: _, _ :: _, _ :: _, _, ⟨a, b, ⟨n, h1⟩, h2, e⟩ => ⟨a, b, ⟨n, trod_old ho n _ _ _ h1⟩, trodAll_old ho h2, e⟩
end
theorem post_true {H : Type} {P : Program} {enc : TypeId × Value → H} {f : Func} {s : ChangeSpec} {tb : TypeId} {W W' : World} {args : Array Value} {ds : List (DataW H)} {before : List MemPlace} (K : Kids P (· < P.types.size)) (hz : ∀ t e, t < P.types.size → P.underlying t = some (.slice e) → 0 < P.cellsOf e) (hts : ∀ t ∈ f.params.toList, t < P.types.size) (hvars : s.vars = [])
 (hW : DataW.Whole enc P f.params.toList [] false W args.toList ds [] before) (hb : P.underlying tb = some .bool) (hr : f.resultTypes = #[tb])
 (hs : s.fn H ds = { results := [.lit (.bool true)], args := ds }) (hx : Ext W W') (ho : ∀ i, i < W.heap.size → W'.heap[i]? = W.heap[i]?) :
 s.post enc P f false true false false W args (.bool true) W' := by
 have hW' := hW
 obtain ⟨p, q, hA, hV, hp, hfz, hnd⟩ := hW
 have hV' : q = [] := hV
 subst hV'
 rw [List.append_nil] at hp
 subst hp
 refine post_of_old (pa := before) (pv := []) (by rw [hvars]; exact hW') (fun _ _ _ => ?_) (fun sp hsp => ?_) (fun _ _ => ?_) (List.append_nil _).symm hx ho ?_
 ·rw [List.append_nil, hs, hr]
  exact trodAll_cons_mk (shut_bool hb _) trodAll_mk0
 ·rw [List.append_nil, hs]
  exact trodAll_old ho (hA.respare K hz hts hsp)
 ·rw [List.append_nil, hs, hvars]
  rfl
 ·exact ok_one hr rfl (okWide_bool_mk hb _)
end Go.Sl
