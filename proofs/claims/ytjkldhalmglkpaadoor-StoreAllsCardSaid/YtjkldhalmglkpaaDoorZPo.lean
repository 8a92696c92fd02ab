import Derived.Test.YtjkldhalmglkpaaDoorZHp
import Derived.ChangeSame
namespace Go.Sl
open Go Go.ChangeShapes Go.WideShapes
variable {H : Type} {P : Program} {enc : TypeId × Value → H}
theorem old_of_was {W W' : World} {L : List HP} (hs : Sat W' (L ++ [was W.heap])) : ∀ i, i < W.heap.size → W'.heap[i]? = W.heap[i]? := fun i hi => by
 have h : W.heap[i]? = some W.heap[i] := by simp [hi]
 rw [h]
 exact Sat.was_heap (Sat.right hs) h
theorem keptBut_of_old {W W' : World} (hx : Ext W W') (ho : ∀ i, i < W.heap.size → W'.heap[i]? = W.heap[i]?) (may : MemPlace → Prop) : W.keptBut W' may := by
 refine ⟨hx.os, hx.output, fun i hi => ?_⟩
 rw [ho i hi]
 cases W.heap[i]? with
 | none => rfl
 | some o => cases o <;> simp
theorem frozen_of_old {W W' : World} (ho : ∀ i, i < W.heap.size → W'.heap[i]? = W.heap[i]?) (a : Addr) (ha : a.block < W.heap.size) : W'.frozen? a = W.frozen? a := by
 simp only [World.frozen?, ho _ ha]
theorem post_of_old {f : Func} {s : ChangeSpec} {apart fresh handsOn again : Bool} {W W' : World} {args : Array Value} {v : Value} {ds gs : List (DataW H)} {before pa pv : List MemPlace}
 (hW : DataW.Whole enc P f.params.toList s.vars apart W args.toList ds gs before)
 (hres : ∀ (b : Nat) (sp : Nat → Bool) (hd : Bool), DataW.TrodAll enc P W' b sp hd f.resultTypes.toList (v.resultList f.resultTypes.size) (s.fn H (ds ++ gs)).results [])
 (hargs : ∀ sp : Nat → Bool, (∀ p ∈ before, sp p.block = true) → DataW.TrodAll enc P W' 0 sp true f.params.toList args.toList (s.fn H (ds ++ gs)).args pa)
 (hvars : ∀ sp : Nat → Bool, (∀ p ∈ before, sp p.block = true) → DataW.TrodVars enc P W' sp s.vars (s.fn H (ds ++ gs)).vars pv)
 (hps : before = pa ++ pv) (hx : Ext W W') (ho : ∀ i, i < W.heap.size → W'.heap[i]? = W.heap[i]?)
 (hok : ∀ (j : Nat) (t : TypeId) (r : Value), f.resultTypes[j]? = some t → (v.resultList f.resultTypes.size)[j]? = some r → Value.okWide P W' .any 0 t r) :
 s.post enc P f apart fresh handsOn again W args v W' := by
 have hold : ∀ p ∈ before, (fun b => decide (b < W.heap.size)) p.block = true := fun p hp => by simpa using hW.lt p hp
 have hlt : ∀ p ∈ before, p.block < W.heap.size := fun p hp => hW.lt p hp
 refine ⟨ds, gs, before, [], pa, pv, hW, hres _ _ _, hargs _ hold, hvars _ hold, keptBut_of_old hx ho _, fun _ => ?_⟩
 obtain ⟨_, _, _, _, _, hz, hn⟩ := hW
 refine ⟨hok, _, _, ([] ++ pa) ++ pv, ⟨[] ++ pa, pv, trodAll_append (hargs _ (fun _ _ => rfl)) (hres _ _ _), hvars _ (fun _ _ => rfl), rfl, ?_, ?_⟩, ?_⟩
 ·intro b off hp
  have hb : (MemPlace.cell b off) ∈ before := by rw [hps]; simpa using hp
  rw [frozen_of_old ho _ (by have := hlt _ hb; simpa [MemPlace.block] using this)]
  exact hz b off hb
 ·intro ha
  have := hn ha
  rw [hps] at this
  simpa using this
 ·intro p hp _
  rw [hps]
  simpa using hp
end Go.Sl
