import Derived.Test.YtjkldhalmglkpaaDoorZOl
import Derived.Test.YtjkldhalmglkpaaDoorZLv
import Derived.ChangeSlices
import Derived.OpenShut
import Derived.Lib.LaidTab
import Derived.Stop.LaidErr
namespace Go.Sl
open Go Go.ChangeShapes Go.WideShapes
theorem celn_was {W : World} {g o : Nat} {vs : List Value} (h : ∀ j u, vs[j]? = some u → W.cell? ⟨g, o + j, none⟩ = some u) : CelN [was W.heap] g o vs := fun w hs j u hj => by
 have h1 := h j u hj
 have hlt := World.block_lt_of_cell? W _ h1
 have h2 := Sat.was_heap hs (show W.heap[g]? = some W.heap[g] from Array.getElem?_eq_getElem hlt)
 unfold World.cell? at h1 ⊢
 rw [h2]
 rw [Array.getElem?_eq_getElem hlt] at h1
 exact h1
theorem tab_was {P : Program} {W : World} {name : String} {k : IntKind} {zs : List Int} {g : Nat} (h : Lib.TabIs P W name k zs) (hg : P.globalNamed name = some g) : CelN [was W.heap] g 0 (zs.map fun z => Value.int k z) := by
 refine celn_was fun j u hj => ?_
 simp only [List.getElem?_map, Option.map_eq_some_iff] at hj
 obtain ⟨z, hz, rfl⟩ := hj
 have hlt := (List.getElem?_eq_some_iff.1 hz).1
 have := h.cell hg j hlt
 rw [Nat.zero_add, this]
 simp [List.getD, hz]
def wtrV : LK → Value → Prop
 | .int k, v => ∃ n, v = .int k n ∧ (Lit.int k n).wf = true
 | .bool, v => ∃ b, v = .bool b
 | .str, v => ∃ s : ByteArray, v = .string s ∧ s.size ≤ maxLen
def wtr : List LK → List Value → Prop
 | [], [] => True
 | k :: ks, v :: vs => wtrV k v ∧ wtr ks vs
 | _, _ => False
theorem wtr_join : ∀ {ks : List LK} {xs : List Value} {ms : List LK} {ys : List Value}, wtr ks xs → wtr ms ys → wtr (ks ++ ms) (xs ++ ys)
 | [], [], _, _, _, h => h
 | _ :: _, _ :: _, _, _, h, h' => ⟨h.1, wtr_join h.2 h'⟩
 | [], _ :: _, _, _, h, _ => h.elim
 | _ :: _, [], _, _, h, _ => h.elim
def flatCF (rec : TypeId → Option (List LK)) (P : Program) : List Field → Nat → Option (List LK)
 | [], _ => some []
 | f :: fs, off => match rec f.type with
  | some l => if f.offset = off ∧ P.cellsOf f.type = l.length then (flatCF rec P fs (off + l.length)).map (l ++ ·) else none
  | none => none
def flatC (P : Program) : Nat → TypeId → Option (List LK)
 | 0, _ => none
 | d + 1, t => match P.underlying t with
  | some (.int k) => some [.int k]
  | some .bool => some [.bool]
  | some .string => some [.str]
  | some (.array n e) => match flatC P d e with
   | some l => if P.cellsOf e = l.length ∧ P.cellsOf t = n * l.length then some (List.replicate n l).flatten else none
   | none => none
  | some (.struct fs) => match flatCF (flatC P d) P fs.toList 0 with
   | some l => if P.cellsOf t = l.length then some l else none
   | none => none
  | _ => none
section
variable {H : Type} {enc : TypeId × Value → H} {P : Program} {w : World} {base : Nat} {sp : Nat → Bool} {held : Bool}
theorem wtr_fields {rec : TypeId → Option (List LK)} {cs : List Value} (ih : ∀ t ks, rec t = some ks → ∀ ys, (∃ n x, DataW.trod enc P w base sp held n t ys = some x) → wtr ks ys) : ∀ (fs : List Field) (off : Nat) (ks : List LK), flatCF rec P fs off = some ks →
 (∀ f ∈ fs, ∃ n x, DataW.trod enc P w base sp held n f.type ((cs.drop f.offset).take (P.cellsOf f.type)) = some x) → wtr ks ((cs.drop off).take ks.length)
 | [], off, ks, h, _ => by
  simp only [flatCF, Option.some.injEq] at h
  subst h
  simp [wtr]
 | f :: fs, off, ks, h, hf => by
  simp only [flatCF] at h
  split at h <;> try (cases h; done)
  rename_i l hl
  split at h <;> try (cases h; done)
  rename_i hc
  obtain ⟨ms, hms, rfl⟩ := Option.map_eq_some_iff.1 h
  have h1 := ih _ _ hl _ (hf f (by simp))
  rw [hc.1, hc.2] at h1
  have h2 := wtr_fields ih fs _ ms hms (fun g hg => hf g (by simp [hg]))
  rw [List.length_append, List.take_add, List.drop_drop]
  exact wtr_join h1 h2
theorem wtr_rep {l : List LK} : ∀ (n off : Nat) {cs : List Value}, (∀ i, i < n → wtr l ((cs.drop (off + i * l.length)).take l.length)) → wtr (List.replicate n l).flatten ((cs.drop off).take (n * l.length))
 | 0, off, cs, _ => by simp [wtr]
 | n + 1, off, cs, h => by
  rw [List.replicate_succ, List.flatten_cons, Nat.add_mul, Nat.one_mul, Nat.add_comm, List.take_add, List.drop_drop]
  refine wtr_join (by simpa using h 0 (by omega)) (wtr_rep n _ fun i hi => ?_)
  have := h (i + 1) (by omega)
  rw [Nat.add_mul, Nat.one_mul, Nat.add_comm (i * l.length), ← Nat.add_assoc] at this
  exact this
theorem trod_flat : ∀ (d : Nat) (t : TypeId) (ks : List LK), flatC P d t = some ks → ∀ cs, (∃ n x, DataW.trod enc P w base sp held n t cs = some x) → wtr ks cs
 | 0, t, ks, h, cs, _ => by cases h
 | d + 1, t, ks, h, cs, ⟨fuel, x, hx⟩ => by
  simp only [flatC] at h
  split at h
  ·rename_i k hu
   cases h
   obtain ⟨n, rfl, _, hw⟩ := DataW.trod_int hu hx
   exact ⟨⟨n, rfl, hw⟩, trivial⟩
  ·rename_i hu
   cases h
   obtain ⟨b, rfl, _⟩ := DataW.trod_bool hu hx
   exact ⟨⟨b, rfl⟩, trivial⟩
  ·rename_i hu
   cases h
   obtain ⟨s, rfl, _, hs⟩ := DataW.trod_string hu hx
   exact ⟨⟨s, rfl, hs⟩, trivial⟩
  ·rename_i n e hu
   split at h <;> try (cases h; done)
   rename_i l hl
   split at h <;> try (cases h; done)
   rename_i hc
   cases h
   obtain ⟨xs, m, rfl, _, hlen, hxs, hel⟩ := DataW.trod_array hu hx
   have := wtr_rep (l := l) n 0 (cs := cs) fun i hi => by
    rw [Nat.zero_add]
    refine trod_flat d e l hl _ ⟨m, xs[i]'(by omega), ?_⟩
    rw [← hc.1, hel i hi]
    simp
   rw [List.drop_zero, List.take_of_length_le (by omega)] at this
   exact this
  ·rename_i fs hu
   split at h <;> try (cases h; done)
   rename_i l hl
   split at h <;> try (cases h; done)
   rename_i hc
   cases h
   obtain ⟨xs, m, rfl, _, hlen, hxs, hel⟩ := DataW.trod_struct hu hx
   have := wtr_fields (enc := enc) (w := w) (base := base) (sp := sp) (held := held) (cs := cs) (fun t ks h ys hy => trod_flat d t ks h ys hy) fs.toList 0 _ hl fun f hf => by
    obtain ⟨i, hi⟩ := List.getElem?_of_mem hf
    have hi' : fs[i]? = some f := by simpa using hi
    have hlt : i < fs.size := (Array.getElem?_eq_some_iff.1 hi').1
    exact ⟨m, xs[i]'(by omega), by rw [hel i f hi']; simp⟩
   rw [List.drop_zero, List.take_of_length_le (by omega)] at this
   exact this
  ·cases h
end
theorem chunks {α : Type} (cells : α → List Value) (wf : α → Prop) (sz : Nat) (hsz : ∀ a, wf a → (cells a).length = sz) : ∀ (n : Nat) (cs : List Value), cs.length = n * sz → (∀ i, i < n → ∃ a, wf a ∧ (cs.drop (i * sz)).take sz = cells a) →
 ∃ as : List α, as.length = n ∧ (∀ a ∈ as, wf a) ∧ cs = as.flatMap cells
 | 0, cs, hl, _ => ⟨[], rfl, by simp, by simpa using List.eq_nil_of_length_eq_zero (by simpa using hl)⟩
 | n + 1, cs, hl, h => by
  obtain ⟨a, ha, he⟩ := h 0 (by omega)
  rw [Nat.zero_mul, List.drop_zero] at he
  obtain ⟨as, h1, h2, h3⟩ := chunks cells wf sz hsz n (cs.drop sz) (by rw [List.length_drop, hl, Nat.add_mul]; omega) fun i hi => by
   obtain ⟨a, ha, he⟩ := h (i + 1) (by omega)
   refine ⟨a, ha, ?_⟩
   rw [List.drop_drop, ← he, Nat.add_mul, Nat.one_mul, Nat.add_comm sz]
  refine ⟨a :: as, by simp [h1], fun x hx => ?_, ?_⟩
  ·rcases List.mem_cons.1 hx with rfl | hx
   ·exact ha
   ·exact h2 x hx
  ·rw [List.flatMap_cons, ← h3, ← he, List.take_append_drop]
theorem wtr_u8 : ∀ {n : Nat} {cs : List Value}, wtr (List.replicate n (.int .u8)) cs → ∃ l : List Nat, l.length = n ∧ (∀ b ∈ l, b < 256) ∧ cs = bvs l
 | 0, [], _ => ⟨[], rfl, by simp, rfl⟩
 | 0, _ :: _, h => h.elim
 | n + 1, [], h => h.elim
 | n + 1, c :: cs, h => by
  obtain ⟨⟨z, rfl, hz⟩, h2⟩ := h
  obtain ⟨l, h1, h3, rfl⟩ := wtr_u8 h2
  simp only [Lit.wf, Bool.and_eq_true, decide_eq_true_eq] at hz
  have hz0 : (0 : Int) ≤ z := hz.1
  have hz1 : z ≤ 255 := hz.2
  refine ⟨z.toNat :: l, by simp [h1], fun b hb => ?_, ?_⟩
  ·rcases List.mem_cons.1 hb with rfl | hb
   ·omega
   ·exact h3 b hb
  ·show _ = bv z.toNat :: bvs l
   rw [bv, Int.toNat_of_nonneg hz0]
end Go.Sl
