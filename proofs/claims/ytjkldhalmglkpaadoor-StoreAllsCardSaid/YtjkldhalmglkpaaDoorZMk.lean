import Derived.Test.YtjkldhalmglkpaaDoorZWd
import Derived.Test.YtjkldhalmglkpaaDoorZDg
import Derived.Test.YtjkldhalmglkpaaDoorZKc
namespace Go.Sl
open Go Go.ChangeShapes Go.WideShapes
section
variable {P : Program} {F L : List HP} {x : Value} {cs cur : List Value} {n g o dLen dCap sz : Nat} {t : TypeId}
theorem DoesG.makeG {t e : TypeId} {bs : Nat} (E : ElT P t e sz bs) (kl kc : IntKind) (hb : bs * n ≤ 281474976710656) (hm : n ≤ maxLen) {k : Value → List HP → Prop}
 (hk : ∀ b zs, zs.length = n * sz → k (.slice (some ⟨b, 0, none⟩) n n) (cel b e zs :: L)) :
 DoesG P F (Instr.makeSlice t (.int kl (n : Int)) (.int kc (n : Int))) L k := ⟨fun w hs => by
 obtain ⟨i, z, hi, hz', hsz, hby, hzs⟩ := E.inf
 have hr := run_make (P := P) w t e i z E.und hi hz' kl kc (n : Int) (n : Int) (Int.natCast_nonneg n) (Int.le_refl _) (by rw [hby, ← Int.natCast_mul]; omega) (by simp only [maxLen] at hm; omega)
 refine ⟨_, _, _, hr, Ext.alloc _ _, ?_, hk _ (madeCells z.cells ((n : Int).toNat * i.size)).toList ?_⟩
 ·exact hs.alloc (.cells (madeCells z.cells ((n : Int).toNat * i.size)) e)
 ·rw [Array.length_toList, size_madeCells, hsz, Int.toNat_natCast]⟩
end
section
variable {H : Type} {enc : TypeId × Value → H} {P : Program} {w : World} {base : Nat} {sp : Nat → Bool} {held : Bool}
theorem rd_trodG {t e : TypeId} {k : Nat} (ht : P.underlying t = some (.slice e)) (hc : P.cellsOf e = k) (hk : 0 < k) {v : Value} (hsp : ∀ a n c, v = .slice (some a) n c → a.spot = none) {fuel : Nat} {x : DataW H × List MemPlace}
 (hd : DataW.trod enc P w base sp held fuel t [v] = some x) : ∃ n cs, RdS [was w.heap] v n cs ∧ n ≤ maxLen ∧ cs.length = n * k ∧ ∀ i, i < n → ∃ m y els rst, x.1 = .slice els rst ∧ n = els.length ∧ els[i]? = some y.1 ∧ DataW.trod enc P w base sp held m e ((cs.drop (i * k)).take k) = some y := by
 rcases DataW.trod_slice ht hd with ⟨h0, _⟩ | ⟨a, len, cap, elems, rest, m, _, h0, hx, hb, hl, hm, hlen, hel, _⟩
 ·cases h0
  exact ⟨0, [], .nil, by decide, by simp, fun i hi => by omega⟩
 ·cases h0
  obtain ⟨b, o, s⟩ := a
  obtain rfl : s = none := hsp _ _ _ rfl
  have each : ∀ i, i < len → ∃ ci, ci.length = k ∧ (∀ j, j < k → w.cell? ⟨b, o + (i * k + j), none⟩ = ci[j]?) ∧ ∃ y, elems[i]? = some y ∧ DataW.trod enc P w base sp held m e ci = some y := fun i hi => by
   have h1 := hel i hi
   have h2 : elems[i]? = some (elems[i]'(by omega)) := by simp
   rw [h2, Option.bind_eq_some_iff] at h1
   obtain ⟨ci, h3, h4⟩ := h1
   obtain ⟨_, h5, h6⟩ := World.cells?_some h3
   rw [hc] at h5 h6
   refine ⟨ci, h5, fun j hj => ?_, _, h2, h4⟩
   rw [← h6 j hj, add_none, add_none, Nat.add_assoc]
  have cell : ∀ j, j < len * k → ∃ u, w.cell? ⟨b, o + j, none⟩ = some u := fun j hj => by
   have hi : j / k < len := (Nat.div_lt_iff_lt_mul hk).2 hj
   obtain ⟨ci, h1, h2, _⟩ := each _ hi
   have h3 := h2 (j % k) (Nat.mod_lt _ hk)
   rw [Nat.mul_comm, Nat.div_add_mod] at h3
   rw [h3]
   exact ⟨ci[j % k]'(by rw [h1]; exact Nat.mod_lt _ hk), by simp⟩
  refine ⟨len, (List.range (len * k)).map fun j => (w.cell? ⟨b, o + j, none⟩).getD undef, .mk b o len cap _ hl (celn_was fun j u hj => ?_), by omega, by simp, fun i hi => ?_⟩
  ·simp only [List.getElem?_map, Option.map_eq_some_iff] at hj
   obtain ⟨j', hj', rfl⟩ := hj
   obtain ⟨h1, h2⟩ := List.getElem?_eq_some_iff.1 hj'
   simp at h1 h2
   subst h2
   obtain ⟨u, hu⟩ := cell j h1
   rw [hu]
   rfl
  ·obtain ⟨ci, h1, h2, y, h3, h4⟩ := each i hi
   have hle : i * k + k ≤ len * k := by rw [← Nat.succ_mul]; exact Nat.mul_le_mul_right _ hi
   have e : (((List.range (len * k)).map fun j => (w.cell? ⟨b, o + j, none⟩).getD undef).drop (i * k)).take k = ci := by
    apply List.ext_getElem?
    intro j
    rw [List.getElem?_take]
    split
    ·rename_i hj
     rw [List.getElem?_drop, List.getElem?_map, List.getElem?_range (by omega), ← h2 j hj, Option.map_some]
     obtain ⟨u, hu⟩ := cell (i * k + j) (by omega)
     rw [hu]
     rfl
    ·rw [List.getElem?_eq_none (by omega)]
   refine ⟨m, y, elems.map (·.1), rest.map (·.1), by rw [hx], by simp [hlen], by simp [h3], ?_⟩
   rw [e]
   exact h4
theorem spot_none {t e : TypeId} {k : Nat} (ht : P.underlying t = some (.slice e)) (hc : P.cellsOf e = k) (hk : 0 < k) {a : Addr} {len cap : Nat} {fuel : Nat} {x : DataW H × List MemPlace} (hd : DataW.trod enc P w base sp held fuel t [.slice (some a) len cap] = some x) (h0 : 0 < len) : a.spot = none := by
 rcases DataW.trod_slice ht hd with ⟨h, _⟩ | ⟨a', len', cap', elems, rest, m, _, h, hx, hb, hl, hm, hlen, hel, _⟩
 ·cases h
 ·cases h
  have h1 := hel 0 h0
  have h2 : elems[0]? = some (elems[0]'(by omega)) := by simp
  rw [h2, Option.bind_eq_some_iff] at h1
  obtain ⟨ci, h3, _⟩ := h1
  obtain ⟨_, h5, h6⟩ := World.cells?_some h3
  rw [hc] at h5 h6
  have h7 := h6 0 hk
  rw [List.getElem?_eq_getElem (by omega)] at h7
  unfold World.cell? at h7
  split at h7
  ·split at h7
   ·cases h7
   ·rename_i hs
    simpa [Addr.add] using hs
  ·cases h7
theorem rd_trodZ {t e : TypeId} {k : Nat} (ht : P.underlying t = some (.slice e)) (hc : P.cellsOf e = k) (hk : 0 < k) {v : Value} {fuel : Nat} {x : DataW H × List MemPlace}
 (hd : DataW.trod enc P w base sp held fuel t [v] = some x) : ∃ n cs, RdS [was w.heap] v n cs ∧ n ≤ maxLen ∧ cs.length = n * k ∧ ∀ i, i < n → ∃ m y els rst, x.1 = .slice els rst ∧ n = els.length ∧ els[i]? = some y.1 ∧ DataW.trod enc P w base sp held m e ((cs.drop (i * k)).take k) = some y := by
 rcases DataW.trod_slice ht hd with ⟨h0, _⟩ | ⟨a, len, cap, elems, rest, m, _, h0, hx, hb, hl, hm, hlen, hel, _⟩
 ·cases h0
  exact ⟨0, [], .nil, by decide, by simp, fun i hi => by omega⟩
 ·cases h0
  rcases Nat.eq_zero_or_pos len with rfl | h
  ·exact ⟨0, [], .zero _ _, by decide, by simp, fun i hi => by omega⟩
  ·exact rd_trodG ht hc hk (fun a' n c h' => by cases h'; exact spot_none ht hc hk hd h) hd
end
end Go.Sl
