import Derived.Test.YtjacolfhlfogkabGreatDoorZWd
import Derived.Test.YtjacolfhlfogkabGreatDoorZAr
import Derived.Test.YtjacolfhlfogkabGreatDoorZSha
namespace Go.Sl
open Go
def val2 : List Nat → Nat
 | [] => 0
 | b :: bs => b + 2 * val2 bs
theorem val2_app (a b : List Nat) : val2 (a ++ b) = val2 a + 2 ^ a.length * val2 b := by
 induction a with
 | nil => simp [val2]
 | cons x a ih => simp only [List.cons_append, val2, ih, List.length_cons, Nat.pow_succ, Nat.mul_add]; rw [Nat.mul_comm (2 ^ a.length) 2, Nat.mul_assoc]; omega
def isBits (l : List Nat) : Prop := ∀ b ∈ l, b < 2
theorem val2_lt {l : List Nat} (h : isBits l) : val2 l < 2 ^ l.length := by
 induction l with
 | nil => simp [val2]
 | cons b l ih =>
  have h1 := h b (by simp)
  have h2 := ih (fun x hx => h x (by simp [hx]))
  simp only [val2, List.length_cons, Nat.pow_succ]
  omega
theorem parts {a b : List Nat} (ha : isBits a) {i : Nat} (h1 : i < a.length) (h2 : i < b.length) (hd : a.drop (i + 1) = b.drop (i + 1)) (hlt : a[i] < b[i]) : val2 a < val2 b := by
 have ea : a = a.take i ++ (a[i] :: a.drop (i + 1)) := by rw [← List.drop_eq_getElem_cons h1, List.take_append_drop]
 have eb : b = b.take i ++ (b[i] :: b.drop (i + 1)) := by rw [← List.drop_eq_getElem_cons h2, List.take_append_drop]
 have la : (a.take i).length = i := by rw [List.length_take]; omega
 have lb : (b.take i).length = i := by rw [List.length_take]; omega
 have hv : val2 (a.take i) < 2 ^ i := by
  have := val2_lt (l := a.take i) (fun x hx => ha x (List.mem_of_mem_take hx))
  rwa [la] at this
 have v1 : val2 a = val2 (a.take i) + 2 ^ i * (a[i] + 2 * val2 (a.drop (i + 1))) := by
  conv => lhs; rw [ea]
  rw [val2_app, la, val2]
 have v2 : val2 b = val2 (b.take i) + 2 ^ i * (b[i] + 2 * val2 (b.drop (i + 1))) := by
  conv => lhs; rw [eb]
  rw [val2_app, lb, val2]
 rw [v1, v2, hd]
 have h3 : 2 ^ i * (a[i] + 2 * val2 (b.drop (i + 1))) + 2 ^ i * 1 ≤ 2 ^ i * (b[i] + 2 * val2 (b.drop (i + 1))) := by
  rw [← Nat.mul_add]
  exact Nat.mul_le_mul_left _ (by omega)
 omega
end Go.Sl
namespace Go.Sl
open Go Go.ChangeShapes Go.WideShapes
def K64 : List W32 := [1116352408, 1899447441, 3049323471, 3921009573, 961987163, 1508970993, 2453635748, 2870763221, 3624381080, 310598401, 607225278, 1426881987, 1925078388, 2162078206, 2614888103, 3248222580, 3835390401, 4022224774, 264347078, 604807628, 770255983, 1249150122, 1555081692, 1996064986, 2554220882, 2821834349, 2952996808, 3210313671, 3336571891, 3584528711, 113926993, 338241895, 666307205, 773529912, 1294757372, 1396182291, 1695183700, 1986661051, 2177026350, 2456956037, 2730485921, 2820302411, 3259730800, 3345764771, 3516065817, 3600352804, 4094571909, 275423344, 430227734, 506948616, 659060556, 883997877, 958139571, 1322822218, 1537002063, 1747873779, 1955562222, 2024104815, 2227730452, 2361852424, 2428436474, 2756734187, 3204031479, 3329325298]
theorem K64_len : K64.length = 64 := rfl
def tabK (K : List W32) : List Int := K.map fun w => (w.toNat : Int)
theorem words_was {P : Program} {W : World} {name : String} {K : List W32} {rest : List (String × DataW Unit)} {g : Nat} {t e : TypeId} {n : Nat} (hl : laidMet P ((name, Lib.tabData .u32 (tabK K)) :: rest) W)
 (hg : P.globalNamed name = some g) (hty : (P.globals[g]?).map (·.type) = some t) (ht : P.underlying t = some (.array n e)) (he : P.underlying e = some (.int .u32)) (hce : P.cellsOf e = 1) (hct : P.cellsOf t = n) : CelN [was W.heap] g 0 (wvs K) := by
 have h := tab_was (Lib.tabIs_of_head hg hty ht he hce hct hl) hg
 have e : (tabK K).map (fun z => Value.int .u32 z) = wvs K := by simp [tabK, wvs, wv, Function.comp_def]
 rw [e] at h
 exact h
theorem slice_okWide {P : Program} {w : World} {base : Nat} {t e : TypeId} {v : Value} (ht : P.underlying t = some (.slice e)) (h : Value.okWide P w .any base t v) : v.cells.toList = [v] ∧ ∀ a n c, v = .slice (some a) n c → a.spot = none := by
 unfold Value.okWide at h
 rw [ht] at h
 simp only [Cell.okWide, ht, Cell.ok] at h
 cases v
 case slice a n c =>
  refine ⟨rfl, fun b m d k => ?_⟩
  simp only [Value.slice.injEq] at k
  obtain ⟨rfl, rfl, rfl⟩ := k
  have h1 : World.has P w .any base b e _ := h.2.2
  exact (show _ ∧ _ ∧ _ from h1).2.1
 all_goals exact h.elim
end Go.Sl
namespace Go.Sl
open Go Go.ChangeShapes Go.WideShapes
section
variable {P : Program} {F L : List HP} {x : Value} {cs cur : List Value} {n g o dLen dCap sz : Nat} {t : TypeId}
theorem DoesG.makeG {t e : TypeId} {bs : Nat} (E : ElT P t e sz bs) (kl kc : IntKind) (hb : bs * n ≤ 281474976710656) (hm : n ≤ maxLen) {k : Value → List HP → Prop}
 (hk : ∀ b zs, zs.length = n * sz → k (.slice (some ⟨b, 0, none⟩) n n) (cel b e zs :: L)) :
 DoesG P F (Instr.makeSlice t (.int kl (n : Int)) (.int kc (n : Int))) L k := ⟨fun w hs => by
 obtain ⟨i, z, hi, hz', hsz, hby, hzs⟩ := E.inf
 have hr := run_make (P := P) w t e i z E.und hi hz' kl kc (n : Int) (n : Int) (Int.natCast_nonneg n) (Int.le_refl _) (by rw [hby, ← Int.natCast_mul]; omega) (by simp only [maxLen] at hm; omega)
 refine ⟨_, _, _, hr, Ext.alloc _ _, ?_, hk _ (madeCells z.cells ((n : Int).toNat * i.size)).toList ?_⟩
 ·exact hs.alloc (.cells (madeCells z.cells ((n : Int).toNat * i.size)) e)
 ·rw [Array.length_toList, size_madeCells, hsz, Int.toNat_natCast]⟩
end
section
variable {H : Type} {enc : TypeId × Value → H} {P : Program} {w : World} {base : Nat} {sp : Nat → Bool} {held : Bool}
theorem rd_trodG {t e : TypeId} {k : Nat} (ht : P.underlying t = some (.slice e)) (hc : P.cellsOf e = k) (hk : 0 < k) {v : Value} (hsp : ∀ a n c, v = .slice (some a) n c → a.spot = none) {fuel : Nat} {x : DataW H × List MemPlace}
 (hd : DataW.trod enc P w base sp held fuel t [v] = some x) : ∃ n cs, RdS [was w.heap] v n cs ∧ n ≤ maxLen ∧ cs.length = n * k ∧ ∀ i, i < n → ∃ m y els rst, x.1 = .slice els rst ∧ n = els.length ∧ els[i]? = some y.1 ∧ DataW.trod enc P w base sp held m e ((cs.drop (i * k)).take k) = some y := by
 rcases DataW.trod_slice ht hd with ⟨h0, _⟩ | ⟨a, len, cap, elems, rest, m, _, h0, hx, hb, hl, hm, hlen, hel, _⟩
 ·cases h0
  exact ⟨0, [], .nil, by decide, by simp, fun i hi => by omega⟩
 ·cases h0
  obtain ⟨b, o, s⟩ := a
  obtain rfl : s = none := hsp _ _ _ rfl
  have each : ∀ i, i < len → ∃ ci, ci.length = k ∧ (∀ j, j < k → w.cell? ⟨b, o + (i * k + j), none⟩ = ci[j]?) ∧ ∃ y, elems[i]? = some y ∧ DataW.trod enc P w base sp held m e ci = some y := fun i hi => by
   have h1 := hel i hi
   have h2 : elems[i]? = some (elems[i]'(by omega)) := by simp
   rw [h2, Option.bind_eq_some_iff] at h1
   obtain ⟨ci, h3, h4⟩ := h1
   obtain ⟨_, h5, h6⟩ := World.cells?_some h3
   rw [hc] at h5 h6
   refine ⟨ci, h5, fun j hj => ?_, _, h2, h4⟩
   rw [← h6 j hj, add_none, add_none, Nat.add_assoc]
  have cell : ∀ j, j < len * k → ∃ u, w.cell? ⟨b, o + j, none⟩ = some u := fun j hj => by
   have hi : j / k < len := (Nat.div_lt_iff_lt_mul hk).2 hj
   obtain ⟨ci, h1, h2, _⟩ := each _ hi
   have h3 := h2 (j % k) (Nat.mod_lt _ hk)
   rw [Nat.mul_comm, Nat.div_add_mod] at h3
   rw [h3]
   exact ⟨ci[j % k]'(by rw [h1]; exact Nat.mod_lt _ hk), by simp⟩
  refine ⟨len, (List.range (len * k)).map fun j => (w.cell? ⟨b, o + j, none⟩).getD undef, .mk b o len cap _ hl (celn_was fun j u hj => ?_), by omega, by simp, fun i hi => ?_⟩
  ·simp only [List.getElem?_map, Option.map_eq_some_iff] at hj
   obtain ⟨j', hj', rfl⟩ := hj
   obtain ⟨h1, h2⟩ := List.getElem?_eq_some_iff.1 hj'
   simp at h1 h2
   subst h2
   obtain ⟨u, hu⟩ := cell j h1
   rw [hu]
   rfl
  ·obtain ⟨ci, h1, h2, y, h3, h4⟩ := each i hi
   have hle : i * k + k ≤ len * k := by rw [← Nat.succ_mul]; exact Nat.mul_le_mul_right _ hi
   have e : (((List.range (len * k)).map fun j => (w.cell? ⟨b, o + j, none⟩).getD undef).drop (i * k)).take k = ci := by
    apply List.ext_getElem?
    intro j
    rw [List.getElem?_take]
    split
    ·rename_i hj
     rw [List.getElem?_drop, List.getElem?_map, List.getElem?_range (by omega), ← h2 j hj, Option.map_some]
     obtain ⟨u, hu⟩ := cell (i * k + j) (by omega)
     rw [hu]
     rfl
    ·rw [List.getElem?_eq_none (by omega)]
   refine ⟨m, y, elems.map (·.1), rest.map (·.1), by rw [hx], by simp [hlen], by simp [h3], ?_⟩
   rw [e]
   exact h4
theorem spot_none {t e : TypeId} {k : Nat} (ht : P.underlying t = some (.slice e)) (hc : P.cellsOf e = k) (hk : 0 < k) {a : Addr} {len cap : Nat} {fuel : Nat} {x : DataW H × List MemPlace} (hd : DataW.trod enc P w base sp held fuel t [.slice (some a) len cap] = some x) (h0 : 0 < len) : a.spot = none := by
 rcases DataW.trod_slice ht hd with ⟨h, _⟩ | ⟨a', len', cap', elems, rest, m, _, h, hx, hb, hl, hm, hlen, hel, _⟩
 ·cases h
 ·cases h
  have h1 := hel 0 h0
  have h2 : elems[0]? = some (elems[0]'(by omega)) := by simp
  rw [h2, Option.bind_eq_some_iff] at h1
  obtain ⟨ci, h3, _⟩ := h1
  obtain ⟨_, h5, h6⟩ := World.cells?_some h3
  rw [hc] at h5 h6
  have h7 := h6 0 hk
  rw [List.getElem?_eq_getElem (by omega)] at h7
  unfold World.cell? at h7
  split at h7
  ·split at h7
   ·cases h7
   ·rename_i hs
    simpa [Addr.add] using hs
  ·cases h7
theorem rd_trodZ {t e : TypeId} {k : Nat} (ht : P.underlying t = some (.slice e)) (hc : P.cellsOf e = k) (hk : 0 < k) {v : Value} {fuel : Nat} {x : DataW H × List MemPlace}
 (hd : DataW.trod enc P w base sp held fuel t [v] = some x) : ∃ n cs, RdS [was w.heap] v n cs ∧ n ≤ maxLen ∧ cs.length = n * k ∧ ∀ i, i < n → ∃ m y els rst, x.1 = .slice els rst ∧ n = els.length ∧ els[i]? = some y.1 ∧ DataW.trod enc P w base sp held m e ((cs.drop (i * k)).take k) = some y := by
 rcases DataW.trod_slice ht hd with ⟨h0, _⟩ | ⟨a, len, cap, elems, rest, m, _, h0, hx, hb, hl, hm, hlen, hel, _⟩
 ·cases h0
  exact ⟨0, [], .nil, by decide, by simp, fun i hi => by omega⟩
 ·cases h0
  rcases Nat.eq_zero_or_pos len with rfl | h
  ·exact ⟨0, [], .zero _ _, by decide, by simp, fun i hi => by omega⟩
  ·exact rd_trodG ht hc hk (fun a' n c h' => by cases h'; exact spot_none ht hc hk hd h) hd
end
end Go.Sl
