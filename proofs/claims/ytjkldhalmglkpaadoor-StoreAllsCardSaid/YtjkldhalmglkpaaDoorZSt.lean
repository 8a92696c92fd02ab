import Derived.Test.YtjkldhalmglkpaaDoorZMp
import Derived.Laws.BytesArg
import Derived.Laws.Concat
namespace Go.Sl
open Go
section
variable {P : Program} {F L M : List HP} {v x : Value} {cs ys : List Value} {p : HP} {n m : Nat}
def strB (l : List Nat) : ByteArray := ⟨(l.map UInt8.ofNat).toArray⟩
theorem DoesG.toStr {src dst e : TypeId} (hs : P.underlying src = some (.slice e)) (he : P.underlying e = some (.int .u8)) (hd : P.underlying dst = some .string) {bs : List Nat} (hr : RdS (L ++ F) v n (bvs bs)) (hn : bs.length = n)
 {k : Value → List HP → Prop} (hk : k (.string (strB bs)) L) : DoesG P F (convert src dst v) L k := ⟨fun w h => by
 refine ⟨_, L, w, ?_, Ext.refl w, h, hk⟩
 generalize hcs : bvs bs = cs at hr
 cases hr with
 | nil =>
  obtain rfl : bs = [] := List.eq_nil_of_length_eq_zero hn
  rw [run_convert_bytes_nil w src e hs he 0 0 dst hd]
  rfl
 | zero a cap =>
  obtain rfl : bs = [] := List.eq_nil_of_length_eq_zero hn
  rw [run_convert_bytes_string w src dst e _ 0 cap hs he hd]
  simp [Conv.bytesToString, loadCells, loadCellsFrom, strB]
  rfl
 | mk b o n cap cs hc hh =>
  have := run_convert_bytes_arg w src e hs he b o n cap (bs.map Int.ofNat) (by simpa using hn) (fun i hi => by
   have hlt : i < bs.length := by omega
   have := hh w h i (bv bs[i]) (by rw [← hcs]; exact bvs_get hlt)
   rw [this]
   simp [bv, List.getD, List.getElem?_eq_getElem hlt]) dst hd
  rw [this]
  simp [strOfNums, strB, Function.comp_def]⟩
def sh (v : Value) (bs : List Nat) : HP := fun h =>
 (v = .slice none 0 0 ∧ bs = [] ∧ h = Hp.emp) ∨ ∃ g t cap rest, v = .slice (some ⟨g, 0, none⟩) bs.length cap ∧ bs.length ≤ cap ∧ h = one g (.cells ⟨bvs bs ++ rest⟩ t (0, 0)) true
theorem sh_twice (v : Value) (bs : List Nat) : Twice (sh v bs) := by
 rintro h (⟨_, _, rfl⟩ | ⟨g, t, cap, rest, _, _, rfl⟩) b u hb
 ·cases hb
 ·obtain ⟨_, rfl⟩ := one_some hb
  rfl
theorem sh_of_own {bs : List Nat} (hn : n = bs.length) : Ent (own 1 v n (bvs bs) :: L) (sh v bs :: L) := by
 intro w F hs
 subst hn
 obtain ⟨x, y, hok, hx, hl, hf, hy⟩ := Sat.cons.1 hs
 rcases hx with ⟨h1, h2, _, rfl⟩ | ⟨g, t, cap, rest, h1, h2, h3, h4, h5, rfl⟩
 ·exact Sat.cons.2 ⟨_, y, hok, .inl ⟨h1, List.eq_nil_of_length_eq_zero h2, rfl⟩, hl, hf, hy⟩
 ·refine Sat.cons.2 ⟨one g (.cells ⟨bvs bs ++ rest⟩ t (0, 0)) true, y, ?_, .inr ⟨g, t, cap, rest, h1, h2, rfl⟩, hl, ?_, hy⟩
  ·intro k u z hu hz
   obtain ⟨rfl, rfl⟩ := one_some hu
   exact absurd (hok k _ z (one_self _ _ _) hz).2 (by simp)
  ·intro k o' s hk
   obtain ⟨rfl, h2⟩ := one_some hk
   cases h2
   exact hf k _ false (one_self _ _ _)
theorem sh_rd {bs : List Nat} (h : SlV v bs.length) : RdS (sh v bs :: L) v bs.length (bvs bs) := by
 rcases h with ⟨rfl, h0⟩ | ⟨g, cap, rfl, hn⟩
 ·obtain rfl : bs = [] := List.eq_nil_of_length_eq_zero h0
  exact .nil
 ·refine .mk _ _ _ _ _ hn fun w hs => ?_
  obtain ⟨x, y, _, hx, _, hf, _⟩ := Sat.cons.1 hs
  rcases hx with ⟨h1, _⟩ | ⟨g', t, cap', rest, h1, _, rfl⟩
  ·cases h1
  ·cases h1
   intro j u hj
   have hh := hf g _ true (one_self _ _ _)
   refine cell_of_heap hh ?_
   have hlt := (List.getElem?_eq_some_iff.1 hj).1
   rw [Nat.zero_add, List.getElem?_append_left hlt]
   exact hj
abbrev KV (K : Type) := K × Value × List Nat
variable {K : Type}
def kvM (l : List (KV K)) : List (K × Value) := l.map fun p => (p.1, p.2.1)
def kvS (l : List (KV K)) : List HP := l.map fun p => sh p.2.1 p.2.2
def getK [DecidableEq K] (l : List (KV K)) (x : K) : Option (Value × List Nat) := (l.find? fun p => decide (p.1 = x)).map (·.2)
def putK [DecidableEq K] (l : List (KV K)) (x : K) (v : Value) (bs : List Nat) : List (KV K) := if x ∈ l.map (·.1) then l.map fun p => if p.1 = x then (x, v, bs) else p else l ++ [(x, v, bs)]
theorem getM_kv [DecidableEq K] (l : List (KV K)) (x : K) : getM (kvM l) x = (getK l x).map (·.1) := by
 induction l with
 | nil => rfl
 | cons p l ih =>
  simp only [kvM, getM, getK, List.map_cons, List.find?_cons] at *
  by_cases h : p.1 = x
  ·simp [h]
  ·simpa [h] using ih
theorem putM_kv [DecidableEq K] (l : List (KV K)) (x : K) (v : Value) (bs : List Nat) : putM (kvM l) x v = kvM (putK l x v bs) := by
 have e : (kvM l).map (·.1) = l.map (·.1) := by simp [kvM]
 simp only [putM, putK, e]
 split
 ·simp only [kvM, List.map_map]
  apply List.map_congr_left
  intro p _
  simp only [Function.comp]
  split <;> simp_all
 ·simp [kvM]
end
end Go.Sl
