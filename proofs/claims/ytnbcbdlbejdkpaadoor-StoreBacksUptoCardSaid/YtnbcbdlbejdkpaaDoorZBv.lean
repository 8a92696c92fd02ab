/-
  Steps over a state that are taken back: plain laws. A library of this session's own.
-/
import Derived.Test.YtnbcbdlbejdkpaaDoorZCh
import Derived.Test.YtnbcbdlbejdkpaaDoorZAr
namespace Go.Sl
open Go
structure StepS where
  kind : Int
  key : ByteArray
  v : Value
  bs : List Nat
  mark : Int
def StepS.cells (x : StepS) : List Value := [.int .i64 x.kind, .string x.key, x.v, .int .i64 x.mark]
def StepS.rd (F : List HP) (x : StepS) : Prop := RdS F x.v x.bs.length (bvs x.bs)
theorem stpC_at {l : List StepS} {i : Nat} (h : i < l.length) : (l.flatMap StepS.cells)[i * 4]? = some (.int .i64 l[i].kind) ∧ (l.flatMap StepS.cells)[i * 4 + 1]? = some (.string l[i].key) ∧ (l.flatMap StepS.cells)[i * 4 + 2]? = some l[i].v := by
  have h2 : ((l.flatMap StepS.cells).drop (i * 4)).take 4 = l[i].cells := flat_get (cells := StepS.cells) (sz := 4) (fun _ _ => rfl) h
  have h3 : ∀ j, j < 4 → (l.flatMap StepS.cells)[i * 4 + j]? = (l[i].cells)[j]? := fun j hj => by
    rw [← h2, List.getElem?_take, if_pos hj, List.getElem?_drop]
  exact ⟨h3 0 (by decide), h3 1 (by decide), h3 2 (by decide)⟩
def wasL (l : List (Value × List Nat)) : List HP := l.map fun p => own 1 p.1 p.2.length (bvs p.2)
theorem wasL_rd {l : List (Value × List Nat)} {p : Value × List Nat} {M : List HP} (h : p ∈ l) (hv : SlV p.1 p.2.length) : RdS (wasL l ++ M) p.1 p.2.length (bvs p.2) := by
  induction l with
  | nil => cases h
  | cons q l ih =>
    rcases List.mem_cons.1 h with rfl | h
    · exact own_rd hv (by rw [bvs_len, Nat.mul_one])
    · exact (ih h).tl
def fstsW (l : List (Value × List Nat)) : List Value := l.map (·.1)
theorem back_keep {V U : View} {r : List (ByteArray → List Nat)} (h : U.hist = (V.hist ++ [V.now]) ++ r) : backE U V.hist.length = 0 ∧ backV U V.hist.length = ⟨V.now, V.hist ++ [V.now]⟩ := by
  have h1 : ¬((V.hist.length : Int) < 0 ∨ (U.hist.length : Int) ≤ (V.hist.length : Int)) := by
    rw [h, List.length_append, List.length_append, List.length_singleton]
    omega
  have h2 : U.hist[V.hist.length]? = some V.now := by
    rw [h, List.getElem?_append_left (by simp), List.getElem?_append_right (Nat.le_refl _), Nat.sub_self]
    rfl
  have h3 : U.hist.take (V.hist.length + 1) = V.hist ++ [V.now] := by
    rw [h, List.take_append_of_le_length (by simp)]
    exact List.take_of_length_le (by simp)
  refine ⟨by unfold backE; rw [if_neg h1], ?_⟩
  unfold backV
  rw [if_neg h1, Int.toNat_natCast, h2, h3]
theorem back_none {V : View} {m : Int} (h : (V.hist.length : Int) ≤ m) : backE V m = 72 ∧ backV V m = V := by
  unfold backE backV
  rw [if_pos (.inr h), if_pos (.inr h)]
  exact ⟨rfl, rfl⟩
theorem chIs_none {find : ByteArray → List Nat × Int} {h : List (ByteArray → List Nat)} {l : List ChD} (hl : ChIs find ⟨fun k => (find k).1, h⟩ l) : l = [] := by
  cases l with
  | nil => rfl
  | cons d l => exact absurd rfl ((hl.mem d.key).1 (by simp))
theorem chS_rd {l : List ChD} {M : List HP} (hv : ∀ d ∈ l, SlV d.ov d.old.length ∧ SlV d.nv d.new.length) : ∀ d ∈ l, RdS (chS l ++ M) d.ov d.old.length (bvs d.old) ∧ RdS (chS l ++ M) d.nv d.new.length (bvs d.new) := by
  induction l with
  | nil => intro d hd; cases hd
  | cons e l ih =>
    intro d hd
    have h1 := hv e (by simp)
    show RdS (own 1 e.ov e.old.length (bvs e.old) :: own 1 e.nv e.new.length (bvs e.new) :: (chS l ++ M)) _ _ _ ∧ RdS (own 1 e.ov e.old.length (bvs e.old) :: own 1 e.nv e.new.length (bvs e.new) :: (chS l ++ M)) _ _ _
    rcases List.mem_cons.1 hd with rfl | hd
    · exact ⟨own_rd h1.1 (by rw [bvs_len, Nat.mul_one]), (own_rd h1.2 (by rw [bvs_len, Nat.mul_one])).tl⟩
    · have h2 := ih (fun d hd => hv d (by simp [hd])) d hd
      exact ⟨h2.1.tl.tl, h2.2.tl.tl⟩
end Go.Sl
