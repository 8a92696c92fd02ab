import Derived.Test.YtnbcbdlbejdkpaaGreatDoorZPk
import Derived.Test.YtnbcbdlbejdkpaaGreatDoorZTr
import Derived.Test.YtnbcbdlbejdkpaaGreatDoorZAr
namespace Go.Sl
open Go
section
variable {P : Program} {F L M : List HP} {sz n l cap : Nat} {a : Option Addr} {cs : List Value} {v : Value}
end
structure BookOk (ls : List LeafD) (x : Value × Value × List (Value × List Nat)) : Prop where
  ts : x.2.2.map (·.2) = ls.map LeafD.bytes
  wf : ∀ l ∈ ls, l.wf
  lv : SlV x.1 ls.length
  tv : SlV x.2.1 x.2.2.length
  each : ∀ t ∈ x.2.2, SlV t.1 t.2.length
theorem BookOk.len {ls : List LeafD} {x : Value × Value × List (Value × List Nat)} (h : BookOk ls x) : x.2.2.length = ls.length := by
  have := congrArg List.length h.ts
  simpa using this
def bookP (T b : Nat) (ls : List LeafD) : HP := exL (BookOk ls) fun x => bookL T b x.1 x.2.1 ls x.2.2
def bytesL (ls : List LeafD) : List (List Nat) := ls.map LeafD.bytes
def pickN (c : Int) (n : Nat) : Nat := (if c < 0 then -(c + 1) else c).toNat % n
theorem pickN_lt (c : Int) {n : Nat} (h : 0 < n) : pickN c n < n := Nat.mod_lt _ h
theorem pickN_tmod {c : Int} {n : Nat} : (if c < 0 then -(c + 1) else c).tmod (n : Int) = ((pickN c n : Nat) : Int) := by
  have h : (0 : Int) ≤ if c < 0 then -(c + 1) else c := by split <;> omega
  unfold pickN
  generalize (if c < 0 then -(c + 1) else c) = x at h
  obtain ⟨m, rfl⟩ := Int.eq_ofNat_of_zero_le h
  rw [Int.toNat_natCast]
  rfl
structure RawD where
  ent : Int
  tok : Int
  to : List Nat
  amt : List Nat
structure RawD.wf (r : RawD) : Prop where
  e1 : -9223372036854775808 ≤ r.ent
  e2 : r.ent ≤ 9223372036854775807
  t1 : -9223372036854775808 ≤ r.tok
  t2 : r.tok ≤ 9223372036854775807
  to : r.to.length = 20
  toB : ∀ b ∈ r.to, b < 256
  amt : r.amt.length = 4
  amtB : ∀ b ∈ r.amt, b < 18446744073709551616
def RawD.cells (r : RawD) : List Value := .int .i64 r.ent :: .int .i64 r.tok :: (bvs r.to ++ uvs r.amt)
theorem RawD.cells_len {r : RawD} (h : r.wf) : r.cells.length = 26 := by simp [RawD.cells, bvs_len, uvs_len, h.to, h.amt]
theorem RawD.cells_one (l : RawD) : ∀ u ∈ l.cells, u.oneCell' = true := by
  intro u hu
  simp only [RawD.cells, List.mem_cons, List.mem_append] at hu
  rcases hu with rfl | rfl | h | h
  · rfl
  · rfl
  · exact bvs_one _ u h
  · exact uvs_one _ u h
def rawK : List LK := .int .i64 :: .int .i64 :: (List.replicate 20 (.int .u8) ++ List.replicate 4 (.int .u64))
theorem i64_of_wf {n : Int} (h : (Lit.int .i64 n).wf = true) : -9223372036854775808 ≤ n ∧ n ≤ 9223372036854775807 := by
  simp only [Lit.wf, Bool.and_eq_true, decide_eq_true_eq] at h
  have e1 : IntKind.i64.min = -9223372036854775808 := by decide
  have e2 : IntKind.i64.max = 9223372036854775807 := by decide
  rw [e1, e2] at h
  exact h
theorem wtr_cons {k : LK} {ks : List LK} {cs : List Value} (h : wtr (k :: ks) cs) : ∃ v vs, cs = v :: vs ∧ wtrV k v ∧ wtr ks vs := by
  cases cs with
  | nil => exact h.elim
  | cons v vs => exact ⟨v, vs, rfl, h.1, h.2⟩
def rawsC (rs : List RawD) : List Value := rs.flatMap RawD.cells
def leafD (r : RawD) (i : Nat) : LeafD := ⟨i, pickN r.ent 1099511627776, pickN r.tok 64, r.to, if r.amt = List.replicate 4 0 then [0, 0, 0, 9] else r.amt⟩
def lvs (rs : List RawD) : List LeafD := rs.mapIdx fun j r => leafD r j
def blen (x : Nat) : Nat := if x = 0 then 0 else x.log2 + 1
end Go.Sl
