import Derived.Test.YtjkldhalmglkpaaDoorZPk
import Derived.Test.YtjkldhalmglkpaaDoorZCp
import Derived.Test.YtjkldhalmglkpaaDoorZAr
import Derived.Test.YtjkldhalmglkpaaDoorZLv
namespace Go.Sl
open Go
section
variable {P : Program} {F L M : List HP} {sz n l cap : Nat} {a : Option Addr} {cs : List Value} {v : Value}
end
def pickN (c : Int) (n : Nat) : Nat := (if c < 0 then -(c + 1) else c).toNat % n
theorem pickN_tmod {c : Int} {n : Nat} : (if c < 0 then -(c + 1) else c).tmod (n : Int) = ((pickN c n : Nat) : Int) := by
 have h : (0 : Int) ≤ if c < 0 then -(c + 1) else c := by split <;> omega
 unfold pickN
 generalize (if c < 0 then -(c + 1) else c) = x at h
 obtain ⟨m, rfl⟩ := Int.eq_ofNat_of_zero_le h
 rw [Int.toNat_natCast]
 rfl
theorem i64_of_wf {n : Int} (h : (Lit.int .i64 n).wf = true) : -9223372036854775808 ≤ n ∧ n ≤ 9223372036854775807 := by
 simp only [Lit.wf, Bool.and_eq_true, decide_eq_true_eq] at h
 have e1 : IntKind.i64.min = -9223372036854775808 := by decide
 have e2 : IntKind.i64.max = 9223372036854775807 := by decide
 rw [e1, e2] at h
 exact h
end Go.Sl
namespace Go.Sl
open Go
def m64 : Nat := 18446744073709551616
def w4 (n : Nat) : List Nat := [n % m64, n / m64 % m64, n / m64 / m64 % m64, n / m64 / m64 / m64 % m64]
/-! What the text's loops reckon. -/
/-! Words out of bytes, and back. -/
end Go.Sl
