/-
  The tree's functions: contracts out of the resolved texts.
-/
import Derived.Test.YthdpknlnpeaiiaaDoorSd
import Derived.Test.YthdpknlnpeaiiaaDoorZBk
namespace Go.Proofs.YthdpknlnpeaiiaaDoor
open Go Go.Sl
theorem shr64 (x k : Nat) (hk : k ≤ 64) : (x : Int).fdiv (2 ^ (min ((k : Nat) : Int).toNat IntKind.u64.bits)) = ((x / 2 ^ k : Nat) : Int) := by
  have e : min ((k : Nat) : Int).toNat IntKind.u64.bits = k := by
    rw [Int.toNat_natCast]
    exact Nat.min_eq_left hk
  rw [e, Int.fdiv_eq_ediv_of_nonneg _ (by exact_mod_cast Nat.zero_le _)]
  norm_cast
theorem idx_tab {F L : List HP} {t : TypeId} {s : ByteArray} (ht : (Tryd.prog).underlying t = some .string) (h : s.size = 256 ∧ ∀ y, y < 256 → (s[y]?.map UInt8.toNat) = some (blen y)) (y : Nat) (hy : y < 256) {k : Value → List HP → Prop} (hk : k (.int .u8 (blen y)) L) :
    DoesG Tryd.prog F (Instr.index t (.string s) (.int .u8 y)) L k := ⟨fun w hs => ⟨.int .u8 (blen y), L, w, by
  have h1 := h.2 y hy
  obtain ⟨b, hb, h2⟩ := Option.map_eq_some_iff.1 h1
  have h3 : (0 : Int) ≤ (y : Nat) := Int.natCast_nonneg y
  simp [Instr.index, run_und ht, asIntOf, hb, h2], Ext.refl w, hs, hk⟩⟩
theorem len64_spec (F : List HP) (x : Nat) (h : x < 18446744073709551616) : SpecF Tryd.prog 159 [.int .u64 x] F [] (fun v L => v = .int .i64 (blen x) ∧ L = []) := by
  have hb8 : ∀ y, y < 256 → blen y ≤ 8 := by decide +kernel
  refine fun159.spec rfl ?_
  (conv => whnf); repeat ((first | with_reducible refine CondG.tt ?_ | with_reducible refine CondG.ff ?_); conv => whnf)
  refine CondG.dec (fun h0 => ?_) (fun h0 => ?_)
  · have g0 := blen_shift (x := x) (k := 32) (by omega)
    have k0 : x / 2 ^ 32 = x / 4294967296 := rfl
    (conv => whnf); repeat ((first | with_reducible refine CondG.tt ?_ | with_reducible refine CondG.ff ?_); conv => whnf)
    refine SideG.of (by decide) ?_
    have w0 := shr64 x 32 (by decide)
    (conv => whnf); repeat ((first | with_reducible refine CondG.tt ?_ | with_reducible refine CondG.ff ?_); conv => whnf)
    rw [show ((x : Nat) : Int).fdiv (2 ^ (min (32 : Int).toNat IntKind.u64.bits)) = (((x / 2 ^ 32) : Nat) : Int) from shr64 x 32 (by decide)]
    (conv => whnf); repeat ((first | with_reducible refine CondG.tt ?_ | with_reducible refine CondG.ff ?_); conv => whnf)
    refine CondG.dec (fun h1 => ?_) (fun h1 => ?_)
    · have g1 := blen_shift (x := (x / 2 ^ 32)) (k := 16) (by omega)
      have k1 : (x / 2 ^ 32) / 2 ^ 16 = (x / 2 ^ 32) / 65536 := rfl
      (conv => whnf); repeat ((first | with_reducible refine CondG.tt ?_ | with_reducible refine CondG.ff ?_); conv => whnf)
      refine SideG.of (by decide) ?_
      have w1 := shr64 (x / 2 ^ 32) 16 (by decide)
      (conv => whnf); repeat ((first | with_reducible refine CondG.tt ?_ | with_reducible refine CondG.ff ?_); conv => whnf)
      refine ArithG.i64' (48 : Int) (by decide) (by decide) ?_
      (conv => whnf); repeat ((first | with_reducible refine CondG.tt ?_ | with_reducible refine CondG.ff ?_); conv => whnf)
      rw [show (((x / 2 ^ 32) : Nat) : Int).fdiv (2 ^ (min (16 : Int).toNat IntKind.u64.bits)) = ((((x / 2 ^ 32) / 2 ^ 16) : Nat) : Int) from shr64 (x / 2 ^ 32) 16 (by decide)]
      (conv => whnf); repeat ((first | with_reducible refine CondG.tt ?_ | with_reducible refine CondG.ff ?_); conv => whnf)
      refine CondG.dec (fun h2 => ?_) (fun h2 => ?_)
      · have g2 := blen_shift (x := ((x / 2 ^ 32) / 2 ^ 16)) (k := 8) (by omega)
        have k2 : ((x / 2 ^ 32) / 2 ^ 16) / 2 ^ 8 = ((x / 2 ^ 32) / 2 ^ 16) / 256 := rfl
        (conv => whnf); repeat ((first | with_reducible refine CondG.tt ?_ | with_reducible refine CondG.ff ?_); conv => whnf)
        refine SideG.of (by decide) ?_
        have w2 := shr64 ((x / 2 ^ 32) / 2 ^ 16) 8 (by decide)
        (conv => whnf); repeat ((first | with_reducible refine CondG.tt ?_ | with_reducible refine CondG.ff ?_); conv => whnf)
        refine ArithG.i64' (56 : Int) (by decide) (by decide) ?_
        (conv => whnf); repeat ((first | with_reducible refine CondG.tt ?_ | with_reducible refine CondG.ff ?_); conv => whnf)
        rw [show ((((x / 2 ^ 32) / 2 ^ 16) : Nat) : Int).fdiv (2 ^ (min (8 : Int).toNat IntKind.u64.bits)) = (((((x / 2 ^ 32) / 2 ^ 16) / 2 ^ 8) : Nat) : Int) from shr64 ((x / 2 ^ 32) / 2 ^ 16) 8 (by decide)]
        (conv => whnf); repeat ((first | with_reducible refine CondG.tt ?_ | with_reducible refine CondG.ff ?_); conv => whnf)
        (conv => whnf); repeat ((first | with_reducible refine CondG.tt ?_ | with_reducible refine CondG.ff ?_); conv => whnf)
        refine ArithG.u8 (by omega) ?_
        (conv => whnf); repeat ((first | with_reducible refine CondG.tt ?_ | with_reducible refine CondG.ff ?_); conv => whnf)
        have hb9 := hb8 ((((x / 2 ^ 32) / 2 ^ 16) / 2 ^ 8)) (by omega)
        refine idx_tab (by kernel_rfl) (by decide +kernel) ((((x / 2 ^ 32) / 2 ^ 16) / 2 ^ 8)) (by omega) ?_
        (conv => whnf); repeat ((first | with_reducible refine CondG.tt ?_ | with_reducible refine CondG.ff ?_); conv => whnf)
        refine ArithG.i64 (by omega) ?_
        (conv => whnf); repeat ((first | with_reducible refine CondG.tt ?_ | with_reducible refine CondG.ff ?_); conv => whnf)
        refine ArithG.i64' ((blen x : Nat) : Int) (by omega) (by omega) ?_
        (conv => whnf); repeat ((first | with_reducible refine CondG.tt ?_ | with_reducible refine CondG.ff ?_); conv => whnf)
        exact ret_here ⟨rfl, rfl⟩
      · (conv => whnf); repeat ((first | with_reducible refine CondG.tt ?_ | with_reducible refine CondG.ff ?_); conv => whnf)
        (conv => whnf); repeat ((first | with_reducible refine CondG.tt ?_ | with_reducible refine CondG.ff ?_); conv => whnf)
        refine ArithG.u8 (by omega) ?_
        (conv => whnf); repeat ((first | with_reducible refine CondG.tt ?_ | with_reducible refine CondG.ff ?_); conv => whnf)
        have hb9 := hb8 (((x / 2 ^ 32) / 2 ^ 16)) (by omega)
        refine idx_tab (by kernel_rfl) (by decide +kernel) (((x / 2 ^ 32) / 2 ^ 16)) (by omega) ?_
        (conv => whnf); repeat ((first | with_reducible refine CondG.tt ?_ | with_reducible refine CondG.ff ?_); conv => whnf)
        refine ArithG.i64 (by omega) ?_
        (conv => whnf); repeat ((first | with_reducible refine CondG.tt ?_ | with_reducible refine CondG.ff ?_); conv => whnf)
        refine ArithG.i64' ((blen x : Nat) : Int) (by omega) (by omega) ?_
        (conv => whnf); repeat ((first | with_reducible refine CondG.tt ?_ | with_reducible refine CondG.ff ?_); conv => whnf)
        exact ret_here ⟨rfl, rfl⟩
    · (conv => whnf); repeat ((first | with_reducible refine CondG.tt ?_ | with_reducible refine CondG.ff ?_); conv => whnf)
      refine CondG.dec (fun h2 => ?_) (fun h2 => ?_)
      · have g2 := blen_shift (x := (x / 2 ^ 32)) (k := 8) (by omega)
        have k2 : (x / 2 ^ 32) / 2 ^ 8 = (x / 2 ^ 32) / 256 := rfl
        (conv => whnf); repeat ((first | with_reducible refine CondG.tt ?_ | with_reducible refine CondG.ff ?_); conv => whnf)
        refine SideG.of (by decide) ?_
        have w2 := shr64 (x / 2 ^ 32) 8 (by decide)
        (conv => whnf); repeat ((first | with_reducible refine CondG.tt ?_ | with_reducible refine CondG.ff ?_); conv => whnf)
        refine ArithG.i64' (40 : Int) (by decide) (by decide) ?_
        (conv => whnf); repeat ((first | with_reducible refine CondG.tt ?_ | with_reducible refine CondG.ff ?_); conv => whnf)
        rw [show (((x / 2 ^ 32) : Nat) : Int).fdiv (2 ^ (min (8 : Int).toNat IntKind.u64.bits)) = ((((x / 2 ^ 32) / 2 ^ 8) : Nat) : Int) from shr64 (x / 2 ^ 32) 8 (by decide)]
        (conv => whnf); repeat ((first | with_reducible refine CondG.tt ?_ | with_reducible refine CondG.ff ?_); conv => whnf)
        (conv => whnf); repeat ((first | with_reducible refine CondG.tt ?_ | with_reducible refine CondG.ff ?_); conv => whnf)
        refine ArithG.u8 (by omega) ?_
        (conv => whnf); repeat ((first | with_reducible refine CondG.tt ?_ | with_reducible refine CondG.ff ?_); conv => whnf)
        have hb9 := hb8 (((x / 2 ^ 32) / 2 ^ 8)) (by omega)
        refine idx_tab (by kernel_rfl) (by decide +kernel) (((x / 2 ^ 32) / 2 ^ 8)) (by omega) ?_
        (conv => whnf); repeat ((first | with_reducible refine CondG.tt ?_ | with_reducible refine CondG.ff ?_); conv => whnf)
        refine ArithG.i64 (by omega) ?_
        (conv => whnf); repeat ((first | with_reducible refine CondG.tt ?_ | with_reducible refine CondG.ff ?_); conv => whnf)
        refine ArithG.i64' ((blen x : Nat) : Int) (by omega) (by omega) ?_
        (conv => whnf); repeat ((first | with_reducible refine CondG.tt ?_ | with_reducible refine CondG.ff ?_); conv => whnf)
        exact ret_here ⟨rfl, rfl⟩
      · (conv => whnf); repeat ((first | with_reducible refine CondG.tt ?_ | with_reducible refine CondG.ff ?_); conv => whnf)
        (conv => whnf); repeat ((first | with_reducible refine CondG.tt ?_ | with_reducible refine CondG.ff ?_); conv => whnf)
        refine ArithG.u8 (by omega) ?_
        (conv => whnf); repeat ((first | with_reducible refine CondG.tt ?_ | with_reducible refine CondG.ff ?_); conv => whnf)
        have hb9 := hb8 ((x / 2 ^ 32)) (by omega)
        refine idx_tab (by kernel_rfl) (by decide +kernel) ((x / 2 ^ 32)) (by omega) ?_
        (conv => whnf); repeat ((first | with_reducible refine CondG.tt ?_ | with_reducible refine CondG.ff ?_); conv => whnf)
        refine ArithG.i64 (by omega) ?_
        (conv => whnf); repeat ((first | with_reducible refine CondG.tt ?_ | with_reducible refine CondG.ff ?_); conv => whnf)
        refine ArithG.i64' ((blen x : Nat) : Int) (by omega) (by omega) ?_
        (conv => whnf); repeat ((first | with_reducible refine CondG.tt ?_ | with_reducible refine CondG.ff ?_); conv => whnf)
        exact ret_here ⟨rfl, rfl⟩
  · (conv => whnf); repeat ((first | with_reducible refine CondG.tt ?_ | with_reducible refine CondG.ff ?_); conv => whnf)
    refine CondG.dec (fun h1 => ?_) (fun h1 => ?_)
    · have g1 := blen_shift (x := x) (k := 16) (by omega)
      have k1 : x / 2 ^ 16 = x / 65536 := rfl
      (conv => whnf); repeat ((first | with_reducible refine CondG.tt ?_ | with_reducible refine CondG.ff ?_); conv => whnf)
      refine SideG.of (by decide) ?_
      have w1 := shr64 x 16 (by decide)
      (conv => whnf); repeat ((first | with_reducible refine CondG.tt ?_ | with_reducible refine CondG.ff ?_); conv => whnf)
      refine ArithG.i64' (16 : Int) (by decide) (by decide) ?_
      (conv => whnf); repeat ((first | with_reducible refine CondG.tt ?_ | with_reducible refine CondG.ff ?_); conv => whnf)
      rw [show ((x : Nat) : Int).fdiv (2 ^ (min (16 : Int).toNat IntKind.u64.bits)) = (((x / 2 ^ 16) : Nat) : Int) from shr64 x 16 (by decide)]
      (conv => whnf); repeat ((first | with_reducible refine CondG.tt ?_ | with_reducible refine CondG.ff ?_); conv => whnf)
      refine CondG.dec (fun h2 => ?_) (fun h2 => ?_)
      · have g2 := blen_shift (x := (x / 2 ^ 16)) (k := 8) (by omega)
        have k2 : (x / 2 ^ 16) / 2 ^ 8 = (x / 2 ^ 16) / 256 := rfl
        (conv => whnf); repeat ((first | with_reducible refine CondG.tt ?_ | with_reducible refine CondG.ff ?_); conv => whnf)
        refine SideG.of (by decide) ?_
        have w2 := shr64 (x / 2 ^ 16) 8 (by decide)
        (conv => whnf); repeat ((first | with_reducible refine CondG.tt ?_ | with_reducible refine CondG.ff ?_); conv => whnf)
        refine ArithG.i64' (24 : Int) (by decide) (by decide) ?_
        (conv => whnf); repeat ((first | with_reducible refine CondG.tt ?_ | with_reducible refine CondG.ff ?_); conv => whnf)
        rw [show (((x / 2 ^ 16) : Nat) : Int).fdiv (2 ^ (min (8 : Int).toNat IntKind.u64.bits)) = ((((x / 2 ^ 16) / 2 ^ 8) : Nat) : Int) from shr64 (x / 2 ^ 16) 8 (by decide)]
        (conv => whnf); repeat ((first | with_reducible refine CondG.tt ?_ | with_reducible refine CondG.ff ?_); conv => whnf)
        (conv => whnf); repeat ((first | with_reducible refine CondG.tt ?_ | with_reducible refine CondG.ff ?_); conv => whnf)
        refine ArithG.u8 (by omega) ?_
        (conv => whnf); repeat ((first | with_reducible refine CondG.tt ?_ | with_reducible refine CondG.ff ?_); conv => whnf)
        have hb9 := hb8 (((x / 2 ^ 16) / 2 ^ 8)) (by omega)
        refine idx_tab (by kernel_rfl) (by decide +kernel) (((x / 2 ^ 16) / 2 ^ 8)) (by omega) ?_
        (conv => whnf); repeat ((first | with_reducible refine CondG.tt ?_ | with_reducible refine CondG.ff ?_); conv => whnf)
        refine ArithG.i64 (by omega) ?_
        (conv => whnf); repeat ((first | with_reducible refine CondG.tt ?_ | with_reducible refine CondG.ff ?_); conv => whnf)
        refine ArithG.i64' ((blen x : Nat) : Int) (by omega) (by omega) ?_
        (conv => whnf); repeat ((first | with_reducible refine CondG.tt ?_ | with_reducible refine CondG.ff ?_); conv => whnf)
        exact ret_here ⟨rfl, rfl⟩
      · (conv => whnf); repeat ((first | with_reducible refine CondG.tt ?_ | with_reducible refine CondG.ff ?_); conv => whnf)
        (conv => whnf); repeat ((first | with_reducible refine CondG.tt ?_ | with_reducible refine CondG.ff ?_); conv => whnf)
        refine ArithG.u8 (by omega) ?_
        (conv => whnf); repeat ((first | with_reducible refine CondG.tt ?_ | with_reducible refine CondG.ff ?_); conv => whnf)
        have hb9 := hb8 ((x / 2 ^ 16)) (by omega)
        refine idx_tab (by kernel_rfl) (by decide +kernel) ((x / 2 ^ 16)) (by omega) ?_
        (conv => whnf); repeat ((first | with_reducible refine CondG.tt ?_ | with_reducible refine CondG.ff ?_); conv => whnf)
        refine ArithG.i64 (by omega) ?_
        (conv => whnf); repeat ((first | with_reducible refine CondG.tt ?_ | with_reducible refine CondG.ff ?_); conv => whnf)
        refine ArithG.i64' ((blen x : Nat) : Int) (by omega) (by omega) ?_
        (conv => whnf); repeat ((first | with_reducible refine CondG.tt ?_ | with_reducible refine CondG.ff ?_); conv => whnf)
        exact ret_here ⟨rfl, rfl⟩
    · (conv => whnf); repeat ((first | with_reducible refine CondG.tt ?_ | with_reducible refine CondG.ff ?_); conv => whnf)
      refine CondG.dec (fun h2 => ?_) (fun h2 => ?_)
      · have g2 := blen_shift (x := x) (k := 8) (by omega)
        have k2 : x / 2 ^ 8 = x / 256 := rfl
        (conv => whnf); repeat ((first | with_reducible refine CondG.tt ?_ | with_reducible refine CondG.ff ?_); conv => whnf)
        refine SideG.of (by decide) ?_
        have w2 := shr64 x 8 (by decide)
        (conv => whnf); repeat ((first | with_reducible refine CondG.tt ?_ | with_reducible refine CondG.ff ?_); conv => whnf)
        refine ArithG.i64' (8 : Int) (by decide) (by decide) ?_
        (conv => whnf); repeat ((first | with_reducible refine CondG.tt ?_ | with_reducible refine CondG.ff ?_); conv => whnf)
        rw [show ((x : Nat) : Int).fdiv (2 ^ (min (8 : Int).toNat IntKind.u64.bits)) = (((x / 2 ^ 8) : Nat) : Int) from shr64 x 8 (by decide)]
        (conv => whnf); repeat ((first | with_reducible refine CondG.tt ?_ | with_reducible refine CondG.ff ?_); conv => whnf)
        (conv => whnf); repeat ((first | with_reducible refine CondG.tt ?_ | with_reducible refine CondG.ff ?_); conv => whnf)
        refine ArithG.u8 (by omega) ?_
        (conv => whnf); repeat ((first | with_reducible refine CondG.tt ?_ | with_reducible refine CondG.ff ?_); conv => whnf)
        have hb9 := hb8 ((x / 2 ^ 8)) (by omega)
        refine idx_tab (by kernel_rfl) (by decide +kernel) ((x / 2 ^ 8)) (by omega) ?_
        (conv => whnf); repeat ((first | with_reducible refine CondG.tt ?_ | with_reducible refine CondG.ff ?_); conv => whnf)
        refine ArithG.i64 (by omega) ?_
        (conv => whnf); repeat ((first | with_reducible refine CondG.tt ?_ | with_reducible refine CondG.ff ?_); conv => whnf)
        refine ArithG.i64' ((blen x : Nat) : Int) (by omega) (by omega) ?_
        (conv => whnf); repeat ((first | with_reducible refine CondG.tt ?_ | with_reducible refine CondG.ff ?_); conv => whnf)
        exact ret_here ⟨rfl, rfl⟩
      · (conv => whnf); repeat ((first | with_reducible refine CondG.tt ?_ | with_reducible refine CondG.ff ?_); conv => whnf)
        (conv => whnf); repeat ((first | with_reducible refine CondG.tt ?_ | with_reducible refine CondG.ff ?_); conv => whnf)
        refine ArithG.u8 (by omega) ?_
        (conv => whnf); repeat ((first | with_reducible refine CondG.tt ?_ | with_reducible refine CondG.ff ?_); conv => whnf)
        have hb9 := hb8 (x) (by omega)
        refine idx_tab (by kernel_rfl) (by decide +kernel) (x) (by omega) ?_
        (conv => whnf); repeat ((first | with_reducible refine CondG.tt ?_ | with_reducible refine CondG.ff ?_); conv => whnf)
        refine ArithG.i64 (by omega) ?_
        (conv => whnf); repeat ((first | with_reducible refine CondG.tt ?_ | with_reducible refine CondG.ff ?_); conv => whnf)
        refine ArithG.i64' ((blen x : Nat) : Int) (by omega) (by omega) ?_
        (conv => whnf); repeat ((first | with_reducible refine CondG.tt ?_ | with_reducible refine CondG.ff ?_); conv => whnf)
        exact ret_here ⟨rfl, rfl⟩
theorem len_spec' (F : List HP) (x : Nat) (h : x < 18446744073709551616) : SpecF Tryd.prog 138 [.int .u64 x] F [] (fun v L => v = .int .i64 (blen x) ∧ L = []) := by
  refine fun138.spec rfl ?_
  (conv => whnf); repeat ((first | with_reducible refine CondG.tt ?_ | with_reducible refine CondG.ff ?_); conv => whnf)
  refine CallG.pure (len64_spec _ x h) ?_
  rintro _ _ ⟨rfl, rfl⟩
  (conv => whnf); repeat ((first | with_reducible refine CondG.tt ?_ | with_reducible refine CondG.ff ?_); conv => whnf)
  exact ret_here ⟨rfl, rfl⟩
theorem half_spec (F : List HP) (n : Nat) (h2 : 2 ≤ n) (hn : n ≤ 4611686018427387904) : SpecF Tryd.prog 102 [.int .i64 n] F [] (fun v L => v = .int .i64 (half n) ∧ L = []) := by
  have hl := half_lt h2
  have hb : 1 ≤ blen (n - 1) := by unfold blen; rw [if_neg (by omega)]; omega
  have hb2 : blen (n - 1) ≤ 62 := by
    unfold blen
    rw [if_neg (by omega)]
    have := (Nat.log2_lt (n := n - 1) (k := 62) (by omega)).2 (by omega)
    omega
  refine fun102.spec rfl ?_
  (conv => whnf); repeat ((first | with_reducible refine CondG.tt ?_ | with_reducible refine CondG.ff ?_); conv => whnf)
  refine ArithG.i64' ((n - 1 : Nat) : Int) (by omega) (by omega) ?_
  (conv => whnf); repeat ((first | with_reducible refine CondG.tt ?_ | with_reducible refine CondG.ff ?_); conv => whnf)
  refine ArithG.u64 (by omega) ?_
  (conv => whnf); repeat ((first | with_reducible refine CondG.tt ?_ | with_reducible refine CondG.ff ?_); conv => whnf)
  refine CallG.pure (len_spec' _ (n - 1) (by omega)) ?_
  rintro _ _ ⟨rfl, rfl⟩
  (conv => whnf); repeat ((first | with_reducible refine CondG.tt ?_ | with_reducible refine CondG.ff ?_); conv => whnf)
  refine ArithG.i64' ((blen (n - 1) - 1 : Nat) : Int) (by omega) (by omega) ?_
  (conv => whnf); repeat ((first | with_reducible refine CondG.tt ?_ | with_reducible refine CondG.ff ?_); conv => whnf)
  refine SideG.of (by omega) ?_
  have e : (1 : Int) * 2 ^ (min ((blen (n - 1) - 1 : Nat) : Int).toNat IntKind.i64.bits) = ((half n : Nat) : Int) := by
    have e1 : min ((blen (n - 1) - 1 : Nat) : Int).toNat IntKind.i64.bits = blen (n - 1) - 1 := by
      rw [Int.toNat_natCast]
      exact Nat.min_eq_left (by show _ ≤ 64; omega)
    rw [e1, half_blen h2, Int.one_mul]
    norm_cast
  refine ArithG.i64' ((half n : Nat) : Int) e (by omega) ?_
  (conv => whnf); repeat ((first | with_reducible refine CondG.tt ?_ | with_reducible refine CondG.ff ?_); conv => whnf)
  exact ret_here ⟨rfl, rfl⟩
theorem digsT : ElT Tryd.prog 33 25 32 32 := .of (by kernel_rfl)
theorem digs_len {ds : List (List Nat)} (h : ∀ d ∈ ds, d.length = 32) : (digsC ds).length = ds.length * 32 := flat_len fun d hd => by rw [bvs_len, h d hd]
section
variable (K : List W32) (hk : K.length = 64)
include hk
theorem tleaf_spec (F : List HP) (hK : CelN F 4 0 (wvs K)) (v : Value) (bs : List Nat) (hv : RdS F v bs.length (bvs bs)) (hl : bs.length ≤ 1099511627776) (hb : ∀ b ∈ bs, b < 256) :
    SpecF Tryd.prog 99 [v] F [] (fun r L => r = .agg ⟨bvs (leafT K bs)⟩ ∧ L = []) := by
  obtain ⟨va, vc, hve⟩ := hv.len
  subst hve
  refine fun99.spec rfl ?_
  (conv => whnf); repeat ((first | with_reducible refine CondG.tt ?_ | with_reducible refine CondG.ff ?_); conv => whnf)
  intro b2
  (conv => whnf); repeat ((first | with_reducible refine CondG.tt ?_ | with_reducible refine CondG.ff ?_); conv => whnf)
  refine BuildG.of rfl ?_
  (conv => whnf); repeat ((first | with_reducible refine CondG.tt ?_ | with_reducible refine CondG.ff ?_); conv => whnf)
  intro b3
  (conv => whnf); repeat ((first | with_reducible refine CondG.tt ?_ | with_reducible refine CondG.ff ?_); conv => whnf)
  refine BuildG.of rfl ?_
  (conv => whnf); repeat ((first | with_reducible refine CondG.tt ?_ | with_reducible refine CondG.ff ?_); conv => whnf)
  intro b5
  (conv => whnf); repeat ((first | with_reducible refine CondG.tt ?_ | with_reducible refine CondG.ff ?_); conv => whnf)
  refine CallG.pure (dparts_spec _ K (.right hK _) hk _ [[0], bs] ?_ (by simp) (by simp [sumL]; omega) ?_) ?_
  · refine ⟨[_, _], .mk _ _ _ _ _ (Nat.le_refl _) (.left .all F), rfl, fun i h => ?_⟩
    match i, h with
    | 0, _ => exact ⟨_, rfl, .mk _ _ _ _ _ (Nat.le_refl _) (.left (.tl .all) F)⟩
    | 1, _ => exact ⟨_, rfl, .right hv _⟩
  · intro l hl b hbl
    simp only [List.mem_cons, List.not_mem_nil, or_false] at hl
    rcases hl with rfl | rfl
    · simp at hbl; omega
    · exact hb b hbl
  rintro _ _ ⟨rfl, rfl⟩
  have e : [[0], bs].flatten = 0 :: bs := by simp
  rw [e]
  (conv => whnf); repeat ((first | with_reducible refine CondG.tt ?_ | with_reducible refine CondG.ff ?_); conv => whnf)
  refine StoreG.at (by rw [bvs_len, dig_len]) (Upd.tl (Upd.tl (Upd.whole (by rw [bvs_len, dig_len]; rfl) (bvs_one _)))) ?_
  (conv => whnf); repeat ((first | with_reducible refine CondG.tt ?_ | with_reducible refine CondG.ff ?_); conv => whnf)
  refine LoadNG.at (vs := bvs (dig K (0 :: bs))) (by rw [bvs_len, dig_len]) (.tl (.tl .all)) ?_
  (conv => whnf); repeat ((first | with_reducible refine CondG.tt ?_ | with_reducible refine CondG.ff ?_); conv => whnf)
  exact ⟨[], Ent.nil _, rfl, rfl⟩
theorem none_spec (F : List HP) (hK : CelN F 4 0 (wvs K)) : SpecF Tryd.prog 101 [] F [] (fun r L => r = .agg ⟨bvs (dig K [])⟩ ∧ L = []) := by
  refine fun101.spec rfl ?_
  (conv => whnf); repeat ((first | with_reducible refine CondG.tt ?_ | with_reducible refine CondG.ff ?_); conv => whnf)
  intro b2
  (conv => whnf); repeat ((first | with_reducible refine CondG.tt ?_ | with_reducible refine CondG.ff ?_); conv => whnf)
  refine CallG.pure (dsum_spec _ K (.right hK _) hk _ [] .nil (by simp) (by simp)) ?_
  rintro _ _ ⟨rfl, rfl⟩
  (conv => whnf); repeat ((first | with_reducible refine CondG.tt ?_ | with_reducible refine CondG.ff ?_); conv => whnf)
  refine StoreG.at (by rw [bvs_len, dig_len]) (Upd.whole (by rw [bvs_len, dig_len]; rfl) (bvs_one _)) ?_
  (conv => whnf); repeat ((first | with_reducible refine CondG.tt ?_ | with_reducible refine CondG.ff ?_); conv => whnf)
  refine LoadNG.at (vs := bvs (dig K [])) (by rw [bvs_len, dig_len]) .all ?_
  (conv => whnf); repeat ((first | with_reducible refine CondG.tt ?_ | with_reducible refine CondG.ff ?_); conv => whnf)
  exact ⟨[], Ent.nil _, rfl, rfl⟩
theorem node_spec (F : List HP) (hK : CelN F 4 0 (wvs K)) (a b : List Nat) (ha : a.length = 32) (hb : b.length = 32) (ha' : ∀ x ∈ a, x < 256) (hb' : ∀ x ∈ b, x < 256) :
    SpecF Tryd.prog 103 [.agg ⟨bvs a⟩, .agg ⟨bvs b⟩] F [] (fun r L => r = .agg ⟨bvs (nodeD K a b)⟩ ∧ L = []) := by
  refine fun103.spec rfl ?_
  (conv => whnf); repeat ((first | with_reducible refine CondG.tt ?_ | with_reducible refine CondG.ff ?_); conv => whnf)
  intro b2
  (conv => whnf); repeat ((first | with_reducible refine CondG.tt ?_ | with_reducible refine CondG.ff ?_); conv => whnf)
  intro b3
  (conv => whnf); repeat ((first | with_reducible refine CondG.tt ?_ | with_reducible refine CondG.ff ?_); conv => whnf)
  intro b4
  (conv => whnf); repeat ((first | with_reducible refine CondG.tt ?_ | with_reducible refine CondG.ff ?_); conv => whnf)
  refine DrawG.mk 5 [cel b4 25 (bvs (List.replicate 32 0)), cel b3 25 (bvs b), cel b2 25 (bvs a)] [] (Ent.refl _) ?_
  (conv => whnf); repeat ((first | with_reducible refine CondG.tt ?_ | with_reducible refine CondG.ff ?_); conv => whnf)
  refine .take 1 ?_
  (conv => whnf); repeat ((first | with_reducible refine CondG.tt ?_ | with_reducible refine CondG.ff ?_); conv => whnf)
  refine ⟨rfl, ?_⟩
  (conv => whnf); repeat ((first | with_reducible refine CondG.tt ?_ | with_reducible refine CondG.ff ?_); conv => whnf)
  refine SideG.of (by decide) ?_
  (conv => whnf); repeat ((first | with_reducible refine CondG.tt ?_ | with_reducible refine CondG.ff ?_); conv => whnf)
  refine SliceG.zero ?_
  (conv => whnf); repeat ((first | with_reducible refine CondG.tt ?_ | with_reducible refine CondG.ff ?_); conv => whnf)
  refine .take 2 ?_
  (conv => whnf); repeat ((first | with_reducible refine CondG.tt ?_ | with_reducible refine CondG.ff ?_); conv => whnf)
  refine ⟨rfl, ?_⟩
  (conv => whnf); repeat ((first | with_reducible refine CondG.tt ?_ | with_reducible refine CondG.ff ?_); conv => whnf)
  refine SideG.of (by decide) ?_
  (conv => whnf); repeat ((first | with_reducible refine CondG.tt ?_ | with_reducible refine CondG.ff ?_); conv => whnf)
  refine SliceG.zero ?_
  (conv => whnf); repeat ((first | with_reducible refine CondG.tt ?_ | with_reducible refine CondG.ff ?_); conv => whnf)
  refine .all ?_
  (conv => whnf); repeat ((first | with_reducible refine CondG.tt ?_ | with_reducible refine CondG.ff ?_); conv => whnf)
  refine ⟨by decide, ?_⟩
  (conv => whnf); repeat ((first | with_reducible refine CondG.tt ?_ | with_reducible refine CondG.ff ?_); conv => whnf)
  refine BuildG.of rfl ?_
  (conv => whnf); repeat ((first | with_reducible refine CondG.tt ?_ | with_reducible refine CondG.ff ?_); conv => whnf)
  intro b5
  (conv => whnf); repeat ((first | with_reducible refine CondG.tt ?_ | with_reducible refine CondG.ff ?_); conv => whnf)
  refine .all ?_
  (conv => whnf); repeat ((first | with_reducible refine CondG.tt ?_ | with_reducible refine CondG.ff ?_); conv => whnf)
  refine ⟨by decide, ?_⟩
  (conv => whnf); repeat ((first | with_reducible refine CondG.tt ?_ | with_reducible refine CondG.ff ?_); conv => whnf)
  refine BuildG.of rfl ?_
  (conv => whnf); repeat ((first | with_reducible refine CondG.tt ?_ | with_reducible refine CondG.ff ?_); conv => whnf)
  intro b8
  (conv => whnf); repeat ((first | with_reducible refine CondG.tt ?_ | with_reducible refine CondG.ff ?_); conv => whnf)
  refine .all ?_
  (conv => whnf); repeat ((first | with_reducible refine CondG.tt ?_ | with_reducible refine CondG.ff ?_); conv => whnf)
  refine ⟨by decide, ?_⟩
  (conv => whnf); repeat ((first | with_reducible refine CondG.tt ?_ | with_reducible refine CondG.ff ?_); conv => whnf)
  refine CallG.pure (dparts_spec _ K (.right (.right hK _) _) hk _ [[1], a, b] ?_ (by simp) (by simp [sumL]; omega) ?_) ?_
  · refine ⟨[_, _, _], .mk _ _ _ _ _ (Nat.le_refl _) (.left .all _), rfl, fun i h => ?_⟩
    match i, h with
    | 0, _ => exact ⟨_, rfl, .mk _ _ _ _ _ (Nat.le_refl _) (.left (.tl .all) _)⟩
    | 1, _ => exact ⟨_, rfl, by rw [show [[1], a, b][1] = a from rfl, ha]; exact .mk _ _ _ _ _ (Nat.le_refl _) (.right (.left (.tl (.tl .all)) F) _)⟩
    | 2, _ => exact ⟨_, rfl, by rw [show [[1], a, b][2] = b from rfl, hb]; exact .mk _ _ _ _ _ (Nat.le_refl _) (.right (.left (.tl .all) F) _)⟩
  · intro l hl x hx
    simp only [List.mem_cons, List.not_mem_nil, or_false] at hl
    rcases hl with rfl | rfl | rfl
    · simp at hx; omega
    · exact ha' x hx
    · exact hb' x hx
  rintro _ _ ⟨rfl, rfl⟩
  have e : [[1], a, b].flatten = 1 :: (a ++ b) := by simp
  rw [e]
  (conv => whnf); repeat ((first | with_reducible refine CondG.tt ?_ | with_reducible refine CondG.ff ?_); conv => whnf)
  refine .all ?_
  (conv => whnf); repeat ((first | with_reducible refine CondG.tt ?_ | with_reducible refine CondG.ff ?_); conv => whnf)
  refine ⟨by decide, ?_⟩
  (conv => whnf); repeat ((first | with_reducible refine CondG.tt ?_ | with_reducible refine CondG.ff ?_); conv => whnf)
  refine ⟨rfl, ?_⟩
  (conv => whnf); repeat ((first | with_reducible refine CondG.tt ?_ | with_reducible refine CondG.ff ?_); conv => whnf)
  refine StoreG.at (by rw [bvs_len, dig_len]) (Upd.tl (Upd.tl (Upd.whole (by rw [bvs_len, dig_len]; rfl) (bvs_one _)))) ?_
  (conv => whnf); repeat ((first | with_reducible refine CondG.tt ?_ | with_reducible refine CondG.ff ?_); conv => whnf)
  refine ⟨rfl, ?_⟩
  (conv => whnf); repeat ((first | with_reducible refine CondG.tt ?_ | with_reducible refine CondG.ff ?_); conv => whnf)
  refine LoadNG.at (vs := bvs (dig K (1 :: (a ++ b)))) (by rw [bvs_len, dig_len]) (.tl (.tl .all)) ?_
  (conv => whnf); repeat ((first | with_reducible refine CondG.tt ?_ | with_reducible refine CondG.ff ?_); conv => whnf)
  exact ⟨[], Ent.nil _, rfl, rfl⟩
theorem troot_spec : ∀ (n : Nat) (F : List HP) (v : Value) (ls : List (List Nat)), CelN F 4 0 (wvs K) → RdT F v ls → ls.length ≤ n → ls.length ≤ 1099511627776 → (∀ l ∈ ls, l.length ≤ 1099511627776 ∧ ∀ b ∈ l, b < 256) →
    SpecF Tryd.prog 57 [v] F [] (fun r L => r = .agg ⟨bvs (rootD K ls)⟩ ∧ L = []) := by
  intro n
  induction n with
  | zero =>
    intro F v ls hK hv hn hl hb
    obtain ⟨us, h1, h2, h3⟩ := hv.out
    obtain rfl : ls = [] := List.eq_nil_of_length_eq_zero (by omega)
    refine fun57.spec rfl ?_
    (conv => whnf); repeat ((first | with_reducible refine CondG.tt ?_ | with_reducible refine CondG.ff ?_); conv => whnf)
    intro b2
    (conv => whnf); repeat ((first | with_reducible refine CondG.tt ?_ | with_reducible refine CondG.ff ?_); conv => whnf)
    refine LenG.rd h2 ?_
    (conv => whnf); repeat ((first | with_reducible refine CondG.tt ?_ | with_reducible refine CondG.ff ?_); conv => whnf)
    refine CondG.decT rfl ?_
    (conv => whnf); repeat ((first | with_reducible refine CondG.tt ?_ | with_reducible refine CondG.ff ?_); conv => whnf)
    refine CallG.pure (none_spec K hk _ (.right hK _)) ?_
    rintro _ _ ⟨rfl, rfl⟩
    (conv => whnf); repeat ((first | with_reducible refine CondG.tt ?_ | with_reducible refine CondG.ff ?_); conv => whnf)
    refine StoreG.at (by rw [bvs_len, dig_len]) (Upd.whole (by rw [bvs_len, dig_len]; rfl) (bvs_one _)) ?_
    (conv => whnf); repeat ((first | with_reducible refine CondG.tt ?_ | with_reducible refine CondG.ff ?_); conv => whnf)
    refine LoadNG.at (vs := bvs (dig K [])) (by rw [bvs_len, dig_len]) .all ?_
    (conv => whnf); repeat ((first | with_reducible refine CondG.tt ?_ | with_reducible refine CondG.ff ?_); conv => whnf)
    exact ⟨[], Ent.nil _, rfl, rfl⟩
  | succ n ih =>
    intro F v ls hK hv hn hl hb
    obtain ⟨us, h1, h2, h3⟩ := hv.out
    refine fun57.spec rfl ?_
    (conv => whnf); repeat ((first | with_reducible refine CondG.tt ?_ | with_reducible refine CondG.ff ?_); conv => whnf)
    intro b2
    (conv => whnf); repeat ((first | with_reducible refine CondG.tt ?_ | with_reducible refine CondG.ff ?_); conv => whnf)
    refine LenG.rd h2 ?_
    (conv => whnf); repeat ((first | with_reducible refine CondG.tt ?_ | with_reducible refine CondG.ff ?_); conv => whnf)
    refine CondG.dec (fun h0 => ?_) (fun h0 => ?_)
    · obtain rfl : ls = [] := List.eq_nil_of_length_eq_zero (by omega)
      (conv => whnf); repeat ((first | with_reducible refine CondG.tt ?_ | with_reducible refine CondG.ff ?_); conv => whnf)
      refine CallG.pure (none_spec K hk _ (.right hK _)) ?_
      rintro _ _ ⟨rfl, rfl⟩
      (conv => whnf); repeat ((first | with_reducible refine CondG.tt ?_ | with_reducible refine CondG.ff ?_); conv => whnf)
      refine StoreG.at (by rw [bvs_len, dig_len]) (Upd.whole (by rw [bvs_len, dig_len]; rfl) (bvs_one _)) ?_
      (conv => whnf); repeat ((first | with_reducible refine CondG.tt ?_ | with_reducible refine CondG.ff ?_); conv => whnf)
      refine LoadNG.at (vs := bvs (dig K [])) (by rw [bvs_len, dig_len]) .all ?_
      (conv => whnf); repeat ((first | with_reducible refine CondG.tt ?_ | with_reducible refine CondG.ff ?_); conv => whnf)
      exact ⟨[], Ent.nil _, rfl, rfl⟩
    (conv => whnf); repeat ((first | with_reducible refine CondG.tt ?_ | with_reducible refine CondG.ff ?_); conv => whnf)
    refine CondG.dec (fun h9 => ?_) (fun h9 => ?_)
    · obtain ⟨l, rfl⟩ : ∃ l, ls = [l] := List.length_eq_one_iff.1 (by omega)
      obtain ⟨u, rfl⟩ : ∃ u, us = [u] := List.length_eq_one_iff.1 (by simpa using h1)
      have hb1 := hb l (by simp)
      (conv => whnf); repeat ((first | with_reducible refine CondG.tt ?_ | with_reducible refine CondG.ff ?_); conv => whnf)
      refine IdxG.rd h2 (by simp) fun c o hc => ?_
      (conv => whnf); repeat ((first | with_reducible refine CondG.tt ?_ | with_reducible refine CondG.ff ?_); conv => whnf)
      refine LoadG.atF (v := u) (hc.one (i := 0) rfl) ?_
      (conv => whnf); repeat ((first | with_reducible refine CondG.tt ?_ | with_reducible refine CondG.ff ?_); conv => whnf)
      refine CallG.pure (tleaf_spec K hk _ (.right hK _) u l (.right (h3 0 u l rfl rfl) _) hb1.1 hb1.2) ?_
      rintro _ _ ⟨rfl, rfl⟩
      (conv => whnf); repeat ((first | with_reducible refine CondG.tt ?_ | with_reducible refine CondG.ff ?_); conv => whnf)
      refine StoreG.at (by rw [bvs_len]; exact dig_len _ _) (Upd.whole (by rw [bvs_len]; exact dig_len _ _) (bvs_one _)) ?_
      (conv => whnf); repeat ((first | with_reducible refine CondG.tt ?_ | with_reducible refine CondG.ff ?_); conv => whnf)
      refine LoadNG.at (vs := bvs (leafT K l)) (by rw [bvs_len]; exact dig_len _ _) .all ?_
      (conv => whnf); repeat ((first | with_reducible refine CondG.tt ?_ | with_reducible refine CondG.ff ?_); conv => whnf)
      exact ⟨[], Ent.nil _, rfl, rfl⟩
    have h22 : 2 ≤ ls.length := by omega
    have hp := half_pos ls.length
    have hh := half_lt h22
    (conv => whnf); repeat ((first | with_reducible refine CondG.tt ?_ | with_reducible refine CondG.ff ?_); conv => whnf)
    refine LenG.rd h2 ?_
    (conv => whnf); repeat ((first | with_reducible refine CondG.tt ?_ | with_reducible refine CondG.ff ?_); conv => whnf)
    refine CallG.pure (half_spec _ ls.length h22 (by omega)) ?_
    rintro _ _ ⟨rfl, rfl⟩
    (conv => whnf); repeat ((first | with_reducible refine CondG.tt ?_ | with_reducible refine CondG.ff ?_); conv => whnf)
    refine DrawG.mk 9 [cel b2 25 (bvs (List.replicate 32 0))] [] (Ent.refl _) ?_
    (conv => whnf); repeat ((first | with_reducible refine CondG.tt ?_ | with_reducible refine CondG.ff ?_); conv => whnf)
    refine .take 0 ?_
    (conv => whnf); repeat ((first | with_reducible refine CondG.tt ?_ | with_reducible refine CondG.ff ?_); conv => whnf)
    refine ⟨rfl, ?_⟩
    (conv => whnf); repeat ((first | with_reducible refine CondG.tt ?_ | with_reducible refine CondG.ff ?_); conv => whnf)
    refine .take 1 ?_
    (conv => whnf); repeat ((first | with_reducible refine CondG.tt ?_ | with_reducible refine CondG.ff ?_); conv => whnf)
    refine ⟨rfl, ?_⟩
    (conv => whnf); repeat ((first | with_reducible refine CondG.tt ?_ | with_reducible refine CondG.ff ?_); conv => whnf)
    refine .take 4 ?_
    (conv => whnf); repeat ((first | with_reducible refine CondG.tt ?_ | with_reducible refine CondG.ff ?_); conv => whnf)
    refine ⟨rfl, ?_⟩
    (conv => whnf); repeat ((first | with_reducible refine CondG.tt ?_ | with_reducible refine CondG.ff ?_); conv => whnf)
    refine .take 5 ?_
    (conv => whnf); repeat ((first | with_reducible refine CondG.tt ?_ | with_reducible refine CondG.ff ?_); conv => whnf)
    refine ⟨rfl, ?_⟩
    (conv => whnf); repeat ((first | with_reducible refine CondG.tt ?_ | with_reducible refine CondG.ff ?_); conv => whnf)
    refine .take 2 ?_
    (conv => whnf); repeat ((first | with_reducible refine CondG.tt ?_ | with_reducible refine CondG.ff ?_); conv => whnf)
    refine ⟨rfl, ?_⟩
    (conv => whnf); repeat ((first | with_reducible refine CondG.tt ?_ | with_reducible refine CondG.ff ?_); conv => whnf)
    refine SlcG.rd h2 fun a cap hva hcap => ?_
    (conv => whnf); repeat ((first | with_reducible refine CondG.tt ?_ | with_reducible refine CondG.ff ?_); conv => whnf)
    refine SideG.of (by omega) ?_
    (conv => whnf); repeat ((first | with_reducible refine CondG.tt ?_ | with_reducible refine CondG.ff ?_); conv => whnf)
    refine SliceG.rd (hva ▸ h2) (by omega) (by omega) (by omega) (by omega) fun v1 hv1 _ => ?_
    have hr1 := RdT.cut h1 h3 (l := (0 : Int).toNat) (h := ((half ls.length : Nat) : Int).toNat) (by omega) hv1
    (conv => whnf); repeat ((first | with_reducible refine CondG.tt ?_ | with_reducible refine CondG.ff ?_); conv => whnf)
    refine .take 6 ?_
    (conv => whnf); repeat ((first | with_reducible refine CondG.tt ?_ | with_reducible refine CondG.ff ?_); conv => whnf)
    refine ⟨rfl, ?_⟩
    (conv => whnf); repeat ((first | with_reducible refine CondG.tt ?_ | with_reducible refine CondG.ff ?_); conv => whnf)
    refine SlcG.rd h2 fun a cap hva hcap => ?_
    (conv => whnf); repeat ((first | with_reducible refine CondG.tt ?_ | with_reducible refine CondG.ff ?_); conv => whnf)
    refine SideG.of (by omega) ?_
    (conv => whnf); repeat ((first | with_reducible refine CondG.tt ?_ | with_reducible refine CondG.ff ?_); conv => whnf)
    refine SliceG.rd (hva ▸ h2) (by omega) (by omega) (by omega) (by omega) fun v2 hv2 _ => ?_
    have hr2 := RdT.cut h1 h3 (l := ((half ls.length : Nat) : Int).toNat) (h := ((ls.length : Nat) : Int).toNat) (by omega) hv2
    have e1 : (ls.drop (0 : Int).toNat).take (((half ls.length : Nat) : Int).toNat - (0 : Int).toNat) = ls.take (half ls.length) := by simp
    have e2 : (ls.drop ((half ls.length : Nat) : Int).toNat).take (((ls.length : Nat) : Int).toNat - ((half ls.length : Nat) : Int).toNat) = ls.drop (half ls.length) := by simp [List.take_of_length_le]
    rw [e1] at hr1
    rw [e2] at hr2
    (conv => whnf); repeat ((first | with_reducible refine CondG.tt ?_ | with_reducible refine CondG.ff ?_); conv => whnf)
    refine .all ?_
    (conv => whnf); repeat ((first | with_reducible refine CondG.tt ?_ | with_reducible refine CondG.ff ?_); conv => whnf)
    refine ⟨by decide, ?_⟩
    (conv => whnf); repeat ((first | with_reducible refine CondG.tt ?_ | with_reducible refine CondG.ff ?_); conv => whnf)
    refine CallG.pure (ih _ v1 (ls.take (half ls.length)) (.right (.right hK _) _) (.right (.right hr1 _) _) (by rw [List.length_take]; omega) (by rw [List.length_take]; omega) (fun l hl => hb l (List.mem_of_mem_take hl))) ?_
    rintro _ _ ⟨rfl, rfl⟩
    (conv => whnf); repeat ((first | with_reducible refine CondG.tt ?_ | with_reducible refine CondG.ff ?_); conv => whnf)
    refine .all ?_
    (conv => whnf); repeat ((first | with_reducible refine CondG.tt ?_ | with_reducible refine CondG.ff ?_); conv => whnf)
    refine ⟨by decide, ?_⟩
    (conv => whnf); repeat ((first | with_reducible refine CondG.tt ?_ | with_reducible refine CondG.ff ?_); conv => whnf)
    refine CallG.pure (ih _ v2 (ls.drop (half ls.length)) (.right (.right hK _) _) (.right (.right hr2 _) _) (by rw [List.length_drop]; omega) (by rw [List.length_drop]; omega) (fun l hl => hb l (List.mem_of_mem_drop hl))) ?_
    rintro _ _ ⟨rfl, rfl⟩
    (conv => whnf); repeat ((first | with_reducible refine CondG.tt ?_ | with_reducible refine CondG.ff ?_); conv => whnf)
    refine .all ?_
    (conv => whnf); repeat ((first | with_reducible refine CondG.tt ?_ | with_reducible refine CondG.ff ?_); conv => whnf)
    refine ⟨by decide, ?_⟩
    (conv => whnf); repeat ((first | with_reducible refine CondG.tt ?_ | with_reducible refine CondG.ff ?_); conv => whnf)
    refine CallG.pure (node_spec K hk _ (.right (.right hK _) _) _ _ (rootD_len _ _) (rootD_len _ _) (rootD_byte _ _) (rootD_byte _ _)) ?_
    rintro _ _ ⟨rfl, rfl⟩
    rw [← rootD_two K ls h22]
    (conv => whnf); repeat ((first | with_reducible refine CondG.tt ?_ | with_reducible refine CondG.ff ?_); conv => whnf)
    refine .all ?_
    (conv => whnf); repeat ((first | with_reducible refine CondG.tt ?_ | with_reducible refine CondG.ff ?_); conv => whnf)
    refine ⟨by decide, ?_⟩
    (conv => whnf); repeat ((first | with_reducible refine CondG.tt ?_ | with_reducible refine CondG.ff ?_); conv => whnf)
    refine ⟨rfl, ?_⟩
    (conv => whnf); repeat ((first | with_reducible refine CondG.tt ?_ | with_reducible refine CondG.ff ?_); conv => whnf)
    refine StoreG.at (by rw [bvs_len, rootD_len]) (Upd.whole (by rw [bvs_len, rootD_len]; rfl) (bvs_one _)) ?_
    (conv => whnf); repeat ((first | with_reducible refine CondG.tt ?_ | with_reducible refine CondG.ff ?_); conv => whnf)
    refine ⟨rfl, ?_⟩
    (conv => whnf); repeat ((first | with_reducible refine CondG.tt ?_ | with_reducible refine CondG.ff ?_); conv => whnf)
    refine LoadNG.at (vs := bvs (rootD K ls)) (by rw [bvs_len, rootD_len]) .all ?_
    (conv => whnf); repeat ((first | with_reducible refine CondG.tt ?_ | with_reducible refine CondG.ff ?_); conv => whnf)
    exact ⟨[], Ent.nil _, rfl, rfl⟩
theorem tpath_spec : ∀ (n : Nat) (F : List HP) (v : Value) (ls : List (List Nat)) (i : Nat), CelN F 4 0 (wvs K) → RdT F v ls → ls.length ≤ n → ls.length ≤ 1099511627776 → i < ls.length → (∀ l ∈ ls, l.length ≤ 1099511627776 ∧ ∀ b ∈ l, b < 256) →
    SpecF Tryd.prog 109 [v, .int .i64 i] F [] (fun r L => SlV r (pathD K ls i).length ∧ L = [own 32 r (pathD K ls i).length (digsC (pathD K ls i))]) := by
  intro n
  induction n with
  | zero =>
    intro F v ls i hK hv hn hl hi
    omega
  | succ n ih =>
    intro F v ls i hK hv hn hl hi hb
    obtain ⟨us, h1, h2, h3⟩ := hv.out
    have hpl := pathD_len K ls.length ls i (Nat.le_refl _)
    refine fun109.spec rfl ?_
    (conv => whnf); repeat ((first | with_reducible refine CondG.tt ?_ | with_reducible refine CondG.ff ?_); conv => whnf)
    refine LenG.rd h2 ?_
    (conv => whnf); repeat ((first | with_reducible refine CondG.tt ?_ | with_reducible refine CondG.ff ?_); conv => whnf)
    refine CondG.dec (fun h0 => ?_) (fun h0 => ?_)
    · obtain ⟨l, rfl⟩ : ∃ l, ls = [l] := List.length_eq_one_iff.1 (by omega)
      (conv => whnf); repeat ((first | with_reducible refine CondG.tt ?_ | with_reducible refine CondG.ff ?_); conv => whnf)
      exact ⟨[own 32 (.slice none 0 0) 0 []], fun w G hs => Sat.own_nil hs, .inl ⟨rfl, rfl⟩, rfl⟩
    have h22 : 2 ≤ ls.length := by omega
    have hp := half_pos ls.length
    have hh := half_lt h22
    have hpt := pathD_two K ls i h22
    (conv => whnf); repeat ((first | with_reducible refine CondG.tt ?_ | with_reducible refine CondG.ff ?_); conv => whnf)
    refine LenG.rd h2 ?_
    (conv => whnf); repeat ((first | with_reducible refine CondG.tt ?_ | with_reducible refine CondG.ff ?_); conv => whnf)
    refine CallG.pure (half_spec _ ls.length h22 (by omega)) ?_
    rintro _ _ ⟨rfl, rfl⟩
    (conv => whnf); repeat ((first | with_reducible refine CondG.tt ?_ | with_reducible refine CondG.ff ?_); conv => whnf)
    refine CondG.dec (fun h9 => ?_) (fun h9 => ?_)
    · rw [if_pos (by omega)] at hpt
      (conv => whnf); repeat ((first | with_reducible refine CondG.tt ?_ | with_reducible refine CondG.ff ?_); conv => whnf)
      refine DrawG.mk 11 [] [] (Ent.refl _) ?_
      (conv => whnf); repeat ((first | with_reducible refine CondG.tt ?_ | with_reducible refine CondG.ff ?_); conv => whnf)
      refine .take 0 ?_
      (conv => whnf); repeat ((first | with_reducible refine CondG.tt ?_ | with_reducible refine CondG.ff ?_); conv => whnf)
      refine ⟨rfl, ?_⟩
      (conv => whnf); repeat ((first | with_reducible refine CondG.tt ?_ | with_reducible refine CondG.ff ?_); conv => whnf)
      refine .take 1 ?_
      (conv => whnf); repeat ((first | with_reducible refine CondG.tt ?_ | with_reducible refine CondG.ff ?_); conv => whnf)
      refine ⟨rfl, ?_⟩
      (conv => whnf); repeat ((first | with_reducible refine CondG.tt ?_ | with_reducible refine CondG.ff ?_); conv => whnf)
      refine .take 3 ?_
      (conv => whnf); repeat ((first | with_reducible refine CondG.tt ?_ | with_reducible refine CondG.ff ?_); conv => whnf)
      refine ⟨rfl, ?_⟩
      (conv => whnf); repeat ((first | with_reducible refine CondG.tt ?_ | with_reducible refine CondG.ff ?_); conv => whnf)
      refine .take 5 ?_
      (conv => whnf); repeat ((first | with_reducible refine CondG.tt ?_ | with_reducible refine CondG.ff ?_); conv => whnf)
      refine ⟨rfl, ?_⟩
      (conv => whnf); repeat ((first | with_reducible refine CondG.tt ?_ | with_reducible refine CondG.ff ?_); conv => whnf)
      refine .take 6 ?_
      (conv => whnf); repeat ((first | with_reducible refine CondG.tt ?_ | with_reducible refine CondG.ff ?_); conv => whnf)
      refine ⟨rfl, ?_⟩
      (conv => whnf); repeat ((first | with_reducible refine CondG.tt ?_ | with_reducible refine CondG.ff ?_); conv => whnf)
      refine .take 2 ?_
      (conv => whnf); repeat ((first | with_reducible refine CondG.tt ?_ | with_reducible refine CondG.ff ?_); conv => whnf)
      refine ⟨rfl, ?_⟩
      (conv => whnf); repeat ((first | with_reducible refine CondG.tt ?_ | with_reducible refine CondG.ff ?_); conv => whnf)
      refine SlcG.rd h2 fun a cap hva hcap => ?_
      (conv => whnf); repeat ((first | with_reducible refine CondG.tt ?_ | with_reducible refine CondG.ff ?_); conv => whnf)
      refine SideG.of (by omega) ?_
      (conv => whnf); repeat ((first | with_reducible refine CondG.tt ?_ | with_reducible refine CondG.ff ?_); conv => whnf)
      refine SliceG.rd (hva ▸ h2) (by omega) (by omega) (by omega) (by omega) fun v1 hv1 _ => ?_
      have hr1 := RdT.cut h1 h3 (l := (0 : Int).toNat) (h := ((half ls.length : Nat) : Int).toNat) (by omega) hv1
      (conv => whnf); repeat ((first | with_reducible refine CondG.tt ?_ | with_reducible refine CondG.ff ?_); conv => whnf)
      refine .take 7 ?_
      (conv => whnf); repeat ((first | with_reducible refine CondG.tt ?_ | with_reducible refine CondG.ff ?_); conv => whnf)
      refine ⟨rfl, ?_⟩
      (conv => whnf); repeat ((first | with_reducible refine CondG.tt ?_ | with_reducible refine CondG.ff ?_); conv => whnf)
      refine SlcG.rd h2 fun a cap hva hcap => ?_
      (conv => whnf); repeat ((first | with_reducible refine CondG.tt ?_ | with_reducible refine CondG.ff ?_); conv => whnf)
      refine SideG.of (by omega) ?_
      (conv => whnf); repeat ((first | with_reducible refine CondG.tt ?_ | with_reducible refine CondG.ff ?_); conv => whnf)
      refine SliceG.rd (hva ▸ h2) (by omega) (by omega) (by omega) (by omega) fun v2 hv2 _ => ?_
      have hr2 := RdT.cut h1 h3 (l := ((half ls.length : Nat) : Int).toNat) (h := ((ls.length : Nat) : Int).toNat) (by omega) hv2
      have e1 : (ls.drop (0 : Int).toNat).take (((half ls.length : Nat) : Int).toNat - (0 : Int).toNat) = ls.take (half ls.length) := by simp
      have e2 : (ls.drop ((half ls.length : Nat) : Int).toNat).take (((ls.length : Nat) : Int).toNat - ((half ls.length : Nat) : Int).toNat) = ls.drop (half ls.length) := by simp [List.take_of_length_le]
      rw [e1] at hr1
      rw [e2] at hr2
      (conv => whnf); repeat ((first | with_reducible refine CondG.tt ?_ | with_reducible refine CondG.ff ?_); conv => whnf)
      refine .all ?_
      (conv => whnf); repeat ((first | with_reducible refine CondG.tt ?_ | with_reducible refine CondG.ff ?_); conv => whnf)
      refine ⟨by decide, ?_⟩
      (conv => whnf); repeat ((first | with_reducible refine CondG.tt ?_ | with_reducible refine CondG.ff ?_); conv => whnf)
      refine CallG.pure (ih _ v1 (ls.take (half ls.length)) i (.right hK _) (.right hr1 _) (by rw [List.length_take]; omega) (by rw [List.length_take]; omega) (by rw [List.length_take]; omega) (fun l hl => hb l (List.mem_of_mem_take hl))) ?_
      rintro r _ ⟨hr, rfl⟩
      (conv => whnf); repeat ((first | with_reducible refine CondG.tt ?_ | with_reducible refine CondG.ff ?_); conv => whnf)
      refine .all ?_
      (conv => whnf); repeat ((first | with_reducible refine CondG.tt ?_ | with_reducible refine CondG.ff ?_); conv => whnf)
      refine ⟨by decide, ?_⟩
      (conv => whnf); repeat ((first | with_reducible refine CondG.tt ?_ | with_reducible refine CondG.ff ?_); conv => whnf)
      refine CallG.pure (troot_spec K hk _ _ v2 (ls.drop (half ls.length)) (.right hK _) (.right hr2 _) (Nat.le_refl _) (by rw [List.length_drop]; omega) (fun l hl => hb l (List.mem_of_mem_drop hl))) ?_
      rintro _ _ ⟨rfl, rfl⟩
      (conv => whnf); repeat ((first | with_reducible refine CondG.tt ?_ | with_reducible refine CondG.ff ?_); conv => whnf)
      refine .all ?_
      (conv => whnf); repeat ((first | with_reducible refine CondG.tt ?_ | with_reducible refine CondG.ff ?_); conv => whnf)
      refine ⟨by decide, ?_⟩
      (conv => whnf); repeat ((first | with_reducible refine CondG.tt ?_ | with_reducible refine CondG.ff ?_); conv => whnf)
      refine BuildG.of (cs := bvs (rootD K (ls.drop (half ls.length)))) (by simp [fillL, Value.cells, bvs_len, rootD_len]) ?_
      (conv => whnf); repeat ((first | with_reducible refine CondG.tt ?_ | with_reducible refine CondG.ff ?_); conv => whnf)
      intro b9
      (conv => whnf); repeat ((first | with_reducible refine CondG.tt ?_ | with_reducible refine CondG.ff ?_); conv => whnf)
      refine .all ?_
      (conv => whnf); repeat ((first | with_reducible refine CondG.tt ?_ | with_reducible refine CondG.ff ?_); conv => whnf)
      refine ⟨by decide, ?_⟩
      (conv => whnf); repeat ((first | with_reducible refine CondG.tt ?_ | with_reducible refine CondG.ff ?_); conv => whnf)
      refine DoesG.ent (Ent.front 1 rfl) ?_
      have hpl2 := pathD_len K (ls.take (half ls.length)).length (ls.take (half ls.length)) i (Nat.le_refl _)
      rw [List.length_take] at hpl2
      refine app_own digsT 33 (m := 1) (ys := bvs (rootD K (ls.drop (half ls.length)))) (.mk _ _ _ _ _ (by decide) (.tl (.left .all _))) (by rw [bvs_len, rootD_len]) (bvs_one _) (by simp only [maxLen]; omega) (by omega) fun r' hr' hlen hnil => ?_
      (conv => whnf); repeat ((first | with_reducible refine CondG.tt ?_ | with_reducible refine CondG.ff ?_); conv => whnf)
      refine .all ?_
      (conv => whnf); repeat ((first | with_reducible refine CondG.tt ?_ | with_reducible refine CondG.ff ?_); conv => whnf)
      refine ⟨by decide, ?_⟩
      (conv => whnf); repeat ((first | with_reducible refine CondG.tt ?_ | with_reducible refine CondG.ff ?_); conv => whnf)
      refine ⟨rfl, ?_⟩
      (conv => whnf); repeat ((first | with_reducible refine CondG.tt ?_ | with_reducible refine CondG.ff ?_); conv => whnf)
      refine ⟨rfl, ?_⟩
      (conv => whnf); repeat ((first | with_reducible refine CondG.tt ?_ | with_reducible refine CondG.ff ?_); conv => whnf)
      have ed : digsC (pathD K (ls.take (half ls.length)) i) ++ bvs (rootD K (ls.drop (half ls.length))) = digsC (pathD K ls i) := by rw [hpt]; simp [digsC]
      have el : (pathD K (ls.take (half ls.length)) i).length + 1 = (pathD K ls i).length := by rw [hpt]; simp
      rw [ed, el]
      rw [el] at hr'
      exact ⟨_, Ent.dropL [_] _, hr', rfl⟩
    · rw [if_neg (by omega)] at hpt
      (conv => whnf); repeat ((first | with_reducible refine CondG.tt ?_ | with_reducible refine CondG.ff ?_); conv => whnf)
      refine DrawG.mk 13 [] [] (Ent.refl _) ?_
      (conv => whnf); repeat ((first | with_reducible refine CondG.tt ?_ | with_reducible refine CondG.ff ?_); conv => whnf)
      refine .take 0 ?_
      (conv => whnf); repeat ((first | with_reducible refine CondG.tt ?_ | with_reducible refine CondG.ff ?_); conv => whnf)
      refine ⟨rfl, ?_⟩
      (conv => whnf); repeat ((first | with_reducible refine CondG.tt ?_ | with_reducible refine CondG.ff ?_); conv => whnf)
      refine .take 1 ?_
      (conv => whnf); repeat ((first | with_reducible refine CondG.tt ?_ | with_reducible refine CondG.ff ?_); conv => whnf)
      refine ⟨rfl, ?_⟩
      (conv => whnf); repeat ((first | with_reducible refine CondG.tt ?_ | with_reducible refine CondG.ff ?_); conv => whnf)
      refine .take 3 ?_
      (conv => whnf); repeat ((first | with_reducible refine CondG.tt ?_ | with_reducible refine CondG.ff ?_); conv => whnf)
      refine ⟨rfl, ?_⟩
      (conv => whnf); repeat ((first | with_reducible refine CondG.tt ?_ | with_reducible refine CondG.ff ?_); conv => whnf)
      refine .take 4 ?_
      (conv => whnf); repeat ((first | with_reducible refine CondG.tt ?_ | with_reducible refine CondG.ff ?_); conv => whnf)
      refine ⟨rfl, ?_⟩
      (conv => whnf); repeat ((first | with_reducible refine CondG.tt ?_ | with_reducible refine CondG.ff ?_); conv => whnf)
      refine .take 7 ?_
      (conv => whnf); repeat ((first | with_reducible refine CondG.tt ?_ | with_reducible refine CondG.ff ?_); conv => whnf)
      refine ⟨rfl, ?_⟩
      (conv => whnf); repeat ((first | with_reducible refine CondG.tt ?_ | with_reducible refine CondG.ff ?_); conv => whnf)
      refine .take 8 ?_
      (conv => whnf); repeat ((first | with_reducible refine CondG.tt ?_ | with_reducible refine CondG.ff ?_); conv => whnf)
      refine ⟨rfl, ?_⟩
      (conv => whnf); repeat ((first | with_reducible refine CondG.tt ?_ | with_reducible refine CondG.ff ?_); conv => whnf)
      refine .take 5 ?_
      (conv => whnf); repeat ((first | with_reducible refine CondG.tt ?_ | with_reducible refine CondG.ff ?_); conv => whnf)
      refine ⟨rfl, ?_⟩
      (conv => whnf); repeat ((first | with_reducible refine CondG.tt ?_ | with_reducible refine CondG.ff ?_); conv => whnf)
      refine ArithG.i64' ((i - half ls.length : Nat) : Int) (by omega) (by omega) ?_
      (conv => whnf); repeat ((first | with_reducible refine CondG.tt ?_ | with_reducible refine CondG.ff ?_); conv => whnf)
      refine .take 2 ?_
      (conv => whnf); repeat ((first | with_reducible refine CondG.tt ?_ | with_reducible refine CondG.ff ?_); conv => whnf)
      refine ⟨rfl, ?_⟩
      (conv => whnf); repeat ((first | with_reducible refine CondG.tt ?_ | with_reducible refine CondG.ff ?_); conv => whnf)
      refine SlcG.rd h2 fun a cap hva hcap => ?_
      (conv => whnf); repeat ((first | with_reducible refine CondG.tt ?_ | with_reducible refine CondG.ff ?_); conv => whnf)
      refine SideG.of (by omega) ?_
      (conv => whnf); repeat ((first | with_reducible refine CondG.tt ?_ | with_reducible refine CondG.ff ?_); conv => whnf)
      refine SliceG.rd (hva ▸ h2) (by omega) (by omega) (by omega) (by omega) fun v2 hv2 _ => ?_
      have hr2 := RdT.cut h1 h3 (l := ((half ls.length : Nat) : Int).toNat) (h := ((ls.length : Nat) : Int).toNat) (by omega) hv2
      (conv => whnf); repeat ((first | with_reducible refine CondG.tt ?_ | with_reducible refine CondG.ff ?_); conv => whnf)
      refine .take 9 ?_
      (conv => whnf); repeat ((first | with_reducible refine CondG.tt ?_ | with_reducible refine CondG.ff ?_); conv => whnf)
      refine ⟨rfl, ?_⟩
      (conv => whnf); repeat ((first | with_reducible refine CondG.tt ?_ | with_reducible refine CondG.ff ?_); conv => whnf)
      refine SlcG.rd h2 fun a cap hva hcap => ?_
      (conv => whnf); repeat ((first | with_reducible refine CondG.tt ?_ | with_reducible refine CondG.ff ?_); conv => whnf)
      refine SideG.of (by omega) ?_
      (conv => whnf); repeat ((first | with_reducible refine CondG.tt ?_ | with_reducible refine CondG.ff ?_); conv => whnf)
      refine SliceG.rd (hva ▸ h2) (by omega) (by omega) (by omega) (by omega) fun v1 hv1 _ => ?_
      have hr1 := RdT.cut h1 h3 (l := (0 : Int).toNat) (h := ((half ls.length : Nat) : Int).toNat) (by omega) hv1
      have e1 : (ls.drop (0 : Int).toNat).take (((half ls.length : Nat) : Int).toNat - (0 : Int).toNat) = ls.take (half ls.length) := by simp
      have e2 : (ls.drop ((half ls.length : Nat) : Int).toNat).take (((ls.length : Nat) : Int).toNat - ((half ls.length : Nat) : Int).toNat) = ls.drop (half ls.length) := by simp [List.take_of_length_le]
      rw [e1] at hr1
      rw [e2] at hr2
      (conv => whnf); repeat ((first | with_reducible refine CondG.tt ?_ | with_reducible refine CondG.ff ?_); conv => whnf)
      refine .all ?_
      (conv => whnf); repeat ((first | with_reducible refine CondG.tt ?_ | with_reducible refine CondG.ff ?_); conv => whnf)
      refine ⟨by decide, ?_⟩
      (conv => whnf); repeat ((first | with_reducible refine CondG.tt ?_ | with_reducible refine CondG.ff ?_); conv => whnf)
      refine CallG.pure (ih _ v2 (ls.drop (half ls.length)) (i - half ls.length) (.right hK _) (.right hr2 _) (by rw [List.length_drop]; omega) (by rw [List.length_drop]; omega) (by rw [List.length_drop]; omega) (fun l hl => hb l (List.mem_of_mem_drop hl))) ?_
      rintro r _ ⟨hr, rfl⟩
      (conv => whnf); repeat ((first | with_reducible refine CondG.tt ?_ | with_reducible refine CondG.ff ?_); conv => whnf)
      refine .all ?_
      (conv => whnf); repeat ((first | with_reducible refine CondG.tt ?_ | with_reducible refine CondG.ff ?_); conv => whnf)
      refine ⟨by decide, ?_⟩
      (conv => whnf); repeat ((first | with_reducible refine CondG.tt ?_ | with_reducible refine CondG.ff ?_); conv => whnf)
      refine CallG.pure (troot_spec K hk _ _ v1 (ls.take (half ls.length)) (.right hK _) (.right hr1 _) (Nat.le_refl _) (by rw [List.length_take]; omega) (fun l hl => hb l (List.mem_of_mem_take hl))) ?_
      rintro _ _ ⟨rfl, rfl⟩
      (conv => whnf); repeat ((first | with_reducible refine CondG.tt ?_ | with_reducible refine CondG.ff ?_); conv => whnf)
      refine .all ?_
      (conv => whnf); repeat ((first | with_reducible refine CondG.tt ?_ | with_reducible refine CondG.ff ?_); conv => whnf)
      refine ⟨by decide, ?_⟩
      (conv => whnf); repeat ((first | with_reducible refine CondG.tt ?_ | with_reducible refine CondG.ff ?_); conv => whnf)
      refine BuildG.of (cs := bvs (rootD K (ls.take (half ls.length)))) (by simp [fillL, Value.cells, bvs_len, rootD_len]) ?_
      (conv => whnf); repeat ((first | with_reducible refine CondG.tt ?_ | with_reducible refine CondG.ff ?_); conv => whnf)
      intro b9
      (conv => whnf); repeat ((first | with_reducible refine CondG.tt ?_ | with_reducible refine CondG.ff ?_); conv => whnf)
      refine .all ?_
      (conv => whnf); repeat ((first | with_reducible refine CondG.tt ?_ | with_reducible refine CondG.ff ?_); conv => whnf)
      refine ⟨by decide, ?_⟩
      (conv => whnf); repeat ((first | with_reducible refine CondG.tt ?_ | with_reducible refine CondG.ff ?_); conv => whnf)
      refine DoesG.ent (Ent.front 1 rfl) ?_
      have hpl2 := pathD_len K (ls.drop (half ls.length)).length (ls.drop (half ls.length)) (i - half ls.length) (Nat.le_refl _)
      rw [List.length_drop] at hpl2
      refine app_own digsT 33 (m := 1) (ys := bvs (rootD K (ls.take (half ls.length)))) (.mk _ _ _ _ _ (by decide) (.tl (.left .all _))) (by rw [bvs_len, rootD_len]) (bvs_one _) (by simp only [maxLen]; omega) (by omega) fun r' hr' hlen hnil => ?_
      (conv => whnf); repeat ((first | with_reducible refine CondG.tt ?_ | with_reducible refine CondG.ff ?_); conv => whnf)
      refine .all ?_
      (conv => whnf); repeat ((first | with_reducible refine CondG.tt ?_ | with_reducible refine CondG.ff ?_); conv => whnf)
      refine ⟨by decide, ?_⟩
      (conv => whnf); repeat ((first | with_reducible refine CondG.tt ?_ | with_reducible refine CondG.ff ?_); conv => whnf)
      refine ⟨rfl, ?_⟩
      (conv => whnf); repeat ((first | with_reducible refine CondG.tt ?_ | with_reducible refine CondG.ff ?_); conv => whnf)
      refine ⟨rfl, ?_⟩
      (conv => whnf); repeat ((first | with_reducible refine CondG.tt ?_ | with_reducible refine CondG.ff ?_); conv => whnf)
      have ed : digsC (pathD K (ls.drop (half ls.length)) (i - half ls.length)) ++ bvs (rootD K (ls.take (half ls.length))) = digsC (pathD K ls i) := by rw [hpt]; simp [digsC]
      have el : (pathD K (ls.drop (half ls.length)) (i - half ls.length)).length + 1 = (pathD K ls i).length := by rw [hpt]; simp
      rw [ed, el]
      rw [el] at hr'
      exact ⟨_, Ent.dropL [_] _, hr', rfl⟩
theorem tPath_spec (F : List HP) (v : Value) (ls : List (List Nat)) (i : Nat) (hK : CelN F 4 0 (wvs K)) (hv : RdT F v ls) (hl : ls.length ≤ 1099511627776) (hi : i < ls.length) (hb : ∀ l ∈ ls, l.length ≤ 1099511627776 ∧ ∀ b ∈ l, b < 256) :
    SpecF Tryd.prog 63 [v, .int .i64 i] F [] (fun r L => ∃ x, SlV x (pathD K ls i).length ∧ r = .tuple #[x, .int .i64 0] ∧ L = [own 32 x (pathD K ls i).length (digsC (pathD K ls i))]) := by
  obtain ⟨us, h1, h2, h3⟩ := hv.out
  refine fun63.spec rfl ?_
  (conv => whnf); repeat ((first | with_reducible refine CondG.tt ?_ | with_reducible refine CondG.ff ?_); conv => whnf)
  refine CondG.decF (by omega) ?_
  (conv => whnf); repeat ((first | with_reducible refine CondG.tt ?_ | with_reducible refine CondG.ff ?_); conv => whnf)
  refine LenG.rd h2 ?_
  (conv => whnf); repeat ((first | with_reducible refine CondG.tt ?_ | with_reducible refine CondG.ff ?_); conv => whnf)
  refine CondG.decF (by omega) ?_
  (conv => whnf); repeat ((first | with_reducible refine CondG.tt ?_ | with_reducible refine CondG.ff ?_); conv => whnf)
  refine CallG.pure (tpath_spec K hk _ _ v ls i (.right hK _) (.right hv _) (Nat.le_refl _) hl hi hb) ?_
  rintro r _ ⟨hr, rfl⟩
  (conv => whnf); repeat ((first | with_reducible refine CondG.tt ?_ | with_reducible refine CondG.ff ?_); conv => whnf)
  exact ret_here ⟨r, hr, rfl, rfl⟩
end
end Go.Proofs.YthdpknlnpeaiiaaDoor
