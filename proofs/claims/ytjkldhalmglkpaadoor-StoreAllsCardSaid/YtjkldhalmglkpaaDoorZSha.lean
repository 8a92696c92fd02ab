import Derived.Test.YtjkldhalmglkpaaDoorZWl
namespace Go.Sl
open Go
abbrev W32 := BitVec 32
def wv (x : W32) : Value := .int .u32 x.toNat
def wvs (l : List W32) : List Value := l.map wv
theorem wvs_len (l : List W32) : (wvs l).length = l.length := by simp [wvs]
theorem wvs_one (l : List W32) : ∀ u ∈ wvs l, u.oneCell' = true := fun u hu => by
 obtain ⟨b, _, rfl⟩ := List.mem_map.1 hu
 rfl
theorem w32_wrap (z : Int) : IntKind.u32.wrap z = z % 4294967296 := rfl
theorem w32_of (x : W32) : BitVec.ofInt 32 (x.toNat : Int) = x := by
 apply BitVec.eq_of_toNat_eq
 simp
theorem w32_id (x : W32) : IntKind.u32.wrap (x.toNat : Int) = x.toNat := by
 rw [w32_wrap]
 have := x.isLt
 omega
theorem w32_add (x y : W32) : IntKind.u32.wrap ((x.toNat : Int) + (y.toNat : Int)) = ((x + y).toNat : Int) := by
 rw [w32_wrap, BitVec.toNat_add]
 omega
theorem w32_and (x y : W32) : IntKind.u32.wrap ((BitVec.ofInt IntKind.u32.bits (x.toNat : Int) &&& BitVec.ofInt IntKind.u32.bits (y.toNat : Int)).toNat : Int) = ((x &&& y).toNat : Int) := by
 show IntKind.u32.wrap ((BitVec.ofInt 32 (x.toNat : Int) &&& BitVec.ofInt 32 (y.toNat : Int)).toNat : Int) = _
 rw [w32_of, w32_of, w32_id]
theorem w32_or (x y : W32) : IntKind.u32.wrap ((BitVec.ofInt IntKind.u32.bits (x.toNat : Int) ||| BitVec.ofInt IntKind.u32.bits (y.toNat : Int)).toNat : Int) = ((x ||| y).toNat : Int) := by
 show IntKind.u32.wrap ((BitVec.ofInt 32 (x.toNat : Int) ||| BitVec.ofInt 32 (y.toNat : Int)).toNat : Int) = _
 rw [w32_of, w32_of, w32_id]
theorem w32_xor (x y : W32) : IntKind.u32.wrap ((BitVec.ofInt IntKind.u32.bits (x.toNat : Int) ^^^ BitVec.ofInt IntKind.u32.bits (y.toNat : Int)).toNat : Int) = ((x ^^^ y).toNat : Int) := by
 show IntKind.u32.wrap ((BitVec.ofInt 32 (x.toNat : Int) ^^^ BitVec.ofInt 32 (y.toNat : Int)).toNat : Int) = _
 rw [w32_of, w32_of, w32_id]
theorem w32_not (x : W32) : IntKind.u32.wrap ((BitVec.ofInt IntKind.u32.bits (if IntKind.u32.signed then -1 else IntKind.u32.max) ^^^ BitVec.ofInt IntKind.u32.bits (x.toNat : Int)).toNat : Int) = ((~~~x).toNat : Int) := by
 show IntKind.u32.wrap ((BitVec.ofInt 32 (4294967295 : Int) ^^^ BitVec.ofInt 32 (x.toNat : Int)).toNat : Int) = _
 rw [w32_of]
 have e : BitVec.ofInt 32 (4294967295 : Int) = BitVec.allOnes 32 := by decide
 rw [e, BitVec.allOnes_xor, w32_id]
theorem w32_shl (x : W32) (s : Nat) : IntKind.u32.wrap ((x.toNat : Int) * 2 ^ s) = ((x <<< s).toNat : Int) := by
 rw [w32_wrap, BitVec.toNat_shiftLeft, Nat.shiftLeft_eq, Int.natCast_emod, Int.natCast_mul, Int.natCast_pow]
 rfl
theorem w32_shr (x : W32) (s : Nat) : (x.toNat : Int).fdiv (2 ^ s) = ((x >>> s).toNat : Int) := by
 rw [BitVec.toNat_ushiftRight, Nat.shiftRight_eq_div_pow, Int.fdiv_eq_ediv_of_nonneg _ (Int.pow_nonneg (by decide)), Int.natCast_ediv, Int.natCast_pow]
 rfl
theorem ArithG.w {z : Int} (y : W32) {K : Int → Prop} (h : IntKind.u32.wrap z = (y.toNat : Int)) (hk : K (y.toNat : Int)) : ArithG .u32 z K := ⟨by rw [h]; exact hk⟩
def rotl (x : W32) (s : Nat) : W32 := x <<< s ||| x >>> (32 - s)
def w16 (p : List Nat) (t : Nat) : W32 := ((BitVec.ofNat 32 (p.getD (4 * t) 0) <<< 24 ||| BitVec.ofNat 32 (p.getD (4 * t + 1) 0) <<< 16) ||| BitVec.ofNat 32 (p.getD (4 * t + 2) 0) <<< 8) ||| BitVec.ofNat 32 (p.getD (4 * t + 3) 0)
def sig1 (x : W32) : W32 := (rotl x 15 ^^^ rotl x 13) ^^^ (x >>> 10)
def sig0 (x : W32) : W32 := (rotl x 25 ^^^ rotl x 14) ^^^ (x >>> 3)
def nextW (p : List Nat) (l : List W32) (t : Nat) : W32 := if t < 16 then w16 p t else ((sig1 (l.getD (t - 2) 0) + l.getD (t - 7) 0) + sig0 (l.getD (t - 15) 0)) + l.getD (t - 16) 0
def wl (p : List Nat) : Nat → List W32
 | 0 => []
 | t + 1 => wl p t ++ [nextW p (wl p t) t]
theorem wl_len (p : List Nat) (t : Nat) : (wl p t).length = t := by
 induction t with
 | zero => rfl
 | succ t ih => simp [wl, ih]
def padW (l : List W32) (n : Nat) : List W32 := l ++ List.replicate (n - l.length) 0
theorem padW_len {l : List W32} {n : Nat} (h : l.length ≤ n) : (padW l n).length = n := by simp [padW]; omega
theorem padW_set {l : List W32} {n : Nat} {x : W32} (h : l.length < n) : (wvs (padW l n)).set l.length (wv x) = wvs (padW (l ++ [x]) n) := by
 obtain ⟨k, hk⟩ : ∃ k, n - l.length = k + 1 := ⟨n - l.length - 1, by omega⟩
 have h2 : n - (l ++ [x]).length = k := by simp; omega
 simp only [padW, hk, h2, List.replicate_succ, wvs, List.map_append, List.map_cons]
 rw [List.set_append_right _ _ (by simp)]
 simp
theorem padW_get {l : List W32} {n i : Nat} (h : i < l.length) : (wvs (padW l n))[i]? = some (wv (l.getD i 0)) := by
 simp only [wvs, padW, List.getElem?_map]
 rw [List.getElem?_append_left h]
 simp [List.getD, h]
theorem padW_full {l : List W32} : padW l l.length = l := by simp [padW]
structure R8 where
 a : W32
 b : W32
 c : W32
 d : W32
 e : W32
 f : W32
 g : W32
 h : W32
def rndX (k w : W32) (s : R8) : W32 := ((rotl s.e 26 ^^^ rotl s.e 21) ^^^ rotl s.e 7) + (((s.h + ((s.e &&& s.f) ^^^ (~~~s.e &&& s.g))) + k) + w)
def rndY (s : R8) : W32 := ((rotl s.a 30 ^^^ rotl s.a 19) ^^^ rotl s.a 10) + (((s.a &&& s.b) ^^^ (s.a &&& s.c)) ^^^ (s.b &&& s.c))
def rnd (k w : W32) (s : R8) : R8 := ⟨rndX k w s + rndY s, s.a, s.b, s.c, s.d + rndX k w s, s.e, s.f, s.g⟩
def rounds (K W : List W32) (s : R8) : Nat → R8
 | 0 => s
 | t + 1 => rnd (K.getD t 0) (W.getD t 0) (rounds K W s t)
def R8.of (s : List W32) : R8 := ⟨s.getD 0 0, s.getD 1 0, s.getD 2 0, s.getD 3 0, s.getD 4 0, s.getD 5 0, s.getD 6 0, s.getD 7 0⟩
def R8.list (r : R8) : List W32 := [r.a, r.b, r.c, r.d, r.e, r.f, r.g, r.h]
def takeS (K : List W32) (s : List W32) (p : List Nat) : List W32 := List.zipWith (· + ·) s (rounds K (wl p 64) (R8.of s) 64).list
theorem rd_byte {p : List Nat} {i : Nat} (h : i < p.length) : (bvs p)[i]? = some (bv (p.getD i 0)) := by
 rw [bvs_get h]
 simp [List.getD, h]
theorem w32_byte {b : Nat} (h : b < 256) : (b : Int) = ((BitVec.ofNat 32 b).toNat : Int) := by
 rw [BitVec.toNat_ofNat]
 omega
theorem ArithG.shl (x : W32) {m : Int} (s : Nat) (h : min m.toNat 32 = s) {K : Int → Prop} (hk : K ((x <<< s).toNat : Int)) : ArithG .u32 ((x.toNat : Int) * 2 ^ (min m.toNat IntKind.u32.bits)) K := by
 refine ArithG.w (x <<< s) ?_ hk
 show IntKind.u32.wrap ((x.toNat : Int) * 2 ^ (min m.toNat 32)) = _
 rw [h]; exact w32_shl x s
theorem ArithG.cv {b : Nat} (h : b < 256) {K : Int → Prop} (hk : K ((BitVec.ofNat 32 b).toNat : Int)) : ArithG .u32 (b : Int) K := by
 refine ArithG.w (BitVec.ofNat 32 b) ?_ hk
 rw [w32_byte h, w32_id]
theorem w32_shr' (x : W32) {m : Int} (s : Nat) (h : min m.toNat 32 = s) : (x.toNat : Int).fdiv (2 ^ (min m.toNat IntKind.u32.bits)) = ((x >>> s).toNat : Int) := by
 show (x.toNat : Int).fdiv (2 ^ (min m.toNat 32)) = _
 rw [h]; exact w32_shr x s
theorem DoesG.idx1 {P : Program} {F L : List HP} {t e : TypeId} {n : Nat} {cs : List Value} {kd : IntKind} {i : Int} {u : Value} (ht : P.underlying t = some (.array n e)) (hs : sizeT P e = some 1) (ha : aggT P e = some none) (hi : 0 ≤ i ∧ i < (n : Int)) (hu : cs[i.toNat]? = some u)
 {k : Value → List HP → Prop} (hk : k u L) : DoesG P F (Instr.index t (.agg ⟨cs⟩) (.int kd i)) L k := ⟨fun w h => by
 refine ⟨u, L, w, ?_, Ext.refl w, h, hk⟩
 have hv : (⟨cs⟩ : Array Value)[i.toNat * 1]? = some u := by simpa using hu
 have hp := run_part_one (w := w) ha ⟨cs⟩ (i.toNat * 1) hv
 simp only [Nat.mul_one] at hp
 simp [Instr.index, asIntOf, run_und ht, hi, run_size hs, hp]⟩
theorem takeS_get {K s : List W32} {p : List Nat} {i : Nat} (hs : s.length = 8) (hi : i < 8) : (takeS K s p).getD i 0 = s.getD i 0 + (rounds K (wl p 64) (R8.of s) 64).list.getD i 0 := by
 have hl : (rounds K (wl p 64) (R8.of s) 64).list.length = 8 := rfl
 unfold takeS
 simp only [List.getD_eq_getElem?_getD, List.getElem?_zipWith]
 rw [List.getElem?_eq_getElem (by omega : i < s.length), List.getElem?_eq_getElem (by omega : i < (rounds K (wl p 64) (R8.of s) 64).list.length)]
 rfl
theorem takeS_len {K s : List W32} {p : List Nat} (hs : s.length = 8) : (takeS K s p).length = 8 := by
 have hl : (rounds K (wl p 64) (R8.of s) 64).list.length = 8 := rfl
 simp [takeS, hs, hl]
def mixW (a b : List W32) (i : Nat) : List W32 := a.take i ++ b.drop i
theorem mixW_set {a b : List W32} {i : Nat} (h : a.length = b.length) (hi : i < b.length) : (wvs (mixW a b i)).set i (wv (a.getD i 0)) = wvs (mixW a b (i + 1)) := by
 have h1 : (a.take i).length = i := by simp; omega
 have h2 : b.drop i = b[i] :: b.drop (i + 1) := List.drop_eq_getElem_cons hi
 have h3 : a.take (i + 1) = a.take i ++ [a.getD i 0] := by
  rw [List.take_succ_eq_append_getElem (by omega)]
  simp [List.getD, List.getElem?_eq_getElem (by omega : i < a.length)]
 simp only [mixW, wvs, List.map_append, h3, h2, List.map_cons]
 rw [List.set_append_right _ _ (by simp; omega)]
 simp [List.length_map, h1]
 rw [show i - min i a.length = 0 by omega]
 simp
theorem mixW_get {a b : List W32} {i : Nat} (h : a.length = b.length) (hi : i < b.length) : (wvs (mixW a b i))[i]? = some (wv (b.getD i 0)) := by
 have h1 : (a.take i).length = i := by simp; omega
 simp only [mixW, wvs, List.getElem?_map]
 rw [List.getElem?_append_right (by omega), h1]
 simp [List.getD, hi]
theorem mixW_len {a b : List W32} {i : Nat} (h : a.length = b.length) (hi : i ≤ b.length) : (mixW a b i).length = b.length := by simp [mixW]; omega
theorem rounds_succ (K W : List W32) (s : R8) (t : Nat) : rounds K W s (t + 1) = rnd (K.getD t 0) (W.getD t 0) (rounds K W s t) := rfl
end Go.Sl
