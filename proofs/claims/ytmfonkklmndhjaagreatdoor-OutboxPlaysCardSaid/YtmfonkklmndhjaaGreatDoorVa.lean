import Derived.Test.YtmfonkklmndhjaaGreatDoorTe
import Derived.Test.YtmfonkklmndhjaaGreatDoorZOq
import Derived.Test.YtmfonkklmndhjaaGreatDoorZTt
namespace Go.Proofs.YtmfonkklmndhjaaGreatDoor
open Go Go.Sl
theorem u64_and {x y : Nat} (hx : x < 18446744073709551616) (hy : y < 18446744073709551616) : IntKind.u64.wrap ((BitVec.ofInt IntKind.u64.bits (x : Int) &&& BitVec.ofInt IntKind.u64.bits (y : Int)).toNat : Int) = ((x &&& y : Nat) : Int) := by
 have e : (BitVec.ofInt IntKind.u64.bits (x : Int) &&& BitVec.ofInt IntKind.u64.bits (y : Int)).toNat = x &&& y := by
  show (BitVec.ofInt 64 (x : Int) &&& BitVec.ofInt 64 (y : Int)).toNat = _
  rw [BitVec.ofInt_natCast, BitVec.ofInt_natCast, BitVec.toNat_and, BitVec.toNat_ofNat, BitVec.toNat_ofNat, Nat.mod_eq_of_lt hx, Nat.mod_eq_of_lt hy]
 rw [e]
 have := Nat.and_le_left (n := x) (m := y)
 exact u_wrap (k := .u64) rfl (by omega) (by show ((x &&& y : Nat) : Int) < 2 ^ 64; omega)
theorem i64_and {x : Nat} (hx : x < 9223372036854775808) : IntKind.i64.wrap ((BitVec.ofInt IntKind.i64.bits (x : Int) &&& BitVec.ofInt IntKind.i64.bits 127).toNat : Int) = ((x % 128 : Nat) : Int) := by
 have e : (BitVec.ofInt IntKind.i64.bits (x : Int) &&& BitVec.ofInt IntKind.i64.bits 127).toNat = x % 128 := by
  show (BitVec.ofInt 64 (x : Int) &&& BitVec.ofInt 64 ((127 : Nat) : Int)).toNat = _
  rw [BitVec.ofInt_natCast, BitVec.ofInt_natCast, BitVec.toNat_and, BitVec.toNat_ofNat, BitVec.toNat_ofNat, Nat.mod_eq_of_lt (by omega), Nat.mod_eq_of_lt (by decide)]
  exact Nat.and_two_pow_sub_one_eq_mod x 7
 rw [e]
 exact i64_wrap (by omega) (by omega)
theorem ones64_spec (F : List HP) (x : Nat) (h : x < 18446744073709551616) : SpecF Tryz.prog 105 [.int .u64 x] F [] (fun v L => v = .int .i64 (ones x) ∧ L = []) := by
 obtain ⟨b1, b2, b3⟩ := swar_bound h
 rw [← pop9 h]
 have e0 : ((6148914691236517205 : Nat) : Int) = 6148914691236517205 := rfl
 have e1 : ((3689348814741910323 : Nat) : Int) = 3689348814741910323 := rfl
 have e2 : ((1085102592571150095 : Nat) : Int) = 1085102592571150095 := rfl
 refine fun105.spec rfl ?_
 conv=>whnf
 refine SideG.of (by decide) ?_
 rw [show ((x : Nat) : Int).fdiv (2 ^ (min (1 : Int).toNat IntKind.u64.bits)) = ((x / 2 : Nat) : Int) from shr64 x 1 (by decide)]
 conv=>whnf
 rw [← e0, u64_and (by omega) (by decide), u64_and h (by decide)]
 refine ArithG.u64 (by show 0 ≤ ((sw1 x : Nat) : Int) ∧ ((sw1 x : Nat) : Int) < _; omega) ?_
 rw [show ((x / 2 &&& 6148914691236517205 : Nat) : Int) + ((x &&& 6148914691236517205 : Nat) : Int) = ((sw1 x : Nat) : Int) from rfl]
 conv=>whnf
 refine SideG.of (by decide) ?_
 rw [show ((sw1 x : Nat) : Int).fdiv (2 ^ (min (2 : Int).toNat IntKind.u64.bits)) = ((sw1 x / 4 : Nat) : Int) from shr64 (sw1 x) 2 (by decide)]
 conv=>whnf
 rw [← e1, u64_and (by omega) (by decide), u64_and b1 (by decide)]
 refine ArithG.u64 (by show 0 ≤ ((sw2 (sw1 x) : Nat) : Int) ∧ ((sw2 (sw1 x) : Nat) : Int) < _; omega) ?_
 rw [show ((sw1 x / 4 &&& 3689348814741910323 : Nat) : Int) + ((sw1 x &&& 3689348814741910323 : Nat) : Int) = ((sw2 (sw1 x) : Nat) : Int) from rfl]
 generalize sw2 (sw1 x) = y at b2 b3 ⊢
 conv=>whnf
 refine SideG.of (by decide) ?_
 rw [show ((y : Nat) : Int).fdiv (2 ^ (min (4 : Int).toNat IntKind.u64.bits)) = ((y / 16 : Nat) : Int) from shr64 y 4 (by decide)]
 conv=>whnf
 refine ArithG.u64 (by omega) ?_
 conv=>whnf
 rw [← e2, show ((y / 16 : Nat) : Int) + (y : Int) = ((y / 16 + y : Nat) : Int) from rfl, u64_and (by omega) (by decide), show ((y / 16 + y &&& 1085102592571150095 : Nat) : Int) = ((sw3 y : Nat) : Int) from rfl]
 unfold fold9
 generalize sw3 y = z at b3 ⊢
 conv=>whnf
 refine SideG.of (by decide) ?_
 rw [show ((z : Nat) : Int).fdiv (2 ^ (min (8 : Int).toNat IntKind.u64.bits)) = ((z / 256 : Nat) : Int) from shr64 z 8 (by decide)]
 conv=>whnf
 refine ArithG.u64 (by omega) ?_
 rw [show ((z : Nat) : Int) + ((z / 256 : Nat) : Int) = ((z + z / 256 : Nat) : Int) from rfl]
 generalize hy : z + z / 256 = y2
 conv=>whnf
 refine SideG.of (by decide) ?_
 rw [show ((y2 : Nat) : Int).fdiv (2 ^ (min (16 : Int).toNat IntKind.u64.bits)) = ((y2 / 65536 : Nat) : Int) from shr64 y2 16 (by decide)]
 conv=>whnf
 refine ArithG.u64 (by omega) ?_
 rw [show ((y2 : Nat) : Int) + ((y2 / 65536 : Nat) : Int) = ((y2 + y2 / 65536 : Nat) : Int) from rfl]
 generalize hz : y2 + y2 / 65536 = z2
 conv=>whnf
 refine SideG.of (by decide) ?_
 rw [show ((z2 : Nat) : Int).fdiv (2 ^ (min (32 : Int).toNat IntKind.u64.bits)) = ((z2 / 4294967296 : Nat) : Int) from shr64 z2 32 (by decide)]
 conv=>whnf
 refine ArithG.u64 (by omega) ?_
 rw [show ((z2 : Nat) : Int) + ((z2 / 4294967296 : Nat) : Int) = ((z2 + z2 / 4294967296 : Nat) : Int) from rfl]
 conv=>whnf
 refine ArithG.i64 (by omega) ?_
 conv=>whnf
 rw [i64_and (by omega)]
 conv=>whnf
 subst hz hy
 exact ret_here ⟨rfl, rfl⟩
theorem onesc_spec (F : List HP) (x : Nat) (h : x < 18446744073709551616) : SpecF Tryz.prog 87 [.int .u64 x] F [] (fun v L => v = .int .i64 (ones x) ∧ L = []) := by
 refine fun87.spec rfl ?_
 (conv=>whnf);refine .ff ?_;(conv=>whnf)
 refine CallG.pure (ones64_spec _ x h) ?_
 rintro _ _ ⟨rfl, rfl⟩
 conv=>whnf
 exact ret_here ⟨rfl, rfl⟩
theorem neg64 {y : Nat} (h0 : 0 < y) (h : y < 18446744073709551616) : IntKind.u64.wrap (0 - (y : Int)) = ((18446744073709551616 - y : Nat) : Int) := by
 show (0 - (y : Int)) % 18446744073709551616 = _
 omega
theorem low64 {n : Nat} (h : n ≤ 1099511627776) : (18446744073709551615 - n &&& (18446744073709551616 - (18446744073709551615 - n))) = 2 ^ trail n ∧ trail n < 64 ∧ 2 ^ trail n < 18446744073709551616 := by
 have ht := trail_ctz64 h
 have e64 : (2 : Nat) ^ 64 = 18446744073709551616 := by decide
 generalize hy : 18446744073709551615 - n = y at ht ⊢
 have := Lib.lowest_bit 64 y (by omega) (by rw [e64]; omega)
 rw [ht, e64] at this
 have hp : 2 ^ trail n < 2 ^ 64 := Nat.pow_lt_pow_right (by decide) this.2
 rw [e64] at hp
 exact ⟨this.1, this.2, hp⟩
theorem mul64 (z : Nat) : IntKind.u64.wrap ((z : Int) * 285870213051353865) = ((z * 285870213051353865 % 18446744073709551616 : Nat) : Int) := by
 show ((z : Int) * 285870213051353865) % 18446744073709551616 = _
 omega
theorem tab_at {j k : Nat} (h1 : j < 64) (h2 : Lib.deBruijn64tab.getD j 0 = k) : Lib.deBruijn64tab[j]? = some k := by
 have h : ∀ l : List Nat, j < l.length → l.getD j 0 = k → l[j]? = some k := fun l hl e => by
  rw [List.getD_eq_getElem?_getD, List.getElem?_eq_getElem hl] at e
  rw [List.getElem?_eq_getElem hl, ← e]
  rfl
 refine h _ ?_ h2
 have hl : Lib.deBruijn64tab.length = 64 := by decide
 rw [hl]
 exact h1
theorem trail64_spec (F : List HP) (hT : CelN F 1 0 (bvs Lib.deBruijn64tab)) (n : Nat) (h : n ≤ 1099511627776) : SpecF Tryz.prog 91 [.int .u64 ((18446744073709551615 - n : Nat) : Int)] F [] (fun v L => v = .int .i64 (trail n) ∧ L = []) := by
 obtain ⟨l1, l2, hp⟩ := low64 h
 obtain ⟨d1, d2⟩ := Lib.deBruijn64_at (trail n) l2
 generalize hy : 18446744073709551615 - n = y at l1 ⊢
 generalize hz : 2 ^ trail n = z at l1 d1 d2 hp ⊢
 refine fun91.spec rfl ?_
 conv=>whnf
 refine CondG.decF (by omega) ?_
 conv=>whnf
 refine ⟨?_⟩
 rw [neg64 (by omega) (by omega)]
 conv=>whnf
 rw [u64_and (by omega) (by omega), l1]
 refine ⟨?_⟩
 rw [mul64]
 conv=>whnf
 refine SideG.of (by decide) ?_
 rw [show ((z * 285870213051353865 % 18446744073709551616 : Nat) : Int).fdiv (2 ^ (min (58 : Int).toNat IntKind.u64.bits)) = ((z * 285870213051353865 % 18446744073709551616 / 288230376151711744 : Nat) : Int) from shr64 _ 58 (by decide)]
 generalize z * 285870213051353865 % 18446744073709551616 / 288230376151711744 = j at d1 d2 ⊢
 conv=>whnf
 refine SideG.of (by omega) ?_
 conv=>whnf
 refine LoadG.atF (v := .int .u8 ((trail n : Nat) : Int)) ?_ ?_
 ·have hg := tab_at d1 d2
  have := hT.one (i := j) (u := .int .u8 ((trail n : Nat) : Int)) (by rw [bvs, List.getElem?_map, hg]; rfl)
  rw [Nat.zero_add] at this ⊢
  rw [Int.toNat_natCast, Nat.mul_one]
  exact this
 conv=>whnf
 refine ArithG.i64 (by omega) ?_
 conv=>whnf
 exact ret_here ⟨rfl, rfl⟩
theorem trailc_spec (F : List HP) (hT : CelN F 1 0 (bvs Lib.deBruijn64tab)) (n : Nat) (h : n ≤ 1099511627776) : SpecF Tryz.prog 66 [.int .u64 ((18446744073709551615 - n : Nat) : Int)] F [] (fun v L => v = .int .i64 (trail n) ∧ L = []) := by
 refine fun66.spec rfl ?_
 (conv=>whnf);refine .ff ?_;(conv=>whnf)
 refine CallG.pure (trail64_spec _ hT n h) ?_
 rintro _ _ ⟨rfl, rfl⟩
 conv=>whnf
 exact ret_here ⟨rfl, rfl⟩
theorem digs_one9 (p : List (List Nat)) : ∀ u ∈ digsC p, u.oneCell' = true := by
 intro u hu
 obtain ⟨d, _, hd⟩ := List.mem_flatMap.1 hu
 exact bvs_one _ u hd
theorem digs_len9 {p : List (List Nat)} (h : ∀ d ∈ p, Dg9 d) : (digsC p).length = p.length * 32 := digs_len fun d hd => (h d hd).len
theorem tclone_spec (F : List HP) (v : Value) (fs : List (List Nat)) (hf : ∀ d ∈ fs, Dg9 d) (hl : fs.length ≤ 64) (hv : RdS F v fs.length (digsC fs)) :
 SpecF Tryz.prog 88 [v] F [] (fun r L => SlV r fs.length ∧ L = [own 32 r fs.length (digsC fs)]) := by
 refine fun88.spec rfl ?_
 conv=>whnf
 refine NilG.rd hv fun b hb => ?_
 conv=>whnf
 refine CondG.split (fun h => ?_) (fun h => ?_)
 ·have e := hb.1 h
  subst e
  have hz : fs = [] := List.eq_nil_of_length_eq_zero (hv.nilE rfl).1
  subst hz
  conv=>whnf
  exact ⟨[own 32 (.slice none 0 0) 0 []], fun w G hs => Sat.own_nil hs, .inl ⟨rfl, rfl⟩, rfl⟩
 ·conv=>whnf
  refine BuildG.of rfl ?_
  conv=>whnf
  intro b1
  conv=>whnf
  refine DoesG.ent (own_of_cel (sz := 32) (n := 0) rfl (by decide)) ?_
  refine app_own digsT 109 (hv.tl) (digs_len9 hf) (digs_one9 _) (by simp only [maxLen]; omega) (by omega) fun r hr hlen hnil => ?_
  conv=>whnf
  refine ret_here ⟨?_, ?_⟩
  ·simpa [retV] using hr
  ·simp [retV]
def logP (lv : Nat) (fv : Value) (l : LogD) : List HP := [cel lv 140 [.int .i64 l.n, fv], own 32 fv l.fs.length (digsC l.fs)]
theorem tnew_spec (F : List HP) : SpecF Tryz.prog 63 [] F [] (fun r L => ∃ lv, r = .pointer (some ⟨lv, 0, none⟩) ∧ L = logP lv (.slice none 0 0) log0) := by
 refine fun63.spec rfl ?_
 conv=>whnf
 refine BuildG.of rfl ?_
 conv=>whnf
 intro b1
 conv=>whnf
 exact ⟨logP b1 (.slice none 0 0) log0, Ent.trans (fun w G hs => Sat.own_nil (sz := 32) hs) (Ent.perm (.swap _ _ _)), b1, rfl, rfl⟩
theorem ones_lt {n : Nat} (h : n ≤ 1099511627776) : ones n ≤ 41 := ones_le 41 n (by omega)
theorem resume_spec (F : List HP) (n : Nat) (hn : n < 72057594037927936) (v : Value) (fs : List (List Nat)) (hf : ∀ d ∈ fs, Dg9 d) (hv : RdS F v fs.length (digsC fs)) :
 SpecF Tryz.prog 64 [.int .i64 n, v] F [] (fun r L => (1099511627776 < n ∧ r = .tuple #[.pointer none, .int .i64 40] ∧ L = []) ∨ (n ≤ 1099511627776 ∧ fs.length ≠ ones n ∧ r = .tuple #[.pointer none, .int .i64 42] ∧ L = []) ∨
  (n ≤ 1099511627776 ∧ fs.length = ones n ∧ ∃ lv fv, SlV fv fs.length ∧ r = .tuple #[.pointer (some ⟨lv, 0, none⟩), .int .i64 0] ∧ L = logP lv fv ⟨n, fs⟩)) := by
 refine fun64.spec rfl ?_
 conv=>whnf
 refine CondG.dec (fun h1 => ?_) (fun h1 => ?_)
 ·omega
 (conv=>whnf);refine .ff ?_;(conv=>whnf);refine .ff ?_;(conv=>whnf)
 refine CondG.dec (fun h2 => ?_) (fun h2 => ?_)
 ·conv=>whnf
  exact ret_here (.inl ⟨by omega, rfl, rfl⟩)
 have h3 := ones_lt (n := n) (by omega)
 conv=>whnf
 refine LenG.rd hv ?_
 conv=>whnf
 refine ArithG.u64 (by omega) ?_
 conv=>whnf
 refine CallG.pure (onesc_spec _ n (by omega)) ?_
 rintro _ _ ⟨rfl, rfl⟩
 conv=>whnf
 refine CondG.ndec (fun h4 => ?_) (fun h4 => ?_)
 ·conv=>whnf
  exact ret_here (.inr (.inl ⟨by omega, by omega, rfl, rfl⟩))
 ·conv=>whnf
  refine CallG.pure (tclone_spec _ v fs hf (by omega) hv) ?_
  rintro r _ ⟨hr, rfl⟩
  conv=>whnf
  refine BuildG.of (cs := [.int .i64 n, r]) (by obtain ⟨rfl, _⟩ | ⟨_, _, rfl, _⟩ := hr <;> rfl) ?_
  conv=>whnf
  intro b2
  conv=>whnf
  exact ret_here (.inr (.inr ⟨by omega, by omega, b2, r, hr, rfl, rfl⟩))
theorem lsize_spec (F : List HP) (lv n : Nat) (fv : Value) (h : CelN F lv 0 [.int .i64 n, fv]) : SpecF Tryz.prog 38 [.pointer (some ⟨lv, 0, none⟩)] F [] (fun r L => r = .int .i64 n ∧ L = []) := by
 refine fun38.spec rfl ?_
 conv=>whnf
 refine LoadG.atF (v := .int .i64 n) (h.one (i := 0) rfl) ?_
 conv=>whnf
 exact ret_here ⟨rfl, rfl⟩
theorem lfront_spec (F : List HP) (lv : Nat) (n : Int) (fv : Value) (fs : List (List Nat)) (h : CelN F lv 0 [.int .i64 n, fv]) (hf : ∀ d ∈ fs, Dg9 d) (hl : fs.length ≤ 64) (hv : RdS F fv fs.length (digsC fs)) :
 SpecF Tryz.prog 70 [.pointer (some ⟨lv, 0, none⟩)] F [] (fun r L => SlV r fs.length ∧ L = [own 32 r fs.length (digsC fs)]) := by
 refine fun70.spec rfl ?_
 conv=>whnf
 refine LoadG.atF (v := fv) (h.one (i := 1) rfl) ?_
 conv=>whnf
 refine CallG.pure (tclone_spec _ fv fs hf hl hv) ?_
 rintro r _ ⟨hr, rfl⟩
 conv=>whnf
 exact ret_here ⟨hr, rfl⟩
theorem not64 {n : Nat} (h : n ≤ 1099511627776) : IntKind.u64.wrap ((BitVec.ofInt IntKind.u64.bits (if IntKind.u64.signed then -1 else IntKind.u64.max) ^^^ BitVec.ofInt IntKind.u64.bits (n : Int)).toNat : Int) = ((18446744073709551615 - n : Nat) : Int) := by
 have e : (BitVec.ofInt IntKind.u64.bits (if IntKind.u64.signed then -1 else IntKind.u64.max) ^^^ BitVec.ofInt IntKind.u64.bits (n : Int)).toNat = 18446744073709551615 - n := by
  have e1 : (BitVec.ofInt IntKind.u64.bits (if IntKind.u64.signed then -1 else IntKind.u64.max)) = BitVec.allOnes 64 := rfl
  rw [e1]
  show (BitVec.allOnes 64 ^^^ BitVec.ofInt 64 (n : Int)).toNat = _
  rw [BitVec.allOnes_xor, BitVec.ofInt_natCast, BitVec.toNat_not, BitVec.toNat_ofNat, Nat.mod_eq_of_lt (by omega)]
 rw [e]
 exact u_wrap (k := .u64) rfl (by omega) (by show ((18446744073709551615 - n : Nat) : Int) < 2 ^ 64; omega)
theorem digs_at {fs : List (List Nat)} (h : ∀ d ∈ fs, Dg9 d) {i : Nat} (hi : i < fs.length) : ((digsC fs).drop (i * 32)).take (bvs (fs.getD i [])).length = bvs (fs.getD i []) := by
 have e : fs.getD i [] = fs[i] := by rw [List.getD_eq_getElem?_getD, List.getElem?_eq_getElem hi]; rfl
 rw [e, bvs_len, (h _ (List.getElem_mem hi)).len]
 exact @flat_get (List Nat) bvs 32 fs (fun d hd => by rw [bvs_len, (h d hd).len]) i hi
theorem digs_drop {ds : List (List Nat)} (h : ∀ d ∈ ds, Dg9 d) {m : Nat} (hm : ds.length = m + 1) : digsC ds.dropLast = (digsC ds).take (m * 32) := by
 have hne : ds ≠ [] := fun e => by rw [e] at hm; simp at hm
 have e := List.dropLast_concat_getLast hne
 have hl : (digsC ds.dropLast).length = m * 32 := by
  rw [digs_len9 fun d hd => h d ((List.dropLast_sublist _).subset hd), List.length_dropLast, hm, Nat.add_sub_cancel]
 conv => rhs; rw [← e]
 rw [show digsC (ds.dropLast ++ [ds.getLast hne]) = digsC ds.dropLast ++ bvs (ds.getLast hne) by simp [digsC], ← hl, List.take_left]
section
variable (K : List W32) (hk : K.length = 64)
include hk
theorem ladd_spec (F : List HP) (hK : CelN F 4 0 (wvs K)) (hT : CelN F 1 0 (bvs Lib.deBruijn64tab)) (lv : Nat) (fv : Value) (l : LogD) (hl : l.ok) (hn : l.n < 1099511627776) (hfv : SlV fv l.fs.length) (v : Value) (bs : List Nat) (hv : RdS F v bs.length (bvs bs)) (hb : bs.length ≤ 1099511627776) (hb' : ∀ b ∈ bs, b < 256) :
 SpecF Tryz.prog 39 [.pointer (some ⟨lv, 0, none⟩), v] F (logP lv fv l) (fun _ L => ∃ fv', SlV fv' (addL9 K l bs).fs.length ∧ L = logP lv fv' (addL9 K l bs)) := by
 have ht := trail_le l.n
 have hlen := hl.len
 have h41 := ones_lt hl.le
 have hz : (bvs (leafT K bs)).length = 32 := by rw [bvs_len]; exact dig_len _ _
 refine fun39.spec rfl ?_
 conv=>whnf
 refine LoadG.at (v := .int .i64 l.n) (.here rfl) ?_
 conv=>whnf
 refine CondG.decF (by omega) ?_
 conv=>whnf
 refine CallG.pure (tleaf_spec K hk _ (.right hK _) v bs (.right hv _) hb hb') ?_
 rintro _ _ ⟨rfl, rfl⟩
 conv=>whnf
 intro b5
 conv=>whnf
 refine StoreG.at hz (Upd.whole (by rw [hz]; rfl) (bvs_one _)) ?_
 conv=>whnf
 refine LoadG.at (v := .int .i64 l.n) (.tl (.here rfl)) ?_
 conv=>whnf
 refine ArithG.u64 (by omega) ?_
 conv=>whnf
 rw [not64 (by omega)]
 refine CallG.pure (trailc_spec _ (.right hT _) l.n (by omega)) ?_
 rintro _ _ ⟨rfl, rfl⟩
 conv=>whnf
 refine LoopG.mk (fun mm e L => ∃ i fv', i ≤ trail l.n ∧ mm = trail l.n - i ∧ e = [(0, .pointer (some ⟨lv, 0, none⟩)), (5, .pointer (some ⟨b5, 0, none⟩)), (20, .int .i64 (trail l.n : Nat)), (21, .int .i64 (i : Nat))] ∧ SlV fv' (l.fs.length - i) ∧
  L = [cel b5 81 (bvs (mergeN K i (l.fs, leafT K bs)).2), cel lv 140 [.int .i64 l.n, fv'], own 32 fv' (l.fs.length - i) (digsC (mergeN K i (l.fs, leafT K bs)).1)]) (trail l.n)
  [(0, .pointer (some ⟨lv, 0, none⟩)), (5, .pointer (some ⟨b5, 0, none⟩)), (20, .int .i64 (trail l.n : Nat)), (21, .int .i64 0)] _ ⟨rfl, rfl, rfl, rfl, trivial⟩ (Ent.refl _) ⟨0, fv, by omega, rfl, rfl, hfv, rfl⟩ ?_
 rintro mm e L ⟨i, fv', hi, rfl, rfl, hfv', rfl⟩
 have hm := mergeN_ok K (x := (l.fs, leafT K bs)) hl.fs ⟨dig_len _ _, dig_byte _ _⟩ i
 have hml : (mergeN K i (l.fs, leafT K bs)).1.length = l.fs.length - i := mergeN_len K i _
 have hs1 : mergeN K (i + 1) (l.fs, leafT K bs) = oneM K (mergeN K i (l.fs, leafT K bs)) := rfl
 have hdl := digs_len9 hm.1
 rw [hml] at hdl
 generalize hx : mergeN K i (l.fs, leafT K bs) = x at hm hml hs1 hdl ⊢
 obtain ⟨hm1, hm2⟩ := hm
 have hz2 : (bvs x.2).length = 32 := by rw [bvs_len, hm2.len]
 conv=>whnf
 refine CondG.dec (fun h1 => ?_) (fun h1 => ?_)
 ·conv=>whnf
  refine LoadG.at (v := fv') (.tl (.here rfl)) ?_
  conv=>whnf
  refine LenG.sl hfv' ?_
  conv=>whnf
  refine ArithG.i64 (by omega) ?_
  conv=>whnf
  have hrd : RdS [cel b5 81 (bvs x.2), cel lv 140 [.int .i64 l.n, fv'], own 32 fv' (l.fs.length - i) (digsC x.1)] fv' (l.fs.length - i) (digsC x.1) := .tl (.tl (own_rd hfv' hdl))
  refine DrawG.mk 9 [cel b5 81 (bvs x.2), cel lv 140 [.int .i64 l.n, fv'], own 32 fv' (l.fs.length - i) (digsC x.1)] [] (Ent.refl _) ?_
  conv=>whnf
  refine .take 0 ?_
  conv=>whnf
  refine ⟨rfl, ?_⟩
  conv=>whnf
  refine .take 1 ?_
  conv=>whnf
  refine ⟨rfl, ?_⟩
  conv=>whnf
  refine .take 2 ?_
  conv=>whnf
  refine ⟨rfl, ?_⟩
  conv=>whnf
  refine .take 3 ?_
  conv=>whnf
  refine ⟨rfl, ?_⟩
  conv=>whnf
  refine LoadG.at (v := fv') (.tl (.here rfl)) ?_
  conv=>whnf
  refine .take 4 ?_
  conv=>whnf
  refine ⟨rfl, ?_⟩
  conv=>whnf
  refine .take 5 ?_
  conv=>whnf
  refine ⟨rfl, ?_⟩
  conv=>whnf
  refine IdxG.rd hrd (by omega) fun c o hc => ?_
  have hlast : x.1.getLastD [] = x.1[x.1.length - 1]'(by omega) := by
   rw [List.getLastD_eq_getLast?, List.getLast?_eq_getElem?, List.getElem?_eq_getElem (by omega)]
   rfl
  have hlD : Dg9 (x.1.getLastD []) := by rw [hlast]; exact hm1 _ (List.getElem_mem _)
  have hzl : (bvs (x.1.getLastD [])).length = 32 := by rw [bvs_len, hlD.len]
  conv=>whnf
  refine .take 6 ?_
  conv=>whnf
  refine ⟨rfl, ?_⟩
  conv=>whnf
  refine LoadNG.at (vs := bvs (x.1.getLastD [])) hzl (hc.part (by
   rw [hzl, show (((l.fs.length - i : Nat) : Int) - 1).toNat = x.1.length - 1 by omega, hlast]
   exact @flat_get (List Nat) bvs 32 x.1 (fun d hd => by rw [bvs_len, (hm1 d hd).len]) (x.1.length - 1) (by omega))) ?_
  conv=>whnf
  refine .take 7 ?_
  conv=>whnf
  refine ⟨rfl, ?_⟩
  conv=>whnf
  refine LoadNG.at (vs := bvs x.2) hz2 .all ?_
  conv=>whnf
  refine .all ?_
  conv=>whnf
  refine ⟨by decide, ?_⟩
  conv=>whnf
  refine CallG.pure (node_spec K hk _ (.right (.right hK _) _) _ _ hlD.len hm2.len hlD.byte hm2.byte) ?_
  rintro _ _ ⟨rfl, rfl⟩
  have hz3 : (bvs (nodeD K (x.1.getLastD []) x.2)).length = 32 := by rw [bvs_len]; exact dig_len _ _
  conv=>whnf
  refine .all ?_
  conv=>whnf
  refine ⟨by decide, ?_⟩
  conv=>whnf
  refine ⟨rfl, ?_⟩
  conv=>whnf
  refine StoreG.at hz3 (Upd.whole (by rw [hz3, hz2]) (bvs_one _)) ?_
  conv=>whnf
  refine ⟨rfl, ?_⟩
  conv=>whnf
  refine LoadG.at (v := fv') (.tl (.here rfl)) ?_
  conv=>whnf
  refine SlcG.sl hfv' fun a cap hva hcap => ?_
  subst hva
  conv=>whnf
  refine SideG.of (by omega) ?_
  conv=>whnf
  refine SliceG.zero ?_
  conv=>whnf
  refine StoreG.at rfl (.tl (.here (by simp) rfl)) ?_
  conv=>whnf
  refine ArithG.i64 (by omega) ?_
  conv=>whnf
  have e1 : l.fs.length - i - 1 = l.fs.length - (i + 1) := by omega
  refine ⟨trail l.n - (i + 1), [(0, .pointer (some ⟨lv, 0, none⟩)), (5, .pointer (some ⟨b5, 0, none⟩)), (20, .int .i64 (trail l.n : Nat)), (21, .int .i64 ((i + 1 : Nat) : Int))], _, by omega, ⟨rfl, rfl, rfl, rfl, trivial⟩, ?_, i + 1, .slice a (l.fs.length - (i + 1)) cap, by omega, rfl, rfl, ?_, rfl⟩
  ·have e2 : digsC (oneM K x).1 = (digsC x.1).take ((l.fs.length - (i + 1)) * 32) := digs_drop hm1 (by omega)
   have e3 : (((l.fs.length - i : Nat) : Int) - 1).toNat = l.fs.length - (i + 1) := by omega
   rw [hs1, e2, e3]
   exact Ent.cons _ (Ent.cons _ (own_take (by omega)))
  ·rcases hfv' with ⟨h, _⟩ | ⟨g, cp, h, _⟩
   ·exact absurd h (by simp; omega)
   ·simp only [Value.slice.injEq] at h
    obtain ⟨rfl, _, rfl⟩ := h
    exact .inr ⟨_, _, rfl, by omega⟩
 ·obtain rfl : i = trail l.n := by omega
  conv=>whnf
  refine DrawG.mk 8 [cel b5 81 (bvs x.2), cel lv 140 [.int .i64 l.n, fv']] [own 32 fv' (l.fs.length - trail l.n) (digsC x.1)] (Ent.perm (List.perm_append_comm (l₁ := [_, _]))) ?_
  conv=>whnf
  refine .take 0 ?_
  conv=>whnf
  refine ⟨rfl, ?_⟩
  conv=>whnf
  refine .take 1 ?_
  conv=>whnf
  refine ⟨rfl, ?_⟩
  conv=>whnf
  refine .take 2 ?_
  conv=>whnf
  refine ⟨rfl, ?_⟩
  conv=>whnf
  refine .take 3 ?_
  conv=>whnf
  refine ⟨rfl, ?_⟩
  conv=>whnf
  refine .take 4 ?_
  conv=>whnf
  refine ⟨rfl, ?_⟩
  conv=>whnf
  refine LoadG.at (v := fv') (.tl (.here rfl)) ?_
  conv=>whnf
  refine .take 5 ?_
  conv=>whnf
  refine ⟨rfl, ?_⟩
  conv=>whnf
  refine LoadNG.at (vs := bvs x.2) hz2 .all ?_
  conv=>whnf
  refine .all ?_
  conv=>whnf
  refine ⟨by decide, ?_⟩
  conv=>whnf
  refine BuildG.of (cs := bvs x.2) (by simp [fillL, Value.cells, bvs_len, hm2.len]) ?_
  conv=>whnf
  intro b54
  conv=>whnf
  refine .all ?_
  conv=>whnf
  refine ⟨by decide, ?_⟩
  conv=>whnf
  refine DoesG.ent (Ent.perm (.swap _ _ _)) ?_
  refine app_own digsT 109 (m := 1) (ys := bvs x.2) (.mk _ _ _ _ _ (by decide) (.tl (.left .all _))) hz2 (bvs_one _) (by simp only [maxLen]; omega) (by omega) fun r' hr' hlen' hnil => ?_
  obtain ⟨ra, rc, rfl⟩ := hr'.len
  conv=>whnf
  refine .all ?_
  conv=>whnf
  refine ⟨by decide, ?_⟩
  conv=>whnf
  refine ⟨rfl, ?_⟩
  conv=>whnf
  refine .all ?_
  conv=>whnf
  refine ⟨by decide, ?_⟩
  conv=>whnf
  refine .all ?_
  conv=>whnf
  refine ⟨by decide, ?_⟩
  conv=>whnf
  refine StoreG.at rfl (.tl (.tl (.tl (.here (by simp) rfl)))) ?_
  conv=>whnf
  refine ⟨rfl, ?_⟩
  conv=>whnf
  refine LoadG.at (v := .int .i64 l.n) (.tl (.tl (.tl (.here rfl)))) ?_
  conv=>whnf
  refine ArithG.i64' ((l.n + 1 : Nat) : Int) (by omega) (by omega) ?_
  conv=>whnf
  refine StoreG.at rfl (.tl (.tl (.tl (.here (by simp) rfl)))) ?_
  conv=>whnf
  refine LoadG.at (v := .int .i64 ((l.n + 1 : Nat) : Int)) (.tl (.tl (.tl (.here rfl)))) ?_
  conv=>whnf
  refine ArithG.i64 (by omega) ?_
  conv=>whnf
  have ea : addL9 K l bs = ⟨l.n + 1, x.1 ++ [x.2]⟩ := by rw [addL9, hx]
  have el : (x.1 ++ [x.2]).length = l.fs.length - trail l.n + 1 := by rw [List.length_append, List.length_singleton, hml]
  have ed : digsC (x.1 ++ [x.2]) = digsC x.1 ++ bvs x.2 := by simp [digsC]
  refine ⟨logP lv (.slice ra (l.fs.length - trail l.n + 1) rc) ⟨l.n + 1, x.1 ++ [x.2]⟩, ?_, _, ?_, by rw [ea]⟩
  ·unfold logP
   simp only [el, ed]
   exact Ent.sel (T := []) (A := [_, _, _, _]) [3, 0] rfl
  ·rw [ea]
   show SlV _ (x.1 ++ [x.2]).length
   rw [el]
   exact hr'
theorem lroot_spec (F : List HP) (hK : CelN F 4 0 (wvs K)) (lv : Nat) (n : Int) (fv : Value) (fs : List (List Nat)) (h : CelN F lv 0 [.int .i64 n, fv]) (hf : ∀ d ∈ fs, Dg9 d) (hl : fs.length ≤ 64) (hv : RdS F fv fs.length (digsC fs)) :
 SpecF Tryz.prog 48 [.pointer (some ⟨lv, 0, none⟩)] F [] (fun r L => r = .agg ⟨bvs (rootL K fs)⟩ ∧ L = []) := by
 have hz0 : (bvs (dig K [])).length = 32 := by rw [bvs_len, dig_len]
 refine fun48.spec rfl ?_
 conv=>whnf
 intro b2
 conv=>whnf
 refine LoadG.atF (v := fv) (h.one (i := 1) rfl) ?_
 conv=>whnf
 refine LenG.rd hv ?_
 conv=>whnf
 refine CondG.dec (fun h1 => ?_) (fun h1 => ?_)
 ·have e : rootL K fs = dig K [] := if_pos (by omega)
  rw [e]
  conv=>whnf
  refine CallG.pure (none_spec K hk _ (.right hK _)) ?_
  rintro _ _ ⟨rfl, rfl⟩
  conv=>whnf
  refine StoreG.at hz0 (Upd.whole (by rw [hz0]; rfl) (bvs_one _)) ?_
  conv=>whnf
  refine LoadNG.at (vs := bvs (dig K [])) hz0 .all ?_
  conv=>whnf
  exact ⟨[], Ent.nil _, rfl, rfl⟩
 have h0 : fs.length ≠ 0 := by omega
 have e : rootL K fs = rootN K fs (fs.length - 1) := if_neg h0
 have hN : ∀ i, (bvs (rootN K fs i)).length = 32 := fun i => by rw [bvs_len, (rootN_ok K hf h0 i).len]
 conv=>whnf
 refine LoadG.atF (v := fv) (h.one (i := 1) rfl) ?_
 conv=>whnf
 refine ArithG.i64' ((fs.length - 1 : Nat) : Int) (by omega) (by omega) ?_
 conv=>whnf
 refine IdxG.rd hv (by omega) fun c o hc => ?_
 conv=>whnf
 refine LoadNG.atF (vs := bvs (rootN K fs 0)) (hN 0) (hc.part (digs_at hf (by omega))) ?_
 conv=>whnf
 intro b4
 conv=>whnf
 refine StoreG.at (hN 0) (Upd.whole (by rw [hN 0]; rfl) (bvs_one _)) ?_
 conv=>whnf
 refine ArithG.i64' ((fs.length - 1 : Nat) : Int) (by omega) (by omega) ?_
 conv=>whnf
 refine LoopG.mk (fun mm e L => ∃ i, i + 1 ≤ fs.length ∧ mm = fs.length - 1 - i ∧ e = [(0, .pointer (some ⟨lv, 0, none⟩)), (2, .pointer (some ⟨b2, 0, none⟩)), (3, .int .i64 (fs.length : Nat)), (4, .pointer (some ⟨b4, 0, none⟩)), (23, .int .i64 ((fs.length - 1 : Nat) : Int)), (24, .int .i64 (i : Nat))] ∧
  L = [cel b4 81 (bvs (rootN K fs i)), cel b2 81 (bvs (List.replicate 32 0))]) (fs.length - 1)
  [(0, .pointer (some ⟨lv, 0, none⟩)), (2, .pointer (some ⟨b2, 0, none⟩)), (3, .int .i64 (fs.length : Nat)), (4, .pointer (some ⟨b4, 0, none⟩)), (23, .int .i64 ((fs.length - 1 : Nat) : Int)), (24, .int .i64 0)] _ ⟨rfl, rfl, rfl, rfl, rfl, rfl, trivial⟩ (Ent.refl _) ⟨0, by omega, rfl, rfl, rfl⟩ ?_
 rintro mm e' L ⟨i, hi, rfl, rfl, rfl⟩
 conv=>whnf
 refine CondG.dec (fun h2 => ?_) (fun h2 => ?_)
 ·have hD := getD_ok hf (i := fs.length - 2 - i) (by omega)
  have hzl : (bvs (fs.getD (fs.length - 2 - i) [])).length = 32 := by rw [bvs_len, hD.len]
  have hM := rootN_ok K hf h0 i
  conv=>whnf
  refine DrawG.mk 12 [cel b4 81 (bvs (rootN K fs i)), cel b2 81 (bvs (List.replicate 32 0))] [] (Ent.refl _) ?_
  conv=>whnf
  refine .take 0 ?_
  conv=>whnf
  refine ⟨rfl, ?_⟩
  conv=>whnf
  refine .take 1 ?_
  conv=>whnf
  refine ⟨rfl, ?_⟩
  conv=>whnf
  refine .take 2 ?_
  conv=>whnf
  refine ⟨rfl, ?_⟩
  conv=>whnf
  refine .take 3 ?_
  conv=>whnf
  refine ⟨rfl, ?_⟩
  conv=>whnf
  refine LoadG.atF (v := fv) (h.one (i := 1) rfl) ?_
  conv=>whnf
  refine .take 4 ?_
  conv=>whnf
  refine ⟨rfl, ?_⟩
  conv=>whnf
  refine .take 5 ?_
  conv=>whnf
  refine ⟨rfl, ?_⟩
  conv=>whnf
  refine ArithG.i64 (by omega) ?_
  conv=>whnf
  refine .take 6 ?_
  conv=>whnf
  refine ⟨rfl, ?_⟩
  conv=>whnf
  refine .take 7 ?_
  conv=>whnf
  refine ⟨rfl, ?_⟩
  conv=>whnf
  refine ArithG.i64 (by omega) ?_
  conv=>whnf
  refine .take 8 ?_
  conv=>whnf
  refine ⟨rfl, ?_⟩
  conv=>whnf
  refine IdxG.rd hv (by omega) fun c o hc => ?_
  conv=>whnf
  refine .take 9 ?_
  conv=>whnf
  refine ⟨rfl, ?_⟩
  conv=>whnf
  refine LoadNG.atF (vs := bvs (fs.getD (fs.length - 2 - i) [])) hzl (hc.part (by
   rw [show (((fs.length : Nat) : Int) - 2 - (i : Nat)).toNat = fs.length - 2 - i by omega]
   exact digs_at hf (by omega))) ?_
  conv=>whnf
  refine .take 10 ?_
  conv=>whnf
  refine ⟨rfl, ?_⟩
  conv=>whnf
  refine LoadNG.at (vs := bvs (rootN K fs i)) (hN i) .all ?_
  conv=>whnf
  refine .all ?_
  conv=>whnf
  refine ⟨by decide, ?_⟩
  conv=>whnf
  refine CallG.pure (node_spec K hk _ (.right (.right hK _) _) _ _ hD.len hM.len hD.byte hM.byte) ?_
  rintro _ _ ⟨rfl, rfl⟩
  conv=>whnf
  refine .all ?_
  conv=>whnf
  refine ⟨by decide, ?_⟩
  conv=>whnf
  refine ⟨rfl, ?_⟩
  conv=>whnf
  refine StoreG.at (hN (i + 1)) (Upd.whole ((hN (i + 1)).trans (hN i).symm) (bvs_one _)) ?_
  conv=>whnf
  refine ⟨rfl, ?_⟩
  conv=>whnf
  refine ArithG.i64 (by omega) ?_
  conv=>whnf
  exact ⟨fs.length - 1 - (i + 1), [(0, .pointer (some ⟨lv, 0, none⟩)), (2, .pointer (some ⟨b2, 0, none⟩)), (3, .int .i64 (fs.length : Nat)), (4, .pointer (some ⟨b4, 0, none⟩)), (23, .int .i64 ((fs.length - 1 : Nat) : Int)), (24, .int .i64 ((i + 1 : Nat) : Int))], _, by omega, ⟨rfl, rfl, rfl, rfl, rfl, rfl, trivial⟩, Ent.refl _, i + 1, by omega, rfl, rfl, rfl⟩
 ·obtain rfl : i = fs.length - 1 := by omega
  conv=>whnf
  refine LoadNG.at (vs := bvs (rootN K fs (fs.length - 1))) (hN _) .all ?_
  conv=>whnf
  refine StoreG.at (hN _) (.tl (Upd.whole (by rw [hN]; rfl) (bvs_one _))) ?_
  conv=>whnf
  refine LoadNG.at (vs := bvs (rootN K fs (fs.length - 1))) (hN _) (.tl .all) ?_
  conv=>whnf
  rw [e]
  exact ⟨[], Ent.nil _, rfl, rfl⟩
end
end Go.Proofs.YtmfonkklmndhjaaGreatDoor
