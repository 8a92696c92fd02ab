import Derived.Test.YtjacolfhlfogkabGreatDoorLz
import Derived.Test.YtjacolfhlfogkabGreatDoorZBs
import Derived.Test.YtjacolfhlfogkabGreatDoorZWh
import Derived.Test.YtjacolfhlfogkabGreatDoorZDg
import Derived.Test.YtjacolfhlfogkabGreatDoorZMk
import Derived.Test.YtjacolfhlfogkabGreatDoorZKp
namespace Go.Proofs.YtjacolfhlfogkabGreatDoor
open Go Go.Sl
def kB : List Nat := 2 :: List.replicate 19 0
end Go.Proofs.YtjacolfhlfogkabGreatDoor
namespace Go.Proofs.YtjacolfhlfogkabGreatDoor
open Go Go.Sl
theorem nvs_take (l : List Nat) (n : Nat) : (nvs l).take n = nvs (l.take n) := by simp [nvs, List.map_take]
theorem SliceG.rdA {a : Option Addr} {sz l h mx n c : Nat} {K : Value → Prop} (h1 : l ≤ h) (h2 : h ≤ n) (h3 : h ≤ mx) (h4 : mx ≤ c)
 (hk : ∀ v', (∀ (M : List HP) (cs : List Value), RdS M (.slice a n c) n cs → RdS M v' (h - l) ((cs.drop (l * sz)).take ((h - l) * sz))) → K v') : SliceG a sz l h mx K :=
 ⟨hk _ fun M cs hM => (SliceG.rd (K := fun v' => RdS M v' (h - l) ((cs.drop (l * sz)).take ((h - l) * sz))) hM h1 h2 h3 h4 fun _ h' _ => h').out⟩
theorem rcut_any (F : List HP) (v : Value) (l : List Nat) (hl : l.length ≤ 4611686018427387904) (hv : RdS F v l.length (nvs l)) : SpecF Tryz.prog 167 [v] F [] (fun r L => (∀ M : List HP, RdS M v l.length (nvs l) → RdS M r (cutL l).length (nvs (cutL l))) ∧ L = []) := by
 refine fun167.spec rfl ?_
 conv=>whnf
 refine LenG.rd hv ?_
 conv=>whnf
 refine LoopG.mk (fun mm e L => ∃ n, n ≤ l.length ∧ mm = n ∧ cutN l n = cutN l l.length ∧ e = [(0, v), (3, .int .i64 n)] ∧ L = []) l.length
  [(0, v), (3, .int .i64 l.length)] _ ⟨rfl, rfl, trivial⟩ (Ent.refl _) ⟨l.length, Nat.le_refl _, rfl, rfl, rfl, rfl⟩ ?_
 rintro n e L ⟨n', hn, rfl, hc, rfl, rfl⟩
 conv=>whnf
 have out : cutN l n = n → (nvs l).take n = nvs (cutL l) ∧ (cutL l).length = n := fun h => by
  refine ⟨?_, ?_⟩
  ·rw [cutL, ← hc, h, nvs_take]
  ·rw [cutL_len, ← hc, h]
 have leave : ∀ (K : Value → Prop), cutN l n = n → (∀ r, (∀ M : List HP, RdS M v l.length (nvs l) → RdS M r (cutL l).length (nvs (cutL l))) → K r) → SlcG v (fun a len cap => (fun a len cap => SideG (0 ≤ (0 : Int) ∧ (0 : Int) ≤ (n : Int) ∧ (n : Int) ≤ (cap : Int) ∧ (cap : Int) ≤ (cap : Int)) (SliceG a 1 (0 : Int).toNat (n : Int).toNat (cap : Int).toNat fun v => K v)) a len cap) := fun K h hK => by
  refine SlcG.rd hv fun a cap hva hcap => ?_
  refine SideG.of (by omega) ?_
  refine SliceG.rdA (n := l.length) (c := cap) (by omega) (by omega) (by omega) (by omega) fun v1 hv1 => ?_
  refine hK v1 fun M hM => ?_
  rw [hva] at hM
  have hv1 := hv1 M _ hM
  have e1 : ((nvs l).drop ((0 : Int).toNat * 1)).take ((((n : Nat) : Int).toNat - (0 : Int).toNat) * 1) = nvs (cutL l) := by
   rw [← (out h).1]
   simp
  have e2 : ((n : Nat) : Int).toNat - (0 : Int).toNat = (cutL l).length := by
   rw [(out h).2]
   simp
  rw [e1, e2] at hv1
  exact hv1
 refine CondG.dec (fun h1 => ?_) (fun h1 => ?_)
 ·have hn1 : n - 1 < l.length := by omega
  (conv=>whnf);refine .tt ?_;(conv=>whnf);refine .tt ?_;(conv=>whnf)
  refine ArithG.i64' ((n - 1 : Nat) : Int) (by omega) (by omega) ?_
  (conv=>whnf);refine .tt ?_;(conv=>whnf)
  refine IdxG.rd hv (by omega) fun c o hcc => ?_
  (conv=>whnf);refine .tt ?_;(conv=>whnf)
  refine LoadG.atF (v := .int .i64 l[n - 1]) (hcc.one (i := ((n - 1 : Nat) : Int).toNat * 1) (by rw [Int.toNat_natCast, Nat.mul_one]; exact nvs_get hn1)) ?_
  (conv=>whnf);refine .tt ?_;(conv=>whnf);refine .tt ?_;(conv=>whnf)
  obtain ⟨k, rfl⟩ : ∃ k, n = k + 1 := ⟨n - 1, by omega⟩
  have hgd : l.getD k 0 = l[k]'(by omega) := by simp [List.getD, show k < l.length by omega]
  refine CondG.dec (fun h2 => ?_) (fun h2 => ?_)
  ·conv=>whnf
   refine ArithG.i64' ((k : Nat) : Int) (by omega) (by omega) ?_
   conv=>whnf
   have hz : l.getD k 0 = 0 := by
    rw [hgd]
    have : (l[k + 1 - 1] : Nat) = 0 := by omega
    exact this
   refine ⟨k, [(0, v), (3, .int .i64 k)], _, by omega, ?_, Ent.refl _, k, by omega, rfl, ?_, rfl, rfl⟩
   ·exact ⟨rfl, rfl, trivial⟩
   ·rw [← hc, cutN, if_pos hz]
  ·conv=>whnf
   have hz : ¬ l.getD k 0 = 0 := by
    rw [hgd]
    intro h
    apply h2
    have : (l[k + 1 - 1] : Nat) = 0 := h
    omega
   have hk : cutN l (k + 1) = k + 1 := by rw [cutN, if_neg hz]
   refine leave _ hk fun r hr => ?_
   conv=>whnf
   exact ret_here ⟨hr, rfl⟩
 ·have h0 : n = 0 := by omega
  subst h0
  (conv=>whnf);refine .ff ?_;(conv=>whnf);refine .ff ?_;(conv=>whnf);refine .ff ?_;(conv=>whnf);refine .ff ?_;(conv=>whnf);refine .ff ?_;(conv=>whnf);refine .ff ?_;(conv=>whnf);refine .ff ?_;(conv=>whnf)
  refine leave _ rfl fun r hr => ?_
  conv=>whnf
  exact ret_here ⟨hr, rfl⟩
theorem rcut_spec (F : List HP) (v : Value) (l : List Nat) (hl : l.length ≤ 4611686018427387904) (hv : RdS F v l.length (nvs l)) : SpecF Tryz.prog 167 [v] F [] (fun r L => RdS F r (cutL l).length (nvs (cutL l)) ∧ L = []) :=
 (rcut_any F v l hl hv).turn fun r L h => ⟨L, ⟨h.1 F hv, h.2⟩, Ent.refl _⟩
theorem and1 (x : Nat) (hx : x < 18446744073709551616) : IntKind.i64.wrap ((BitVec.ofInt IntKind.i64.bits (IntKind.i64.wrap (x : Int)) &&& BitVec.ofInt IntKind.i64.bits 1).toNat : Int) = ((x % 2 : Nat) : Int) := by
 have e1 : BitVec.ofInt 64 (IntKind.i64.wrap (x : Int)) = BitVec.ofNat 64 x := by
  rcases Nat.lt_or_ge x 9223372036854775808 with h | h
  ·rw [i64_wrap (by omega) (by omega), BitVec.ofInt_natCast]
  ·have : IntKind.i64.wrap (x : Int) = (x : Int) - 18446744073709551616 := by
    show (if (true && decide ((x : Int) % (2 ^ 64 : Int) ≥ (2 ^ (64 - 1) : Int))) = true then (x : Int) % (2 ^ 64 : Int) - (2 ^ 64 : Int) else (x : Int) % (2 ^ 64 : Int)) = _
    have e1 : (2 ^ 64 : Int) = 18446744073709551616 := by decide
    have e2 : (2 ^ (64 - 1) : Int) = 9223372036854775808 := by decide
    rw [e1, e2]
    simp only [Bool.true_and, decide_eq_true_eq]
    split <;> omega
   rw [this]
   apply BitVec.eq_of_toNat_eq
   rw [BitVec.toNat_ofInt, BitVec.toNat_ofNat]
   have : (((x : Int) - 18446744073709551616) % ((2 ^ 64 : Nat) : Int)) = (x : Int) := by
    have e : ((2 ^ 64 : Nat) : Int) = 18446744073709551616 := by decide
    rw [e]
    omega
   rw [this]
   omega
 show IntKind.i64.wrap ((BitVec.ofInt 64 (IntKind.i64.wrap (x : Int)) &&& BitVec.ofInt 64 1).toNat : Int) = _
 rw [e1, BitVec.toNat_and, BitVec.toNat_ofNat, Nat.mod_eq_of_lt hx]
 have e3 : (BitVec.ofInt 64 1).toNat = 1 := by decide
 rw [e3, Nat.and_one_is_mod, i64_wrap (by omega) (by omega)]
theorem intsT : ElT Tryz.prog 73 3 1 8 := .of (by kernel_rfl)
theorem digits_spec (F : List HP) (ws : List Nat) (hw : wOk ws) : SpecF Tryz.prog 145 [.agg ⟨uvs ws⟩] F [] (fun r L => ∃ b, RdS (cel b 3 (nvs (digs2 ws)) :: F) r (cutL (digs2 ws)).length (nvs (cutL (digs2 ws))) ∧ L = [cel b 3 (nvs (digs2 ws))]) := by
 have hl := digs2_len ws
 have hwl := hw.len
 refine fun145.spec rfl ?_
 conv=>whnf
 intro b1
 conv=>whnf
 refine DoesG.makeC (n := 256) (zv := .int .i64 0) intsT (by kernel_rfl) rfl .i64 .i64 (by decide) (by decide) fun b5 => ?_
 conv=>whnf
 refine LoopG.mk (fun mm e L => ∃ i, i ≤ 256 ∧ mm = 256 - i ∧ e = [(1, .pointer (some ⟨b1, 0, none⟩)), (3, .slice (some ⟨b5, 0, none⟩) 256 256), (4, .int .i64 i)] ∧ L = [cel b5 3 (nvs (fillD (digs2 ws) i)), cel b1 38 (uvs ws)]) 256
  [(1, .pointer (some ⟨b1, 0, none⟩)), (3, .slice (some ⟨b5, 0, none⟩) 256 256), (4, .int .i64 0)] _ ⟨rfl, rfl, rfl, trivial⟩ (Ent.refl _) ⟨0, by omega, rfl, rfl, by rw [fillD_zero]⟩ ?_
 rintro mm e L ⟨i, hi, rfl, rfl, rfl⟩
 conv=>whnf
 refine CondG.dec (fun h => ?_) (fun h => ?_)
 ·have hi2 : i < 256 := by omega
  have hx := getD_lt hw (i / 64)
  conv=>whnf
  refine SideG.of (by decide) ?_
  conv=>whnf
  refine ArithG.i64' ((i / 64 : Nat) : Int) (by rw [Int.tdiv_eq_ediv_of_nonneg (by omega)]; omega) (by omega) ?_
  conv=>whnf
  refine SideG.of (by omega) ?_
  conv=>whnf
  refine LoadG.at (v := .int .u64 (ws.getD (i / 64) 0)) (.tl (.here (by rw [show 0 + ((i / 64 : Nat) : Int).toNat * 1 = i / 64 by omega]; exact uvs_at (by omega)))) ?_
  conv=>whnf
  refine SideG.of (by decide) ?_
  conv=>whnf
  have er : (i : Int).tmod 64 = ((i % 64 : Nat) : Int) := by rw [Int.tmod_eq_emod_of_nonneg (by omega)]; omega
  rw [er]
  refine SideG.of (by omega) ?_
  have es : ((ws.getD (i / 64) 0 : Nat) : Int).fdiv (2 ^ (min (((i % 64 : Nat) : Int)).toNat IntKind.u64.bits)) = ((ws.getD (i / 64) 0 / 2 ^ (i % 64) : Nat) : Int) := by
   have e : min (((i % 64 : Nat) : Int)).toNat IntKind.u64.bits = i % 64 := by
    rw [Int.toNat_natCast]
    exact Nat.min_eq_left (by show _ ≤ 64; omega)
   rw [e]
   exact fdiv_pow _ _
  rw [es]
  conv=>whnf
  refine ArithG.all ?_
  conv=>whnf
  have hy : ws.getD (i / 64) 0 / 2 ^ (i % 64) < 18446744073709551616 := Nat.lt_of_le_of_lt (Nat.div_le_self _ _) hx
  rw [and1 _ hy]
  refine ⟨b5, 0, 256, 256, rfl, by omega, ?_⟩
  conv=>whnf
  have hg := digs2_get ws hi2
  have hget : (digs2 ws)[i]'(by omega) = ws.getD (i / 64) 0 / 2 ^ (i % 64) % 2 := (List.getElem?_eq_some_iff.1 hg).2
  refine StoreG.at (cs := [_]) rfl (Upd.here (by rw [nvs_len, fillD_len hl hi]; omega) rfl) ?_
  rw [show 0 + ((i : Nat) : Int).toNat * 1 = i by omega, ← hget, fillD_set hl hi2]
  conv=>whnf
  refine ArithG.i64 (by omega) ?_
  conv=>whnf
  refine ⟨256 - (i + 1), _, _, by omega, ?_, Ent.refl _, i + 1, by omega, rfl, rfl, rfl⟩
  exact ⟨rfl, rfl, rfl, trivial⟩
 ·obtain rfl : i = 256 := by omega
  rw [fillD_all hl]
  conv=>whnf
  have hrd : RdS ([cel b5 3 (nvs (digs2 ws))] ++ F) (.slice (some ⟨b5, 0, none⟩) 256 256) (digs2 ws).length (nvs (digs2 ws)) := by
   rw [hl]
   exact .mk _ _ _ _ _ (Nat.le_refl _) (.left .all F)
  refine CallG.of (pre := []) (rest := [cel b5 3 (nvs (digs2 ws))]) (rcut_spec _ _ (digs2 ws) (by omega) hrd) (Ent.sel (T := []) (A := [_, _]) [0] rfl) ?_
  rintro r _ ⟨hr, rfl⟩
  conv=>whnf
  exact ret_here ⟨b5, hr, rfl⟩
end Go.Proofs.YtjacolfhlfogkabGreatDoor
namespace Go.Proofs.YtjacolfhlfogkabGreatDoor
open Go Go.Sl
theorem nvs_gd {l : List Nat} {i : Nat} (h : i < l.length) : (nvs l)[i]? = some (.int .i64 (l.getD i 0 : Nat)) := by
 rw [nvs_get h]
 simp [List.getD, h]
theorem gd_big {l : List Nat} {i : Nat} (h : ¬ (i : Int) < (l.length : Int)) : l.getD i 0 = 0 := by
 simp [List.getD, List.getElem?_eq_none (show l.length ≤ i by omega)]
theorem gd_bit {l : List Nat} (h : isBits l) (i : Nat) : l.getD i 0 < 2 := by
 rcases Nat.lt_or_ge i l.length with h1 | h1
 ·simp only [List.getD, List.getElem?_eq_getElem h1, Option.getD_some]
  exact h _ (List.getElem_mem h1)
 ·simp [List.getD, List.getElem?_eq_none h1]
theorem plus_spec (F : List HP) (va vb : Value) (a b : List Nat) (hA : RdS F va a.length (nvs a)) (hB : RdS F vb b.length (nvs b)) (ha : isBits a) (hb : isBits b) (hal : a.length ≤ 1099511627776) (hbl : b.length ≤ 1099511627776) :
 SpecF Tryz.prog 144 [va, vb] F [] (fun r L => ∃ ov out, isBits out ∧ val2 out = val2 a + val2 b ∧ out.length ≤ a.length + b.length + 1 ∧ (∀ M : List HP, RdS (own 1 ov out.length (nvs out) :: M) r (cutL out).length (nvs (cutL out))) ∧ L = [own 1 ov out.length (nvs out)]) := by
 obtain ⟨aa, ac, rfl⟩ := hA.len
 obtain ⟨ba, bc, rfl⟩ := hB.len
 refine fun144.spec rfl ?_
 conv=>whnf
 refine LoopG.mk (fun m ev L => ∃ (i c : Nat) (out : List Nat) (ov : Value), c < 2 ∧ i ≤ a.length + b.length + 1 ∧ m = a.length + b.length + 2 - i ∧ SlV ov out.length ∧ out.length = i ∧ isBits out ∧ val2 out + 2 ^ i * c = val2 (a.take i) + val2 (b.take i) ∧
  (a.length ≤ i → b.length ≤ i → i ≤ a.length + b.length ∨ c = 0) ∧
  ev = [(0, .slice aa a.length ac), (1, .slice ba b.length bc), (4, .slice none 0 0), (5, ov), (6, .int .i64 c), (7, .int .i64 i)] ∧ L = [own 1 ov out.length (nvs out)]) (a.length + b.length + 2)
  [(0, .slice aa a.length ac), (1, .slice ba b.length bc), (4, .slice none 0 0), (5, .slice none 0 0), (6, .int .i64 0), (7, .int .i64 0)] [own 1 (.slice none 0 0) 0 (nvs [])] ⟨rfl, rfl, rfl, rfl, rfl, rfl, trivial⟩ (fun w G hs => Sat.own_nil hs)
  ⟨0, 0, [], .slice none 0 0, by decide, by omega, rfl, .inl ⟨rfl, rfl⟩, rfl, fun x hx => absurd hx (List.not_mem_nil), by simp [val2], fun _ _ => .inr rfl, rfl, rfl⟩ ?_
 rintro m ev L ⟨i, c, out, ov, hc, hi, rfl, hov, hol, hob, hw, hx, rfl, rfl⟩
 conv=>whnf
 refine LenG.lit ?_
 conv=>whnf
 by_cases h1 : (i : Int) < (a.length : Int)
 ·by_cases h2 : (i : Int) < (b.length : Int)
  ·repeat((first|(with_reducible first|refine .tt ?_|refine .ff ?_)|refine .decT (by assumption) ?_|refine .decF (by assumption) ?_);conv=>whnf)
   obtain ⟨s, es⟩ : ∃ s : Nat, s = c + a.getD i 0 + b.getD i 0 := ⟨_, rfl⟩
   have xa := gd_bit ha i
   have xb := gd_bit hb i
   conv=>whnf
   refine LenG.lit ?_
   conv=>whnf
   refine .decT (by assumption) ?_;(conv=>whnf)
   refine IdxG.rd hA (by omega) fun cb o hcb => ?_
   conv=>whnf
   refine LoadG.atF (v := .int .i64 (a.getD i 0 : Nat)) (hcb.one (i := ((i : Nat) : Int).toNat * 1) (by rw [Int.toNat_natCast, Nat.mul_one]; exact nvs_gd (by omega))) ?_
   conv=>whnf
   refine ArithG.i64' ((c + a.getD i 0 : Nat) : Int) (by omega) (by omega) ?_
   conv=>whnf
   refine LenG.lit ?_
   conv=>whnf
   refine .decT (by assumption) ?_;(conv=>whnf)
   refine IdxG.rd hB (by omega) fun cb o hcb => ?_
   conv=>whnf
   refine LoadG.atF (v := .int .i64 (b.getD i 0 : Nat)) (hcb.one (i := ((i : Nat) : Int).toNat * 1) (by rw [Int.toNat_natCast, Nat.mul_one]; exact nvs_gd (by omega))) ?_
   conv=>whnf
   refine ArithG.i64' ((s : Nat) : Int) (by omega) (by omega) ?_
   conv=>whnf
   refine SideG.of (by decide) ?_
   conv=>whnf
   have er : (s : Int).tmod 2 = ((s % 2 : Nat) : Int) := by rw [Int.tmod_eq_emod_of_nonneg (by omega)]; omega
   rw [er]
   refine BuildG.of rfl ?_
   conv=>whnf
   intro b1
   conv=>whnf
   refine DoesG.ent (Ent.front 1 rfl) ?_
   refine app_own intsT 73 (m := 1) (ys := [.int .i64 ((s % 2 : Nat) : Int)]) (.mk _ _ _ _ _ (Nat.le_refl _) (.tl (.left .all _))) rfl (by simp [Value.oneCell']) (by simp only [maxLen]; omega) (by omega) fun ov2 hov2 hl2 _ => ?_
   conv=>whnf
   refine SideG.of (by decide) ?_
   have eq2 : (s : Int).tdiv 2 = ((s / 2 : Nat) : Int) := by rw [Int.tdiv_eq_ediv_of_nonneg (by omega)]; omega
   refine ArithG.i64' ((s / 2 : Nat) : Int) eq2 (by omega) ?_
   conv=>whnf
   refine ArithG.i64' ((i + 1 : Nat) : Int) (by omega) (by omega) ?_
   conv=>whnf
   have eL : own 1 ov2 (out.length + 1) (nvs out ++ [.int .i64 ((s % 2 : Nat) : Int)]) = own 1 ov2 (out ++ [s % 2]).length (nvs (out ++ [s % 2])) := by simp [nvs]
   rw [eL]
   refine ⟨a.length + b.length + 2 - (i + 1), [(0, .slice aa a.length ac), (1, .slice ba b.length bc), (4, .slice none 0 0), (5, ov2), (6, .int .i64 ((s / 2 : Nat) : Int)), (7, .int .i64 ((i + 1 : Nat) : Int))], _, by omega, ⟨rfl, rfl, rfl, rfl, rfl, rfl, trivial⟩, Ent.sel (T := []) (A := [_, _]) [0] rfl, i + 1, s / 2, out ++ [s % 2], ov2, by omega, by omega, rfl, ?_, ?_, isBits_snoc hob (by omega), ?_, fun _ _ => by omega, rfl, rfl⟩
   ·rw [List.length_append]; exact hov2
   ·rw [List.length_append, hol]; rfl
   ·rw [val2_snoc, hol, val2_getD a, val2_getD b]
    exact plus_step hw es
  ·repeat((first|(with_reducible first|refine .tt ?_|refine .ff ?_)|refine .decT (by assumption) ?_|refine .decF (by assumption) ?_);conv=>whnf)
   obtain ⟨s, es⟩ : ∃ s : Nat, s = c + a.getD i 0 + b.getD i 0 := ⟨_, rfl⟩
   have xa := gd_bit ha i
   have xb := gd_bit hb i
   conv=>whnf
   refine LenG.lit ?_
   conv=>whnf
   refine .decT (by assumption) ?_;(conv=>whnf)
   refine IdxG.rd hA (by omega) fun cb o hcb => ?_
   conv=>whnf
   refine LoadG.atF (v := .int .i64 (a.getD i 0 : Nat)) (hcb.one (i := ((i : Nat) : Int).toNat * 1) (by rw [Int.toNat_natCast, Nat.mul_one]; exact nvs_gd (by omega))) ?_
   conv=>whnf
   refine ArithG.i64' ((c + a.getD i 0 : Nat) : Int) (by omega) (by omega) ?_
   conv=>whnf
   refine LenG.lit ?_
   conv=>whnf
   refine .decF (by assumption) ?_;(conv=>whnf)
   have zb := gd_big h2
   have ec : ((c + a.getD i 0 : Nat) : Int) = (s : Int) := by omega
   rw [ec]
   refine SideG.of (by decide) ?_
   conv=>whnf
   have er : (s : Int).tmod 2 = ((s % 2 : Nat) : Int) := by rw [Int.tmod_eq_emod_of_nonneg (by omega)]; omega
   rw [er]
   refine BuildG.of rfl ?_
   conv=>whnf
   intro b1
   conv=>whnf
   refine DoesG.ent (Ent.front 1 rfl) ?_
   refine app_own intsT 73 (m := 1) (ys := [.int .i64 ((s % 2 : Nat) : Int)]) (.mk _ _ _ _ _ (Nat.le_refl _) (.tl (.left .all _))) rfl (by simp [Value.oneCell']) (by simp only [maxLen]; omega) (by omega) fun ov2 hov2 hl2 _ => ?_
   conv=>whnf
   refine SideG.of (by decide) ?_
   have eq2 : (s : Int).tdiv 2 = ((s / 2 : Nat) : Int) := by rw [Int.tdiv_eq_ediv_of_nonneg (by omega)]; omega
   refine ArithG.i64' ((s / 2 : Nat) : Int) eq2 (by omega) ?_
   conv=>whnf
   refine ArithG.i64' ((i + 1 : Nat) : Int) (by omega) (by omega) ?_
   conv=>whnf
   have eL : own 1 ov2 (out.length + 1) (nvs out ++ [.int .i64 ((s % 2 : Nat) : Int)]) = own 1 ov2 (out ++ [s % 2]).length (nvs (out ++ [s % 2])) := by simp [nvs]
   rw [eL]
   refine ⟨a.length + b.length + 2 - (i + 1), [(0, .slice aa a.length ac), (1, .slice ba b.length bc), (4, .slice none 0 0), (5, ov2), (6, .int .i64 ((s / 2 : Nat) : Int)), (7, .int .i64 ((i + 1 : Nat) : Int))], _, by omega, ⟨rfl, rfl, rfl, rfl, rfl, rfl, trivial⟩, Ent.sel (T := []) (A := [_, _]) [0] rfl, i + 1, s / 2, out ++ [s % 2], ov2, by omega, by omega, rfl, ?_, ?_, isBits_snoc hob (by omega), ?_, fun _ _ => by omega, rfl, rfl⟩
   ·rw [List.length_append]; exact hov2
   ·rw [List.length_append, hol]; rfl
   ·rw [val2_snoc, hol, val2_getD a, val2_getD b]
    exact plus_step hw es
 ·repeat((first|(with_reducible first|refine .tt ?_|refine .ff ?_)|refine .decT (by assumption) ?_|refine .decF (by assumption) ?_);conv=>whnf)
  refine LenG.lit ?_
  (conv=>whnf);refine .ff ?_;(conv=>whnf);refine .ff ?_;(conv=>whnf)
  by_cases h2 : (i : Int) < (b.length : Int)
  ·repeat((first|(with_reducible first|refine .tt ?_|refine .ff ?_)|refine .decT (by assumption) ?_|refine .decF (by assumption) ?_);conv=>whnf)
   obtain ⟨s, es⟩ : ∃ s : Nat, s = c + a.getD i 0 + b.getD i 0 := ⟨_, rfl⟩
   have xa := gd_bit ha i
   have xb := gd_bit hb i
   conv=>whnf
   refine LenG.lit ?_
   conv=>whnf
   refine .decF (by assumption) ?_;(conv=>whnf)
   have za := gd_big h1
   have ec1 : (c : Int) = ((c + a.getD i 0 : Nat) : Int) := by omega
   rw [ec1]
   refine LenG.lit ?_
   conv=>whnf
   refine .decT (by assumption) ?_;(conv=>whnf)
   refine IdxG.rd hB (by omega) fun cb o hcb => ?_
   conv=>whnf
   refine LoadG.atF (v := .int .i64 (b.getD i 0 : Nat)) (hcb.one (i := ((i : Nat) : Int).toNat * 1) (by rw [Int.toNat_natCast, Nat.mul_one]; exact nvs_gd (by omega))) ?_
   conv=>whnf
   refine ArithG.i64' ((s : Nat) : Int) (by omega) (by omega) ?_
   conv=>whnf
   refine SideG.of (by decide) ?_
   conv=>whnf
   have er : (s : Int).tmod 2 = ((s % 2 : Nat) : Int) := by rw [Int.tmod_eq_emod_of_nonneg (by omega)]; omega
   rw [er]
   refine BuildG.of rfl ?_
   conv=>whnf
   intro b1
   conv=>whnf
   refine DoesG.ent (Ent.front 1 rfl) ?_
   refine app_own intsT 73 (m := 1) (ys := [.int .i64 ((s % 2 : Nat) : Int)]) (.mk _ _ _ _ _ (Nat.le_refl _) (.tl (.left .all _))) rfl (by simp [Value.oneCell']) (by simp only [maxLen]; omega) (by omega) fun ov2 hov2 hl2 _ => ?_
   conv=>whnf
   refine SideG.of (by decide) ?_
   have eq2 : (s : Int).tdiv 2 = ((s / 2 : Nat) : Int) := by rw [Int.tdiv_eq_ediv_of_nonneg (by omega)]; omega
   refine ArithG.i64' ((s / 2 : Nat) : Int) eq2 (by omega) ?_
   conv=>whnf
   refine ArithG.i64' ((i + 1 : Nat) : Int) (by omega) (by omega) ?_
   conv=>whnf
   have eL : own 1 ov2 (out.length + 1) (nvs out ++ [.int .i64 ((s % 2 : Nat) : Int)]) = own 1 ov2 (out ++ [s % 2]).length (nvs (out ++ [s % 2])) := by simp [nvs]
   rw [eL]
   refine ⟨a.length + b.length + 2 - (i + 1), [(0, .slice aa a.length ac), (1, .slice ba b.length bc), (4, .slice none 0 0), (5, ov2), (6, .int .i64 ((s / 2 : Nat) : Int)), (7, .int .i64 ((i + 1 : Nat) : Int))], _, by omega, ⟨rfl, rfl, rfl, rfl, rfl, rfl, trivial⟩, Ent.sel (T := []) (A := [_, _]) [0] rfl, i + 1, s / 2, out ++ [s % 2], ov2, by omega, by omega, rfl, ?_, ?_, isBits_snoc hob (by omega), ?_, fun _ _ => by omega, rfl, rfl⟩
   ·rw [List.length_append]; exact hov2
   ·rw [List.length_append, hol]; rfl
   ·rw [val2_snoc, hol, val2_getD a, val2_getD b]
    exact plus_step hw es
  ·repeat((first|(with_reducible first|refine .tt ?_|refine .ff ?_)|refine .decT (by assumption) ?_|refine .decF (by assumption) ?_);conv=>whnf)
   by_cases h3 : (0 : Int) < (c : Int)
   ·refine .decT (by assumption) ?_;(conv=>whnf)
    obtain ⟨s, es⟩ : ∃ s : Nat, s = c + a.getD i 0 + b.getD i 0 := ⟨_, rfl⟩
    have xa := gd_bit ha i
    have xb := gd_bit hb i
    conv=>whnf
    refine LenG.lit ?_
    conv=>whnf
    refine .decF (by assumption) ?_;(conv=>whnf)
    have za := gd_big h1
    have ec1 : (c : Int) = ((c + a.getD i 0 : Nat) : Int) := by omega
    rw [ec1]
    refine LenG.lit ?_
    conv=>whnf
    refine .decF (by assumption) ?_;(conv=>whnf)
    have zb := gd_big h2
    have ec : ((c + a.getD i 0 : Nat) : Int) = (s : Int) := by omega
    rw [ec]
    refine SideG.of (by decide) ?_
    conv=>whnf
    have er : (s : Int).tmod 2 = ((s % 2 : Nat) : Int) := by rw [Int.tmod_eq_emod_of_nonneg (by omega)]; omega
    rw [er]
    refine BuildG.of rfl ?_
    conv=>whnf
    intro b1
    conv=>whnf
    refine DoesG.ent (Ent.front 1 rfl) ?_
    refine app_own intsT 73 (m := 1) (ys := [.int .i64 ((s % 2 : Nat) : Int)]) (.mk _ _ _ _ _ (Nat.le_refl _) (.tl (.left .all _))) rfl (by simp [Value.oneCell']) (by simp only [maxLen]; omega) (by omega) fun ov2 hov2 hl2 _ => ?_
    conv=>whnf
    refine SideG.of (by decide) ?_
    have eq2 : (s : Int).tdiv 2 = ((s / 2 : Nat) : Int) := by rw [Int.tdiv_eq_ediv_of_nonneg (by omega)]; omega
    refine ArithG.i64' ((s / 2 : Nat) : Int) eq2 (by omega) ?_
    conv=>whnf
    refine ArithG.i64' ((i + 1 : Nat) : Int) (by omega) (by omega) ?_
    conv=>whnf
    have eL : own 1 ov2 (out.length + 1) (nvs out ++ [.int .i64 ((s % 2 : Nat) : Int)]) = own 1 ov2 (out ++ [s % 2]).length (nvs (out ++ [s % 2])) := by simp [nvs]
    rw [eL]
    refine ⟨a.length + b.length + 2 - (i + 1), [(0, .slice aa a.length ac), (1, .slice ba b.length bc), (4, .slice none 0 0), (5, ov2), (6, .int .i64 ((s / 2 : Nat) : Int)), (7, .int .i64 ((i + 1 : Nat) : Int))], _, by omega, ⟨rfl, rfl, rfl, rfl, rfl, rfl, trivial⟩, Ent.sel (T := []) (A := [_, _]) [0] rfl, i + 1, s / 2, out ++ [s % 2], ov2, by omega, by omega, rfl, ?_, ?_, isBits_snoc hob (by omega), ?_, fun _ _ => by omega, rfl, rfl⟩
    ·rw [List.length_append]; exact hov2
    ·rw [List.length_append, hol]; rfl
    ·rw [val2_snoc, hol, val2_getD a, val2_getD b]
     exact plus_step hw es
   ·refine .decF (by assumption) ?_;(conv=>whnf)
    have hv0 : val2 out = val2 a + val2 b := by
     rw [List.take_of_length_le (show a.length ≤ i by omega), List.take_of_length_le (show b.length ≤ i by omega), show c = 0 by omega, Nat.mul_zero, Nat.add_zero] at hw
     exact hw
    refine CallG.pure (rcut_any _ ov out (by omega) (own_rd hov (by rw [nvs_len, Nat.mul_one]))) ?_
    rintro r _ ⟨hr, rfl⟩
    conv=>whnf
    exact ret_here ⟨ov, out, hob, hv0, by omega, fun M => hr _ (own_rd hov (by rw [nvs_len, Nat.mul_one])), rfl⟩
theorem u64_or {x y : Nat} (hx : x < 18446744073709551616) (hy : y < 18446744073709551616) : IntKind.u64.wrap ((BitVec.ofInt IntKind.u64.bits (x : Int) ||| BitVec.ofInt IntKind.u64.bits (y : Int)).toNat : Int) = ((x ||| y : Nat) : Int) := by
 have e : (BitVec.ofInt IntKind.u64.bits (x : Int) ||| BitVec.ofInt IntKind.u64.bits (y : Int)).toNat = x ||| y := by
  show (BitVec.ofInt 64 (x : Int) ||| BitVec.ofInt 64 (y : Int)).toNat = _
  rw [BitVec.ofInt_natCast, BitVec.ofInt_natCast, BitVec.toNat_or, BitVec.toNat_ofNat, BitVec.toNat_ofNat, Nat.mod_eq_of_lt hx, Nat.mod_eq_of_lt hy]
 rw [e]
 exact u_wrap (k := .u64) rfl (by omega) (by have := Nat.or_lt_two_pow (n := 64) hx hy; show ((x ||| y : Nat) : Int) < 2 ^ 64; omega)
def numN (n : Nat) : List Nat := if n < 2 ^ 256 then w4 n else z4
theorem number2_spec (F : List HP) (v : Value) (l : List Nat) (hl : l.length ≤ 4611686018427387904) (hv : RdS F v l.length (nvs l)) (hb : isBits l) :
 SpecF Tryz.prog 166 [v] F [] (fun r L => r = .tuple #[.agg ⟨uvs (numN (val2 l))⟩, .bool (decide (val2 l < 2 ^ 256))] ∧ L = []) := by
 refine fun166.spec rfl ?_
 conv=>whnf
 intro b2
 conv=>whnf
 refine CallG.pure (rcut_spec _ v l hl (hv.right [_])) ?_
 rintro r _ ⟨hr, rfl⟩
 conv=>whnf
 intro b4
 conv=>whnf
 refine LenG.rd hr ?_
 conv=>whnf
 refine CondG.dec (fun h => ?_) (fun h => ?_)
 ·have hbig : ¬ val2 l < 2 ^ 256 := fun hlt => by
   have := cut_short hlt
   omega
  conv=>whnf
  refine LoadNG.at (vs := uvs z4) rfl .all ?_
  conv=>whnf
  refine StoreG.at rfl (Upd.tl (Upd.whole rfl (uvs_one z4))) ?_
  conv=>whnf
  refine LoadNG.at (vs := uvs z4) rfl (.tl .all) ?_
  conv=>whnf
  refine ⟨[], Ent.nil _, ?_, rfl⟩
  rw [numN, if_neg hbig, decide_eq_false hbig]
  rfl
 have hlt : val2 l < 2 ^ 256 := by
  have h1 := val2_lt (cutL_bits hb)
  rw [cutL_val] at h1
  exact Nat.lt_of_lt_of_le h1 (Nat.pow_le_pow_right (by decide) (by omega))
 have hcb := cutL_bits hb
 obtain ⟨k, hk⟩ : ∃ k, k = cutL l := ⟨_, rfl⟩
 rw [← hk] at hr h hcb
 have hkv : val2 k = val2 l := by rw [hk, cutL_val]
 conv=>whnf
 refine LoopG.mk (fun m e L => ∃ i, i ≤ k.length ∧ m = k.length - i ∧ e = [(0, r), (2, .pointer (some ⟨b2, 0, none⟩)), (4, .pointer (some ⟨b4, 0, none⟩)), (5, .int .i64 i)] ∧ L = [cel b4 38 (uvs (w4 (val2 (k.take i)))), cel b2 38 (uvs z4)]) k.length
  [(0, r), (2, .pointer (some ⟨b2, 0, none⟩)), (4, .pointer (some ⟨b4, 0, none⟩)), (5, .int .i64 0)] _ ⟨rfl, rfl, rfl, rfl, trivial⟩ (Ent.refl _) ⟨0, by omega, rfl, rfl, by rw [List.take_zero, show val2 [] = 0 from rfl, w4z]; rfl⟩ ?_
 rintro m e L ⟨i, hi, rfl, rfl, rfl⟩
 conv=>whnf
 refine LenG.rd hr ?_
 conv=>whnf
 refine CondG.dec (fun h1 => ?_) (fun h1 => ?_)
 ·have hik : i < k.length := by omega
  have hki : k.getD i 0 < 2 := gd_bit hcb i
  have hN : val2 (k.take i) < 2 ^ i := by
   have := val2_lt (l := k.take i) (fun x hx => hcb x (List.mem_of_mem_take hx))
   rw [List.length_take, Nat.min_eq_left (by omega)] at this
   exact this
  obtain ⟨hx, hstep⟩ := w4_bit (b := k.getD i 0) hN (by omega) hki
  rw [← val2_getD] at hstep
  have hr64 : i % 64 < 64 := Nat.mod_lt _ (by decide)
  have hA : 2 ^ (i % 64) ≤ 9223372036854775808 := by
   have : 2 ^ (i % 64) ≤ 2 ^ 63 := Nat.pow_le_pow_right (by decide) (by omega)
   omega
  have hq : (i : Int).tdiv 64 = ((i / 64 : Nat) : Int) := by rw [Int.tdiv_eq_ediv_of_nonneg (by omega)]; omega
  have hm : (i : Int).tmod 64 = ((i % 64 : Nat) : Int) := by rw [Int.tmod_eq_emod_of_nonneg (by omega)]; omega
  conv=>whnf
  refine DrawG.mk 15 [cel b4 38 (uvs (w4 (val2 (k.take i)))), cel b2 38 (uvs z4)] [] (Ent.refl _) ?_
  conv=>whnf
  refine .take 0 ?_
  conv=>whnf
  refine ⟨rfl, ?_⟩
  conv=>whnf
  refine .take 1 ?_
  conv=>whnf
  refine ⟨rfl, ?_⟩
  conv=>whnf
  refine SideG.of (by decide) ?_
  refine ArithG.i64' ((i / 64 : Nat) : Int) hq (by omega) ?_
  conv=>whnf
  refine .take 2 ?_
  conv=>whnf
  refine ⟨rfl, ?_⟩
  conv=>whnf
  refine .take 3 ?_
  conv=>whnf
  refine ⟨rfl, ?_⟩
  conv=>whnf
  refine SideG.of (by decide) ?_
  refine ArithG.i64' ((i / 64 : Nat) : Int) hq (by omega) ?_
  conv=>whnf
  refine .take 4 ?_
  conv=>whnf
  refine ⟨rfl, ?_⟩
  conv=>whnf
  refine SideG.of (by omega) ?_
  conv=>whnf
  refine .take 5 ?_
  conv=>whnf
  refine ⟨rfl, ?_⟩
  conv=>whnf
  refine LoadG.at (v := .int .u64 ((w4 (val2 (k.take i))).getD (i / 64) 0)) (.here (by rw [show 0 + ((i / 64 : Nat) : Int).toNat * 1 = i / 64 by omega]; exact uvs_at (by rw [w4_len]; omega))) ?_
  conv=>whnf
  refine .take 6 ?_
  conv=>whnf
  refine ⟨rfl, ?_⟩
  conv=>whnf
  refine .take 7 ?_
  conv=>whnf
  refine ⟨rfl, ?_⟩
  conv=>whnf
  refine .take 8 ?_
  conv=>whnf
  refine ⟨rfl, ?_⟩
  conv=>whnf
  refine IdxG.rd hr (by omega) fun cb o hcc => ?_
  conv=>whnf
  refine .take 9 ?_
  conv=>whnf
  refine ⟨rfl, ?_⟩
  conv=>whnf
  refine LoadG.atG (v := .int .i64 (k.getD i 0 : Nat)) ((hcc.one (i := ((i : Nat) : Int).toNat * 1) (by rw [Int.toNat_natCast, Nat.mul_one]; exact nvs_gd (by omega))).tl) ?_
  conv=>whnf
  refine .take 10 ?_
  conv=>whnf
  refine ⟨rfl, ?_⟩
  conv=>whnf
  refine ArithG.u64 (by omega) ?_
  conv=>whnf
  refine .take 11 ?_
  conv=>whnf
  refine ⟨rfl, ?_⟩
  conv=>whnf
  refine .take 12 ?_
  conv=>whnf
  refine ⟨rfl, ?_⟩
  conv=>whnf
  refine SideG.of (by decide) ?_
  conv=>whnf
  rw [hm]
  refine .take 13 ?_
  conv=>whnf
  refine ⟨rfl, ?_⟩
  conv=>whnf
  refine SideG.of (by omega) ?_
  have hbA : k.getD i 0 * 2 ^ (i % 64) ≤ 9223372036854775808 := by
   rcases (show k.getD i 0 = 0 ∨ k.getD i 0 = 1 by omega) with e | e <;> rw [e]
   ·omega
   ·omega
  have es : ((k.getD i 0 : Nat) : Int) * 2 ^ (min (((i % 64 : Nat) : Int)).toNat IntKind.u64.bits) = ((k.getD i 0 * 2 ^ (i % 64) : Nat) : Int) := by
   have e : min (((i % 64 : Nat) : Int)).toNat IntKind.u64.bits = i % 64 := by
    rw [Int.toNat_natCast]
    exact Nat.min_eq_left (by show _ ≤ 64; omega)
   rw [e]
   simp
  rw [es]
  refine ArithG.u64 (by omega) ?_
  conv=>whnf
  refine .take 14 ?_
  conv=>whnf
  refine ⟨rfl, ?_⟩
  conv=>whnf
  rw [u64_or (by omega) (by omega), or_add hx]
  conv=>whnf
  refine .all ?_
  conv=>whnf
  refine ⟨by decide, ?_⟩
  conv=>whnf
  refine ⟨rfl, ?_⟩
  conv=>whnf
  refine SideG.of (by omega) ?_
  conv=>whnf
  refine .all ?_
  conv=>whnf
  refine ⟨by decide, ?_⟩
  conv=>whnf
  have eu : (uvs (w4 (val2 (k.take i)))).set (0 + ((i / 64 : Nat) : Int).toNat * 1) (.int .u64 ((w4 (val2 (k.take i))).getD (i / 64) 0 + k.getD i 0 * 2 ^ (i % 64) : Nat)) = uvs (w4 (val2 (k.take (i + 1)))) := by
   rw [hstep, show 0 + ((i / 64 : Nat) : Int).toNat * 1 = i / 64 by omega]
   exact List.map_set.symm
  refine StoreG.at (cs := [_]) rfl (Upd.here (by rw [uvs_len, w4_len]; omega) rfl) ?_
  rw [eu]
  conv=>whnf
  refine ⟨rfl, ?_⟩
  conv=>whnf
  refine ArithG.i64' ((i + 1 : Nat) : Int) (by omega) (by omega) ?_
  conv=>whnf
  exact ⟨k.length - (i + 1), [(0, r), (2, .pointer (some ⟨b2, 0, none⟩)), (4, .pointer (some ⟨b4, 0, none⟩)), (5, .int .i64 ((i + 1 : Nat) : Int))], _, by omega, ⟨rfl, rfl, rfl, rfl, trivial⟩, Ent.refl _, i + 1, by omega, rfl, rfl, rfl⟩
 ·have hik : i = k.length := by omega
  rw [hik, List.take_length, hkv]
  conv=>whnf
  refine LoadNG.at (vs := uvs (w4 (val2 l))) rfl .all ?_
  conv=>whnf
  refine StoreG.at rfl (Upd.tl (Upd.whole rfl (uvs_one (w4 (val2 l))))) ?_
  conv=>whnf
  refine LoadNG.at (vs := uvs (w4 (val2 l))) rfl (.tl .all) ?_
  conv=>whnf
  refine ⟨[], Ent.nil _, ?_, rfl⟩
  rw [numN, if_pos hlt, decide_eq_true hlt]
  rfl
def ansE (n : Nat) : Int := if n < 2 ^ 256 then 0 else 22
theorem answered_spec (F : List HP) (v : Value) (l : List Nat) (hl : l.length ≤ 4611686018427387904) (hv : RdS F v l.length (nvs l)) (hb : isBits l) :
 SpecF Tryz.prog 143 [v] F [] (fun r L => r = .tuple #[.agg ⟨uvs (numN (val2 l))⟩, .int .i64 (ansE (val2 l))] ∧ L = []) := by
 refine fun143.spec rfl ?_
 conv=>whnf
 intro b2
 conv=>whnf
 refine CallG.pure (number2_spec _ v l hl (hv.right [_]) hb) ?_
 rintro _ _ ⟨rfl, rfl⟩
 conv=>whnf
 intro b4
 conv=>whnf
 have h4 : (uvs (numN (val2 l))).length = 4 := by
  rw [uvs_len, numN]
  split <;> rfl
 refine StoreG.at h4 (Upd.whole h4 (uvs_one _)) ?_
 conv=>whnf
 refine CondG.ndec (fun h => ?_) (fun h => ?_)
 ·have hz : numN (val2 l) = z4 := by rw [numN, if_neg h]
  conv=>whnf
  refine BuildG.of (cs := uvs z4) rfl ?_
  conv=>whnf
  refine StoreG.at rfl (Upd.tl (Upd.whole rfl (uvs_one z4))) ?_
  conv=>whnf
  refine LoadNG.at (vs := uvs z4) rfl (.tl .all) ?_
  conv=>whnf
  refine ⟨[], Ent.nil _, ?_, rfl⟩
  rw [ansE, if_neg h, hz]
  rfl
 ·conv=>whnf
  refine LoadNG.at (vs := uvs (numN (val2 l))) h4 .all ?_
  conv=>whnf
  refine StoreG.at h4 (Upd.tl (Upd.whole h4 (uvs_one _))) ?_
  conv=>whnf
  refine LoadNG.at (vs := uvs (numN (val2 l))) h4 (.tl .all) ?_
  conv=>whnf
  refine ⟨[], Ent.nil _, ?_, rfl⟩
  rw [ansE, if_pos h]
  rfl
end Go.Proofs.YtjacolfhlfogkabGreatDoor
namespace Go.Proofs.YtjacolfhlfogkabGreatDoor
open Go Go.Sl
theorem numN_ok (n : Nat) : (uvs (numN n)).length = 4 := by
 rw [uvs_len, numN]
 split <;> rfl
theorem bits_of (ws : List Nat) : isBits (cutL (digs2 ws)) := cutL_bits (digs2_bits ws)
theorem add2_spec (F : List HP) (a b : List Nat) (ha : wOk a) (hb : wOk b) : SpecF Tryz.prog 117 [.agg ⟨uvs a⟩, .agg ⟨uvs b⟩] F [] (fun r L => r = .tuple #[.agg ⟨uvs (numN (nat4 a + nat4 b))⟩, .int .i64 (ansE (nat4 a + nat4 b))] ∧ L = []) := by
 have hal : (uvs a).length = 4 := by rw [uvs_len, ha.len]
 have hbl : (uvs b).length = 4 := by rw [uvs_len, hb.len]
 have lc : ∀ ws, (cutL (digs2 ws)).length ≤ 256 := fun ws => by rw [cutL_len]; have := cutN_le (digs2 ws) (digs2 ws).length; rw [digs2_len] at this ⊢; exact this
 have vc : ∀ ws, wOk ws → val2 (cutL (digs2 ws)) = nat4 ws := fun ws h => by rw [cutL_val, val2_digs h]
 have la := lc a
 have lb := lc b
 refine fun117.spec rfl ?_
 conv=>whnf
 intro b2
 conv=>whnf
 intro b3
 conv=>whnf
 intro b4
 conv=>whnf
 refine DrawG.mk 10 [cel b3 38 (uvs b), cel b2 38 (uvs a)] [cel b4 38 (uvs z4)] (Ent.refl _) ?_
 conv=>whnf
 refine .take 0 ?_
 conv=>whnf
 refine ⟨rfl, ?_⟩
 conv=>whnf
 refine LoadNG.at (vs := uvs a) hal (.tl .all) ?_
 conv=>whnf
 refine .take 2 ?_
 conv=>whnf
 refine ⟨rfl, ?_⟩
 conv=>whnf
 refine LoadNG.at (vs := uvs b) hbl .all ?_
 conv=>whnf
 refine .all ?_
 conv=>whnf
 refine ⟨by decide, ?_⟩
 conv=>whnf
 refine CallG.pure (digits_spec _ a ha) ?_
 rintro r1 _ ⟨c1, hr1, rfl⟩
 conv=>whnf
 refine .all ?_
 conv=>whnf
 refine ⟨by decide, ?_⟩
 conv=>whnf
 refine CallG.pure (digits_spec _ b hb) ?_
 rintro r2 _ ⟨c2, hr2, rfl⟩
 conv=>whnf
 refine .all ?_
 conv=>whnf
 refine ⟨by decide, ?_⟩
 conv=>whnf
 refine CallG.pure (plus_spec _ r1 r2 (cutL (digs2 a)) (cutL (digs2 b)) (.tl hr1) hr2 (bits_of a) (bits_of b) (by omega) (by omega)) ?_
 rintro r3 _ ⟨ov, out, hob, hvo, hol, hrd, rfl⟩
 rw [vc a ha, vc b hb] at hvo
 conv=>whnf
 refine .all ?_
 conv=>whnf
 refine ⟨by decide, ?_⟩
 conv=>whnf
 refine CallG.pure (answered_spec _ r3 (cutL out) (by have := cutN_le out out.length; rw [cutL_len]; omega) (hrd _) (cutL_bits hob)) ?_
 rintro _ _ ⟨rfl, rfl⟩
 rw [cutL_val, hvo]
 conv=>whnf
 refine .take 6 ?_
 conv=>whnf
 refine ⟨rfl, ?_⟩
 conv=>whnf
 refine .take 7 ?_
 conv=>whnf
 refine ⟨rfl, ?_⟩
 conv=>whnf
 refine .all ?_
 conv=>whnf
 refine ⟨by decide, ?_⟩
 conv=>whnf
 refine StoreG.at (numN_ok _) (.tl (.tl (.tl (Upd.whole (by rw [numN_ok]; rfl) (uvs_one _))))) ?_
 conv=>whnf
 refine .all ?_
 conv=>whnf
 refine ⟨by decide, ?_⟩
 conv=>whnf
 refine ⟨rfl, ?_⟩
 conv=>whnf
 refine LoadNG.at (vs := uvs (numN (nat4 a + nat4 b))) (numN_ok _) (.tl (.tl (.tl .all))) ?_
 conv=>whnf
 exact ⟨[], Ent.nil _, rfl, rfl⟩
end Go.Proofs.YtjacolfhlfogkabGreatDoor
