/-
  The document's comparison of wide numbers; what is given can be given back.
-/
import Derived.Test.YtnbcbdlbejdkpaaDoorLk
import Derived.Test.YtnbcbdlbejdkpaaDoorZGv
import Derived.Test.YtnbcbdlbejdkpaaDoorZDg
import Derived.Test.YtnbcbdlbejdkpaaDoorZKc
namespace Go.Proofs.YtnbcbdlbejdkpaaDoor
open Go Go.Sl
theorem nvs_take (l : List Nat) (n : Nat) : (nvs l).take n = nvs (l.take n) := by simp [nvs, List.map_take]
theorem rcut_spec (F : List HP) (v : Value) (l : List Nat) (hl : l.length ≤ 4611686018427387904) (hv : RdS F v l.length (nvs l)) : SpecF Tryd.prog 95 [v] F [] (fun r L => RdS F r (cutL l).length (nvs (cutL l)) ∧ L = []) := by
  refine fun95.spec rfl ?_
  (conv => whnf); repeat ((first | with_reducible refine CondG.tt ?_ | with_reducible refine CondG.ff ?_); conv => whnf)
  refine LenG.rd hv ?_
  (conv => whnf); repeat ((first | with_reducible refine CondG.tt ?_ | with_reducible refine CondG.ff ?_); conv => whnf)
  refine LoopG.mk (fun mm e L => ∃ n, n ≤ l.length ∧ mm = n ∧ cutN l n = cutN l l.length ∧ e = [(0, v), (3, .int .i64 n)] ∧ L = []) l.length
    [(0, v), (3, .int .i64 l.length)] _ ⟨rfl, rfl, trivial⟩ (Ent.refl _) ⟨l.length, Nat.le_refl _, rfl, rfl, rfl, rfl⟩ ?_
  rintro n e L ⟨n', hn, rfl, hc, rfl, rfl⟩
  (conv => whnf); repeat ((first | with_reducible refine CondG.tt ?_ | with_reducible refine CondG.ff ?_); conv => whnf)
  have out : cutN l n = n → (nvs l).take n = nvs (cutL l) ∧ (cutL l).length = n := fun h => by
    refine ⟨?_, ?_⟩
    · rw [cutL, ← hc, h, nvs_take]
    · rw [cutL_len, ← hc, h]
  have leave : ∀ (K : Value → Prop), cutN l n = n → (∀ r, RdS F r (cutL l).length (nvs (cutL l)) → K r) → SlcG v (fun a len cap => (fun a len cap => SideG (0 ≤ (0 : Int) ∧ (0 : Int) ≤ (n : Int) ∧ (n : Int) ≤ (cap : Int) ∧ (cap : Int) ≤ (cap : Int)) (SliceG a 1 (0 : Int).toNat (n : Int).toNat (cap : Int).toNat fun v => K v)) a len cap) := fun K h hK => by
    refine SlcG.rd hv fun a cap hva hcap => ?_
    refine SideG.of (by omega) ?_
    refine SliceG.rd (by rw [← hva]; exact hv) (by omega) (by omega) (by omega) (by omega) fun v1 hv1 _ => ?_
    have e1 : ((nvs l).drop ((0 : Int).toNat * 1)).take ((((n : Nat) : Int).toNat - (0 : Int).toNat) * 1) = nvs (cutL l) := by
      rw [← (out h).1]
      simp
    have e2 : ((n : Nat) : Int).toNat - (0 : Int).toNat = (cutL l).length := by
      rw [(out h).2]
      simp
    rw [e1, e2] at hv1
    exact hK v1 hv1
  refine CondG.dec (fun h1 => ?_) (fun h1 => ?_)
  · have hn1 : n - 1 < l.length := by omega
    (conv => whnf); repeat ((first | with_reducible refine CondG.tt ?_ | with_reducible refine CondG.ff ?_); conv => whnf)
    refine ArithG.i64' ((n - 1 : Nat) : Int) (by omega) (by omega) ?_
    (conv => whnf); repeat ((first | with_reducible refine CondG.tt ?_ | with_reducible refine CondG.ff ?_); conv => whnf)
    refine IdxG.rd hv (by omega) fun c o hcc => ?_
    (conv => whnf); repeat ((first | with_reducible refine CondG.tt ?_ | with_reducible refine CondG.ff ?_); conv => whnf)
    refine LoadG.atF (v := .int .i64 l[n - 1]) (hcc.one (i := ((n - 1 : Nat) : Int).toNat * 1) (by rw [Int.toNat_natCast, Nat.mul_one]; exact nvs_get hn1)) ?_
    (conv => whnf); repeat ((first | with_reducible refine CondG.tt ?_ | with_reducible refine CondG.ff ?_); conv => whnf)
    obtain ⟨k, rfl⟩ : ∃ k, n = k + 1 := ⟨n - 1, by omega⟩
    have hgd : l.getD k 0 = l[k]'(by omega) := by simp [List.getD, show k < l.length by omega]
    refine CondG.dec (fun h2 => ?_) (fun h2 => ?_)
    · (conv => whnf); repeat ((first | with_reducible refine CondG.tt ?_ | with_reducible refine CondG.ff ?_); conv => whnf)
      refine ArithG.i64' ((k : Nat) : Int) (by omega) (by omega) ?_
      (conv => whnf); repeat ((first | with_reducible refine CondG.tt ?_ | with_reducible refine CondG.ff ?_); conv => whnf)
      have hz : l.getD k 0 = 0 := by
        rw [hgd]
        have : (l[k + 1 - 1] : Nat) = 0 := by omega
        exact this
      refine ⟨k, [(0, v), (3, .int .i64 k)], _, by omega, ?_, Ent.refl _, k, by omega, rfl, ?_, rfl, rfl⟩
      · exact ⟨rfl, rfl, trivial⟩
      · rw [← hc, cutN, if_pos hz]
    · (conv => whnf); repeat ((first | with_reducible refine CondG.tt ?_ | with_reducible refine CondG.ff ?_); conv => whnf)
      have hz : ¬ l.getD k 0 = 0 := by
        rw [hgd]
        intro h
        apply h2
        have : (l[k + 1 - 1] : Nat) = 0 := h
        omega
      have hk : cutN l (k + 1) = k + 1 := by rw [cutN, if_neg hz]
      refine leave _ hk fun r hr => ?_
      (conv => whnf); repeat ((first | with_reducible refine CondG.tt ?_ | with_reducible refine CondG.ff ?_); conv => whnf)
      exact ret_here ⟨hr, rfl⟩
  · have h0 : n = 0 := by omega
    subst h0
    (conv => whnf); repeat ((first | with_reducible refine CondG.tt ?_ | with_reducible refine CondG.ff ?_); conv => whnf)
    refine leave _ rfl fun r hr => ?_
    (conv => whnf); repeat ((first | with_reducible refine CondG.tt ?_ | with_reducible refine CondG.ff ?_); conv => whnf)
    exact ret_here ⟨hr, rfl⟩
theorem and1 (x : Nat) (hx : x < 18446744073709551616) : IntKind.i64.wrap ((BitVec.ofInt IntKind.i64.bits (IntKind.i64.wrap (x : Int)) &&& BitVec.ofInt IntKind.i64.bits 1).toNat : Int) = ((x % 2 : Nat) : Int) := by
  have e1 : BitVec.ofInt 64 (IntKind.i64.wrap (x : Int)) = BitVec.ofNat 64 x := by
    rcases Nat.lt_or_ge x 9223372036854775808 with h | h
    · rw [i64_wrap (by omega) (by omega), BitVec.ofInt_natCast]
    · have : IntKind.i64.wrap (x : Int) = (x : Int) - 18446744073709551616 := by
        show (if (true && decide ((x : Int) % (2 ^ 64 : Int) ≥ (2 ^ (64 - 1) : Int))) = true then (x : Int) % (2 ^ 64 : Int) - (2 ^ 64 : Int) else (x : Int) % (2 ^ 64 : Int)) = _
        have e1 : (2 ^ 64 : Int) = 18446744073709551616 := by decide
        have e2 : (2 ^ (64 - 1) : Int) = 9223372036854775808 := by decide
        rw [e1, e2]
        simp only [Bool.true_and, decide_eq_true_eq]
        split <;> omega
      rw [this]
      apply BitVec.eq_of_toNat_eq
      rw [BitVec.toNat_ofInt, BitVec.toNat_ofNat]
      have : (((x : Int) - 18446744073709551616) % ((2 ^ 64 : Nat) : Int)) = (x : Int) := by
        have e : ((2 ^ 64 : Nat) : Int) = 18446744073709551616 := by decide
        rw [e]
        omega
      rw [this]
      omega
  show IntKind.i64.wrap ((BitVec.ofInt 64 (IntKind.i64.wrap (x : Int)) &&& BitVec.ofInt 64 1).toNat : Int) = _
  rw [e1, BitVec.toNat_and, BitVec.toNat_ofNat, Nat.mod_eq_of_lt hx]
  have e3 : (BitVec.ofInt 64 1).toNat = 1 := by decide
  rw [e3, Nat.and_one_is_mod, i64_wrap (by omega) (by omega)]
theorem intsT : ElT Tryd.prog 58 3 1 8 := .of (by kernel_rfl)
theorem digits_spec (F : List HP) (ws : List Nat) (hw : wOk ws) : SpecF Tryd.prog 57 [.agg ⟨uvs ws⟩] F [] (fun r L => ∃ b, RdS (cel b 3 (nvs (digs2 ws)) :: F) r (cutL (digs2 ws)).length (nvs (cutL (digs2 ws))) ∧ L = [cel b 3 (nvs (digs2 ws))]) := by
  have hl := digs2_len ws
  have hwl := hw.len
  refine fun57.spec rfl ?_
  (conv => whnf); repeat ((first | with_reducible refine CondG.tt ?_ | with_reducible refine CondG.ff ?_); conv => whnf)
  intro b1
  (conv => whnf); repeat ((first | with_reducible refine CondG.tt ?_ | with_reducible refine CondG.ff ?_); conv => whnf)
  refine DoesG.makeC (n := 256) (zv := .int .i64 0) intsT (by kernel_rfl) rfl .i64 .i64 (by decide) (by decide) fun b5 => ?_
  (conv => whnf); repeat ((first | with_reducible refine CondG.tt ?_ | with_reducible refine CondG.ff ?_); conv => whnf)
  refine LoopG.mk (fun mm e L => ∃ i, i ≤ 256 ∧ mm = 256 - i ∧ e = [(1, .pointer (some ⟨b1, 0, none⟩)), (3, .slice (some ⟨b5, 0, none⟩) 256 256), (4, .int .i64 i)] ∧ L = [cel b5 3 (nvs (fillD (digs2 ws) i)), cel b1 25 (uvs ws)]) 256
    [(1, .pointer (some ⟨b1, 0, none⟩)), (3, .slice (some ⟨b5, 0, none⟩) 256 256), (4, .int .i64 0)] _ ⟨rfl, rfl, rfl, trivial⟩ (Ent.refl _) ⟨0, by omega, rfl, rfl, by rw [fillD_zero]⟩ ?_
  rintro mm e L ⟨i, hi, rfl, rfl, rfl⟩
  (conv => whnf); repeat ((first | with_reducible refine CondG.tt ?_ | with_reducible refine CondG.ff ?_); conv => whnf)
  refine CondG.dec (fun h => ?_) (fun h => ?_)
  · have hi2 : i < 256 := by omega
    have hx := getD_lt hw (i / 64)
    (conv => whnf); repeat ((first | with_reducible refine CondG.tt ?_ | with_reducible refine CondG.ff ?_); conv => whnf)
    refine SideG.of (by decide) ?_
    (conv => whnf); repeat ((first | with_reducible refine CondG.tt ?_ | with_reducible refine CondG.ff ?_); conv => whnf)
    refine ArithG.i64' ((i / 64 : Nat) : Int) (by rw [Int.tdiv_eq_ediv_of_nonneg (by omega)]; omega) (by omega) ?_
    (conv => whnf); repeat ((first | with_reducible refine CondG.tt ?_ | with_reducible refine CondG.ff ?_); conv => whnf)
    refine SideG.of (by omega) ?_
    (conv => whnf); repeat ((first | with_reducible refine CondG.tt ?_ | with_reducible refine CondG.ff ?_); conv => whnf)
    refine LoadG.at (v := .int .u64 (ws.getD (i / 64) 0)) (.tl (.here (by rw [show 0 + ((i / 64 : Nat) : Int).toNat * 1 = i / 64 by omega]; exact uvs_at (by omega)))) ?_
    (conv => whnf); repeat ((first | with_reducible refine CondG.tt ?_ | with_reducible refine CondG.ff ?_); conv => whnf)
    refine SideG.of (by decide) ?_
    (conv => whnf); repeat ((first | with_reducible refine CondG.tt ?_ | with_reducible refine CondG.ff ?_); conv => whnf)
    have er : (i : Int).tmod 64 = ((i % 64 : Nat) : Int) := by rw [Int.tmod_eq_emod_of_nonneg (by omega)]; omega
    rw [er]
    refine SideG.of (by omega) ?_
    have es : ((ws.getD (i / 64) 0 : Nat) : Int).fdiv (2 ^ (min (((i % 64 : Nat) : Int)).toNat IntKind.u64.bits)) = ((ws.getD (i / 64) 0 / 2 ^ (i % 64) : Nat) : Int) := by
      have e : min (((i % 64 : Nat) : Int)).toNat IntKind.u64.bits = i % 64 := by
        rw [Int.toNat_natCast]
        exact Nat.min_eq_left (by show _ ≤ 64; omega)
      rw [e]
      exact fdiv_pow _ _
    rw [es]
    (conv => whnf); repeat ((first | with_reducible refine CondG.tt ?_ | with_reducible refine CondG.ff ?_); conv => whnf)
    refine ArithG.all ?_
    (conv => whnf); repeat ((first | with_reducible refine CondG.tt ?_ | with_reducible refine CondG.ff ?_); conv => whnf)
    have hy : ws.getD (i / 64) 0 / 2 ^ (i % 64) < 18446744073709551616 := Nat.lt_of_le_of_lt (Nat.div_le_self _ _) hx
    rw [and1 _ hy]
    refine ⟨b5, 0, 256, 256, rfl, by omega, ?_⟩
    (conv => whnf); repeat ((first | with_reducible refine CondG.tt ?_ | with_reducible refine CondG.ff ?_); conv => whnf)
    have hg := digs2_get ws hi2
    have hget : (digs2 ws)[i]'(by omega) = ws.getD (i / 64) 0 / 2 ^ (i % 64) % 2 := (List.getElem?_eq_some_iff.1 hg).2
    refine StoreG.at (cs := [_]) rfl (Upd.here (by rw [nvs_len, fillD_len hl hi]; omega) rfl) ?_
    rw [show 0 + ((i : Nat) : Int).toNat * 1 = i by omega, ← hget, fillD_set hl hi2]
    (conv => whnf); repeat ((first | with_reducible refine CondG.tt ?_ | with_reducible refine CondG.ff ?_); conv => whnf)
    refine ArithG.i64 (by omega) ?_
    (conv => whnf); repeat ((first | with_reducible refine CondG.tt ?_ | with_reducible refine CondG.ff ?_); conv => whnf)
    refine ⟨256 - (i + 1), _, _, by omega, ?_, Ent.refl _, i + 1, by omega, rfl, rfl, rfl⟩
    exact ⟨rfl, rfl, rfl, trivial⟩
  · obtain rfl : i = 256 := by omega
    rw [fillD_all hl]
    (conv => whnf); repeat ((first | with_reducible refine CondG.tt ?_ | with_reducible refine CondG.ff ?_); conv => whnf)
    have hrd : RdS ([cel b5 3 (nvs (digs2 ws))] ++ F) (.slice (some ⟨b5, 0, none⟩) 256 256) (digs2 ws).length (nvs (digs2 ws)) := by
      rw [hl]
      exact .mk _ _ _ _ _ (Nat.le_refl _) (.left .all F)
    refine CallG.of (pre := []) (rest := [cel b5 3 (nvs (digs2 ws))]) (rcut_spec _ _ (digs2 ws) (by omega) hrd) (Ent.sel (T := []) (A := [_, _]) [0] rfl) ?_
    rintro r _ ⟨hr, rfl⟩
    (conv => whnf); repeat ((first | with_reducible refine CondG.tt ?_ | with_reducible refine CondG.ff ?_); conv => whnf)
    exact ret_here ⟨b5, hr, rfl⟩
theorem compare_spec (F : List HP) (va vb : Value) (a b : List Nat) (hal : a.length ≤ 4611686018427387904) (hA : RdS F va a.length (nvs a)) (hB : RdS F vb b.length (nvs b)) (ha : isBits a) (hb : isBits b) (h1 : a.length < b.length → val2 a < val2 b) (h2 : b.length < a.length → val2 b < val2 a) :
    SpecF Tryd.prog 56 [va, vb] F [] (fun v L => v = .int .i64 (cmpN (val2 a) (val2 b)) ∧ L = []) := by
  have less : val2 a < val2 b → cmpN (val2 a) (val2 b) = -1 := fun h => by rw [cmpN, if_pos h]
  have more : val2 b < val2 a → cmpN (val2 a) (val2 b) = 1 := fun h => by rw [cmpN, if_neg (by omega), if_pos h]
  refine fun56.spec rfl ?_
  (conv => whnf); repeat ((first | with_reducible refine CondG.tt ?_ | with_reducible refine CondG.ff ?_); conv => whnf)
  refine LenG.rd hA ?_
  (conv => whnf); repeat ((first | with_reducible refine CondG.tt ?_ | with_reducible refine CondG.ff ?_); conv => whnf)
  refine LenG.rd hB ?_
  (conv => whnf); repeat ((first | with_reducible refine CondG.tt ?_ | with_reducible refine CondG.ff ?_); conv => whnf)
  refine CondG.ndec (fun h => ?_) (fun h => ?_)
  · (conv => whnf); repeat ((first | with_reducible refine CondG.tt ?_ | with_reducible refine CondG.ff ?_); conv => whnf)
    refine LenG.rd hA ?_
    (conv => whnf); repeat ((first | with_reducible refine CondG.tt ?_ | with_reducible refine CondG.ff ?_); conv => whnf)
    refine LenG.rd hB ?_
    (conv => whnf); repeat ((first | with_reducible refine CondG.tt ?_ | with_reducible refine CondG.ff ?_); conv => whnf)
    refine CondG.dec (fun h3 => ?_) (fun h3 => ?_)
    · (conv => whnf); repeat ((first | with_reducible refine CondG.tt ?_ | with_reducible refine CondG.ff ?_); conv => whnf)
      refine ret_here ⟨?_, rfl⟩
      rw [less (h1 (by omega))]
      rfl
    · (conv => whnf); repeat ((first | with_reducible refine CondG.tt ?_ | with_reducible refine CondG.ff ?_); conv => whnf)
      refine ret_here ⟨?_, rfl⟩
      rw [more (h2 (by omega))]
      rfl
  have hlen : a.length = b.length := by omega
  (conv => whnf); repeat ((first | with_reducible refine CondG.tt ?_ | with_reducible refine CondG.ff ?_); conv => whnf)
  refine LenG.rd hA ?_
  (conv => whnf); repeat ((first | with_reducible refine CondG.tt ?_ | with_reducible refine CondG.ff ?_); conv => whnf)
  refine ArithG.i64 (by omega) ?_
  (conv => whnf); repeat ((first | with_reducible refine CondG.tt ?_ | with_reducible refine CondG.ff ?_); conv => whnf)
  refine LoopG.mk (fun mm e L => ∃ n, n ≤ a.length ∧ mm = n ∧ a.drop n = b.drop n ∧ e = [(0, va), (1, vb), (5, .int .i64 ((n : Int) - 1))] ∧ L = []) a.length
    [(0, va), (1, vb), (5, .int .i64 ((a.length : Int) - 1))] _ ⟨rfl, rfl, rfl, trivial⟩ (Ent.refl _) ⟨a.length, Nat.le_refl _, rfl, by rw [List.drop_length, hlen, List.drop_length], rfl, rfl⟩ ?_
  rintro n e L ⟨n', hn, rfl, hd, rfl, rfl⟩
  (conv => whnf); repeat ((first | with_reducible refine CondG.tt ?_ | with_reducible refine CondG.ff ?_); conv => whnf)
  refine CondG.dec (fun h3 => ?_) (fun h3 => ?_)
  · obtain ⟨k, rfl⟩ : ∃ k, n = k + 1 := ⟨n - 1, by omega⟩
    have hka : k < a.length := by omega
    have hkb : k < b.length := by omega
    have ek : ((k + 1 : Nat) : Int) - 1 = (k : Int) := by omega
    rw [ek]
    (conv => whnf); repeat ((first | with_reducible refine CondG.tt ?_ | with_reducible refine CondG.ff ?_); conv => whnf)
    refine DrawG.mk 9 [] [] (Ent.refl _) ?_
    (conv => whnf); repeat ((first | with_reducible refine CondG.tt ?_ | with_reducible refine CondG.ff ?_); conv => whnf)
    refine .take 0 ?_
    (conv => whnf); repeat ((first | with_reducible refine CondG.tt ?_ | with_reducible refine CondG.ff ?_); conv => whnf)
    refine ⟨rfl, ?_⟩
    (conv => whnf); repeat ((first | with_reducible refine CondG.tt ?_ | with_reducible refine CondG.ff ?_); conv => whnf)
    refine .take 1 ?_
    (conv => whnf); repeat ((first | with_reducible refine CondG.tt ?_ | with_reducible refine CondG.ff ?_); conv => whnf)
    refine ⟨rfl, ?_⟩
    (conv => whnf); repeat ((first | with_reducible refine CondG.tt ?_ | with_reducible refine CondG.ff ?_); conv => whnf)
    refine .take 4 ?_
    (conv => whnf); repeat ((first | with_reducible refine CondG.tt ?_ | with_reducible refine CondG.ff ?_); conv => whnf)
    refine ⟨rfl, ?_⟩
    (conv => whnf); repeat ((first | with_reducible refine CondG.tt ?_ | with_reducible refine CondG.ff ?_); conv => whnf)
    refine .take 5 ?_
    (conv => whnf); repeat ((first | with_reducible refine CondG.tt ?_ | with_reducible refine CondG.ff ?_); conv => whnf)
    refine ⟨rfl, ?_⟩
    (conv => whnf); repeat ((first | with_reducible refine CondG.tt ?_ | with_reducible refine CondG.ff ?_); conv => whnf)
    refine .take 2 ?_
    (conv => whnf); repeat ((first | with_reducible refine CondG.tt ?_ | with_reducible refine CondG.ff ?_); conv => whnf)
    refine ⟨rfl, ?_⟩
    (conv => whnf); repeat ((first | with_reducible refine CondG.tt ?_ | with_reducible refine CondG.ff ?_); conv => whnf)
    refine IdxG.rd hA (by omega) fun c o hc => ?_
    (conv => whnf); repeat ((first | with_reducible refine CondG.tt ?_ | with_reducible refine CondG.ff ?_); conv => whnf)
    refine .take 3 ?_
    (conv => whnf); repeat ((first | with_reducible refine CondG.tt ?_ | with_reducible refine CondG.ff ?_); conv => whnf)
    refine ⟨rfl, ?_⟩
    (conv => whnf); repeat ((first | with_reducible refine CondG.tt ?_ | with_reducible refine CondG.ff ?_); conv => whnf)
    refine LoadG.atF (v := .int .i64 a[k]) (hc.one (i := ((k : Nat) : Int).toNat * 1) (by rw [Int.toNat_natCast, Nat.mul_one]; exact nvs_get hka)) ?_
    (conv => whnf); repeat ((first | with_reducible refine CondG.tt ?_ | with_reducible refine CondG.ff ?_); conv => whnf)
    refine .take 6 ?_
    (conv => whnf); repeat ((first | with_reducible refine CondG.tt ?_ | with_reducible refine CondG.ff ?_); conv => whnf)
    refine ⟨rfl, ?_⟩
    (conv => whnf); repeat ((first | with_reducible refine CondG.tt ?_ | with_reducible refine CondG.ff ?_); conv => whnf)
    refine IdxG.rd hB (by omega) fun c o hc => ?_
    (conv => whnf); repeat ((first | with_reducible refine CondG.tt ?_ | with_reducible refine CondG.ff ?_); conv => whnf)
    refine .take 7 ?_
    (conv => whnf); repeat ((first | with_reducible refine CondG.tt ?_ | with_reducible refine CondG.ff ?_); conv => whnf)
    refine ⟨rfl, ?_⟩
    (conv => whnf); repeat ((first | with_reducible refine CondG.tt ?_ | with_reducible refine CondG.ff ?_); conv => whnf)
    refine LoadG.atF (v := .int .i64 b[k]) (hc.one (i := ((k : Nat) : Int).toNat * 1) (by rw [Int.toNat_natCast, Nat.mul_one]; exact nvs_get hkb)) ?_
    (conv => whnf); repeat ((first | with_reducible refine CondG.tt ?_ | with_reducible refine CondG.ff ?_); conv => whnf)
    refine .take 8 ?_
    (conv => whnf); repeat ((first | with_reducible refine CondG.tt ?_ | with_reducible refine CondG.ff ?_); conv => whnf)
    refine ⟨rfl, ?_⟩
    (conv => whnf); repeat ((first | with_reducible refine CondG.tt ?_ | with_reducible refine CondG.ff ?_); conv => whnf)
    refine ⟨rfl, ?_⟩
    (conv => whnf); repeat ((first | with_reducible refine CondG.tt ?_ | with_reducible refine CondG.ff ?_); conv => whnf)
    refine CondG.dec (fun h4 => ?_) (fun h4 => ?_)
    · (conv => whnf); repeat ((first | with_reducible refine CondG.tt ?_ | with_reducible refine CondG.ff ?_); conv => whnf)
      refine ret_here ⟨?_, rfl⟩
      rw [less (parts ha hka hkb hd (by omega))]
      rfl
    (conv => whnf); repeat ((first | with_reducible refine CondG.tt ?_ | with_reducible refine CondG.ff ?_); conv => whnf)
    refine DrawG.mk 9 [] [] (Ent.refl _) ?_
    (conv => whnf); repeat ((first | with_reducible refine CondG.tt ?_ | with_reducible refine CondG.ff ?_); conv => whnf)
    refine .take 0 ?_
    (conv => whnf); repeat ((first | with_reducible refine CondG.tt ?_ | with_reducible refine CondG.ff ?_); conv => whnf)
    refine ⟨rfl, ?_⟩
    (conv => whnf); repeat ((first | with_reducible refine CondG.tt ?_ | with_reducible refine CondG.ff ?_); conv => whnf)
    refine .take 1 ?_
    (conv => whnf); repeat ((first | with_reducible refine CondG.tt ?_ | with_reducible refine CondG.ff ?_); conv => whnf)
    refine ⟨rfl, ?_⟩
    (conv => whnf); repeat ((first | with_reducible refine CondG.tt ?_ | with_reducible refine CondG.ff ?_); conv => whnf)
    refine .take 4 ?_
    (conv => whnf); repeat ((first | with_reducible refine CondG.tt ?_ | with_reducible refine CondG.ff ?_); conv => whnf)
    refine ⟨rfl, ?_⟩
    (conv => whnf); repeat ((first | with_reducible refine CondG.tt ?_ | with_reducible refine CondG.ff ?_); conv => whnf)
    refine .take 5 ?_
    (conv => whnf); repeat ((first | with_reducible refine CondG.tt ?_ | with_reducible refine CondG.ff ?_); conv => whnf)
    refine ⟨rfl, ?_⟩
    (conv => whnf); repeat ((first | with_reducible refine CondG.tt ?_ | with_reducible refine CondG.ff ?_); conv => whnf)
    refine .take 2 ?_
    (conv => whnf); repeat ((first | with_reducible refine CondG.tt ?_ | with_reducible refine CondG.ff ?_); conv => whnf)
    refine ⟨rfl, ?_⟩
    (conv => whnf); repeat ((first | with_reducible refine CondG.tt ?_ | with_reducible refine CondG.ff ?_); conv => whnf)
    refine IdxG.rd hA (by omega) fun c o hc => ?_
    (conv => whnf); repeat ((first | with_reducible refine CondG.tt ?_ | with_reducible refine CondG.ff ?_); conv => whnf)
    refine .take 3 ?_
    (conv => whnf); repeat ((first | with_reducible refine CondG.tt ?_ | with_reducible refine CondG.ff ?_); conv => whnf)
    refine ⟨rfl, ?_⟩
    (conv => whnf); repeat ((first | with_reducible refine CondG.tt ?_ | with_reducible refine CondG.ff ?_); conv => whnf)
    refine LoadG.atF (v := .int .i64 a[k]) (hc.one (i := ((k : Nat) : Int).toNat * 1) (by rw [Int.toNat_natCast, Nat.mul_one]; exact nvs_get hka)) ?_
    (conv => whnf); repeat ((first | with_reducible refine CondG.tt ?_ | with_reducible refine CondG.ff ?_); conv => whnf)
    refine .take 6 ?_
    (conv => whnf); repeat ((first | with_reducible refine CondG.tt ?_ | with_reducible refine CondG.ff ?_); conv => whnf)
    refine ⟨rfl, ?_⟩
    (conv => whnf); repeat ((first | with_reducible refine CondG.tt ?_ | with_reducible refine CondG.ff ?_); conv => whnf)
    refine IdxG.rd hB (by omega) fun c o hc => ?_
    (conv => whnf); repeat ((first | with_reducible refine CondG.tt ?_ | with_reducible refine CondG.ff ?_); conv => whnf)
    refine .take 7 ?_
    (conv => whnf); repeat ((first | with_reducible refine CondG.tt ?_ | with_reducible refine CondG.ff ?_); conv => whnf)
    refine ⟨rfl, ?_⟩
    (conv => whnf); repeat ((first | with_reducible refine CondG.tt ?_ | with_reducible refine CondG.ff ?_); conv => whnf)
    refine LoadG.atF (v := .int .i64 b[k]) (hc.one (i := ((k : Nat) : Int).toNat * 1) (by rw [Int.toNat_natCast, Nat.mul_one]; exact nvs_get hkb)) ?_
    (conv => whnf); repeat ((first | with_reducible refine CondG.tt ?_ | with_reducible refine CondG.ff ?_); conv => whnf)
    refine .take 8 ?_
    (conv => whnf); repeat ((first | with_reducible refine CondG.tt ?_ | with_reducible refine CondG.ff ?_); conv => whnf)
    refine ⟨rfl, ?_⟩
    (conv => whnf); repeat ((first | with_reducible refine CondG.tt ?_ | with_reducible refine CondG.ff ?_); conv => whnf)
    refine ⟨rfl, ?_⟩
    (conv => whnf); repeat ((first | with_reducible refine CondG.tt ?_ | with_reducible refine CondG.ff ?_); conv => whnf)
    refine CondG.dec (fun h5 => ?_) (fun h5 => ?_)
    · (conv => whnf); repeat ((first | with_reducible refine CondG.tt ?_ | with_reducible refine CondG.ff ?_); conv => whnf)
      refine ret_here ⟨?_, rfl⟩
      rw [more (parts hb hkb hka hd.symm (by omega))]
      rfl
    (conv => whnf); repeat ((first | with_reducible refine CondG.tt ?_ | with_reducible refine CondG.ff ?_); conv => whnf)
    refine ArithG.i64 (by omega) ?_
    (conv => whnf); repeat ((first | with_reducible refine CondG.tt ?_ | with_reducible refine CondG.ff ?_); conv => whnf)
    refine ⟨k, [(0, va), (1, vb), (5, .int .i64 ((k : Int) - 1))], _, by omega, ?_, Ent.refl _, k, by omega, rfl, ?_, rfl, rfl⟩
    · exact ⟨rfl, rfl, rfl, trivial⟩
    · rw [List.drop_eq_getElem_cons hka, List.drop_eq_getElem_cons hkb, hd]
      congr 1
      omega
  · obtain rfl : n = 0 := by omega
    have e : a = b := by simpa using hd
    (conv => whnf); repeat ((first | with_reducible refine CondG.tt ?_ | with_reducible refine CondG.ff ?_); conv => whnf)
    refine ret_here ⟨?_, rfl⟩
    rw [e, cmpN, if_neg (by omega), if_neg (by omega)]
    rfl
theorem cmp_spec (F : List HP) (a b : List Nat) (ha : wOk a) (hb : wOk b) : SpecF Tryd.prog 15 [.agg ⟨uvs a⟩, .agg ⟨uvs b⟩] F [] (fun v L => v = .int .i64 (cmpN (nat4 a) (nat4 b)) ∧ L = []) := by
  have hal : (uvs a).length = 4 := by rw [uvs_len, ha.len]
  have hbl : (uvs b).length = 4 := by rw [uvs_len, hb.len]
  refine fun15.spec rfl ?_
  (conv => whnf); repeat ((first | with_reducible refine CondG.tt ?_ | with_reducible refine CondG.ff ?_); conv => whnf)
  intro b2
  (conv => whnf); repeat ((first | with_reducible refine CondG.tt ?_ | with_reducible refine CondG.ff ?_); conv => whnf)
  intro b3
  (conv => whnf); repeat ((first | with_reducible refine CondG.tt ?_ | with_reducible refine CondG.ff ?_); conv => whnf)
  refine DrawG.mk 6 [cel b3 25 (uvs b), cel b2 25 (uvs a)] [] (Ent.refl _) ?_
  (conv => whnf); repeat ((first | with_reducible refine CondG.tt ?_ | with_reducible refine CondG.ff ?_); conv => whnf)
  refine .take 0 ?_
  (conv => whnf); repeat ((first | with_reducible refine CondG.tt ?_ | with_reducible refine CondG.ff ?_); conv => whnf)
  refine ⟨rfl, ?_⟩
  (conv => whnf); repeat ((first | with_reducible refine CondG.tt ?_ | with_reducible refine CondG.ff ?_); conv => whnf)
  refine LoadNG.at (vs := uvs a) hal (.tl .all) ?_
  (conv => whnf); repeat ((first | with_reducible refine CondG.tt ?_ | with_reducible refine CondG.ff ?_); conv => whnf)
  refine .take 2 ?_
  (conv => whnf); repeat ((first | with_reducible refine CondG.tt ?_ | with_reducible refine CondG.ff ?_); conv => whnf)
  refine ⟨rfl, ?_⟩
  (conv => whnf); repeat ((first | with_reducible refine CondG.tt ?_ | with_reducible refine CondG.ff ?_); conv => whnf)
  refine LoadNG.at (vs := uvs b) hbl .all ?_
  (conv => whnf); repeat ((first | with_reducible refine CondG.tt ?_ | with_reducible refine CondG.ff ?_); conv => whnf)
  refine .all ?_
  (conv => whnf); repeat ((first | with_reducible refine CondG.tt ?_ | with_reducible refine CondG.ff ?_); conv => whnf)
  refine ⟨by decide, ?_⟩
  (conv => whnf); repeat ((first | with_reducible refine CondG.tt ?_ | with_reducible refine CondG.ff ?_); conv => whnf)
  refine CallG.pure (digits_spec _ a ha) ?_
  rintro r1 _ ⟨c1, hr1, rfl⟩
  (conv => whnf); repeat ((first | with_reducible refine CondG.tt ?_ | with_reducible refine CondG.ff ?_); conv => whnf)
  refine .all ?_
  (conv => whnf); repeat ((first | with_reducible refine CondG.tt ?_ | with_reducible refine CondG.ff ?_); conv => whnf)
  refine ⟨by decide, ?_⟩
  (conv => whnf); repeat ((first | with_reducible refine CondG.tt ?_ | with_reducible refine CondG.ff ?_); conv => whnf)
  refine CallG.pure (digits_spec _ b hb) ?_
  rintro r2 _ ⟨c2, hr2, rfl⟩
  (conv => whnf); repeat ((first | with_reducible refine CondG.tt ?_ | with_reducible refine CondG.ff ?_); conv => whnf)
  refine .all ?_
  (conv => whnf); repeat ((first | with_reducible refine CondG.tt ?_ | with_reducible refine CondG.ff ?_); conv => whnf)
  refine ⟨by decide, ?_⟩
  (conv => whnf); repeat ((first | with_reducible refine CondG.tt ?_ | with_reducible refine CondG.ff ?_); conv => whnf)
  have lc : ∀ ws, (cutL (digs2 ws)).length ≤ 256 := fun ws => by rw [cutL_len]; have := cutN_le (digs2 ws) (digs2 ws).length; rw [digs2_len] at this ⊢; exact this
  have vc : ∀ ws, wOk ws → val2 (cutL (digs2 ws)) = nat4 ws := fun ws h => by rw [cutL_val, val2_digs h]
  refine CallG.pure (compare_spec _ r1 r2 (cutL (digs2 a)) (cutL (digs2 b)) (by have := lc a; omega) (.tl hr1) hr2 (cutL_bits (digs2_bits a)) (cutL_bits (digs2_bits b)) (fun h => longer (cutL_bits (digs2_bits a)) h) (fun h => longer (cutL_bits (digs2_bits b)) h)) ?_
  rintro _ _ ⟨rfl, rfl⟩
  rw [vc a ha, vc b hb]
  (conv => whnf); repeat ((first | with_reducible refine CondG.tt ?_ | with_reducible refine CondG.ff ?_); conv => whnf)
  refine .take 5 ?_
  (conv => whnf); repeat ((first | with_reducible refine CondG.tt ?_ | with_reducible refine CondG.ff ?_); conv => whnf)
  refine ⟨rfl, ?_⟩
  (conv => whnf); repeat ((first | with_reducible refine CondG.tt ?_ | with_reducible refine CondG.ff ?_); conv => whnf)
  refine ⟨rfl, ?_⟩
  (conv => whnf); repeat ((first | with_reducible refine CondG.tt ?_ | with_reducible refine CondG.ff ?_); conv => whnf)
  exact ⟨[], Ent.nil _, rfl, rfl⟩
end Go.Proofs.YtnbcbdlbejdkpaaDoor
