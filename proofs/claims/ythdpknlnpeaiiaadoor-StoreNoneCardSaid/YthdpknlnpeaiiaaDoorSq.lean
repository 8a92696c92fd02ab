/-
  Lists of strings: search, clone, insert, delete: contracts out of the resolved texts.
-/
import Derived.Test.YthdpknlnpeaiiaaDoorWr
import Derived.Test.YthdpknlnpeaiiaaDoorZSr
namespace Go.Proofs.YthdpknlnpeaiiaaDoor
open Go Go.Sl
theorem strsT : ElT Tryd.prog 218 9 1 16 := .of (by kernel_rfl)
theorem nan_spec (F : List HP) (a : ByteArray) : SpecF Tryd.prog 174 [.string a] F [] (fun r L => r = .bool false ∧ L = []) := by
  refine fun174.spec rfl ?_
  (conv => whnf); repeat ((with_reducible first | refine CondG.tt ?_ | refine CondG.ff ?_ | refine CondG.ntt ?_ | refine CondG.nff ?_); conv => whnf)
  refine ret_here ⟨?_, rfl⟩
  simp [retV]
theorem nan2_spec (F : List HP) (a : ByteArray) : SpecF Tryd.prog 163 [.string a] F [] (fun r L => r = .bool false ∧ L = []) := by
  refine fun163.spec rfl ?_
  (conv => whnf); repeat ((with_reducible first | refine CondG.tt ?_ | refine CondG.ff ?_ | refine CondG.ntt ?_ | refine CondG.nff ?_); conv => whnf)
  refine ret_here ⟨?_, rfl⟩
  simp [retV]
theorem less_spec (F : List HP) (a b : ByteArray) : SpecF Tryd.prog 162 [.string a, .string b] F [] (fun r L => r = .bool (slt a b) ∧ L = []) := by
  refine fun162.spec rfl ?_
  (conv => whnf); repeat ((with_reducible first | refine CondG.tt ?_ | refine CondG.ff ?_ | refine CondG.ntt ?_ | refine CondG.nff ?_); conv => whnf)
  refine CallG.pure (nan_spec _ a) ?_
  rintro _ _ ⟨rfl, rfl⟩
  (conv => whnf); repeat ((with_reducible first | refine CondG.tt ?_ | refine CondG.ff ?_ | refine CondG.ntt ?_ | refine CondG.nff ?_); conv => whnf)
  refine DoesG.lss ?_
  (conv => whnf); repeat ((with_reducible first | refine CondG.tt ?_ | refine CondG.ff ?_ | refine CondG.ntt ?_ | refine CondG.nff ?_); conv => whnf)
  exact ret_here ⟨rfl, rfl⟩
theorem bs_spec (F : List HP) (v : Value) (ss : List ByteArray) (x : ByteArray) (hr : RdS F v ss.length (svs ss)) (hl : ss.length ≤ 1099511627776) (hs : Sorted ss) :
    SpecF Tryd.prog 143 [v, .string x] F [] (fun r L => ∃ i b, BsR ss x i b ∧ r = .tuple #[.int .i64 (i : Nat), .bool b] ∧ L = []) := by
  obtain ⟨va, vc, rfl⟩ := hr.len
  refine fun143.spec rfl ?_
  (conv => whnf); repeat ((with_reducible first | refine CondG.tt ?_ | refine CondG.ff ?_ | refine CondG.ntt ?_ | refine CondG.nff ?_); conv => whnf)
  refine LenG.lit ?_
  (conv => whnf); repeat ((with_reducible first | refine CondG.tt ?_ | refine CondG.ff ?_ | refine CondG.ntt ?_ | refine CondG.nff ?_); conv => whnf)
  refine LoopG.mk (fun m ev L => ∃ i j : Nat, i ≤ j ∧ j ≤ ss.length ∧ m = j - i ∧ (∀ k y, ss[k]? = some y → k < i → slt y x = true) ∧ (∀ k y, ss[k]? = some y → j ≤ k → slt y x = false) ∧
      ev = [(0, .slice va ss.length vc), (1, .string x), (4, .int .i64 0), (5, .bool false), (6, .int .i64 ss.length), (7, .int .i64 i), (8, .int .i64 j)] ∧ L = []) ss.length
    [(0, .slice va ss.length vc), (1, .string x), (4, .int .i64 0), (5, .bool false), (6, .int .i64 ss.length), (7, .int .i64 0), (8, .int .i64 ss.length)] _ ⟨rfl, rfl, rfl, rfl, rfl, rfl, rfl, trivial⟩ (Ent.refl _)
    ⟨0, ss.length, Nat.zero_le _, Nat.le_refl _, rfl, fun k y _ hk => absurd hk (by omega), fun k y hy hk => by have := (List.getElem?_eq_some_iff.1 hy).1; omega, rfl, rfl⟩ ?_
  rintro m ev L ⟨i, j, hij, hj, rfl, h1, h2, rfl, rfl⟩
  (conv => whnf); repeat ((with_reducible first | refine CondG.tt ?_ | refine CondG.ff ?_ | refine CondG.ntt ?_ | refine CondG.nff ?_); conv => whnf)
  refine CondG.dec (fun hlt => ?_) (fun hlt => ?_)
  · (conv => whnf); repeat ((with_reducible first | refine CondG.tt ?_ | refine CondG.ff ?_ | refine CondG.ntt ?_ | refine CondG.nff ?_); conv => whnf)
    refine ArithG.i64 (by omega) ?_
    (conv => whnf); repeat ((with_reducible first | refine CondG.tt ?_ | refine CondG.ff ?_ | refine CondG.ntt ?_ | refine CondG.nff ?_); conv => whnf)
    refine ArithG.u64 (by omega) ?_
    (conv => whnf); repeat ((with_reducible first | refine CondG.tt ?_ | refine CondG.ff ?_ | refine CondG.ntt ?_ | refine CondG.nff ?_); conv => whnf)
    refine SideG.of (by decide) ?_
    (conv => whnf); repeat ((with_reducible first | refine CondG.tt ?_ | refine CondG.ff ?_ | refine CondG.ntt ?_ | refine CondG.nff ?_); conv => whnf)
    have hsh : ((i : Int) + (j : Int)).fdiv (2 ^ (min (1 : Int).toNat IntKind.u64.bits)) = (((i + j) / 2 : Nat) : Int) := by
      have e : min (1 : Int).toNat IntKind.u64.bits = 1 := by decide
      rw [e, Int.fdiv_eq_ediv_of_nonneg _ (by decide)]
      norm_cast
    refine ArithG.i64' _ hsh (by omega) ?_
    have hh : (i + j) / 2 < ss.length := by omega
    (conv => whnf); repeat ((with_reducible first | refine CondG.tt ?_ | refine CondG.ff ?_ | refine CondG.ntt ?_ | refine CondG.nff ?_); conv => whnf)
    refine IdxG.rd hr (by omega) fun b o hc => ?_
    (conv => whnf); repeat ((with_reducible first | refine CondG.tt ?_ | refine CondG.ff ?_ | refine CondG.ntt ?_ | refine CondG.nff ?_); conv => whnf)
    have hg : (svs ss)[(((i + j) / 2 : Nat) : Int).toNat * 1]? = some (.string ss[(i + j) / 2]) := by
      rw [Int.toNat_natCast, Nat.mul_one]
      exact svs_get (List.getElem?_eq_getElem hh)
    refine LoadG.atF (hc.one hg) ?_
    (conv => whnf); repeat ((with_reducible first | refine CondG.tt ?_ | refine CondG.ff ?_ | refine CondG.ntt ?_ | refine CondG.nff ?_); conv => whnf)
    refine CallG.pure (less_spec _ _ _) ?_
    rintro _ _ ⟨rfl, rfl⟩
    (conv => whnf); repeat ((with_reducible first | refine CondG.tt ?_ | refine CondG.ff ?_ | refine CondG.ntt ?_ | refine CondG.nff ?_); conv => whnf)
    refine CondG.split (fun hb => ?_) (fun hb => ?_)
    · (conv => whnf); repeat ((with_reducible first | refine CondG.tt ?_ | refine CondG.ff ?_ | refine CondG.ntt ?_ | refine CondG.nff ?_); conv => whnf)
      refine ArithG.i64' (((i + j) / 2 + 1 : Nat) : Int) (by omega) (by omega) ?_
      (conv => whnf); repeat ((with_reducible first | refine CondG.tt ?_ | refine CondG.ff ?_ | refine CondG.ntt ?_ | refine CondG.nff ?_); conv => whnf)
      refine ⟨j - ((i + j) / 2 + 1), [(0, .slice va ss.length vc), (1, .string x), (4, .int .i64 0), (5, .bool false), (6, .int .i64 ss.length), (7, .int .i64 ((i + j) / 2 + 1 : Nat)), (8, .int .i64 j)], [], by omega, ⟨rfl, rfl, rfl, rfl, rfl, rfl, rfl, trivial⟩, Ent.refl _,
        (i + j) / 2 + 1, j, by omega, hj, rfl, fun k y hy hk => ?_, h2, rfl, rfl⟩
      rcases Nat.lt_or_ge k ((i + j) / 2) with hlt2 | hge
      · exact slt_trans (sorted_at hs hy (List.getElem?_eq_getElem hh) hlt2) hb
      · obtain rfl : k = (i + j) / 2 := by omega
        rw [List.getElem?_eq_getElem hh] at hy
        cases hy
        exact hb
    · (conv => whnf); repeat ((with_reducible first | refine CondG.tt ?_ | refine CondG.ff ?_ | refine CondG.ntt ?_ | refine CondG.nff ?_); conv => whnf)
      refine ⟨(i + j) / 2 - i, [(0, .slice va ss.length vc), (1, .string x), (4, .int .i64 0), (5, .bool false), (6, .int .i64 ss.length), (7, .int .i64 i), (8, .int .i64 ((i + j) / 2 : Nat))], [], by omega, ⟨rfl, rfl, rfl, rfl, rfl, rfl, rfl, trivial⟩, Ent.refl _,
        i, (i + j) / 2, by omega, by omega, rfl, h1, fun k y hy hk => ?_, rfl, rfl⟩
      rcases Nat.eq_or_lt_of_le hk with rfl | hlt2
      · rw [List.getElem?_eq_getElem hh] at hy
        cases hy
        exact hb
      · cases hc2 : slt y x with
        | false => rfl
        | true =>
          have := slt_trans (sorted_at hs (List.getElem?_eq_getElem hh) hy hlt2) hc2
          rw [hb] at this
          cases this
  · obtain rfl : i = j := by omega
    (conv => whnf); repeat ((with_reducible first | refine CondG.tt ?_ | refine CondG.ff ?_ | refine CondG.ntt ?_ | refine CondG.nff ?_); conv => whnf)
    refine CondG.dec (fun hn => ?_) (fun hn => ?_)
    · have hh : i < ss.length := by omega
      (conv => whnf); repeat ((with_reducible first | refine CondG.tt ?_ | refine CondG.ff ?_ | refine CondG.ntt ?_ | refine CondG.nff ?_); conv => whnf)
      refine IdxG.rd hr (by omega) fun b o hc => ?_
      (conv => whnf); repeat ((with_reducible first | refine CondG.tt ?_ | refine CondG.ff ?_ | refine CondG.ntt ?_ | refine CondG.nff ?_); conv => whnf)
      have hg : (svs ss)[((i : Nat) : Int).toNat * 1]? = some (.string ss[i]) := by
        rw [Int.toNat_natCast, Nat.mul_one]
        exact svs_get (List.getElem?_eq_getElem hh)
      refine LoadG.atF (hc.one hg) ?_
      (conv => whnf); repeat ((with_reducible first | refine CondG.tt ?_ | refine CondG.ff ?_ | refine CondG.ntt ?_ | refine CondG.nff ?_); conv => whnf)
      refine CondG.dec (fun he => ?_) (fun he => ?_)
      · (conv => whnf); repeat ((with_reducible first | refine CondG.tt ?_ | refine CondG.ff ?_ | refine CondG.ntt ?_ | refine CondG.nff ?_); conv => whnf)
        refine ret_here ⟨i, true, ⟨hj, h1, h2, ?_⟩, rfl, rfl⟩
        rw [List.getElem?_eq_getElem hh, he]
        simp
      · (conv => whnf); repeat ((with_reducible first | refine CondG.tt ?_ | refine CondG.ff ?_ | refine CondG.ntt ?_ | refine CondG.nff ?_); conv => whnf)
        refine IdxG.rd hr (by omega) fun b o hc => ?_
        (conv => whnf); repeat ((with_reducible first | refine CondG.tt ?_ | refine CondG.ff ?_ | refine CondG.ntt ?_ | refine CondG.nff ?_); conv => whnf)
        refine LoadG.atF (hc.one hg) ?_
        (conv => whnf); repeat ((with_reducible first | refine CondG.tt ?_ | refine CondG.ff ?_ | refine CondG.ntt ?_ | refine CondG.nff ?_); conv => whnf)
        refine CallG.pure (nan2_spec _ _) ?_
        rintro _ _ ⟨rfl, rfl⟩
        (conv => whnf); repeat ((with_reducible first | refine CondG.tt ?_ | refine CondG.ff ?_ | refine CondG.ntt ?_ | refine CondG.nff ?_); conv => whnf)
        refine ret_here ⟨i, false, ⟨hj, h1, h2, ?_⟩, rfl, rfl⟩
        rw [List.getElem?_eq_getElem hh]
        simp [he]
    · (conv => whnf); repeat ((with_reducible first | refine CondG.tt ?_ | refine CondG.ff ?_ | refine CondG.ntt ?_ | refine CondG.nff ?_); conv => whnf)
      refine ret_here ⟨i, false, ⟨hj, h1, h2, ?_⟩, rfl, rfl⟩
      rw [List.getElem?_eq_none (by omega)]
      simp
theorem cloneS_spec (F : List HP) (v : Value) (ss : List ByteArray) (hm : ss.length ≤ 1099511627776) (hv : RdS F v ss.length (svs ss)) :
    SpecF Tryd.prog 145 [v] F [] (fun r L => SlV r ss.length ∧ L = [own 1 r ss.length (svs ss)]) := by
  refine fun145.spec rfl ?_
  (conv => whnf); repeat ((with_reducible first | refine CondG.tt ?_ | refine CondG.ff ?_ | refine CondG.ntt ?_ | refine CondG.nff ?_); conv => whnf)
  refine NilG.rd hv fun b hb => ?_
  (conv => whnf); repeat ((with_reducible first | refine CondG.tt ?_ | refine CondG.ff ?_ | refine CondG.ntt ?_ | refine CondG.nff ?_); conv => whnf)
  refine CondG.split (fun h => ?_) (fun h => ?_)
  · have e := hb.1 h
    subst e
    have hz : ss = [] := List.eq_nil_of_length_eq_zero (hv.nilE rfl).1
    subst hz
    (conv => whnf); repeat ((with_reducible first | refine CondG.tt ?_ | refine CondG.ff ?_ | refine CondG.ntt ?_ | refine CondG.nff ?_); conv => whnf)
    exact ⟨[own 1 (.slice none 0 0) 0 []], fun w G hs => Sat.own_nil hs, .inl ⟨rfl, rfl⟩, rfl⟩
  · (conv => whnf); repeat ((with_reducible first | refine CondG.tt ?_ | refine CondG.ff ?_ | refine CondG.ntt ?_ | refine CondG.nff ?_); conv => whnf)
    refine BuildG.of rfl ?_
    (conv => whnf); repeat ((with_reducible first | refine CondG.tt ?_ | refine CondG.ff ?_ | refine CondG.ntt ?_ | refine CondG.nff ?_); conv => whnf)
    intro b1
    (conv => whnf); repeat ((with_reducible first | refine CondG.tt ?_ | refine CondG.ff ?_ | refine CondG.ntt ?_ | refine CondG.nff ?_); conv => whnf)
    refine DoesG.ent (own_of_cel (sz := 1) (n := 0) rfl (by decide)) ?_
    refine app_own strsT 218 (hv.tl) (by simp [svs]) (svs_one _) (by simp only [maxLen]; omega) (by omega) fun r hr hlen hnil => ?_
    (conv => whnf); repeat ((with_reducible first | refine CondG.tt ?_ | refine CondG.ff ?_ | refine CondG.ntt ?_ | refine CondG.nff ?_); conv => whnf)
    refine ret_here ⟨?_, ?_⟩
    · simpa [retV] using hr
    · simp [retV]
theorem overlaps_ext (a b : Value) : extSem Tryd.prog 164 #[a, b] = Extern.SlicesOverlaps.overlaps #[218, 218] #[4] #[a, b] := by kernel_rfl
theorem insertS_spec (F : List HP) (v : Value) (ss : List ByteArray) (i : Nat) (x : ByteArray) (vb : Nat) (tv : TypeId) (hi : i ≤ ss.length) (hm : ss.length ≤ 1099511627776) :
    SpecF Tryd.prog 144 [v, .int .i64 i, .slice (some ⟨vb, 0, none⟩) 1 1] F [own 1 v ss.length (svs ss), cel vb tv [.string x]] (fun r L => SlV r (ss.length + 1) ∧ L = [own 1 r (ss.length + 1) (svs (ss.take i ++ x :: ss.drop i))]) := by
  refine SpecF.ownV 0 rfl fun hv _ => ?_
  rcases Nat.eq_or_lt_of_le hi with he | hlt
  · obtain ⟨va, vc, rfl⟩ := hv.len
    have hc : ss.length ≤ vc := by
      rcases hv with ⟨h, h0⟩ | ⟨g, cap, h, hn⟩
      · rw [h0]; exact Nat.zero_le _
      · cases h; exact hn
    refine fun144.spec rfl ?_
    (conv => whnf); repeat ((with_reducible first | refine CondG.tt ?_ | refine CondG.ff ?_ | refine CondG.ntt ?_ | refine CondG.nff ?_); conv => whnf)
    refine SlcG.lit ?_
    (conv => whnf); repeat ((with_reducible first | refine CondG.tt ?_ | refine CondG.ff ?_ | refine CondG.ntt ?_ | refine CondG.nff ?_); conv => whnf)
    refine SideG.of (by omega) ?_
    (conv => whnf); repeat ((with_reducible first | refine CondG.tt ?_ | refine CondG.ff ?_ | refine CondG.ntt ?_ | refine CondG.nff ?_); conv => whnf)
    refine ⟨?_⟩
    (conv => whnf); repeat ((with_reducible first | refine CondG.tt ?_ | refine CondG.ff ?_ | refine CondG.ntt ?_ | refine CondG.nff ?_); conv => whnf)
    refine LenG.lit ?_
    (conv => whnf); repeat ((with_reducible first | refine CondG.tt ?_ | refine CondG.ff ?_ | refine CondG.ntt ?_ | refine CondG.nff ?_); conv => whnf)
    refine CondG.decF (by decide) ?_
    (conv => whnf); repeat ((with_reducible first | refine CondG.tt ?_ | refine CondG.ff ?_ | refine CondG.ntt ?_ | refine CondG.nff ?_); conv => whnf)
    refine LenG.lit ?_
    (conv => whnf); repeat ((with_reducible first | refine CondG.tt ?_ | refine CondG.ff ?_ | refine CondG.ntt ?_ | refine CondG.nff ?_); conv => whnf)
    refine CondG.decT (by omega) ?_
    (conv => whnf); repeat ((with_reducible first | refine CondG.tt ?_ | refine CondG.ff ?_ | refine CondG.ntt ?_ | refine CondG.nff ?_); conv => whnf)
    refine app_own strsT 218 (m := 1) (ys := svs [x]) (.mk _ _ _ _ _ (Nat.le_refl _) (.tl (.left .all F))) rfl (svs_one _) (by simp only [maxLen]; omega) (by omega) fun r hr hlen hnil => ?_
    (conv => whnf); repeat ((with_reducible first | refine CondG.tt ?_ | refine CondG.ff ?_ | refine CondG.ntt ?_ | refine CondG.nff ?_); conv => whnf)
    refine ⟨_, Ent.dropL [_] _, hr, ?_⟩
    subst he
    rw [List.take_length, List.drop_length, svs_app]
    rfl
  · refine SpecF.own_open (fun _ h0 _ => absurd h0 (by omega)) fun g cap t rest hv' hn hcm hl1 hl2 => ?_
    subst hv'
    have hsv : (svs ss).length = ss.length := svs_len ss
    have hti : (svs (ss.take i)).length = i := by rw [svs_len, List.length_take]; omega
    have hdi : (svs (ss.drop i)).length = ss.length - i := by rw [svs_len, List.length_drop]
    have hdr : ∀ (L : List HP), CelN (cel g t (svs ss ++ rest) :: L) g (0 + i * 1) (svs (ss.drop i)) := fun L => .here (by
      have e1 : svs (ss.drop i) = (svs ss).drop i := by simp [svs, List.map_drop]
      rw [Nat.zero_add, Nat.mul_one, hdi, e1, List.drop_append_of_le_length (by omega), List.take_append_of_le_length (by rw [List.length_drop]; omega), List.take_of_length_le (by rw [List.length_drop]; omega)])
    have hone : (svs [x]).length = 1 := rfl
    have hfin : svs (ss.take i) ++ (svs [x] ++ svs (ss.drop i)) = svs (ss.take i ++ x :: ss.drop i) := by rw [svs_app, svs_app]; rfl
    have hfl : (svs (ss.take i ++ x :: ss.drop i)).length = (ss.length + 1) * 1 := by
      rw [← hfin]
      simp only [List.length_append, hti, hdi, hone]
      omega
    refine fun144.spec rfl ?_
    (conv => whnf); repeat ((with_reducible first | refine CondG.tt ?_ | refine CondG.ff ?_ | refine CondG.ntt ?_ | refine CondG.nff ?_); conv => whnf)
    refine SlcG.lit ?_
    (conv => whnf); repeat ((with_reducible first | refine CondG.tt ?_ | refine CondG.ff ?_ | refine CondG.ntt ?_ | refine CondG.nff ?_); conv => whnf)
    refine SideG.of (by omega) ?_
    (conv => whnf); repeat ((with_reducible first | refine CondG.tt ?_ | refine CondG.ff ?_ | refine CondG.ntt ?_ | refine CondG.nff ?_); conv => whnf)
    refine ⟨?_⟩
    (conv => whnf); repeat ((with_reducible first | refine CondG.tt ?_ | refine CondG.ff ?_ | refine CondG.ntt ?_ | refine CondG.nff ?_); conv => whnf)
    refine LenG.lit ?_
    (conv => whnf); repeat ((with_reducible first | refine CondG.tt ?_ | refine CondG.ff ?_ | refine CondG.ntt ?_ | refine CondG.nff ?_); conv => whnf)
    refine CondG.decF (by decide) ?_
    (conv => whnf); repeat ((with_reducible first | refine CondG.tt ?_ | refine CondG.ff ?_ | refine CondG.ntt ?_ | refine CondG.nff ?_); conv => whnf)
    refine LenG.lit ?_
    (conv => whnf); repeat ((with_reducible first | refine CondG.tt ?_ | refine CondG.ff ?_ | refine CondG.ntt ?_ | refine CondG.nff ?_); conv => whnf)
    refine CondG.decF (by omega) ?_
    (conv => whnf); repeat ((with_reducible first | refine CondG.tt ?_ | refine CondG.ff ?_ | refine CondG.ntt ?_ | refine CondG.nff ?_); conv => whnf)
    refine ArithG.i64 (by omega) ?_
    (conv => whnf); repeat ((with_reducible first | refine CondG.tt ?_ | refine CondG.ff ?_ | refine CondG.ntt ?_ | refine CondG.nff ?_); conv => whnf)
    refine DoesG.capS strsT.und ?_
    (conv => whnf); repeat ((with_reducible first | refine CondG.tt ?_ | refine CondG.ff ?_ | refine CondG.ntt ?_ | refine CondG.nff ?_); conv => whnf)
    refine CondG.dec (fun hroom => ?_) (fun hroom => ?_)
    · (conv => whnf); repeat ((with_reducible first | refine CondG.tt ?_ | refine CondG.ff ?_ | refine CondG.ntt ?_ | refine CondG.nff ?_); conv => whnf)
      refine SlcG.lit ?_
      (conv => whnf); repeat ((with_reducible first | refine CondG.tt ?_ | refine CondG.ff ?_ | refine CondG.ntt ?_ | refine CondG.nff ?_); conv => whnf)
      refine SideG.of (by omega) ?_
      (conv => whnf); repeat ((with_reducible first | refine CondG.tt ?_ | refine CondG.ff ?_ | refine CondG.ntt ?_ | refine CondG.nff ?_); conv => whnf)
      refine SliceG.zero ?_
      (conv => whnf); repeat ((with_reducible first | refine CondG.tt ?_ | refine CondG.ff ?_ | refine CondG.ntt ?_ | refine CondG.nff ?_); conv => whnf)
      refine ArithG.i64 (by omega) ?_
      (conv => whnf); repeat ((with_reducible first | refine CondG.tt ?_ | refine CondG.ff ?_ | refine CondG.ntt ?_ | refine CondG.nff ?_); conv => whnf)
      refine ArithG.i64' ((ss.length + 1 - i : Nat) : Int) (by omega) (by omega) ?_
      (conv => whnf); repeat ((with_reducible first | refine CondG.tt ?_ | refine CondG.ff ?_ | refine CondG.ntt ?_ | refine CondG.nff ?_); conv => whnf)
      have hi2 : ((svs ss ++ rest).drop 0).take (svs (ss.take i)).length = svs (ss.take i) := by
        rw [List.drop_zero, hti, List.take_append_of_le_length (by omega)]
        simp [svs, List.map_take]
      refine DoesG.appendZ (n := i) (cap := cap) (m := ss.length + 1 - i) (zv := .string ⟨#[]⟩) (kn := .i64) strsT (by kernel_rfl) rfl (by kernel_rfl) (.left (.here hi2) F) hti (by omega) (by omega) (by simp only [maxLen]; omega) (by omega) fun g' cap' hc1 hc2 => ?_
      rw [List.append_assoc]
      obtain ⟨Z, hZ⟩ : ∃ Z, Z = List.replicate (ss.length + 1 - i) (Value.string ⟨#[]⟩) ++ List.replicate (cap' - (i + (ss.length + 1 - i))) (Value.string ⟨#[]⟩) := ⟨_, rfl⟩
      have hZl : Z.length = cap' - i := by rw [hZ]; simp; omega
      rw [← hZ]
      (conv => whnf); repeat ((with_reducible first | refine CondG.tt ?_ | refine CondG.ff ?_ | refine CondG.ntt ?_ | refine CondG.nff ?_); conv => whnf)
      refine SlcG.lit ?_
      (conv => whnf); repeat ((with_reducible first | refine CondG.tt ?_ | refine CondG.ff ?_ | refine CondG.ntt ?_ | refine CondG.nff ?_); conv => whnf)
      refine SideG.of (by omega) ?_
      (conv => whnf); repeat ((with_reducible first | refine CondG.tt ?_ | refine CondG.ff ?_ | refine CondG.ntt ?_ | refine CondG.nff ?_); conv => whnf)
      refine SliceG.ne (by omega) ?_
      (conv => whnf); repeat ((with_reducible first | refine CondG.tt ?_ | refine CondG.ff ?_ | refine CondG.ntt ?_ | refine CondG.nff ?_); conv => whnf)
      refine DoesG.copyS (o := 0 + i * 1) (cs := svs [x]) strsT.und (by kernel_rfl) (.mk _ _ _ _ _ (Nat.le_refl _) (.tl (.left (.tl .all) F))) rfl (show 1 ≤ i + (ss.length + 1 - i) - i by omega) (by simp only [List.length_append]; omega) (svs_one _)
        (cur' := svs (ss.take i) ++ (svs [x] ++ Z.drop 1)) (by rw [Nat.zero_add, Nat.mul_one]; exact ins_one hti rfl) ?_
      (conv => whnf); repeat ((with_reducible first | refine CondG.tt ?_ | refine CondG.ff ?_ | refine CondG.ntt ?_ | refine CondG.nff ?_); conv => whnf)
      refine DrawG.mk 9 [cel g t (svs ss ++ rest)] [cel g' _ (svs (ss.take i) ++ (svs [x] ++ Z.drop 1)), cel vb tv [.string x]] (Ent.perm (List.Perm.cons _ (List.Perm.swap _ _ _))) ?_
      (conv => whnf); repeat ((with_reducible first | refine CondG.tt ?_ | refine CondG.ff ?_ | refine CondG.ntt ?_ | refine CondG.nff ?_); conv => whnf)
      refine .take 0 ?_
      (conv => whnf); repeat ((with_reducible first | refine CondG.tt ?_ | refine CondG.ff ?_ | refine CondG.ntt ?_ | refine CondG.nff ?_); conv => whnf)
      refine ⟨rfl, ?_⟩
      (conv => whnf); repeat ((with_reducible first | refine CondG.tt ?_ | refine CondG.ff ?_ | refine CondG.ntt ?_ | refine CondG.nff ?_); conv => whnf)
      refine .take 1 ?_
      (conv => whnf); repeat ((with_reducible first | refine CondG.tt ?_ | refine CondG.ff ?_ | refine CondG.ntt ?_ | refine CondG.nff ?_); conv => whnf)
      refine ⟨rfl, ?_⟩
      (conv => whnf); repeat ((with_reducible first | refine CondG.tt ?_ | refine CondG.ff ?_ | refine CondG.ntt ?_ | refine CondG.nff ?_); conv => whnf)
      refine .take 2 ?_
      (conv => whnf); repeat ((with_reducible first | refine CondG.tt ?_ | refine CondG.ff ?_ | refine CondG.ntt ?_ | refine CondG.nff ?_); conv => whnf)
      refine ⟨rfl, ?_⟩
      (conv => whnf); repeat ((with_reducible first | refine CondG.tt ?_ | refine CondG.ff ?_ | refine CondG.ntt ?_ | refine CondG.nff ?_); conv => whnf)
      refine .take 3 ?_
      (conv => whnf); repeat ((with_reducible first | refine CondG.tt ?_ | refine CondG.ff ?_ | refine CondG.ntt ?_ | refine CondG.nff ?_); conv => whnf)
      refine ⟨rfl, ?_⟩
      (conv => whnf); repeat ((with_reducible first | refine CondG.tt ?_ | refine CondG.ff ?_ | refine CondG.ntt ?_ | refine CondG.nff ?_); conv => whnf)
      refine ArithG.i64' ((i + 1 : Nat) : Int) (by omega) (by omega) ?_
      (conv => whnf); repeat ((with_reducible first | refine CondG.tt ?_ | refine CondG.ff ?_ | refine CondG.ntt ?_ | refine CondG.nff ?_); conv => whnf)
      refine .take 4 ?_
      (conv => whnf); repeat ((with_reducible first | refine CondG.tt ?_ | refine CondG.ff ?_ | refine CondG.ntt ?_ | refine CondG.nff ?_); conv => whnf)
      refine ⟨rfl, ?_⟩
      (conv => whnf); repeat ((with_reducible first | refine CondG.tt ?_ | refine CondG.ff ?_ | refine CondG.ntt ?_ | refine CondG.nff ?_); conv => whnf)
      refine SlcG.lit ?_
      (conv => whnf); repeat ((with_reducible first | refine CondG.tt ?_ | refine CondG.ff ?_ | refine CondG.ntt ?_ | refine CondG.nff ?_); conv => whnf)
      refine SideG.of (by omega) ?_
      (conv => whnf); repeat ((with_reducible first | refine CondG.tt ?_ | refine CondG.ff ?_ | refine CondG.ntt ?_ | refine CondG.nff ?_); conv => whnf)
      refine SliceG.ne (by omega) ?_
      (conv => whnf); repeat ((with_reducible first | refine CondG.tt ?_ | refine CondG.ff ?_ | refine CondG.ntt ?_ | refine CondG.nff ?_); conv => whnf)
      refine .take 5 ?_
      (conv => whnf); repeat ((with_reducible first | refine CondG.tt ?_ | refine CondG.ff ?_ | refine CondG.ntt ?_ | refine CondG.nff ?_); conv => whnf)
      refine ⟨rfl, ?_⟩
      (conv => whnf); repeat ((with_reducible first | refine CondG.tt ?_ | refine CondG.ff ?_ | refine CondG.ntt ?_ | refine CondG.nff ?_); conv => whnf)
      refine .take 6 ?_
      (conv => whnf); repeat ((with_reducible first | refine CondG.tt ?_ | refine CondG.ff ?_ | refine CondG.ntt ?_ | refine CondG.nff ?_); conv => whnf)
      refine ⟨rfl, ?_⟩
      (conv => whnf); repeat ((with_reducible first | refine CondG.tt ?_ | refine CondG.ff ?_ | refine CondG.ntt ?_ | refine CondG.nff ?_); conv => whnf)
      refine .take 7 ?_
      (conv => whnf); repeat ((with_reducible first | refine CondG.tt ?_ | refine CondG.ff ?_ | refine CondG.ntt ?_ | refine CondG.nff ?_); conv => whnf)
      refine ⟨rfl, ?_⟩
      (conv => whnf); repeat ((with_reducible first | refine CondG.tt ?_ | refine CondG.ff ?_ | refine CondG.ntt ?_ | refine CondG.nff ?_); conv => whnf)
      refine SlcG.lit ?_
      (conv => whnf); repeat ((with_reducible first | refine CondG.tt ?_ | refine CondG.ff ?_ | refine CondG.ntt ?_ | refine CondG.nff ?_); conv => whnf)
      refine SideG.of (by omega) ?_
      (conv => whnf); repeat ((with_reducible first | refine CondG.tt ?_ | refine CondG.ff ?_ | refine CondG.ntt ?_ | refine CondG.nff ?_); conv => whnf)
      refine SliceG.ne (by omega) ?_
      (conv => whnf); repeat ((with_reducible first | refine CondG.tt ?_ | refine CondG.ff ?_ | refine CondG.ntt ?_ | refine CondG.nff ?_); conv => whnf)
      refine .all ?_
      (conv => whnf); repeat ((with_reducible first | refine CondG.tt ?_ | refine CondG.ff ?_ | refine CondG.ntt ?_ | refine CondG.nff ?_); conv => whnf)
      refine ⟨by decide, ?_⟩
      (conv => whnf); repeat ((with_reducible first | refine CondG.tt ?_ | refine CondG.ff ?_ | refine CondG.ntt ?_ | refine CondG.nff ?_); conv => whnf)
      refine DoesG.copyS (o := 0 + (i + 1) * 1) (cs := svs (ss.drop i)) (n := ss.length - i) strsT.und (by kernel_rfl) (.mk _ _ _ _ _ (show ss.length - i ≤ cap - i by omega) (.tl (.tl (.left (hdr []) F)))) hdi (show ss.length - i ≤ i + (ss.length + 1 - i) - (i + 1) by omega)
        (by simp only [List.length_append, List.length_drop, hti, hone, hZl]; omega) (svs_one _) (cur' := svs (ss.take i ++ x :: ss.drop i) ++ (Z.drop 1).drop (ss.length - i)) (by
          rw [Nat.zero_add, Nat.mul_one, ins_two hti rfl hdi, hfin]) ?_
      (conv => whnf); repeat ((with_reducible first | refine CondG.tt ?_ | refine CondG.ff ?_ | refine CondG.ntt ?_ | refine CondG.nff ?_); conv => whnf)
      refine ⟨rfl, ?_⟩
      (conv => whnf); repeat ((with_reducible first | refine CondG.tt ?_ | refine CondG.ff ?_ | refine CondG.ntt ?_ | refine CondG.nff ?_); conv => whnf)
      have hsz : i + (ss.length + 1 - i) = ss.length + 1 := by omega
      rw [hsz]
      exact ⟨[_], (Ent.own_of (n := ss.length + 1) (cap := cap') (by omega) hc2 hfl (by rw [List.length_append, hfl, List.length_drop, List.length_drop, hZl]; omega)).trans (Ent.dropL [_] _), .inr ⟨g', cap', rfl, by omega⟩, rfl⟩
    · have hrl : 1 ≤ rest.length := by
        have := hl2
        rw [List.length_append, hsv] at this
        omega
      have hspl : svs ss ++ rest = svs (ss.take i) ++ (svs (ss.drop i) ++ rest) := by
        rw [← List.append_assoc, svs_app, List.take_append_drop]
      (conv => whnf); repeat ((with_reducible first | refine CondG.tt ?_ | refine CondG.ff ?_ | refine CondG.ntt ?_ | refine CondG.nff ?_); conv => whnf)
      refine ArithG.i64' ((ss.length + 1 : Nat) : Int) (by omega) (by omega) ?_
      (conv => whnf); repeat ((with_reducible first | refine CondG.tt ?_ | refine CondG.ff ?_ | refine CondG.ntt ?_ | refine CondG.nff ?_); conv => whnf)
      refine SlcG.lit ?_
      (conv => whnf); repeat ((with_reducible first | refine CondG.tt ?_ | refine CondG.ff ?_ | refine CondG.ntt ?_ | refine CondG.nff ?_); conv => whnf)
      refine SideG.of (by omega) ?_
      (conv => whnf); repeat ((with_reducible first | refine CondG.tt ?_ | refine CondG.ff ?_ | refine CondG.ntt ?_ | refine CondG.nff ?_); conv => whnf)
      refine SliceG.zero ?_
      (conv => whnf); repeat ((with_reducible first | refine CondG.tt ?_ | refine CondG.ff ?_ | refine CondG.ntt ?_ | refine CondG.nff ?_); conv => whnf)
      refine ArithG.i64' ((i + 1 : Nat) : Int) (by omega) (by omega) ?_
      (conv => whnf); repeat ((with_reducible first | refine CondG.tt ?_ | refine CondG.ff ?_ | refine CondG.ntt ?_ | refine CondG.nff ?_); conv => whnf)
      refine SlcG.lit ?_
      (conv => whnf); repeat ((with_reducible first | refine CondG.tt ?_ | refine CondG.ff ?_ | refine CondG.ntt ?_ | refine CondG.nff ?_); conv => whnf)
      refine SideG.of (by omega) ?_
      (conv => whnf); repeat ((with_reducible first | refine CondG.tt ?_ | refine CondG.ff ?_ | refine CondG.ntt ?_ | refine CondG.nff ?_); conv => whnf)
      refine SliceG.ne (by omega) ?_
      (conv => whnf); repeat ((with_reducible first | refine CondG.tt ?_ | refine CondG.ff ?_ | refine CondG.ntt ?_ | refine CondG.nff ?_); conv => whnf)
      rw [overlaps_ext]
      refine DoesG.ent (Ent.perm (List.Perm.swap _ _ _)) ?_
      refine DoesG.apart (size := 1) strsT.und (by kernel_rfl) (fun h => by have := congrArg List.length h; rw [List.length_append, hsv, List.length_nil] at this; omega) ?_
      (conv => whnf); repeat ((with_reducible first | refine CondG.tt ?_ | refine CondG.ff ?_ | refine CondG.ntt ?_ | refine CondG.nff ?_); conv => whnf)
      refine DrawG.mk 9 [] [cel g t (svs ss ++ rest), cel vb tv [.string x]] (Ent.perm (List.Perm.swap _ _ _)) ?_
      (conv => whnf); repeat ((with_reducible first | refine CondG.tt ?_ | refine CondG.ff ?_ | refine CondG.ntt ?_ | refine CondG.nff ?_); conv => whnf)
      refine .take 0 ?_
      (conv => whnf); repeat ((with_reducible first | refine CondG.tt ?_ | refine CondG.ff ?_ | refine CondG.ntt ?_ | refine CondG.nff ?_); conv => whnf)
      refine ⟨rfl, ?_⟩
      (conv => whnf); repeat ((with_reducible first | refine CondG.tt ?_ | refine CondG.ff ?_ | refine CondG.ntt ?_ | refine CondG.nff ?_); conv => whnf)
      refine .take 1 ?_
      (conv => whnf); repeat ((with_reducible first | refine CondG.tt ?_ | refine CondG.ff ?_ | refine CondG.ntt ?_ | refine CondG.nff ?_); conv => whnf)
      refine ⟨rfl, ?_⟩
      (conv => whnf); repeat ((with_reducible first | refine CondG.tt ?_ | refine CondG.ff ?_ | refine CondG.ntt ?_ | refine CondG.nff ?_); conv => whnf)
      refine .take 2 ?_
      (conv => whnf); repeat ((with_reducible first | refine CondG.tt ?_ | refine CondG.ff ?_ | refine CondG.ntt ?_ | refine CondG.nff ?_); conv => whnf)
      refine ⟨rfl, ?_⟩
      (conv => whnf); repeat ((with_reducible first | refine CondG.tt ?_ | refine CondG.ff ?_ | refine CondG.ntt ?_ | refine CondG.nff ?_); conv => whnf)
      refine .take 3 ?_
      (conv => whnf); repeat ((with_reducible first | refine CondG.tt ?_ | refine CondG.ff ?_ | refine CondG.ntt ?_ | refine CondG.nff ?_); conv => whnf)
      refine ⟨rfl, ?_⟩
      (conv => whnf); repeat ((with_reducible first | refine CondG.tt ?_ | refine CondG.ff ?_ | refine CondG.ntt ?_ | refine CondG.nff ?_); conv => whnf)
      refine ArithG.i64' ((i + 1 : Nat) : Int) (by omega) (by omega) ?_
      (conv => whnf); repeat ((with_reducible first | refine CondG.tt ?_ | refine CondG.ff ?_ | refine CondG.ntt ?_ | refine CondG.nff ?_); conv => whnf)
      refine .take 4 ?_
      (conv => whnf); repeat ((with_reducible first | refine CondG.tt ?_ | refine CondG.ff ?_ | refine CondG.ntt ?_ | refine CondG.nff ?_); conv => whnf)
      refine ⟨rfl, ?_⟩
      (conv => whnf); repeat ((with_reducible first | refine CondG.tt ?_ | refine CondG.ff ?_ | refine CondG.ntt ?_ | refine CondG.nff ?_); conv => whnf)
      refine SlcG.lit ?_
      (conv => whnf); repeat ((with_reducible first | refine CondG.tt ?_ | refine CondG.ff ?_ | refine CondG.ntt ?_ | refine CondG.nff ?_); conv => whnf)
      refine SideG.of (by omega) ?_
      (conv => whnf); repeat ((with_reducible first | refine CondG.tt ?_ | refine CondG.ff ?_ | refine CondG.ntt ?_ | refine CondG.nff ?_); conv => whnf)
      refine SliceG.ne (by omega) ?_
      (conv => whnf); repeat ((with_reducible first | refine CondG.tt ?_ | refine CondG.ff ?_ | refine CondG.ntt ?_ | refine CondG.nff ?_); conv => whnf)
      refine .take 5 ?_
      (conv => whnf); repeat ((with_reducible first | refine CondG.tt ?_ | refine CondG.ff ?_ | refine CondG.ntt ?_ | refine CondG.nff ?_); conv => whnf)
      refine ⟨rfl, ?_⟩
      (conv => whnf); repeat ((with_reducible first | refine CondG.tt ?_ | refine CondG.ff ?_ | refine CondG.ntt ?_ | refine CondG.nff ?_); conv => whnf)
      refine .take 6 ?_
      (conv => whnf); repeat ((with_reducible first | refine CondG.tt ?_ | refine CondG.ff ?_ | refine CondG.ntt ?_ | refine CondG.nff ?_); conv => whnf)
      refine ⟨rfl, ?_⟩
      (conv => whnf); repeat ((with_reducible first | refine CondG.tt ?_ | refine CondG.ff ?_ | refine CondG.ntt ?_ | refine CondG.nff ?_); conv => whnf)
      refine .take 7 ?_
      (conv => whnf); repeat ((with_reducible first | refine CondG.tt ?_ | refine CondG.ff ?_ | refine CondG.ntt ?_ | refine CondG.nff ?_); conv => whnf)
      refine ⟨rfl, ?_⟩
      (conv => whnf); repeat ((with_reducible first | refine CondG.tt ?_ | refine CondG.ff ?_ | refine CondG.ntt ?_ | refine CondG.nff ?_); conv => whnf)
      refine SlcG.lit ?_
      (conv => whnf); repeat ((with_reducible first | refine CondG.tt ?_ | refine CondG.ff ?_ | refine CondG.ntt ?_ | refine CondG.nff ?_); conv => whnf)
      refine SideG.of (by omega) ?_
      (conv => whnf); repeat ((with_reducible first | refine CondG.tt ?_ | refine CondG.ff ?_ | refine CondG.ntt ?_ | refine CondG.nff ?_); conv => whnf)
      refine SliceG.ne (by omega) ?_
      (conv => whnf); repeat ((with_reducible first | refine CondG.tt ?_ | refine CondG.ff ?_ | refine CondG.ntt ?_ | refine CondG.nff ?_); conv => whnf)
      refine .all ?_
      (conv => whnf); repeat ((with_reducible first | refine CondG.tt ?_ | refine CondG.ff ?_ | refine CondG.ntt ?_ | refine CondG.nff ?_); conv => whnf)
      refine ⟨by decide, ?_⟩
      (conv => whnf); repeat ((with_reducible first | refine CondG.tt ?_ | refine CondG.ff ?_ | refine CondG.ntt ?_ | refine CondG.nff ?_); conv => whnf)
      have hd1 : (rest.take 1).length = 1 := by rw [List.length_take]; omega
      have hdr1 : ∀ (L : List HP), CelN (cel g t (svs ss ++ rest) :: L) g (0 + i * 1) (svs (ss.drop i) ++ rest.take 1) := fun L => .here (by
        rw [Nat.zero_add, Nat.mul_one, List.length_append, hdi, hd1, hspl]
        conv => lhs; arg 2; arg 1; rw [← hti]
        rw [List.drop_left, ← hdi, List.take_length_add_append])
      have hmin : min (ss.length + 1 - i) (ss.length + 1 - (i + 1)) = ss.length - i := by omega
      have htk : (svs (ss.drop i) ++ rest.take 1).take (ss.length - i) = svs (ss.drop i) := by rw [← hdi, List.take_left]
      refine DoesG.copyW (o := 0 + (i + 1) * 1) (cs := svs (ss.drop i) ++ rest.take 1) (n := ss.length + 1 - i) (dLen := ss.length + 1 - (i + 1)) strsT.und (by kernel_rfl) (.mk _ _ _ _ _ (show ss.length + 1 - i ≤ cap - i by omega) (hdr1 _)) (by rw [List.length_append, hdi, hd1]; omega)
        (by rw [hmin, List.length_append, hsv]; omega) (by rw [hmin, htk]; exact svs_one _) ?_
      rw [hmin, htk, Nat.zero_add, Nat.mul_one]
      (conv => whnf); repeat ((with_reducible first | refine CondG.tt ?_ | refine CondG.ff ?_ | refine CondG.ntt ?_ | refine CondG.nff ?_); conv => whnf)
      refine ⟨rfl, ?_⟩
      (conv => whnf); repeat ((with_reducible first | refine CondG.tt ?_ | refine CondG.ff ?_ | refine CondG.ntt ?_ | refine CondG.nff ?_); conv => whnf)
      refine SlcG.lit ?_
      (conv => whnf); repeat ((with_reducible first | refine CondG.tt ?_ | refine CondG.ff ?_ | refine CondG.ntt ?_ | refine CondG.nff ?_); conv => whnf)
      refine SideG.of (by omega) ?_
      (conv => whnf); repeat ((with_reducible first | refine CondG.tt ?_ | refine CondG.ff ?_ | refine CondG.ntt ?_ | refine CondG.nff ?_); conv => whnf)
      refine SliceG.ne (by omega) ?_
      (conv => whnf); repeat ((with_reducible first | refine CondG.tt ?_ | refine CondG.ff ?_ | refine CondG.ntt ?_ | refine CondG.nff ?_); conv => whnf)
      refine DoesG.copyS (o := 0 + i * 1) (cs := svs [x]) (n := 1) strsT.und (by kernel_rfl) (.mk _ _ _ _ _ (Nat.le_refl _) (.tl (.left .all F))) rfl (show 1 ≤ ss.length + 1 - i by omega)
        (by simp only [List.length_append, List.length_take, List.length_drop, hsv, hdi]; omega) (svs_one _) (cur' := svs (ss.take i ++ x :: ss.drop i) ++ rest.drop 1) (by
          rw [Nat.zero_add, Nat.mul_one, Nat.zero_add, Nat.mul_one]
          exact ins_in hti hdi hsv hspl hfin rfl (by omega) (by omega)) ?_
      (conv => whnf); repeat ((with_reducible first | refine CondG.tt ?_ | refine CondG.ff ?_ | refine CondG.ntt ?_ | refine CondG.nff ?_); conv => whnf)
      exact ⟨[_], (Ent.own_of (n := ss.length + 1) (cap := cap) (by omega) hcm hfl (by rw [List.length_append, hfl, List.length_drop]; have := hl2; rw [List.length_append, hsv] at this; omega)).trans (Ent.dropL [_] _), .inr ⟨g, cap, rfl, by omega⟩, rfl⟩
theorem zeroStr : zeroT Tryd.prog 9 = some [Value.string ⟨#[]⟩] := by kernel_rfl
theorem deleteS_spec (F : List HP) (v : Value) (ss : List ByteArray) (i : Nat) (hi : i < ss.length) (hm : ss.length ≤ 1099511627776) :
    SpecF Tryd.prog 146 [v, .int .i64 i, .int .i64 ((i + 1 : Nat) : Int)] F [own 1 v ss.length (svs ss)] (fun r L => SlV r (ss.length - 1) ∧ L = [own 1 r (ss.length - 1) (svs (ss.take i ++ ss.drop (i + 1)))]) := by
  refine SpecF.own_open (fun _ h0 _ => absurd h0 (by omega)) fun g cap t rest hv' hn hcm hl1 hl2 => ?_
  subst hv'
  have hsv : (svs ss).length = ss.length := svs_len ss
  have hti : (svs (ss.take i)).length = i := by rw [svs_len, List.length_take]; omega
  have hdi : (svs (ss.drop (i + 1))).length = ss.length - (i + 1) := by rw [svs_len, List.length_drop]
  have hdr : ∀ (L : List HP), CelN (cel g t (svs ss ++ rest) :: L) g (0 + (i + 1) * 1) (svs (ss.drop (i + 1))) := fun L => .here (by
    have e1 : svs (ss.drop (i + 1)) = (svs ss).drop (i + 1) := by simp [svs, List.map_drop]
    rw [Nat.zero_add, Nat.mul_one, hdi, e1, List.drop_append_of_le_length (by omega), List.take_append_of_le_length (by rw [List.length_drop]; omega), List.take_of_length_le (by rw [List.length_drop]; omega)])
  refine fun146.spec rfl ?_
  (conv => whnf); repeat ((with_reducible first | refine CondG.tt ?_ | refine CondG.ff ?_ | refine CondG.ntt ?_ | refine CondG.nff ?_); conv => whnf)
  refine LenG.lit ?_
  (conv => whnf); repeat ((with_reducible first | refine CondG.tt ?_ | refine CondG.ff ?_ | refine CondG.ntt ?_ | refine CondG.nff ?_); conv => whnf)
  refine SlcG.lit ?_
  (conv => whnf); repeat ((with_reducible first | refine CondG.tt ?_ | refine CondG.ff ?_ | refine CondG.ntt ?_ | refine CondG.nff ?_); conv => whnf)
  refine SideG.of (by omega) ?_
  (conv => whnf); repeat ((with_reducible first | refine CondG.tt ?_ | refine CondG.ff ?_ | refine CondG.ntt ?_ | refine CondG.nff ?_); conv => whnf)
  refine ⟨?_⟩
  (conv => whnf); repeat ((with_reducible first | refine CondG.tt ?_ | refine CondG.ff ?_ | refine CondG.ntt ?_ | refine CondG.nff ?_); conv => whnf)
  refine CondG.decF (by omega) ?_
  (conv => whnf); repeat ((with_reducible first | refine CondG.tt ?_ | refine CondG.ff ?_ | refine CondG.ntt ?_ | refine CondG.nff ?_); conv => whnf)
  refine LenG.lit ?_
  (conv => whnf); repeat ((with_reducible first | refine CondG.tt ?_ | refine CondG.ff ?_ | refine CondG.ntt ?_ | refine CondG.nff ?_); conv => whnf)
  refine DrawG.mk 8 [] [cel g t (svs ss ++ rest)] (Ent.refl _) ?_
  (conv => whnf); repeat ((with_reducible first | refine CondG.tt ?_ | refine CondG.ff ?_ | refine CondG.ntt ?_ | refine CondG.nff ?_); conv => whnf)
  refine .take 0 ?_
  (conv => whnf); repeat ((with_reducible first | refine CondG.tt ?_ | refine CondG.ff ?_ | refine CondG.ntt ?_ | refine CondG.nff ?_); conv => whnf)
  refine ⟨rfl, ?_⟩
  (conv => whnf); repeat ((with_reducible first | refine CondG.tt ?_ | refine CondG.ff ?_ | refine CondG.ntt ?_ | refine CondG.nff ?_); conv => whnf)
  refine .take 1 ?_
  (conv => whnf); repeat ((with_reducible first | refine CondG.tt ?_ | refine CondG.ff ?_ | refine CondG.ntt ?_ | refine CondG.nff ?_); conv => whnf)
  refine ⟨rfl, ?_⟩
  (conv => whnf); repeat ((with_reducible first | refine CondG.tt ?_ | refine CondG.ff ?_ | refine CondG.ntt ?_ | refine CondG.nff ?_); conv => whnf)
  refine .take 2 ?_
  (conv => whnf); repeat ((with_reducible first | refine CondG.tt ?_ | refine CondG.ff ?_ | refine CondG.ntt ?_ | refine CondG.nff ?_); conv => whnf)
  refine ⟨rfl, ?_⟩
  (conv => whnf); repeat ((with_reducible first | refine CondG.tt ?_ | refine CondG.ff ?_ | refine CondG.ntt ?_ | refine CondG.nff ?_); conv => whnf)
  refine SlcG.lit ?_
  (conv => whnf); repeat ((with_reducible first | refine CondG.tt ?_ | refine CondG.ff ?_ | refine CondG.ntt ?_ | refine CondG.nff ?_); conv => whnf)
  refine SideG.of (by omega) ?_
  (conv => whnf); repeat ((with_reducible first | refine CondG.tt ?_ | refine CondG.ff ?_ | refine CondG.ntt ?_ | refine CondG.nff ?_); conv => whnf)
  refine SliceG.zero ?_
  (conv => whnf); repeat ((with_reducible first | refine CondG.tt ?_ | refine CondG.ff ?_ | refine CondG.ntt ?_ | refine CondG.nff ?_); conv => whnf)
  refine .take 3 ?_
  (conv => whnf); repeat ((with_reducible first | refine CondG.tt ?_ | refine CondG.ff ?_ | refine CondG.ntt ?_ | refine CondG.nff ?_); conv => whnf)
  refine ⟨rfl, ?_⟩
  (conv => whnf); repeat ((with_reducible first | refine CondG.tt ?_ | refine CondG.ff ?_ | refine CondG.ntt ?_ | refine CondG.nff ?_); conv => whnf)
  refine .take 4 ?_
  (conv => whnf); repeat ((with_reducible first | refine CondG.tt ?_ | refine CondG.ff ?_ | refine CondG.ntt ?_ | refine CondG.nff ?_); conv => whnf)
  refine ⟨rfl, ?_⟩
  (conv => whnf); repeat ((with_reducible first | refine CondG.tt ?_ | refine CondG.ff ?_ | refine CondG.ntt ?_ | refine CondG.nff ?_); conv => whnf)
  refine .take 5 ?_
  (conv => whnf); repeat ((with_reducible first | refine CondG.tt ?_ | refine CondG.ff ?_ | refine CondG.ntt ?_ | refine CondG.nff ?_); conv => whnf)
  refine ⟨rfl, ?_⟩
  (conv => whnf); repeat ((with_reducible first | refine CondG.tt ?_ | refine CondG.ff ?_ | refine CondG.ntt ?_ | refine CondG.nff ?_); conv => whnf)
  refine SlcG.lit ?_
  (conv => whnf); repeat ((with_reducible first | refine CondG.tt ?_ | refine CondG.ff ?_ | refine CondG.ntt ?_ | refine CondG.nff ?_); conv => whnf)
  refine SideG.of (by omega) ?_
  (conv => whnf); repeat ((with_reducible first | refine CondG.tt ?_ | refine CondG.ff ?_ | refine CondG.ntt ?_ | refine CondG.nff ?_); conv => whnf)
  have hrs : RdS [cel g t (svs ss ++ rest)] (.slice (some ⟨g, 0, none⟩) ss.length cap) ss.length (svs ss) := .mk _ _ _ _ _ hn (.here (by rw [List.drop_zero, List.take_left]))
  refine SliceG.rd (sz := 1) (n := ss.length) hrs (by omega) (Nat.le_refl _) hn (Nat.le_refl _) fun v' hv' _ => ?_
  rw [Nat.mul_one, Nat.mul_one, List.take_of_length_le (by rw [List.length_drop]; omega)] at hv'
  have e1 : (svs ss).drop (i + 1) = svs (ss.drop (i + 1)) := by simp [svs, List.map_drop]
  rw [show ((i + 1 : Nat) : Int).toNat = i + 1 from rfl, e1] at hv'
  (conv => whnf); repeat ((with_reducible first | refine CondG.tt ?_ | refine CondG.ff ?_ | refine CondG.ntt ?_ | refine CondG.nff ?_); conv => whnf)
  refine .all ?_
  (conv => whnf); repeat ((with_reducible first | refine CondG.tt ?_ | refine CondG.ff ?_ | refine CondG.ntt ?_ | refine CondG.nff ?_); conv => whnf)
  refine ⟨by decide, ?_⟩
  (conv => whnf); repeat ((with_reducible first | refine CondG.tt ?_ | refine CondG.ff ?_ | refine CondG.ntt ?_ | refine CondG.nff ?_); conv => whnf)
  refine DoesG.appIn (n := i) (m := ss.length - (i + 1)) strsT (hv'.left _) (by rw [hdi, Nat.mul_one]) (by omega) (by rw [List.length_append, hsv]; omega) (svs_one _) ?_
  have hn1 : i + (ss.length - (i + 1)) = ss.length - 1 := by omega
  have hts : (svs ss ++ rest).take (0 + i * 1) = svs (ss.take i) := by
    rw [Nat.zero_add, Nat.mul_one, List.take_append_of_le_length (by omega)]
    simp [svs, List.map_take]
  have hW : svs (ss.take i) ++ svs (ss.drop (i + 1)) = svs (ss.take i ++ ss.drop (i + 1)) := svs_app _ _
  have hWl : (svs (ss.take i ++ ss.drop (i + 1))).length = (ss.length - 1) * 1 := by rw [← hW, List.length_append, hti, hdi]; omega
  have hcap : (svs ss ++ rest).length = cap := by rw [hl2, Nat.mul_one]
  rw [hn1, hts, hW]
  (conv => whnf); repeat ((with_reducible first | refine CondG.tt ?_ | refine CondG.ff ?_ | refine CondG.ntt ?_ | refine CondG.nff ?_); conv => whnf)
  refine .take 7 ?_
  (conv => whnf); repeat ((with_reducible first | refine CondG.tt ?_ | refine CondG.ff ?_ | refine CondG.ntt ?_ | refine CondG.nff ?_); conv => whnf)
  refine ⟨rfl, ?_⟩
  (conv => whnf); repeat ((with_reducible first | refine CondG.tt ?_ | refine CondG.ff ?_ | refine CondG.ntt ?_ | refine CondG.nff ?_); conv => whnf)
  refine ⟨rfl, ?_⟩
  (conv => whnf); repeat ((with_reducible first | refine CondG.tt ?_ | refine CondG.ff ?_ | refine CondG.ntt ?_ | refine CondG.nff ?_); conv => whnf)
  refine LenG.lit ?_
  (conv => whnf); repeat ((with_reducible first | refine CondG.tt ?_ | refine CondG.ff ?_ | refine CondG.ntt ?_ | refine CondG.nff ?_); conv => whnf)
  refine SlcG.lit ?_
  (conv => whnf); repeat ((with_reducible first | refine CondG.tt ?_ | refine CondG.ff ?_ | refine CondG.ntt ?_ | refine CondG.nff ?_); conv => whnf)
  refine SideG.of (by omega) ?_
  (conv => whnf); repeat ((with_reducible first | refine CondG.tt ?_ | refine CondG.ff ?_ | refine CondG.ntt ?_ | refine CondG.nff ?_); conv => whnf)
  refine SliceG.ne (by omega) ?_
  (conv => whnf); repeat ((with_reducible first | refine CondG.tt ?_ | refine CondG.ff ?_ | refine CondG.ntt ?_ | refine CondG.nff ?_); conv => whnf)
  refine DoesG.clear1 (o := 0 + (ss.length - 1) * 1) (m := ss.length - (ss.length - 1)) strsT.und zeroStr (by rw [List.length_append, hWl, List.length_drop, hcap]; omega) rfl ?_
  have htk : ∀ X : List Value, (svs (ss.take i ++ ss.drop (i + 1)) ++ X).take (0 + (ss.length - 1) * 1) = svs (ss.take i ++ ss.drop (i + 1)) := fun X => by rw [Nat.zero_add, ← hWl, List.take_left]
  rw [htk, List.append_assoc]
  (conv => whnf); repeat ((with_reducible first | refine CondG.tt ?_ | refine CondG.ff ?_ | refine CondG.ntt ?_ | refine CondG.nff ?_); conv => whnf)
  refine ⟨_, Ent.own_of (n := ss.length - 1) (cs := svs (ss.take i ++ ss.drop (i + 1))) (cap := cap) (rest := _) (by omega) hcm hWl ?_, .inr ⟨g, cap, rfl, by omega⟩, rfl⟩
  simp only [List.length_append, List.length_replicate, List.length_drop, hWl, hcap]
  omega
end Go.Proofs.YthdpknlnpeaiiaaDoor
