/-
  The reference's text laid out whole: a contract out of the resolved text.
-/
import Derived.Test.YthdpknlnpeaiiaaDoorRf
import Derived.Test.YthdpknlnpeaiiaaDoorZLv
import Derived.Test.YthdpknlnpeaiiaaDoorZPd
namespace Go.Proofs.YthdpknlnpeaiiaaDoor
open Go Go.Sl
theorem app1 {F M : List HP} {v : Value} {n b x : Nat} {l : List Nat} (hn : n ≤ 4398046511104) {k : Value → List HP → Prop} (hk : ∀ r, SlV r (n + 1) → k r (own 1 r (n + 1) (bvs (l ++ [x])) :: cel b 5 [bv x] :: M)) :
    DoesG Tryd.prog F (Builtin.append_ #[79, 79] 79 #[v, .slice (some ⟨b, 0, none⟩) 1 1]) (cel b 5 [bv x] :: own 1 v n (bvs l) :: M) k := by
  refine DoesG.ent (Ent.perm (List.Perm.swap _ _ _)) ?_
  refine app_own bytesT 79 (m := 1) (ys := bvs [x]) (.mk _ _ _ _ _ (by decide) (.tl (.left .all _))) rfl (bvs_one _) (by simp only [maxLen]; omega) (by omega) fun r hr hl hn => ?_
  rw [bvs_append]
  exact hk r hr
theorem laid_spec (F : List HP) (dv : Value) (m : List Nat) (hv : RdS F dv m.length (bvs m)) (hm : m.length ≤ 1099511627776) : SpecF Tryd.prog 139 [dv, .int .i64 (8 * m.length : Nat)] F [] (fun r L => SlV r (padL m).length ∧ ∃ n, n = (padL m).length ∧ L = [own 1 r n (bvs (padL m))]) := by
  have hq : ((8 * m.length : Nat) : Int).tdiv 8 = (m.length : Int) := by
    show ((8 * m.length / 8 : Nat) : Int) = _
    rw [Nat.mul_div_cancel_left _ (by decide)]
  have hr8 : ((8 * m.length : Nat) : Int).tmod 8 = 0 := by
    show ((8 * m.length % 8 : Nat) : Int) = _
    rw [Nat.mul_mod_right]; rfl
  refine fun139.spec rfl ?_
  (conv => whnf); repeat ((first | with_reducible refine CondG.tt ?_ | with_reducible refine CondG.ff ?_); conv => whnf)
  refine LoopG.mk (fun mm e L => ∃ i v, i ≤ m.length ∧ SlV v i ∧ mm = m.length - i ∧ e = [(0, dv), (1, .int .i64 (8 * m.length : Nat)), (5, v), (6, .int .i64 i)] ∧ L = [own 1 v i (bvs (m.take i))]) m.length
    [(0, dv), (1, .int .i64 (8 * m.length : Nat)), (5, .slice none 0 0), (6, .int .i64 0)] [own 1 (.slice none 0 0) 0 []] ⟨rfl, rfl, rfl, rfl, trivial⟩ (fun w G hs => Sat.own_nil hs) ⟨0, .slice none 0 0, by omega, .inl ⟨rfl, rfl⟩, rfl, rfl, rfl⟩ ?_
  rintro mm e L ⟨i, v, hi, hvi, rfl, rfl, rfl⟩
  (conv => whnf); repeat ((first | with_reducible refine CondG.tt ?_ | with_reducible refine CondG.ff ?_); conv => whnf)
  refine SideG.of (by decide) ?_
  (conv => whnf); repeat ((first | with_reducible refine CondG.tt ?_ | with_reducible refine CondG.ff ?_); conv => whnf)
  refine ArithG.i64' _ hq (by omega) ?_
  (conv => whnf); repeat ((first | with_reducible refine CondG.tt ?_ | with_reducible refine CondG.ff ?_); conv => whnf)
  refine CondG.dec (fun h => ?_) (fun h => ?_)
  · have hi' : i < m.length := by omega
    (conv => whnf); repeat ((first | with_reducible refine CondG.tt ?_ | with_reducible refine CondG.ff ?_); conv => whnf)
    refine IdxG.rd hv (by omega) fun c o hc => ?_
    (conv => whnf); repeat ((first | with_reducible refine CondG.tt ?_ | with_reducible refine CondG.ff ?_); conv => whnf)
    refine LoadG.atF (v := bv m[i]) (hc.one (i := (i : Int).toNat * 1) (by simpa using bvs_get hi')) ?_
    (conv => whnf); repeat ((first | with_reducible refine CondG.tt ?_ | with_reducible refine CondG.ff ?_); conv => whnf)
    refine BuildG.of rfl ?_
    (conv => whnf); repeat ((first | with_reducible refine CondG.tt ?_ | with_reducible refine CondG.ff ?_); conv => whnf)
    intro b
    (conv => whnf); repeat ((first | with_reducible refine CondG.tt ?_ | with_reducible refine CondG.ff ?_); conv => whnf)
    refine app1 (x := m[i]) (by omega) fun r hr => ?_
    (conv => whnf); repeat ((first | with_reducible refine CondG.tt ?_ | with_reducible refine CondG.ff ?_); conv => whnf)
    refine ArithG.i64 (by omega) ?_
    (conv => whnf); repeat ((first | with_reducible refine CondG.tt ?_ | with_reducible refine CondG.ff ?_); conv => whnf)
    refine ⟨m.length - (i + 1), [(0, dv), (1, .int .i64 (8 * m.length : Nat)), (5, r), (6, .int .i64 ((i + 1 : Nat)))], [own 1 r (i + 1) (bvs (m.take i ++ [m[i]]))], by omega, ⟨rfl, rfl, rfl, rfl, trivial⟩, Ent.sel (T := []) (A := [_, _]) [0] rfl, i + 1, r, by omega, hr, rfl, rfl, ?_⟩
    rw [List.take_succ_eq_append_getElem hi']
  obtain rfl : i = m.length := by omega
  rw [List.take_length]
  (conv => whnf); repeat ((first | with_reducible refine CondG.tt ?_ | with_reducible refine CondG.ff ?_); conv => whnf)
  refine SideG.of (by decide) ?_
  rw [hr8]
  (conv => whnf); repeat ((first | with_reducible refine CondG.tt ?_ | with_reducible refine CondG.ff ?_); conv => whnf)
  refine CondG.tt ?_
  (conv => whnf); repeat ((first | with_reducible refine CondG.tt ?_ | with_reducible refine CondG.ff ?_); conv => whnf)
  refine BuildG.of rfl ?_
  (conv => whnf); repeat ((first | with_reducible refine CondG.tt ?_ | with_reducible refine CondG.ff ?_); conv => whnf)
  intro b0
  (conv => whnf); repeat ((first | with_reducible refine CondG.tt ?_ | with_reducible refine CondG.ff ?_); conv => whnf)
  refine app1 (x := 128) (by omega) fun r hr => ?_
  (conv => whnf); repeat ((first | with_reducible refine CondG.tt ?_ | with_reducible refine CondG.ff ?_); conv => whnf)
  have hdm := Nat.div_add_mod m.length 64
  have hlt := Nat.mod_lt m.length (show 0 < 64 by decide)
  refine LoopG.mk (fun mm e L => ∃ k v, k ≤ padZ m ∧ SlV v (m.length + 1 + k) ∧ mm = padZ m - k ∧ e = [(1, .int .i64 (8 * m.length : Nat)), (5, v)] ∧ L = [own 1 v (m.length + 1 + k) (bvs (m ++ 128 :: List.replicate k 0))]) (padZ m)
    [(1, .int .i64 (8 * m.length : Nat)), (5, r)] [own 1 r (m.length + 1) (bvs (m ++ [128]))] ⟨rfl, rfl, trivial⟩ (Ent.sel (T := []) (A := [_, _]) [0] rfl) ⟨0, r, by omega, hr, rfl, rfl, rfl⟩ ?_
  rintro mm e L ⟨k, v, hk, hvk, rfl, rfl, rfl⟩
  have hz : padZ m ≤ 119 := by unfold padZ; split <;> omega
  (conv => whnf); repeat ((first | with_reducible refine CondG.tt ?_ | with_reducible refine CondG.ff ?_); conv => whnf)
  refine LenG.sl hvk ?_
  (conv => whnf); repeat ((first | with_reducible refine CondG.tt ?_ | with_reducible refine CondG.ff ?_); conv => whnf)
  refine SideG.of (by decide) ?_
  (conv => whnf); repeat ((first | with_reducible refine CondG.tt ?_ | with_reducible refine CondG.ff ?_); conv => whnf)
  rw [show ((m.length + 1 + k : Nat) : Int).tmod 64 = (((m.length + 1 + k) % 64 : Nat) : Int) from rfl]
  refine CondG.ndec (fun h => ?_) (fun h => ?_)
  · have hk' : k < padZ m := by
      rcases Nat.lt_or_ge k (padZ m) with h1 | h1
      · exact h1
      · exfalso
        apply h
        have : k = padZ m := by omega
        subst this
        unfold padZ
        split <;> omega
    (conv => whnf); repeat ((first | with_reducible refine CondG.tt ?_ | with_reducible refine CondG.ff ?_); conv => whnf)
    refine BuildG.of rfl ?_
    (conv => whnf); repeat ((first | with_reducible refine CondG.tt ?_ | with_reducible refine CondG.ff ?_); conv => whnf)
    intro b
    (conv => whnf); repeat ((first | with_reducible refine CondG.tt ?_ | with_reducible refine CondG.ff ?_); conv => whnf)
    refine app1 (x := 0) (by omega) fun r2 hr2 => ?_
    (conv => whnf); repeat ((first | with_reducible refine CondG.tt ?_ | with_reducible refine CondG.ff ?_); conv => whnf)
    refine ⟨padZ m - (k + 1), [(1, .int .i64 (8 * m.length : Nat)), (5, r2)], [own 1 r2 (m.length + 1 + k + 1) (bvs (m ++ 128 :: List.replicate k 0 ++ [0]))], by omega, ⟨rfl, rfl, trivial⟩, Ent.sel (T := []) (A := [_, _]) [0] rfl, k + 1, r2, by omega, hr2, rfl, rfl, ?_⟩
    have e1 : m ++ 128 :: List.replicate k 0 ++ [0] = m ++ 128 :: List.replicate (k + 1) 0 := by
      rw [List.replicate_succ']
      simp
    rw [e1]
    rfl
  have hk' : k = padZ m := by
    have h56 : (m.length + 1 + k) % 64 = 56 := by omega
    unfold padZ at hk ⊢
    split at hk <;> split <;> omega
  subst hk'
  (conv => whnf); repeat ((first | with_reducible refine CondG.tt ?_ | with_reducible refine CondG.ff ?_); conv => whnf)
  refine LoopG.mk (fun mm e L => ∃ j v, j ≤ 8 ∧ SlV v (m.length + 1 + padZ m + j) ∧ mm = 8 - j ∧ e = [(1, .int .i64 (8 * m.length : Nat)), (5, v), (9, .int .i64 (7 - j))] ∧ L = [own 1 v (m.length + 1 + padZ m + j) (bvs (m ++ 128 :: List.replicate (padZ m) 0 ++ (be (m.length * 8) 8).take j))]) 8
    [(1, .int .i64 (8 * m.length : Nat)), (5, v), (9, .int .i64 7)] _ ⟨rfl, rfl, rfl, trivial⟩ (Ent.refl _) ⟨0, v, by omega, hvk, rfl, rfl, by simp⟩ ?_
  rintro mm e L ⟨j, v, hj, hvj, rfl, rfl, rfl⟩
  (conv => whnf); repeat ((first | with_reducible refine CondG.tt ?_ | with_reducible refine CondG.ff ?_); conv => whnf)
  refine CondG.dec (fun h9 => ?_) (fun h9 => ?_)
  · have hj8 : j < 8 := by omega
    have ex := shr_b (8 * m.length) (7 - j) (by omega)
    have ej : ((7 - j : Nat) : Int) = 7 - (j : Int) := by omega
    rw [ej] at ex
    (conv => whnf); repeat ((first | with_reducible refine CondG.tt ?_ | with_reducible refine CondG.ff ?_); conv => whnf)
    refine ArithG.u64 (by omega) ?_
    (conv => whnf); repeat ((first | with_reducible refine CondG.tt ?_ | with_reducible refine CondG.ff ?_); conv => whnf)
    refine ArithG.i64 (by omega) ?_
    (conv => whnf); repeat ((first | with_reducible refine CondG.tt ?_ | with_reducible refine CondG.ff ?_); conv => whnf)
    refine ArithG.u64 (by omega) ?_
    (conv => whnf); repeat ((first | with_reducible refine CondG.tt ?_ | with_reducible refine CondG.ff ?_); conv => whnf)
    refine SideG.of (by omega) ?_
    refine ArithG.all ?_
    (conv => whnf); repeat ((first | with_reducible refine CondG.tt ?_ | with_reducible refine CondG.ff ?_); conv => whnf)
    have ex' : IntKind.u8.wrap (((8 * m.length : Nat) : Int).fdiv (2 ^ (min (8 * (7 - (j : Int))).toNat IntKind.u64.bits))) = ((8 * m.length / 256 ^ (7 - j) % 256 : Nat) : Int) := ex
    rw [ex']
    refine BuildG.of rfl ?_
    (conv => whnf); repeat ((first | with_reducible refine CondG.tt ?_ | with_reducible refine CondG.ff ?_); conv => whnf)
    intro b
    (conv => whnf); repeat ((first | with_reducible refine CondG.tt ?_ | with_reducible refine CondG.ff ?_); conv => whnf)
    refine app1 (x := 8 * m.length / 256 ^ (7 - j) % 256) (by omega) fun r2 hr2 => ?_
    (conv => whnf); repeat ((first | with_reducible refine CondG.tt ?_ | with_reducible refine CondG.ff ?_); conv => whnf)
    refine ArithG.i64 (by omega) ?_
    (conv => whnf); repeat ((first | with_reducible refine CondG.tt ?_ | with_reducible refine CondG.ff ?_); conv => whnf)
    refine ⟨8 - (j + 1), [(1, .int .i64 (8 * m.length : Nat)), (5, r2), (9, .int .i64 (7 - ((j + 1 : Nat) : Int)))], [own 1 r2 (m.length + 1 + padZ m + j + 1) (bvs (m ++ 128 :: List.replicate (padZ m) 0 ++ (be (m.length * 8) 8).take j ++ [8 * m.length / 256 ^ (7 - j) % 256]))], by omega, ?_, Ent.sel (T := []) (A := [_, _]) [0] rfl, j + 1, r2, by omega, hr2, rfl, rfl, ?_⟩
    · refine ⟨rfl, rfl, ?_, trivial⟩
      show some (Value.int .i64 (7 - (j : Int) - 1)) = _
      congr 2
      omega
    have hl : j < (be (m.length * 8) 8).length := by rw [be_len]; exact hj8
    have hg : (be (m.length * 8) 8)[j] = 8 * m.length / 256 ^ (7 - j) % 256 := by
      have h1 := be_get (m.length * 8) hj8
      rw [List.getElem?_eq_getElem hl] at h1
      rw [Option.some.inj h1, Nat.mul_comm]
    rw [List.take_succ_eq_append_getElem hl, hg, List.append_assoc (m ++ 128 :: List.replicate (padZ m) 0)]
    rfl
  · obtain rfl : j = 8 := by omega
    have e8 : (be (m.length * 8) 8).take 8 = be (m.length * 8) 8 := List.take_of_length_le (by rw [be_len]; decide)
    have ep : m ++ 128 :: List.replicate (padZ m) 0 ++ be (m.length * 8) 8 = padL m := by simp [padL]
    have el : (padL m).length = m.length + 1 + padZ m + 8 := by
      rw [← ep]; simp [be_len]; omega
    rw [e8, ep]
    (conv => whnf); repeat ((first | with_reducible refine CondG.tt ?_ | with_reducible refine CondG.ff ?_); conv => whnf)
    exact ret_here ⟨by rw [el]; exact hvj, _, el.symm, rfl⟩
theorem of_spec (F : List HP) (K : List W32) (hK : CelN F 1 0 (wvs K)) (hB : CelN F 0 0 (wvs ivW)) (hk : K.length = 64) (dv : Value) (m : List Nat) (hv : RdS F dv m.length (bvs m)) (hm : m.length ≤ 1099511627776) (hb : ∀ b ∈ m, b < 256) :
    SpecF Tryd.prog 110 [dv, .int .i64 (8 * m.length : Nat)] F [] (fun r L => r = .agg ⟨bvs (dig K m)⟩ ∧ L = []) := by
  have hpb : ∀ b ∈ padL m, b < 256 := by
    intro b hbm
    simp only [padL, List.mem_append, List.mem_cons, List.mem_replicate] at hbm
    rcases hbm with h1 | (h1 | h1) | h1
    · exact hb b h1
    · omega
    · omega
    · have be_b : ∀ (n k b : Nat), b ∈ be n k → b < 256 := by
        intro n k
        induction k with
        | zero => intro b h; cases h
        | succ k ih =>
          intro b h
          rcases List.mem_cons.1 h with h | h
          · rw [h]; exact Nat.mod_lt _ (by decide)
          · exact ih b h
      exact be_b _ _ b h1
  have hpl := padL_len m
  obtain ⟨Q, hQ⟩ : ∃ Q, Q = (if m.length % 64 < 56 then m.length / 64 + 1 else m.length / 64 + 2) := ⟨_, rfl⟩
  rw [← hQ] at hpl
  have hQ2 : Q ≤ 1099511627776 := by rw [hQ]; split <;> omega
  refine fun110.spec rfl ?_
  (conv => whnf); repeat ((first | with_reducible refine CondG.tt ?_ | with_reducible refine CondG.ff ?_); conv => whnf)
  intro b4
  (conv => whnf); repeat ((first | with_reducible refine CondG.tt ?_ | with_reducible refine CondG.ff ?_); conv => whnf)
  refine CallG.pure (laid_spec _ dv m (.right hv _) hm) ?_
  rintro r _ ⟨hr, n, rfl, rfl⟩
  (conv => whnf); repeat ((first | with_reducible refine CondG.tt ?_ | with_reducible refine CondG.ff ?_); conv => whnf)
  refine LoadNG.atF (vs := wvs ivW) rfl hB ?_
  (conv => whnf); repeat ((first | with_reducible refine CondG.tt ?_ | with_reducible refine CondG.ff ?_); conv => whnf)
  intro b6
  (conv => whnf); repeat ((first | with_reducible refine CondG.tt ?_ | with_reducible refine CondG.ff ?_); conv => whnf)
  refine StoreG.at rfl (Upd.whole rfl (wvs_one _)) ?_
  (conv => whnf); repeat ((first | with_reducible refine CondG.tt ?_ | with_reducible refine CondG.ff ?_); conv => whnf)
  refine LoopG.mk (fun mm e L => ∃ j, j ≤ Q ∧ mm = Q - j ∧ e = [(4, .pointer (some ⟨b4, 0, none⟩)), (5, r), (6, .pointer (some ⟨b6, 0, none⟩)), (7, .int .i64 (64 * j : Nat))] ∧
    L = [cel b6 216 (wvs (stN K (padL m) j)), own 1 r (padL m).length (bvs (padL m)), cel b4 25 (bvs (List.replicate 32 0))]) Q
    [(4, .pointer (some ⟨b4, 0, none⟩)), (5, r), (6, .pointer (some ⟨b6, 0, none⟩)), (7, .int .i64 0)] _ ⟨rfl, rfl, rfl, rfl, trivial⟩ (Ent.refl _) ⟨0, by omega, rfl, rfl, rfl⟩ ?_
  rintro mm e L ⟨j, hj, rfl, rfl, rfl⟩
  (conv => whnf); repeat ((first | with_reducible refine CondG.tt ?_ | with_reducible refine CondG.ff ?_); conv => whnf)
  refine LenG.sl hr ?_
  (conv => whnf); repeat ((first | with_reducible refine CondG.tt ?_ | with_reducible refine CondG.ff ?_); conv => whnf)
  refine CondG.dec (fun h => ?_) (fun h => ?_)
  · have hjQ : j < Q := by omega
    (conv => whnf); repeat ((first | with_reducible refine CondG.tt ?_ | with_reducible refine CondG.ff ?_); conv => whnf)
    refine LoadNG.at (vs := wvs (stN K (padL m) j)) (by rw [wvs_len, stN_len]) .all ?_
    (conv => whnf); repeat ((first | with_reducible refine CondG.tt ?_ | with_reducible refine CondG.ff ?_); conv => whnf)
    refine CallG.pure (taken_spec _ K (stN K (padL m) j) r (padL m) (64 * j) (.right hK _) hk (stN_len _ _ _) (.tl (.left (own_rd hr (by simp [bvs])) _)) (by omega) (by omega) hpb) ?_
    rintro _ _ ⟨rfl, rfl⟩
    (conv => whnf); repeat ((first | with_reducible refine CondG.tt ?_ | with_reducible refine CondG.ff ?_); conv => whnf)
    have hts := takeS_len (K := K) (p := ((padL m).drop (64 * j)).take 64) (stN_len K (padL m) j)
    refine StoreG.at (by rw [wvs_len, hts]) (Upd.whole (by rw [wvs_len, hts, wvs_len, stN_len]) (wvs_one _)) ?_
    (conv => whnf); repeat ((first | with_reducible refine CondG.tt ?_ | with_reducible refine CondG.ff ?_); conv => whnf)
    refine ArithG.i64 (by omega) ?_
    (conv => whnf); repeat ((first | with_reducible refine CondG.tt ?_ | with_reducible refine CondG.ff ?_); conv => whnf)
    refine ⟨Q - (j + 1), [(4, .pointer (some ⟨b4, 0, none⟩)), (5, r), (6, .pointer (some ⟨b6, 0, none⟩)), (7, .int .i64 (64 * (j + 1) : Nat))], _, by omega, ?_, Ent.refl _, j + 1, by omega, rfl, rfl, rfl⟩
    exact ⟨rfl, rfl, rfl, rfl, trivial⟩
  obtain rfl : j = Q := by omega
  have hfl := stN_len K (padL m) j
  have hdg : dig K m = digB (stN K (padL m) j) := by
    rw [dig_pad]
    congr 2
    omega
  (conv => whnf); repeat ((first | with_reducible refine CondG.tt ?_ | with_reducible refine CondG.ff ?_); conv => whnf)
  intro b8
  (conv => whnf); repeat ((first | with_reducible refine CondG.tt ?_ | with_reducible refine CondG.ff ?_); conv => whnf)
  refine LoopG.mk (fun mm e L => ∃ i, i ≤ 32 ∧ mm = 32 - i ∧ e = [(4, .pointer (some ⟨b4, 0, none⟩)), (6, .pointer (some ⟨b6, 0, none⟩)), (8, .pointer (some ⟨b8, 0, none⟩)), (9, .int .i64 i)] ∧
    L = [cel b8 25 (bvs (fillB (fun i => ((stN K (padL m) j).getD (i / 4) 0 >>> (24 - 8 * (i % 4))).toNat % 256) 32 i)), cel b6 216 (wvs (stN K (padL m) j)), own 1 r (padL m).length (bvs (padL m)), cel b4 25 (bvs (List.replicate 32 0))]) 32
    [(4, .pointer (some ⟨b4, 0, none⟩)), (6, .pointer (some ⟨b6, 0, none⟩)), (8, .pointer (some ⟨b8, 0, none⟩)), (9, .int .i64 0)] _ ⟨rfl, rfl, rfl, rfl, trivial⟩ (Ent.refl _) ⟨0, by omega, rfl, rfl, by rw [fillB_zero]; rfl⟩ ?_
  rintro mm e L ⟨i, hi, rfl, rfl, rfl⟩
  (conv => whnf); repeat ((first | with_reducible refine CondG.tt ?_ | with_reducible refine CondG.ff ?_); conv => whnf)
  refine CondG.dec (fun h9 => ?_) (fun h9 => ?_)
  · have hi8 : i < 32 := by omega
    have hq : (i : Int).tdiv 4 = ((i / 4 : Nat) : Int) := rfl
    have hr4 : (i : Int).tmod 4 = ((i % 4 : Nat) : Int) := rfl
    (conv => whnf); repeat ((first | with_reducible refine CondG.tt ?_ | with_reducible refine CondG.ff ?_); conv => whnf)
    refine SideG.of (by decide) ?_
    (conv => whnf); repeat ((first | with_reducible refine CondG.tt ?_ | with_reducible refine CondG.ff ?_); conv => whnf)
    refine ArithG.i64' _ hq (by omega) ?_
    (conv => whnf); repeat ((first | with_reducible refine CondG.tt ?_ | with_reducible refine CondG.ff ?_); conv => whnf)
    refine SideG.of (by omega) ?_
    (conv => whnf); repeat ((first | with_reducible refine CondG.tt ?_ | with_reducible refine CondG.ff ?_); conv => whnf)
    have hg : (wvs (stN K (padL m) j))[0 + ((i / 4 : Nat) : Int).toNat * 1]? = some (wv ((stN K (padL m) j).getD (i / 4) 0)) := by
      rw [show 0 + ((i / 4 : Nat) : Int).toNat * 1 = i / 4 by omega]
      simp [wvs, List.getD, List.getElem?_eq_getElem (by omega : i / 4 < (stN K (padL m) j).length)]
    refine LoadG.at (.tl (.here hg)) ?_
    (conv => whnf); repeat ((first | with_reducible refine CondG.tt ?_ | with_reducible refine CondG.ff ?_); conv => whnf)
    refine SideG.of (by decide) ?_
    (conv => whnf); repeat ((first | with_reducible refine CondG.tt ?_ | with_reducible refine CondG.ff ?_); conv => whnf)
    rw [hr4]
    refine ArithG.i64 (by omega) ?_
    (conv => whnf); repeat ((first | with_reducible refine CondG.tt ?_ | with_reducible refine CondG.ff ?_); conv => whnf)
    refine ArithG.i64 (by omega) ?_
    (conv => whnf); repeat ((first | with_reducible refine CondG.tt ?_ | with_reducible refine CondG.ff ?_); conv => whnf)
    refine ArithG.u64 (by omega) ?_
    (conv => whnf); repeat ((first | with_reducible refine CondG.tt ?_ | with_reducible refine CondG.ff ?_); conv => whnf)
    refine SideG.of (by omega) ?_
    (conv => whnf); repeat ((first | with_reducible refine CondG.tt ?_ | with_reducible refine CondG.ff ?_); conv => whnf)
    refine ArithG.all ?_
    (conv => whnf); repeat ((first | with_reducible refine CondG.tt ?_ | with_reducible refine CondG.ff ?_); conv => whnf)
    refine SideG.of (by omega) ?_
    (conv => whnf); repeat ((first | with_reducible refine CondG.tt ?_ | with_reducible refine CondG.ff ?_); conv => whnf)
    have ex := shr_d ((stN K (padL m) j).getD (i / 4) 0) i
    refine StoreG.at rfl (Upd.here (by simp [bvs_len, fillB_len]; omega) rfl) ?_
    (conv => whnf); repeat ((first | with_reducible refine CondG.tt ?_ | with_reducible refine CondG.ff ?_); conv => whnf)
    refine ArithG.i64 (by omega) ?_
    (conv => whnf); repeat ((first | with_reducible refine CondG.tt ?_ | with_reducible refine CondG.ff ?_); conv => whnf)
    refine ⟨32 - (i + 1), _, _, by omega, ?_, Ent.refl _, i + 1, by omega, rfl, rfl, ?_⟩
    · exact ⟨rfl, rfl, rfl, rfl, trivial⟩
    rw [show 0 + (i : Int).toNat * 1 = i by omega, ← fillB_set _ hi8]
    show [cel b8 25 ((bvs (fillB _ 32 i)).set i (.int .u8 (IntKind.u8.wrap ((((stN K (padL m) j).getD (i / 4) 0).toNat : Int).fdiv (2 ^ (min (24 - 8 * ((i % 4 : Nat) : Int)).toNat 32)))))), _, _, _] = _
    rw [ex]
    rfl
  obtain rfl : i = 32 := by omega
  rw [fillB_all]
  have hdg2 : ((List.range 32).map fun i => ((stN K (padL m) j).getD (i / 4) 0 >>> (24 - 8 * (i % 4))).toNat % 256) = dig K m := hdg.symm
  rw [hdg2]
  (conv => whnf); repeat ((first | with_reducible refine CondG.tt ?_ | with_reducible refine CondG.ff ?_); conv => whnf)
  refine LoadNG.at (vs := bvs (dig K m)) (by rw [bvs_len, dig_len]) .all ?_
  (conv => whnf); repeat ((first | with_reducible refine CondG.tt ?_ | with_reducible refine CondG.ff ?_); conv => whnf)
  refine StoreG.at (by rw [bvs_len, dig_len]) (Upd.tl (Upd.tl (Upd.tl (Upd.whole (by rw [bvs_len, dig_len]; rfl) (bvs_one _))))) ?_
  (conv => whnf); repeat ((first | with_reducible refine CondG.tt ?_ | with_reducible refine CondG.ff ?_); conv => whnf)
  refine LoadNG.at (vs := bvs (dig K m)) (by rw [bvs_len, dig_len]) (.tl (.tl (.tl .all))) ?_
  (conv => whnf); repeat ((first | with_reducible refine CondG.tt ?_ | with_reducible refine CondG.ff ?_); conv => whnf)
  exact ⟨[], Ent.nil _, rfl, rfl⟩
theorem rsum_spec (F : List HP) (K : List W32) (hK : CelN F 1 0 (wvs K)) (hB : CelN F 0 0 (wvs ivW)) (hk : K.length = 64) (dv : Value) (m : List Nat) (hv : RdS F dv m.length (bvs m)) (hm : m.length ≤ 1099511627776) (hb : ∀ b ∈ m, b < 256) :
    SpecF Tryd.prog 66 [dv] F [] (fun r L => r = .agg ⟨bvs (dig K m)⟩ ∧ L = []) := by
  refine fun66.spec rfl ?_
  (conv => whnf); repeat ((first | with_reducible refine CondG.tt ?_ | with_reducible refine CondG.ff ?_); conv => whnf)
  intro b2
  (conv => whnf); repeat ((first | with_reducible refine CondG.tt ?_ | with_reducible refine CondG.ff ?_); conv => whnf)
  refine LenG.rd hv ?_
  (conv => whnf); repeat ((first | with_reducible refine CondG.tt ?_ | with_reducible refine CondG.ff ?_); conv => whnf)
  refine ArithG.i64 (by omega) ?_
  rw [show 8 * (m.length : Int) = ((8 * m.length : Nat) : Int) by omega]
  (conv => whnf); repeat ((first | with_reducible refine CondG.tt ?_ | with_reducible refine CondG.ff ?_); conv => whnf)
  refine CallG.pure (of_spec _ K (.right hK _) (.right hB _) hk dv m (.right hv _) hm hb) ?_
  rintro _ _ ⟨rfl, rfl⟩
  (conv => whnf); repeat ((first | with_reducible refine CondG.tt ?_ | with_reducible refine CondG.ff ?_); conv => whnf)
  refine StoreG.at (cs := bvs (dig K m)) (by rw [bvs_len, dig_len]) (Upd.whole (by rw [bvs_len, dig_len K m]; rfl) (bvs_one _)) ?_
  (conv => whnf); repeat ((first | with_reducible refine CondG.tt ?_ | with_reducible refine CondG.ff ?_); conv => whnf)
  refine LoadNG.at (vs := bvs (dig K m)) (by rw [bvs_len, dig_len]) .all ?_
  (conv => whnf); repeat ((first | with_reducible refine CondG.tt ?_ | with_reducible refine CondG.ff ?_); conv => whnf)
  exact ⟨[], Ent.nil _, rfl, rfl⟩
end Go.Proofs.YthdpknlnpeaiiaaDoor
