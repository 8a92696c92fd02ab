import Derived.Test.YtjkldhalmglkpaaDoorSd
import Derived.Test.YtjkldhalmglkpaaDoorZSr
import Derived.Test.YtjkldhalmglkpaaDoorZSp
import Derived.Test.YtjkldhalmglkpaaDoorZTk
import Derived.Test.YtjkldhalmglkpaaDoorZPk
namespace Go.Proofs.YtjkldhalmglkpaaDoor
open Go Go.Sl
theorem strsT : ElT Tryd.prog 67 9 1 16 := .of (by kernel_rfl)
theorem nan_spec (F : List HP) (a : ByteArray) : SpecF Tryd.prog 115 [.string a] F [] (fun r L => r = .bool false ∧ L = []) := by
 refine fun115.spec rfl ?_
 conv=>whnf
 refine ret_here ⟨?_, rfl⟩
 simp [retV]
theorem nan2_spec (F : List HP) (a : ByteArray) : SpecF Tryd.prog 88 [.string a] F [] (fun r L => r = .bool false ∧ L = []) := by
 refine fun88.spec rfl ?_
 conv=>whnf
 refine ret_here ⟨?_, rfl⟩
 simp [retV]
theorem less_spec (F : List HP) (a b : ByteArray) : SpecF Tryd.prog 87 [.string a, .string b] F [] (fun r L => r = .bool (slt a b) ∧ L = []) := by
 refine fun87.spec rfl ?_
 conv=>whnf
 refine CallG.pure (nan_spec _ a) ?_
 rintro _ _ ⟨rfl, rfl⟩
 (conv=>whnf);refine .ff ?_;(conv=>whnf);refine .ff ?_;(conv=>whnf);refine .ff ?_;(conv=>whnf);refine .ff ?_;(conv=>whnf);refine .ff ?_;(conv=>whnf);refine .ff ?_;(conv=>whnf);refine .ff ?_;(conv=>whnf)
 refine DoesG.lss ?_
 (conv=>whnf);refine .ff ?_;(conv=>whnf)
 exact ret_here ⟨rfl, rfl⟩
theorem bs_spec (F : List HP) (v : Value) (ss : List ByteArray) (x : ByteArray) (hr : RdS F v ss.length (svs ss)) (hl : ss.length ≤ 8796093022207) (hs : Sorted ss) :
 SpecF Tryd.prog 70 [v, .string x] F [] (fun r L => ∃ i b, BsR ss x i b ∧ r = .tuple #[.int .i64 (i : Nat), .bool b] ∧ L = []) := by
 obtain ⟨va, vc, rfl⟩ := hr.len
 refine fun70.spec rfl ?_
 conv=>whnf
 refine LenG.lit ?_
 conv=>whnf
 refine LoopG.mk (fun m ev L => ∃ i j : Nat, i ≤ j ∧ j ≤ ss.length ∧ m = j - i ∧ (∀ k y, ss[k]? = some y → k < i → slt y x = true) ∧ (∀ k y, ss[k]? = some y → j ≤ k → slt y x = false) ∧
  ev = [(0, .slice va ss.length vc), (1, .string x), (4, .int .i64 0), (5, .bool false), (6, .int .i64 ss.length), (7, .int .i64 i), (8, .int .i64 j)] ∧ L = []) ss.length
  [(0, .slice va ss.length vc), (1, .string x), (4, .int .i64 0), (5, .bool false), (6, .int .i64 ss.length), (7, .int .i64 0), (8, .int .i64 ss.length)] _ ⟨rfl, rfl, rfl, rfl, rfl, rfl, rfl, trivial⟩ (Ent.refl _)
  ⟨0, ss.length, Nat.zero_le _, Nat.le_refl _, rfl, fun k y _ hk => absurd hk (by omega), fun k y hy hk => by have := (List.getElem?_eq_some_iff.1 hy).1; omega, rfl, rfl⟩ ?_
 rintro m ev L ⟨i, j, hij, hj, rfl, h1, h2, rfl, rfl⟩
 conv=>whnf
 refine CondG.dec (fun hlt => ?_) (fun hlt => ?_)
 ·conv=>whnf
  refine ArithG.i64 (by omega) ?_
  conv=>whnf
  refine ArithG.u64 (by omega) ?_
  conv=>whnf
  refine SideG.of (by decide) ?_
  conv=>whnf
  have hsh : ((i : Int) + (j : Int)).fdiv (2 ^ (min (1 : Int).toNat IntKind.u64.bits)) = (((i + j) / 2 : Nat) : Int) := by
   have e : min (1 : Int).toNat IntKind.u64.bits = 1 := by decide
   rw [e, Int.fdiv_eq_ediv_of_nonneg _ (by decide)]
   norm_cast
  refine ArithG.i64' _ hsh (by omega) ?_
  have hh : (i + j) / 2 < ss.length := by omega
  conv=>whnf
  refine IdxG.rd hr (by omega) fun b o hc => ?_
  conv=>whnf
  have hg : (svs ss)[(((i + j) / 2 : Nat) : Int).toNat * 1]? = some (.string ss[(i + j) / 2]) := by
   rw [Int.toNat_natCast, Nat.mul_one]
   exact svs_get (List.getElem?_eq_getElem hh)
  refine LoadG.atF (hc.one hg) ?_
  conv=>whnf
  refine CallG.pure (less_spec _ _ _) ?_
  rintro _ _ ⟨rfl, rfl⟩
  conv=>whnf
  refine CondG.split (fun hb => ?_) (fun hb => ?_)
  ·conv=>whnf
   refine ArithG.i64' (((i + j) / 2 + 1 : Nat) : Int) (by omega) (by omega) ?_
   conv=>whnf
   refine ⟨j - ((i + j) / 2 + 1), [(0, .slice va ss.length vc), (1, .string x), (4, .int .i64 0), (5, .bool false), (6, .int .i64 ss.length), (7, .int .i64 ((i + j) / 2 + 1 : Nat)), (8, .int .i64 j)], [], by omega, ⟨rfl, rfl, rfl, rfl, rfl, rfl, rfl, trivial⟩, Ent.refl _,
    (i + j) / 2 + 1, j, by omega, hj, rfl, fun k y hy hk => ?_, h2, rfl, rfl⟩
   rcases Nat.lt_or_ge k ((i + j) / 2) with hlt2 | hge
   ·exact slt_trans (sorted_at hs hy (List.getElem?_eq_getElem hh) hlt2) hb
   ·obtain rfl : k = (i + j) / 2 := by omega
    rw [List.getElem?_eq_getElem hh] at hy
    cases hy
    exact hb
  ·conv=>whnf
   refine ⟨(i + j) / 2 - i, [(0, .slice va ss.length vc), (1, .string x), (4, .int .i64 0), (5, .bool false), (6, .int .i64 ss.length), (7, .int .i64 i), (8, .int .i64 ((i + j) / 2 : Nat))], [], by omega, ⟨rfl, rfl, rfl, rfl, rfl, rfl, rfl, trivial⟩, Ent.refl _,
    i, (i + j) / 2, by omega, by omega, rfl, h1, fun k y hy hk => ?_, rfl, rfl⟩
   rcases Nat.eq_or_lt_of_le hk with rfl | hlt2
   ·rw [List.getElem?_eq_getElem hh] at hy
    cases hy
    exact hb
   ·cases hc2 : slt y x with
    | false => rfl
    | true =>
     have := slt_trans (sorted_at hs (List.getElem?_eq_getElem hh) hy hlt2) hc2
     rw [hb] at this
     cases this
 ·obtain rfl : i = j := by omega
  conv=>whnf
  refine CondG.dec (fun hn => ?_) (fun hn => ?_)
  ·have hh : i < ss.length := by omega
   (conv=>whnf);refine .tt ?_;(conv=>whnf);refine .tt ?_;(conv=>whnf)
   refine IdxG.rd hr (by omega) fun b o hc => ?_
   (conv=>whnf);refine .tt ?_;(conv=>whnf)
   have hg : (svs ss)[((i : Nat) : Int).toNat * 1]? = some (.string ss[i]) := by
    rw [Int.toNat_natCast, Nat.mul_one]
    exact svs_get (List.getElem?_eq_getElem hh)
   refine LoadG.atF (hc.one hg) ?_
   (conv=>whnf);refine .tt ?_;(conv=>whnf);refine .tt ?_;(conv=>whnf);refine .tt ?_;(conv=>whnf)
   refine CondG.dec (fun he => ?_) (fun he => ?_)
   ·(conv=>whnf);refine .tt ?_;(conv=>whnf);refine .tt ?_;(conv=>whnf);refine .tt ?_;(conv=>whnf);refine .tt ?_;(conv=>whnf);refine .tt ?_;(conv=>whnf);refine .tt ?_;(conv=>whnf);refine .tt ?_;(conv=>whnf);refine .tt ?_;(conv=>whnf);refine .tt ?_;(conv=>whnf)
    refine ret_here ⟨i, true, ⟨hj, h1, h2, ?_⟩, rfl, rfl⟩
    rw [List.getElem?_eq_getElem hh, he]
    simp
   ·(conv=>whnf);refine .ff ?_;(conv=>whnf);refine .ff ?_;(conv=>whnf)
    refine IdxG.rd hr (by omega) fun b o hc => ?_
    (conv=>whnf);refine .ff ?_;(conv=>whnf)
    refine LoadG.atF (hc.one hg) ?_
    (conv=>whnf);refine .ff ?_;(conv=>whnf)
    refine CallG.pure (nan2_spec _ _) ?_
    rintro _ _ ⟨rfl, rfl⟩
    (conv=>whnf);repeat((with_reducible first|refine .tt ?_|refine .ff ?_);conv=>whnf)
    refine ret_here ⟨i, false, ⟨hj, h1, h2, ?_⟩, rfl, rfl⟩
    rw [List.getElem?_eq_getElem hh]
    simp [he]
  ·(conv=>whnf);refine .ff ?_;(conv=>whnf);refine .ff ?_;(conv=>whnf);refine .ff ?_;(conv=>whnf);refine .ff ?_;(conv=>whnf);refine .ff ?_;(conv=>whnf);refine .ff ?_;(conv=>whnf);refine .ff ?_;(conv=>whnf);refine .ff ?_;(conv=>whnf)
   refine ret_here ⟨i, false, ⟨hj, h1, h2, ?_⟩, rfl, rfl⟩
   rw [List.getElem?_eq_none (by omega)]
   simp
theorem cloneS_spec (F : List HP) (v : Value) (ss : List ByteArray) (hm : ss.length ≤ 8796093022207) (hv : RdS F v ss.length (svs ss)) :
 SpecF Tryd.prog 72 [v] F [] (fun r L => SlV r ss.length ∧ L = [own 1 r ss.length (svs ss)]) := by
 refine fun72.spec rfl ?_
 conv=>whnf
 refine NilG.rd hv fun b hb => ?_
 conv=>whnf
 refine CondG.split (fun h => ?_) (fun h => ?_)
 ·have e := hb.1 h
  subst e
  have hz : ss = [] := List.eq_nil_of_length_eq_zero (hv.nilE rfl).1
  subst hz
  conv=>whnf
  exact ⟨[own 1 (.slice none 0 0) 0 []], fun w G hs => Sat.own_nil hs, .inl ⟨rfl, rfl⟩, rfl⟩
 ·conv=>whnf
  refine BuildG.of rfl ?_
  conv=>whnf
  intro b1
  conv=>whnf
  refine DoesG.ent (own_of_cel (sz := 1) (n := 0) rfl (by decide)) ?_
  refine app_own strsT 67 (hv.tl) (by simp [svs]) (svs_one _) (by simp only [maxLen]; omega) (by omega) fun r hr hlen hnil => ?_
  conv=>whnf
  refine ret_here ⟨?_, ?_⟩
  ·simpa [retV] using hr
  ·simp [retV]
theorem overlaps_ext (a b : Value) : extSem Tryd.prog 89 #[a, b] = Extern.SlicesOverlaps.overlaps #[67, 67] #[4] #[a, b] := by kernel_rfl
theorem insertS_spec (F : List HP) (v : Value) (ss : List ByteArray) (i : Nat) (x : ByteArray) (vb : Nat) (tv : TypeId) (hi : i ≤ ss.length) (hm : ss.length ≤ 8796093022207) :
 SpecF Tryd.prog 71 [v, .int .i64 i, .slice (some ⟨vb, 0, none⟩) 1 1] F [own 1 v ss.length (svs ss), cel vb tv [.string x]] (fun r L => SlV r (ss.length + 1) ∧ L = [own 1 r (ss.length + 1) (svs (ss.take i ++ x :: ss.drop i))]) := by
 refine SpecF.ownV 0 rfl fun hv _ => ?_
 rcases Nat.eq_or_lt_of_le hi with he | hlt
 ·obtain ⟨va, vc, rfl⟩ := hv.len
  have hc : ss.length ≤ vc := by
   rcases hv with ⟨h, h0⟩ | ⟨g, cap, h, hn⟩
   ·rw [h0]; exact Nat.zero_le _
   ·cases h; exact hn
  refine fun71.spec rfl ?_
  conv=>whnf
  refine SlcG.lit ?_
  conv=>whnf
  refine SideG.of (by omega) ?_
  conv=>whnf
  refine ⟨?_⟩
  conv=>whnf
  refine LenG.lit ?_
  conv=>whnf
  refine CondG.decF (by decide) ?_
  conv=>whnf
  refine LenG.lit ?_
  conv=>whnf
  refine CondG.decT (by omega) ?_
  conv=>whnf
  refine app_own strsT 67 (m := 1) (ys := svs [x]) (.mk _ _ _ _ _ (Nat.le_refl _) (.tl (.left .all F))) rfl (svs_one _) (by simp only [maxLen]; omega) (by omega) fun r hr hlen hnil => ?_
  conv=>whnf
  refine ⟨_, Ent.dropL [_] _, hr, ?_⟩
  subst he
  rw [List.take_length, List.drop_length, svs_app]
  rfl
 ·refine SpecF.own_open (fun _ h0 _ => absurd h0 (by omega)) fun g cap t rest hv' hn hcm hl1 hl2 => ?_
  subst hv'
  have hsv : (svs ss).length = ss.length := svs_len ss
  have hti : (svs (ss.take i)).length = i := by rw [svs_len, List.length_take]; omega
  have hdi : (svs (ss.drop i)).length = ss.length - i := by rw [svs_len, List.length_drop]
  have hdr : ∀ (L : List HP), CelN (cel g t (svs ss ++ rest) :: L) g (0 + i * 1) (svs (ss.drop i)) := fun L => .here (by
   have e1 : svs (ss.drop i) = (svs ss).drop i := by simp [svs, List.map_drop]
   rw [Nat.zero_add, Nat.mul_one, hdi, e1, List.drop_append_of_le_length (by omega), List.take_append_of_le_length (by rw [List.length_drop]; omega), List.take_of_length_le (by rw [List.length_drop]; omega)])
  have hone : (svs [x]).length = 1 := rfl
  have hfin : svs (ss.take i) ++ (svs [x] ++ svs (ss.drop i)) = svs (ss.take i ++ x :: ss.drop i) := by rw [svs_app, svs_app]; rfl
  have hfl : (svs (ss.take i ++ x :: ss.drop i)).length = (ss.length + 1) * 1 := by
   rw [← hfin]
   simp only [List.length_append, hti, hdi, hone]
   omega
  refine fun71.spec rfl ?_
  conv=>whnf
  refine SlcG.lit ?_
  conv=>whnf
  refine SideG.of (by omega) ?_
  conv=>whnf
  refine ⟨?_⟩
  conv=>whnf
  refine LenG.lit ?_
  conv=>whnf
  refine CondG.decF (by decide) ?_
  conv=>whnf
  refine LenG.lit ?_
  conv=>whnf
  refine CondG.decF (by omega) ?_
  conv=>whnf
  refine ArithG.i64 (by omega) ?_
  conv=>whnf
  refine DoesG.capS strsT.und ?_
  conv=>whnf
  refine CondG.dec (fun hroom => ?_) (fun hroom => ?_)
  ·conv=>whnf
   refine SlcG.lit ?_
   conv=>whnf
   refine SideG.of (by omega) ?_
   conv=>whnf
   refine SliceG.zero ?_
   conv=>whnf
   refine ArithG.i64 (by omega) ?_
   conv=>whnf
   refine ArithG.i64' ((ss.length + 1 - i : Nat) : Int) (by omega) (by omega) ?_
   conv=>whnf
   have hi2 : ((svs ss ++ rest).drop 0).take (svs (ss.take i)).length = svs (ss.take i) := by
    rw [List.drop_zero, hti, List.take_append_of_le_length (by omega)]
    simp [svs, List.map_take]
   refine DoesG.appendZ (n := i) (cap := cap) (m := ss.length + 1 - i) (zv := .string ⟨#[]⟩) (kn := .i64) strsT (by kernel_rfl) rfl (by kernel_rfl) (.left (.here hi2) F) hti (by omega) (by omega) (by simp only [maxLen]; omega) (by omega) fun g' cap' hc1 hc2 => ?_
   rw [List.append_assoc]
   obtain ⟨Z, hZ⟩ : ∃ Z, Z = List.replicate (ss.length + 1 - i) (Value.string ⟨#[]⟩) ++ List.replicate (cap' - (i + (ss.length + 1 - i))) (Value.string ⟨#[]⟩) := ⟨_, rfl⟩
   have hZl : Z.length = cap' - i := by rw [hZ]; simp; omega
   rw [← hZ]
   conv=>whnf
   refine SlcG.lit ?_
   conv=>whnf
   refine SideG.of (by omega) ?_
   conv=>whnf
   refine SliceG.ne (by omega) ?_
   conv=>whnf
   refine DoesG.copyS (o := 0 + i * 1) (cs := svs [x]) strsT.und (by kernel_rfl) (.mk _ _ _ _ _ (Nat.le_refl _) (.tl (.left (.tl .all) F))) rfl (show 1 ≤ i + (ss.length + 1 - i) - i by omega) (by simp only [List.length_append]; omega) (svs_one _)
    (cur' := svs (ss.take i) ++ (svs [x] ++ Z.drop 1)) (by rw [Nat.zero_add, Nat.mul_one]; exact ins_one hti rfl) ?_
   conv=>whnf
   refine DrawG.mk 9 [cel g t (svs ss ++ rest)] [cel g' _ (svs (ss.take i) ++ (svs [x] ++ Z.drop 1)), cel vb tv [.string x]] (Ent.perm (List.Perm.cons _ (List.Perm.swap _ _ _))) ?_
   conv=>whnf
   refine .take 0 ?_
   conv=>whnf
   refine ⟨rfl, ?_⟩
   conv=>whnf
   refine .take 1 ?_
   conv=>whnf
   refine ⟨rfl, ?_⟩
   conv=>whnf
   refine .take 2 ?_
   conv=>whnf
   refine ⟨rfl, ?_⟩
   conv=>whnf
   refine .take 3 ?_
   conv=>whnf
   refine ⟨rfl, ?_⟩
   conv=>whnf
   refine ArithG.i64' ((i + 1 : Nat) : Int) (by omega) (by omega) ?_
   conv=>whnf
   refine .take 4 ?_
   conv=>whnf
   refine ⟨rfl, ?_⟩
   conv=>whnf
   refine SlcG.lit ?_
   conv=>whnf
   refine SideG.of (by omega) ?_
   conv=>whnf
   refine SliceG.ne (by omega) ?_
   conv=>whnf
   refine .take 5 ?_
   conv=>whnf
   refine ⟨rfl, ?_⟩
   conv=>whnf
   refine .take 6 ?_
   conv=>whnf
   refine ⟨rfl, ?_⟩
   conv=>whnf
   refine .take 7 ?_
   conv=>whnf
   refine ⟨rfl, ?_⟩
   conv=>whnf
   refine SlcG.lit ?_
   conv=>whnf
   refine SideG.of (by omega) ?_
   conv=>whnf
   refine SliceG.ne (by omega) ?_
   conv=>whnf
   refine .all ?_
   conv=>whnf
   refine ⟨by decide, ?_⟩
   conv=>whnf
   refine DoesG.copyS (o := 0 + (i + 1) * 1) (cs := svs (ss.drop i)) (n := ss.length - i) strsT.und (by kernel_rfl) (.mk _ _ _ _ _ (show ss.length - i ≤ cap - i by omega) (.tl (.tl (.left (hdr []) F)))) hdi (show ss.length - i ≤ i + (ss.length + 1 - i) - (i + 1) by omega)
    (by simp only [List.length_append, List.length_drop, hti, hone, hZl]; omega) (svs_one _) (cur' := svs (ss.take i ++ x :: ss.drop i) ++ (Z.drop 1).drop (ss.length - i)) (by
     rw [Nat.zero_add, Nat.mul_one, ins_two hti rfl hdi, hfin]) ?_
   conv=>whnf
   refine ⟨rfl, ?_⟩
   conv=>whnf
   have hsz : i + (ss.length + 1 - i) = ss.length + 1 := by omega
   rw [hsz]
   exact ⟨[_], (Ent.own_of (n := ss.length + 1) (cap := cap') (by omega) hc2 hfl (by rw [List.length_append, hfl, List.length_drop, List.length_drop, hZl]; omega)).trans (Ent.dropL [_] _), .inr ⟨g', cap', rfl, by omega⟩, rfl⟩
  ·have hrl : 1 ≤ rest.length := by
    have := hl2
    rw [List.length_append, hsv] at this
    omega
   have hspl : svs ss ++ rest = svs (ss.take i) ++ (svs (ss.drop i) ++ rest) := by
    rw [← List.append_assoc, svs_app, List.take_append_drop]
   conv=>whnf
   refine ArithG.i64' ((ss.length + 1 : Nat) : Int) (by omega) (by omega) ?_
   conv=>whnf
   refine SlcG.lit ?_
   conv=>whnf
   refine SideG.of (by omega) ?_
   conv=>whnf
   refine SliceG.zero ?_
   conv=>whnf
   refine ArithG.i64' ((i + 1 : Nat) : Int) (by omega) (by omega) ?_
   conv=>whnf
   refine SlcG.lit ?_
   conv=>whnf
   refine SideG.of (by omega) ?_
   conv=>whnf
   refine SliceG.ne (by omega) ?_
   conv=>whnf
   rw [overlaps_ext]
   refine DoesG.ent (Ent.perm (List.Perm.swap _ _ _)) ?_
   refine DoesG.apart (size := 1) strsT.und (by kernel_rfl) (fun h => by have := congrArg List.length h; rw [List.length_append, hsv, List.length_nil] at this; omega) ?_
   (conv=>whnf);refine .ntt ?_;(conv=>whnf)
   refine DrawG.mk 9 [] [cel g t (svs ss ++ rest), cel vb tv [.string x]] (Ent.perm (List.Perm.swap _ _ _)) ?_
   conv=>whnf
   refine .take 0 ?_
   conv=>whnf
   refine ⟨rfl, ?_⟩
   conv=>whnf
   refine .take 1 ?_
   conv=>whnf
   refine ⟨rfl, ?_⟩
   conv=>whnf
   refine .take 2 ?_
   conv=>whnf
   refine ⟨rfl, ?_⟩
   conv=>whnf
   refine .take 3 ?_
   conv=>whnf
   refine ⟨rfl, ?_⟩
   conv=>whnf
   refine ArithG.i64' ((i + 1 : Nat) : Int) (by omega) (by omega) ?_
   conv=>whnf
   refine .take 4 ?_
   conv=>whnf
   refine ⟨rfl, ?_⟩
   conv=>whnf
   refine SlcG.lit ?_
   conv=>whnf
   refine SideG.of (by omega) ?_
   conv=>whnf
   refine SliceG.ne (by omega) ?_
   conv=>whnf
   refine .take 5 ?_
   conv=>whnf
   refine ⟨rfl, ?_⟩
   conv=>whnf
   refine .take 6 ?_
   conv=>whnf
   refine ⟨rfl, ?_⟩
   conv=>whnf
   refine .take 7 ?_
   conv=>whnf
   refine ⟨rfl, ?_⟩
   conv=>whnf
   refine SlcG.lit ?_
   conv=>whnf
   refine SideG.of (by omega) ?_
   conv=>whnf
   refine SliceG.ne (by omega) ?_
   conv=>whnf
   refine .all ?_
   conv=>whnf
   refine ⟨by decide, ?_⟩
   conv=>whnf
   have hd1 : (rest.take 1).length = 1 := by rw [List.length_take]; omega
   have hdr1 : ∀ (L : List HP), CelN (cel g t (svs ss ++ rest) :: L) g (0 + i * 1) (svs (ss.drop i) ++ rest.take 1) := fun L => .here (by
    rw [Nat.zero_add, Nat.mul_one, List.length_append, hdi, hd1, hspl]
    conv => lhs; arg 2; arg 1; rw [← hti]
    rw [List.drop_left, ← hdi, List.take_length_add_append])
   have hmin : min (ss.length + 1 - i) (ss.length + 1 - (i + 1)) = ss.length - i := by omega
   have htk : (svs (ss.drop i) ++ rest.take 1).take (ss.length - i) = svs (ss.drop i) := by rw [← hdi, List.take_left]
   refine DoesG.copyW (o := 0 + (i + 1) * 1) (cs := svs (ss.drop i) ++ rest.take 1) (n := ss.length + 1 - i) (dLen := ss.length + 1 - (i + 1)) strsT.und (by kernel_rfl) (.mk _ _ _ _ _ (show ss.length + 1 - i ≤ cap - i by omega) (hdr1 _)) (by rw [List.length_append, hdi, hd1]; omega)
    (by rw [hmin, List.length_append, hsv]; omega) (by rw [hmin, htk]; exact svs_one _) ?_
   rw [hmin, htk, Nat.zero_add, Nat.mul_one]
   conv=>whnf
   refine ⟨rfl, ?_⟩
   conv=>whnf
   refine SlcG.lit ?_
   conv=>whnf
   refine SideG.of (by omega) ?_
   conv=>whnf
   refine SliceG.ne (by omega) ?_
   conv=>whnf
   refine DoesG.copyS (o := 0 + i * 1) (cs := svs [x]) (n := 1) strsT.und (by kernel_rfl) (.mk _ _ _ _ _ (Nat.le_refl _) (.tl (.left .all F))) rfl (show 1 ≤ ss.length + 1 - i by omega)
    (by simp only [List.length_append, List.length_take, List.length_drop, hsv, hdi]; omega) (svs_one _) (cur' := svs (ss.take i ++ x :: ss.drop i) ++ rest.drop 1) (by
     rw [Nat.zero_add, Nat.mul_one, Nat.zero_add, Nat.mul_one]
     exact ins_in hti hdi hsv hspl hfin rfl (by omega) (by omega)) ?_
   conv=>whnf
   exact ⟨[_], (Ent.own_of (n := ss.length + 1) (cap := cap) (by omega) hcm hfl (by rw [List.length_append, hfl, List.length_drop]; have := hl2; rw [List.length_append, hsv] at this; omega)).trans (Ent.dropL [_] _), .inr ⟨g, cap, rfl, by omega⟩, rfl⟩
theorem zeroStr : zeroT Tryd.prog 9 = some [Value.string ⟨#[]⟩] := by kernel_rfl
theorem deleteS_spec (F : List HP) (v : Value) (ss : List ByteArray) (i : Nat) (hi : i < ss.length) (hm : ss.length ≤ 8796093022207) :
 SpecF Tryd.prog 73 [v, .int .i64 i, .int .i64 ((i + 1 : Nat) : Int)] F [own 1 v ss.length (svs ss)] (fun r L => SlV r (ss.length - 1) ∧ L = [own 1 r (ss.length - 1) (svs (ss.take i ++ ss.drop (i + 1)))]) := by
 refine SpecF.own_open (fun _ h0 _ => absurd h0 (by omega)) fun g cap t rest hv' hn hcm hl1 hl2 => ?_
 subst hv'
 have hsv : (svs ss).length = ss.length := svs_len ss
 have hti : (svs (ss.take i)).length = i := by rw [svs_len, List.length_take]; omega
 have hdi : (svs (ss.drop (i + 1))).length = ss.length - (i + 1) := by rw [svs_len, List.length_drop]
 have hdr : ∀ (L : List HP), CelN (cel g t (svs ss ++ rest) :: L) g (0 + (i + 1) * 1) (svs (ss.drop (i + 1))) := fun L => .here (by
  have e1 : svs (ss.drop (i + 1)) = (svs ss).drop (i + 1) := by simp [svs, List.map_drop]
  rw [Nat.zero_add, Nat.mul_one, hdi, e1, List.drop_append_of_le_length (by omega), List.take_append_of_le_length (by rw [List.length_drop]; omega), List.take_of_length_le (by rw [List.length_drop]; omega)])
 refine fun73.spec rfl ?_
 conv=>whnf
 refine LenG.lit ?_
 conv=>whnf
 refine SlcG.lit ?_
 conv=>whnf
 refine SideG.of (by omega) ?_
 conv=>whnf
 refine ⟨?_⟩
 conv=>whnf
 refine CondG.decF (by omega) ?_
 conv=>whnf
 refine LenG.lit ?_
 conv=>whnf
 refine DrawG.mk 8 [] [cel g t (svs ss ++ rest)] (Ent.refl _) ?_
 conv=>whnf
 refine .take 0 ?_
 conv=>whnf
 refine ⟨rfl, ?_⟩
 conv=>whnf
 refine .take 1 ?_
 conv=>whnf
 refine ⟨rfl, ?_⟩
 conv=>whnf
 refine .take 2 ?_
 conv=>whnf
 refine ⟨rfl, ?_⟩
 conv=>whnf
 refine SlcG.lit ?_
 conv=>whnf
 refine SideG.of (by omega) ?_
 conv=>whnf
 refine SliceG.zero ?_
 conv=>whnf
 refine .take 3 ?_
 conv=>whnf
 refine ⟨rfl, ?_⟩
 conv=>whnf
 refine .take 4 ?_
 conv=>whnf
 refine ⟨rfl, ?_⟩
 conv=>whnf
 refine .take 5 ?_
 conv=>whnf
 refine ⟨rfl, ?_⟩
 conv=>whnf
 refine SlcG.lit ?_
 conv=>whnf
 refine SideG.of (by omega) ?_
 conv=>whnf
 have hrs : RdS [cel g t (svs ss ++ rest)] (.slice (some ⟨g, 0, none⟩) ss.length cap) ss.length (svs ss) := .mk _ _ _ _ _ hn (.here (by rw [List.drop_zero, List.take_left]))
 refine SliceG.rd (sz := 1) (n := ss.length) hrs (by omega) (Nat.le_refl _) hn (Nat.le_refl _) fun v' hv' _ => ?_
 rw [Nat.mul_one, Nat.mul_one, List.take_of_length_le (by rw [List.length_drop]; omega)] at hv'
 have e1 : (svs ss).drop (i + 1) = svs (ss.drop (i + 1)) := by simp [svs, List.map_drop]
 rw [show ((i + 1 : Nat) : Int).toNat = i + 1 from rfl, e1] at hv'
 conv=>whnf
 refine .all ?_
 conv=>whnf
 refine ⟨by decide, ?_⟩
 conv=>whnf
 refine DoesG.appIn (n := i) (m := ss.length - (i + 1)) strsT (hv'.left _) (by rw [hdi, Nat.mul_one]) (by omega) (by rw [List.length_append, hsv]; omega) (svs_one _) ?_
 have hn1 : i + (ss.length - (i + 1)) = ss.length - 1 := by omega
 have hts : (svs ss ++ rest).take (0 + i * 1) = svs (ss.take i) := by
  rw [Nat.zero_add, Nat.mul_one, List.take_append_of_le_length (by omega)]
  simp [svs, List.map_take]
 have hW : svs (ss.take i) ++ svs (ss.drop (i + 1)) = svs (ss.take i ++ ss.drop (i + 1)) := svs_app _ _
 have hWl : (svs (ss.take i ++ ss.drop (i + 1))).length = (ss.length - 1) * 1 := by rw [← hW, List.length_append, hti, hdi]; omega
 have hcap : (svs ss ++ rest).length = cap := by rw [hl2, Nat.mul_one]
 rw [hn1, hts, hW]
 conv=>whnf
 refine .take 7 ?_
 conv=>whnf
 refine ⟨rfl, ?_⟩
 conv=>whnf
 refine ⟨rfl, ?_⟩
 conv=>whnf
 refine LenG.lit ?_
 conv=>whnf
 refine SlcG.lit ?_
 conv=>whnf
 refine SideG.of (by omega) ?_
 conv=>whnf
 refine SliceG.ne (by omega) ?_
 conv=>whnf
 refine DoesG.clear1 (o := 0 + (ss.length - 1) * 1) (m := ss.length - (ss.length - 1)) strsT.und zeroStr (by rw [List.length_append, hWl, List.length_drop, hcap]; omega) rfl ?_
 have htk : ∀ X : List Value, (svs (ss.take i ++ ss.drop (i + 1)) ++ X).take (0 + (ss.length - 1) * 1) = svs (ss.take i ++ ss.drop (i + 1)) := fun X => by rw [Nat.zero_add, ← hWl, List.take_left]
 rw [htk, List.append_assoc]
 conv=>whnf
 refine ⟨_, Ent.own_of (n := ss.length - 1) (cs := svs (ss.take i ++ ss.drop (i + 1))) (cap := cap) (rest := _) (by omega) hcm hWl ?_, .inr ⟨g, cap, rfl, by omega⟩, rfl⟩
 simp only [List.length_append, List.length_replicate, List.length_drop, hWl, hcap]
 omega
end Go.Proofs.YtjkldhalmglkpaaDoor
namespace Go.Proofs.YtjkldhalmglkpaaDoor
open Go Go.Sl
theorem strT : KeyT Tryd.prog 9 Value.string (fun _ => True) := .str (by kernel_rfl)
theorem mapT : (Tryd.prog).underlying 84 = some (.map 9 30) := by kernel_rfl
theorem zeroB : ∀ w, (zeroValue 30).run Tryd.prog w = .ok (.slice none 0 0) w := run_zeroV (by kernel_rfl)
theorem mayI_len {key : ByteArray} {n : Nat} (h : mayI key n = 0) : n ≤ 4096 := by
 unfold mayI at h
 split at h
 ·cases h
 ·split at h
  ·cases h
  ·omega
theorem smay_spec_r (F : List HP) (key : ByteArray) (v : Value) (n : Nat) (hv : ∃ a c, v = .slice a n c) : SpecF Tryd.prog 48 [.string key, v] F [] (fun r L => r = .int .i64 (mayI key n) ∧ L = []) := by
 obtain ⟨va, vc, rfl⟩ := hv
 refine fun48.spec rfl ?_
 conv=>whnf
 refine CondG.split (fun h1 => ?_) (fun h1 => ?_)
 ·(conv=>whnf);refine .tt ?_;(conv=>whnf);refine .tt ?_;(conv=>whnf);refine .tt ?_;(conv=>whnf);refine .tt ?_;(conv=>whnf)
  refine ret_here ⟨congrArg (Value.int .i64) ?_, rfl⟩
  have e : key = ⟨#[]⟩ := of_decide_eq_true h1
  subst e
  rfl
 have h1' : ¬ key = ⟨#[]⟩ := of_decide_eq_false h1
 have h0 : ¬ key.size = 0 := fun h => h1' (by
  obtain ⟨⟨l⟩⟩ := key
  have : l = [] := List.eq_nil_of_length_eq_zero h
  rw [this])
 (conv=>whnf);refine .ff ?_;(conv=>whnf);refine .ff ?_;(conv=>whnf);refine .ff ?_;(conv=>whnf)
 refine CondG.dec (fun h2 => ?_) (fun h2 => ?_)
 ·conv=>whnf
  refine ret_here ⟨congrArg (Value.int .i64) ?_, rfl⟩
  unfold mayI
  rw [if_pos (.inr (by omega))]
 conv=>whnf
 refine LenG.lit ?_
 conv=>whnf
 refine CondG.dec (fun h3 => ?_) (fun h3 => ?_)
 ·conv=>whnf
  refine ret_here ⟨congrArg (Value.int .i64) ?_, rfl⟩
  unfold mayI
  rw [if_neg (by omega), if_pos (by omega)]
 conv=>whnf
 refine ret_here ⟨congrArg (Value.int .i64) ?_, rfl⟩
 unfold mayI
 rw [if_neg (by omega), if_neg (by omega)]
theorem smay_spec (F : List HP) (key : ByteArray) (v : Value) (n : Nat) (hv : SlV v n) (_ : n ≤ 4611686018427387904) : SpecF Tryd.prog 48 [.string key, v] F [] (fun r L => r = .int .i64 (mayI key n) ∧ L = []) := smay_spec_r F key v n hv.len
theorem ask_spec (F : List HP) (s : Nat) (src : Value) (c : StC) (key : ByteArray) (find : ByteArray → List Nat × Int) (hs : SrcG Tryd.prog F src find) (hl : ∀ k, (find k).1.length ≤ 1099511627776) :
 SpecF Tryd.prog 53 [.pointer (some ⟨s, 0, none⟩), .string key] F (c.pieces 95 s src) (fun r L =>
  ((∃ vb, getK c.has key = some vb) ∧ r = .int .i64 0 ∧ L = c.pieces 95 s src) ∨
  (getK c.has key = none ∧ (find key).2 ≠ 0 ∧ r = .int .i64 (find key).2 ∧ L = c.pieces 95 s src) ∨
  (getK c.has key = none ∧ (find key).2 = 0 ∧ 4096 < (find key).1.length ∧ r = .int .i64 71 ∧ L = c.pieces 95 s src) ∨
  (getK c.has key = none ∧ (find key).2 = 0 ∧ (find key).1.length ≤ 4096 ∧ r = .int .i64 0 ∧ ∃ x, SlV x (find key).1.length ∧ L = { c with has := putK c.has key x (find key).1 }.pieces 95 s src)) := by
 obtain ⟨t, u, f, r0, rfl, hm, hc, hspec⟩ := hs.out
 refine fun53.spec rfl ?_
 conv=>whnf
 refine LoadG.at (.here rfl) ?_
 conv=>whnf
 refine DoesG.look strT mapT zeroB trivial (MapG.left (.tl .here) F) true ?_
 rw [getM_kv]
 conv=>whnf
 refine CondG.split (fun h1 => ?_) (fun h1 => ?_)
 ·conv=>whnf
  refine ret_here (.inl ⟨?_, rfl, rfl⟩)
  cases hg : getK c.has key with
  | none => rw [hg] at h1; cases h1
  | some vb => exact ⟨vb, rfl⟩
 have hg : getK c.has key = none := by
  cases hg : getK c.has key with
  | none => rfl
  | some vb => rw [hg] at h1; cases h1
 conv=>whnf
 refine LoadG.at (.here rfl) ?_
 conv=>whnf
 refine InvG.mk f r0 hm hc ?_
 refine CallG.pure (hspec key _) ?_
 rintro _ _ ⟨x, hx, rfl, rfl⟩
 conv=>whnf
 refine CondG.ndec (fun h2 => ?_) (fun h2 => ?_)
 ·conv=>whnf
  exact ⟨_, Ent.drop _, .inr (.inl ⟨hg, h2, rfl, rfl⟩)⟩
 conv=>whnf
 refine LenG.sl hx ?_
 conv=>whnf
 refine CondG.dec (fun h3 => ?_) (fun h3 => ?_)
 ·conv=>whnf
  exact ⟨_, Ent.drop _, .inr (.inr (.inl ⟨hg, h2, by omega, rfl, rfl⟩))⟩
 conv=>whnf
 refine DrawG.mk 7 (c.pieces 95 s (.iface t u)) [own 1 x (find key).1.length (bvs (find key).1)] (Ent.refl _) ?_
 conv=>whnf
 refine .take 0 ?_
 conv=>whnf
 refine ⟨rfl, ?_⟩
 conv=>whnf
 refine .take 1 ?_
 conv=>whnf
 refine ⟨rfl, ?_⟩
 conv=>whnf
 refine .take 2 ?_
 conv=>whnf
 refine ⟨rfl, ?_⟩
 conv=>whnf
 refine .take 3 ?_
 conv=>whnf
 refine ⟨rfl, ?_⟩
 conv=>whnf
 refine LoadG.at (.here rfl) ?_
 conv=>whnf
 refine .take 4 ?_
 conv=>whnf
 refine ⟨rfl, ?_⟩
 conv=>whnf
 refine .take 5 ?_
 conv=>whnf
 refine ⟨rfl, ?_⟩
 conv=>whnf
 refine .all ?_
 conv=>whnf
 refine ⟨by decide, ?_⟩
 conv=>whnf
 have hlk := hl key
 refine CallG.pure (clone_spec _ x (find key).1 (by omega) ((own_rd hx (by simp [bvs])).left _)) ?_
 rintro r _ ⟨hr, rfl, _⟩
 conv=>whnf
 refine .all ?_
 conv=>whnf
 refine ⟨by decide, ?_⟩
 conv=>whnf
 refine ⟨rfl, ?_⟩
 conv=>whnf
 refine DoesG.ent (Ent.front 3 rfl) ?_
 refine DoesG.upd strT mapT trivial ?_
 rw [putM_kv c.has key r (find key).1]
 conv=>whnf
 refine ⟨rfl, ?_⟩
 conv=>whnf
 refine ⟨_, (Ent.sel (T := kvS c.has ++ (kvS c.now ++ stepsS c.steps)) [3, 0, 4, 5, 6, 1] (A := [_, _, _, _, _, _, _]) rfl).trans (Ent.under ((sh_of_own rfl).trans kvS_put) [_, _, _, _, _]), .inr (.inr (.inr ⟨hg, h2, by omega, rfl, r, hr, rfl⟩))⟩
theorem ask_spec' (F : List HP) (s : Nat) (src : Value) (c : StC) (key : ByteArray) (find : ByteArray → List Nat × Int) (hs : SrcG Tryd.prog F src find) (hl : ∀ k, (find k).1.length ≤ 1099511627776) :
 SpecF Tryd.prog 53 [.pointer (some ⟨s, 0, none⟩), .string key] F (c.pieces 95 s src) (fun r L =>
  (askE find c key ≠ 0 ∧ r = .int .i64 (askE find c key) ∧ L = c.pieces 95 s src) ∨
  (askE find c key = 0 ∧ r = .int .i64 0 ∧ ∃ c', AskOk find c key c' ∧ L = c'.pieces 95 s src)) := by
 intro w hw
 refine (ask_spec F s src c key find hs hl w hw).mono ?_
 rintro e w' ⟨v, L, rfl, hR, hx, hs'⟩
 refine ⟨v, L, rfl, ?_, hx, hs'⟩
 rcases hR with ⟨⟨vb, h1⟩, rfl, rfl⟩ | ⟨h1, h2, rfl, rfl⟩ | ⟨h1, h2, h3, rfl, rfl⟩ | ⟨h1, h2, h3, rfl, x, hx, rfl⟩
 ·exact .inr ⟨by simp [askE, h1], rfl, c, ⟨.inl ⟨by rw [h1]; rfl, rfl⟩⟩, rfl⟩
 ·have e : askE find c key = (find key).2 := by unfold askE; rw [h1]; simp [h2]
  rw [e]
  exact .inl ⟨h2, rfl, rfl⟩
 ·have e : askE find c key = 71 := by unfold askE; rw [h1]; simp [h2, h3]
  rw [e]
  exact .inl ⟨by decide, rfl, rfl⟩
 ·have e : askE find c key = 0 := by unfold askE; rw [h1]; simp [h2]; exact h3
  exact .inr ⟨e, rfl, _, ⟨.inr ⟨h1, x, hx, h3, rfl⟩⟩, rfl⟩
theorem value_spec (F : List HP) (s : Nat) (src : Value) (c : StC) (key : ByteArray) (L0 : List HP) : SpecF Tryd.prog 54 [.pointer (some ⟨s, 0, none⟩), .string key] (c.pieces 95 s src ++ F) [] (fun r L => r = c.valV key ∧ L = []) := by
 refine fun54.spec rfl ?_
 conv=>whnf
 refine LoadG.atF (.left (.here rfl) F) ?_
 conv=>whnf
 refine DoesG.look strT mapT zeroB trivial (MapG.right (MapG.left (.tl (.tl .here)) F) _) true ?_
 rw [getM_kv]
 conv=>whnf
 refine CondG.split (fun h1 => ?_) (fun h1 => ?_)
 ·conv=>whnf
  refine ret_here ⟨?_, rfl⟩
  cases hg : getK c.now key with
  | none => rw [hg] at h1; cases h1
  | some p => simp [StC.valV, hg, retV]
 ·conv=>whnf
  refine LoadG.atF (.left (.here rfl) F) ?_
  conv=>whnf
  refine DoesG.look strT mapT zeroB trivial (MapG.right (MapG.left (.tl .here) F) _) false ?_
  rw [getM_kv]
  conv=>whnf
  refine ret_here ⟨?_, rfl⟩
  cases hg : getK c.now key with
  | some p => rw [hg] at h1; cases h1
  | none => simp [StC.valV, hg, retV]
theorem get_spec (F : List HP) (s : Nat) (src : Value) (c : StC) (key : ByteArray) (find : ByteArray → List Nat × Int) (hs : SrcG Tryd.prog F src find) (hl : ∀ k, (find k).1.length ≤ 1099511627776) (hw : c.wf) :
 SpecF Tryd.prog 25 [.pointer (some ⟨s, 0, none⟩), .string key] F (c.pieces 95 s src) (fun r L =>
  (mayI key 0 ≠ 0 ∧ r = .tuple #[.slice none 0 0, .int .i64 (mayI key 0)] ∧ L = c.pieces 95 s src) ∨
  (mayI key 0 = 0 ∧ askE find c key ≠ 0 ∧ r = .tuple #[.slice none 0 0, .int .i64 (askE find c key)] ∧ L = c.pieces 95 s src) ∨
  (mayI key 0 = 0 ∧ askE find c key = 0 ∧ ∃ c' x, AskOk find c key c' ∧ SlV x (c'.val key).length ∧ r = .tuple #[x, .int .i64 0] ∧ L = own 1 x (c'.val key).length (bvs (c'.val key)) :: c'.pieces 95 s src)) := by
 refine fun25.spec rfl ?_
 conv=>whnf
 refine CallG.pure (smay_spec _ key (.slice none 0 0) 0 (.inl ⟨rfl, rfl⟩) (by decide)) ?_
 rintro _ _ ⟨rfl, rfl⟩
 conv=>whnf
 refine CondG.ndec (fun h1 => ?_) (fun h1 => ?_)
 ·conv=>whnf
  exact ret_here (.inl ⟨h1, rfl, rfl⟩)
 conv=>whnf
 refine CallG.of (rest := []) (ask_spec' _ s src c key find (hs.left []) hl) (by rw [List.append_nil]; exact Ent.refl _) ?_
 rintro _ _ (⟨h2, rfl, rfl⟩ | ⟨h2, rfl, c', hc', rfl⟩)
 ·conv=>whnf
  refine CondG.ndec (fun _ => ?_) (fun h => absurd h h2)
  conv=>whnf
  exact ⟨_, by rw [List.append_nil]; exact Ent.refl _, .inr (.inl ⟨h1, h2, rfl, rfl⟩)⟩
 conv=>whnf
 refine CondG.ff ?_
 conv=>whnf
 rw [List.append_nil]
 refine CallG.pure (value_spec _ s src c' key []) ?_
 rintro _ _ ⟨rfl, rfl⟩
 conv=>whnf
 obtain ⟨hrd, hsl, hle⟩ := StC.rd (T := 95) (s := s) (src := src) (key := key) (hc'.wf hw)
 refine CallG.pure (clone_spec _ (c'.valV key) (c'.val key) (by omega) (.left hrd F)) ?_
 rintro x _ ⟨hx, rfl, _⟩
 conv=>whnf
 exact ret_here (.inr (.inr ⟨h1, h2, c', x, hc', hx, rfl, rfl⟩))
end Go.Proofs.YtjkldhalmglkpaaDoor
namespace Go.Proofs.YtjkldhalmglkpaaDoor
open Go Go.Sl
theorem find_spec (F : List HP) (t vb : Nat) (vals : List (KV ByteArray)) (key : ByteArray) (h0 : Cel F t 0 (.map (some vb))) (hm : MapG Value.string (fun _ => True) F vb (kvM vals))
 (hv : ∀ p ∈ vals, SlV p.2.1 p.2.2.length ∧ p.2.2.length ≤ 4096 ∧ RdS F p.2.1 p.2.2.length (bvs p.2.2)) :
 SpecF Tryd.prog 41 [.pointer (some ⟨t, 0, none⟩), .string key] F [] (fun v L => ∃ x, SlV x (tabFind vals key).1.length ∧ v = .tuple #[x, .int .i64 (tabFind vals key).2] ∧ L = [own 1 x (tabFind vals key).1.length (bvs (tabFind vals key).1)]) := by
 refine fun41.spec rfl ?_
 conv=>whnf
 refine CallG.pure (smay_spec _ key (.slice none 0 0) 0 (.inl ⟨rfl, rfl⟩) (by decide)) ?_
 rintro _ _ ⟨rfl, rfl⟩
 conv=>whnf
 refine CondG.ndec (fun h1 => ?_) (fun h1 => ?_)
 ·conv=>whnf
  have e : tabFind vals key = ([], mayI key 0) := by unfold tabFind; rw [if_pos h1]
  rw [e]
  exact ⟨[own 1 (.slice none 0 0) 0 []], fun w G hs => Sat.own_nil hs, .slice none 0 0, .inl ⟨rfl, rfl⟩, rfl, rfl⟩
 conv=>whnf
 refine LoadG.atF h0 ?_
 conv=>whnf
 refine DoesG.look strT mapT zeroB trivial (MapG.right hm _) false ?_
 rw [getM_kv]
 have e : tabFind vals key = (((getK vals key).map (·.2)).getD [], 0) := by unfold tabFind; rw [if_neg (by omega)]
 rw [e]
 cases hg : getK vals key with
 | none =>
  conv=>whnf
  refine CallG.pure (clone_spec _ (.slice none 0 0) [] (by simp) .nil) ?_
  rintro r _ ⟨hr, rfl, _⟩
  conv=>whnf
  exact ret_here ⟨r, hr, rfl, rfl⟩
 | some p =>
  obtain ⟨h2, h3, h4⟩ := hv _ (getK_mem hg)
  conv=>whnf
  refine CallG.pure (clone_spec _ p.1 p.2 (by have h5 : p.2.length ≤ 4096 := h3; omega) (.right h4 _)) ?_
  rintro r _ ⟨hr, rfl, _⟩
  conv=>whnf
  exact ret_here ⟨r, hr, rfl, rfl⟩
theorem find_method (v : Value) (w : World) : (method ((Tryd.prog).types.size + Made.depth) 25 v "Find").run Tryd.prog w = .ok (41, v) w := by kernel_rfl
theorem tabFind_len {vals : List (KV ByteArray)} (hv : ∀ p ∈ vals, p.2.2.length ≤ 4096) (key : ByteArray) : (tabFind vals key).1.length ≤ 4096 := by
 unfold tabFind
 split
 ·simp
 ·cases hg : getK vals key with
  | none => simp
  | some p => simpa using hv _ (getK_mem hg)
theorem tab_src (F : List HP) (t vb : Nat) (vals : List (KV ByteArray)) (h0 : Cel F t 0 (.map (some vb))) (hm : MapG Value.string (fun _ => True) F vb (kvM vals))
 (hv : ∀ p ∈ vals, SlV p.2.1 p.2.2.length ∧ p.2.2.length ≤ 4096 ∧ RdS F p.2.1 p.2.2.length (bvs p.2.2)) : SrcG Tryd.prog F (.iface 25 (.pointer (some ⟨t, 0, none⟩))) (tabFind vals) :=
 ⟨25, .pointer (some ⟨t, 0, none⟩), 41, .pointer (some ⟨t, 0, none⟩), rfl, find_method _, by kernel_rfl, fun key L =>
  find_spec (L ++ F) t vb vals key (h0.right L) (hm.right L) (fun p hp => ⟨(hv p hp).1, (hv p hp).2.1, (hv p hp).2.2.right L⟩)⟩
theorem snew_spec (F : List HP) : SpecF Tryd.prog 51 [] F [] (fun v L => ∃ q, v = .pointer (some ⟨q, 0, none⟩) ∧ L = [cel q 124 [.pointer none, .int .i64 0]]) := by
 refine fun51.spec rfl ?_
 conv=>whnf
 refine BuildG.of rfl ?_
 conv=>whnf
 intro q
 conv=>whnf
 exact ret_here ⟨q, rfl, rfl⟩
theorem newTable_spec (F : List HP) : SpecF Tryd.prog 20 [] F [] (fun v L => ∃ t, v = .pointer (some ⟨t, 0, none⟩) ∧ ∃ vb q ob, L = emptyL 89 124 t vb q ob) := by
 refine fun20.spec rfl ?_
 conv=>whnf
 intro vb
 conv=>whnf
 refine CallG.pure (snew_spec _) ?_
 rintro _ _ ⟨q, rfl, rfl⟩
 conv=>whnf
 intro ob
 conv=>whnf
 refine BuildG.of rfl ?_
 conv=>whnf
 intro t
 conv=>whnf
 refine ⟨emptyL 89 124 t vb q ob, ?_, t, rfl, vb, q, ob, rfl⟩
 intro w G hs
 have h1 : Sat w (blk vb (.map #[] 0) :: (blk ob (.map #[] 0) :: cel t 89 [.map (some vb), .pointer (some ⟨q, 0, none⟩), .map (some ob)] :: cel q 124 [.pointer none, .int .i64 0] :: G)) :=
  Ent.sel (T := []) (A := [_, _, _, _]) [3, 1, 0, 2] rfl w G hs
 have h2 := mapP_new (kv := Value.string) (ok := fun _ => True) w h1
 have h3 : Sat w (blk ob (.map #[] 0) :: (mapP Value.string (fun _ => True) vb [] :: cel t 89 [.map (some vb), .pointer (some ⟨q, 0, none⟩), .map (some ob)] :: cel q 124 [.pointer none, .int .i64 0] :: G)) := h2.perm (List.Perm.swap _ _ _)
 have h4 := mapP_new (kv := digV) (ok := digOk) w h3
 exact Ent.sel (T := []) (A := [_, _, _, _]) [2, 1, 0, 3] rfl w G h4
theorem over_spec (F : List HP) (u : Nat) (v : Value) : SpecF Tryd.prog 24 [.iface u v] F [] (fun r L => ∃ s, r = .tuple #[.pointer (some ⟨s, 0, none⟩), .int .i64 0] ∧ ∃ hb nb, L = (StC.mk [] [] [] [] hb nb (.slice none 0 0) (.slice none 0 0)).pieces 95 s (.iface u v)) := by
 refine fun24.spec rfl ?_
 (conv=>whnf);refine .ff ?_;(conv=>whnf)
 intro hb
 conv=>whnf
 intro nb
 conv=>whnf
 refine BuildG.of rfl ?_
 conv=>whnf
 intro s
 conv=>whnf
 refine ⟨(StC.mk [] [] [] [] hb nb (.slice none 0 0) (.slice none 0 0)).pieces 95 s (.iface u v), ?_, s, rfl, hb, nb, rfl⟩
 intro w G hs
 have h1 : Sat w (blk hb (.map #[] 0) :: (blk nb (.map #[] 0) :: cel s 95 [.iface u v, .map (some hb), .map (some nb), .slice none 0 0, .slice none 0 0] :: G)) :=
  Ent.sel (T := []) (A := [_, _, _]) [2, 1, 0] rfl w G hs
 have h2 := mapP_new (kv := Value.string) (ok := fun _ => True) w h1
 have h3 := mapP_new (kv := Value.string) (ok := fun _ => True) w (h2.perm (List.Perm.swap _ _ _))
 have h4 : Sat w (own 1 (.slice none 0 0) 0 [] :: own 3 (.slice none 0 0) 0 [] :: mapS nb [] :: mapS hb [] :: cel s 95 [.iface u v, .map (some hb), .map (some nb), .slice none 0 0, .slice none 0 0] :: G) := Sat.own_nil (Sat.own_nil h3)
 exact Ent.sel (T := []) (A := [_, _, _, _, _]) [4, 3, 2, 1, 0] rfl w G h4
end Go.Proofs.YtjkldhalmglkpaaDoor
namespace Go.Proofs.YtjkldhalmglkpaaDoor
open Go Go.Sl
end Go.Proofs.YtjkldhalmglkpaaDoor
namespace Go.Proofs.YtjkldhalmglkpaaDoor
open Go Go.Sl
section
variable {find : ByteArray → List Nat × Int}
end
end Go.Proofs.YtjkldhalmglkpaaDoor
