import Derived.Test.YtmfonkklmndhjaaGreatDoorSd
import Derived.Test.YtmfonkklmndhjaaGreatDoorZPa
import Derived.Test.YtmfonkklmndhjaaGreatDoorZTt
import Derived.Test.YtmfonkklmndhjaaGreatDoorGp
import Derived.Test.YtmfonkklmndhjaaGreatDoorZQd
namespace Go.Proofs.YtmfonkklmndhjaaGreatDoor
open Go Go.Sl
theorem pairsT : ElT Tryz.prog 28 27 2 40 := .of (by kernel_rfl)
theorem may7_spec (F : List HP) (key : ByteArray) (v : Value) (n : Nat) (hv : ∃ a c, v = .slice a n c) : SpecF Tryz.prog 79 [.string key, v] F [] (fun r L => r = .int .i64 (mayI key n) ∧ L = []) := by
 obtain ⟨va, vc, rfl⟩ := hv
 refine fun79.spec rfl ?_
 conv=>whnf
 refine CondG.dec (fun h1 => ?_) (fun h1 => ?_)
 ·(conv=>whnf);refine .tt ?_;(conv=>whnf);refine .tt ?_;(conv=>whnf);refine .tt ?_;(conv=>whnf);refine .tt ?_;(conv=>whnf)
  refine ret_here ⟨congrArg (Value.int .i64) ?_, rfl⟩
  unfold mayI
  rw [if_pos (.inl (by omega))]
 (conv=>whnf);refine .ff ?_;(conv=>whnf);refine .ff ?_;(conv=>whnf);refine .ff ?_;(conv=>whnf)
 refine CondG.dec (fun h2 => ?_) (fun h2 => ?_)
 ·conv=>whnf
  refine ret_here ⟨congrArg (Value.int .i64) ?_, rfl⟩
  unfold mayI
  rw [if_pos (.inr (by omega))]
 conv=>whnf
 refine LenG.lit ?_
 conv=>whnf
 refine CondG.dec (fun h3 => ?_) (fun h3 => ?_)
 ·conv=>whnf
  refine ret_here ⟨congrArg (Value.int .i64) ?_, rfl⟩
  unfold mayI
  rw [if_neg (by omega), if_pos (by omega)]
 conv=>whnf
 refine ret_here ⟨congrArg (Value.int .i64) ?_, rfl⟩
 unfold mayI
 rw [if_neg (by omega), if_neg (by omega)]
theorem twin_spec (F : List HP) (v : Value) (bs : List Nat) (hv : RdS F v bs.length (bvs bs)) (hl : bs.length ≤ 1099511627776) : SpecF Tryz.prog 56 [v] F [] (fun r L => SlV r bs.length ∧ L = [own 1 r bs.length (bvs bs)]) := by
 obtain ⟨va, vc, rfl⟩ := hv.len
 refine fun56.spec rfl ?_
 conv=>whnf
 refine LenG.lit ?_
 conv=>whnf
 refine DoesG.makeG bytesT .i64 .i64 (by omega) (by simp only [maxLen]; omega) fun b zs hz => ?_
 conv=>whnf
 refine DoesG.copyS (o := 0) (cs := bvs bs) bytesT.und (by kernel_rfl) (.tl (.right hv _)) (bvs_len bs) (Nat.le_refl _) (by omega) (bvs_one _) (cur' := bvs bs) (by
  rw [List.take_zero, List.nil_append, List.drop_eq_nil_of_le (by omega), List.append_nil]) ?_
 conv=>whnf
 refine ⟨_, own_of_cel (n := bs.length) (sz := 1) (by rw [bvs_len, Nat.mul_one]) (by simp only [maxLen]; omega), .inr ⟨b, bs.length, rfl, Nat.le_refl _⟩, rfl⟩
theorem with_spec (F : List HP) (lv : Value) (ls : List PairD) (hr : RdS F lv ls.length (pairsC ls)) (key : ByteArray) (v : Value) (bs : List Nat) (hv : RdS F v bs.length (bvs bs)) (hb : bs.length ≤ 4096) (hl : ls.length ≤ 3518437208882) (hok : ∀ p ∈ ls, p.v.oneCell' = true) :
 SpecF Tryz.prog 111 [lv, .string key, v] F [] (fun r L => ∃ x, SlV x bs.length ∧ SlV r (withL PairD.key key ⟨key, x, bs⟩ false ls).length ∧
  L = [own 2 r (withL PairD.key key ⟨key, x, bs⟩ false ls).length (pairsC (withL PairD.key key ⟨key, x, bs⟩ false ls)), own 1 x bs.length (bvs bs)]) := by
 obtain ⟨la, lc, rfl⟩ := hr.len
 refine fun111.spec rfl ?_
 conv=>whnf
 refine LoopG.mk (fun m ev L => ∃ (i : Nat) (d : Bool) (out : List PairD) (ov x : Value), i ≤ ls.length ∧ m = ls.length - i ∧ SlV ov out.length ∧ out.length ≤ i + (if d then 1 else 0) ∧ (d = true → SlV x bs.length) ∧
  (∀ new : PairD, (d = true → new = ⟨key, x, bs⟩) → out ++ withL PairD.key key new d (ls.drop i) = withL PairD.key key new false ls) ∧
  ev = [(0, .slice la ls.length lc), (1, .string key), (2, v), (6, .slice none 0 0), (7, ov), (8, .bool d), (9, .int .i64 i)] ∧ L = own 2 ov out.length (pairsC out) :: (if d then [own 1 x bs.length (bvs bs)] else [])) ls.length
  [(0, .slice la ls.length lc), (1, .string key), (2, v), (6, .slice none 0 0), (7, .slice none 0 0), (8, .bool false), (9, .int .i64 0)] [own 2 (.slice none 0 0) 0 (pairsC [])] ⟨rfl, rfl, rfl, rfl, rfl, rfl, rfl, trivial⟩ (fun w G hs => Sat.own_nil hs)
  ⟨0, false, [], .slice none 0 0, .slice none 0 0, Nat.zero_le _, rfl, .inl ⟨rfl, rfl⟩, Nat.le_refl _, fun h => absurd h (by decide), fun _ _ => rfl, rfl, rfl⟩ ?_
 rintro m ev L ⟨i, d, out, ov, x, hi, rfl, hov, hol, hx, hw, rfl, rfl⟩
 conv=>whnf
 refine LenG.lit ?_
 conv=>whnf
 refine CondG.dec (fun hlt => ?_) (fun hlt => ?_)
 ·have hi' : i < ls.length := by omega
  obtain ⟨p, hp⟩ : ∃ p, ls[i]? = some p := ⟨ls[i], List.getElem?_eq_getElem hi'⟩
  obtain ⟨hp1, hp2⟩ := pairsC_get hp
  have hpo := hok p (List.mem_of_getElem? hp)
  have hpc : ∀ u ∈ p.cells, u.oneCell' = true := by
   intro u hu
   simp only [PairD.cells, List.mem_cons, List.not_mem_nil, or_false] at hu
   rcases hu with rfl | rfl
   ·rfl
   ·exact hpo
  cases d with
  | true =>
   have hx' := hx rfl
   have hws := fun new h => (hw new h).symm.trans (by rw [withL_step PairD.key key new true hp])
   simp only [Bool.not_true, Bool.false_and, Bool.true_or, Bool.false_eq_true, if_false, List.nil_append] at hws
   have hol1 : out.length ≤ i + 1 := hol
   (conv=>whnf);repeat((with_reducible first|refine .ff ?_|refine .nff ?_);conv=>whnf)
   refine IdxG.rd hr (by omega) fun b9 o9 hc9 => ?_
   conv=>whnf
   refine LoadG.atF (hc9.one (i := i * 2) (u := .string p.key) hp1) ?_
   conv=>whnf
   refine CondG.ndec (fun hne => ?_) (fun heq => ?_)
   ·conv=>whnf
    refine IdxG.rd hr (by omega) fun b8 o8 hc8 => ?_
    conv=>whnf
    refine LoadNG.atF (vs := p.cells) rfl (hc8.part (i := i * 2) (pairsC_at hp)) ?_
    conv=>whnf
    refine BuildG.of (cs := p.cells) rfl ?_
    conv=>whnf
    intro b6
    conv=>whnf
    refine DoesG.ent (Ent.front 1 rfl) ?_
    refine app_own pairsT 28 (m := 1) (ys := p.cells) (.mk _ _ _ _ _ (Nat.le_refl _) (.tl (.left .all _))) rfl hpc (by simp only [maxLen]; omega) (by omega) fun ov2 hov2 hl2 _ => ?_
    conv=>whnf
    refine ArithG.i64' ((i + 1 : Nat) : Int) (by omega) (by omega) ?_
    conv=>whnf
    have eo : pairsC out ++ p.cells = pairsC (out ++ [p]) := by rw [pairsC_app]; simp [pairsC]
    have el : (out ++ [p]).length = (out).length + 1 := by rw [List.length_append]; rfl
    rw [eo]
    refine ⟨ls.length - (i + 1), [(0, .slice la ls.length lc), (1, .string key), (2, v), (6, .slice none 0 0), (7, ov2), (8, .bool true), (9, .int .i64 (i + 1 : Nat))], _, by omega, ⟨rfl, rfl, rfl, rfl, rfl, rfl, rfl, trivial⟩, ?_, i + 1, true, out ++ [p], ov2, x, by omega, rfl, by rw [el]; exact hov2, by rw [el]; simp; omega, (fun _ => hx'), fun new hn => ?_, rfl, rfl⟩
    ·rw [el]
     exact Ent.sel (T := []) (A := [_, _, _]) [0, 2] rfl
    ·rw [hws new (by first | exact hn | exact fun h => h.elim | exact fun _ => hn rfl), if_neg hne]
     simp
   ·conv=>whnf
    refine ArithG.i64' ((i + 1 : Nat) : Int) (by omega) (by omega) ?_
    conv=>whnf
    refine ⟨ls.length - (i + 1), [(0, .slice la ls.length lc), (1, .string key), (2, v), (6, .slice none 0 0), (7, ov), (8, .bool true), (9, .int .i64 (i + 1 : Nat))], _, by omega, ⟨rfl, rfl, rfl, rfl, rfl, rfl, rfl, trivial⟩, ?_, i + 1, true, out, ov, x, by omega, rfl, hov, by simp; omega, (fun _ => hx'), fun new hn => ?_, rfl, rfl⟩
    ·exact Ent.sel (T := []) (A := [_, _]) [0, 1] rfl
    ·rw [hws new (by first | exact hn | exact fun h => h.elim | exact fun _ => hn rfl), if_pos heq]
     simp
  | false =>
   have hws := fun new h => (hw new h).symm.trans (by rw [withL_step PairD.key key new false hp])
   simp only [Bool.not_false, Bool.true_and, Bool.false_or] at hws
   have hol0 : out.length ≤ i := hol
   (conv=>whnf);repeat((with_reducible first|refine .tt ?_|refine .ntt ?_);conv=>whnf)
   refine IdxG.rd hr (by omega) fun b7 o7 hc7 => ?_
   (conv=>whnf);refine .tt ?_;(conv=>whnf);refine .tt ?_;(conv=>whnf)
   refine LoadG.atF (hc7.one (i := i * 2) (u := .string p.key) hp1) ?_
   (conv=>whnf);refine .tt ?_;(conv=>whnf);refine .tt ?_;(conv=>whnf)
   refine DoesG.geq ?_
   (conv=>whnf);refine .tt ?_;(conv=>whnf)
   refine CondG.split (fun hge => ?_) (fun hge => ?_)
   ·simp only [hge, if_true] at hws
    conv=>whnf
    refine CallG.pure (twin_spec _ v bs (.right hv _) (by omega)) ?_
    rintro x _ ⟨hx', rfl⟩
    obtain ⟨xa, xc, hxe⟩ := hx'.len
    conv=>whnf
    refine BuildG.of (cs := [.string key, x]) (by rw [hxe]; rfl) ?_
    conv=>whnf
    refine BuildG.of (cs := [.string key, x]) (by rw [hxe]; rfl) ?_
    conv=>whnf
    intro b5
    conv=>whnf
    refine DoesG.ent (Ent.front 2 rfl) ?_
    refine app_own pairsT 28 (m := 1) (ys := [.string key, x]) (.mk _ _ _ _ _ (Nat.le_refl _) (.tl (.left .all _))) rfl (by simp [Value.oneCell', hxe]) (by simp only [maxLen]; omega) (by omega) fun ov1 hov1 hl1 _ => ?_
    conv=>whnf
    have eo1 : pairsC out ++ [.string key, x] = pairsC (out ++ [⟨key, x, bs⟩]) := by rw [pairsC_app]; rfl
    have el1 : (out ++ [(⟨key, x, bs⟩ : PairD)]).length = out.length + 1 := by simp
    have hol1 : (out ++ [(⟨key, x, bs⟩ : PairD)]).length ≤ i + 1 := by simp at hol; omega
    have hws2 : ∀ new : PairD, (true = true → new = ⟨key, x, bs⟩) → (out ++ [⟨key, x, bs⟩]) ++ ((if p.key = key then [] else [p]) ++ withL PairD.key key new true (ls.drop (i + 1))) = withL PairD.key key new false ls := fun new h => by
     rw [hws new (fun h2 => by cases h2), h rfl]
     simp
    clear hws
    have hws := fun new h => (hws2 new h).symm
    rw [eo1, ← el1]
    rw [← el1] at hov1
    refine IdxG.rd hr (by omega) fun b9 o9 hc9 => ?_
    conv=>whnf
    refine LoadG.atF (hc9.one (i := i * 2) (u := .string p.key) hp1) ?_
    conv=>whnf
    refine CondG.ndec (fun hne => ?_) (fun heq => ?_)
    ·conv=>whnf
     refine IdxG.rd hr (by omega) fun b8 o8 hc8 => ?_
     conv=>whnf
     refine LoadNG.atF (vs := p.cells) rfl (hc8.part (i := i * 2) (pairsC_at hp)) ?_
     conv=>whnf
     refine BuildG.of (cs := p.cells) rfl ?_
     conv=>whnf
     intro b6
     conv=>whnf
     refine DoesG.ent (Ent.front 1 rfl) ?_
     refine app_own pairsT 28 (m := 1) (ys := p.cells) (.mk _ _ _ _ _ (Nat.le_refl _) (.tl (.left .all _))) rfl hpc (by simp only [maxLen]; omega) (by omega) fun ov2 hov2 hl2 _ => ?_
     conv=>whnf
     refine ArithG.i64' ((i + 1 : Nat) : Int) (by omega) (by omega) ?_
     conv=>whnf
     have eo : pairsC (out ++ [(⟨key, x, bs⟩ : PairD)]) ++ p.cells = pairsC ((out ++ [(⟨key, x, bs⟩ : PairD)]) ++ [p]) := by rw [pairsC_app]; simp [pairsC]
     have el : ((out ++ [(⟨key, x, bs⟩ : PairD)]) ++ [p]).length = ((out ++ [(⟨key, x, bs⟩ : PairD)])).length + 1 := by rw [List.length_append]; rfl
     rw [eo]
     refine ⟨ls.length - (i + 1), [(0, .slice la ls.length lc), (1, .string key), (2, v), (6, .slice none 0 0), (7, ov2), (8, .bool true), (9, .int .i64 (i + 1 : Nat))], _, by omega, ⟨rfl, rfl, rfl, rfl, rfl, rfl, rfl, trivial⟩, ?_, i + 1, true, (out ++ [(⟨key, x, bs⟩ : PairD)]) ++ [p], ov2, x, by omega, rfl, by rw [el]; exact hov2, by rw [el]; simp; omega, (fun _ => hx'), fun new hn => ?_, rfl, rfl⟩
     ·rw [el]
      exact Ent.sel (T := []) (A := [_, _, _, _]) [0, 3] rfl
     ·rw [hws new (by first | exact hn | exact fun h => h.elim | exact fun _ => hn rfl), if_neg hne]
      simp
    ·conv=>whnf
     refine ArithG.i64' ((i + 1 : Nat) : Int) (by omega) (by omega) ?_
     conv=>whnf
     refine ⟨ls.length - (i + 1), [(0, .slice la ls.length lc), (1, .string key), (2, v), (6, .slice none 0 0), (7, ov1), (8, .bool true), (9, .int .i64 (i + 1 : Nat))], _, by omega, ⟨rfl, rfl, rfl, rfl, rfl, rfl, rfl, trivial⟩, ?_, i + 1, true, (out ++ [(⟨key, x, bs⟩ : PairD)]), ov1, x, by omega, rfl, hov1, by simp; omega, (fun _ => hx'), fun new hn => ?_, rfl, rfl⟩
     ·exact Ent.sel (T := []) (A := [_, _, _]) [0, 2] rfl
     ·rw [hws new (by first | exact hn | exact fun h => h.elim | exact fun _ => hn rfl), if_pos heq]
      simp
   ·simp only [hge, if_false, List.nil_append, Bool.false_eq_true] at hws
    have hol1 : out.length ≤ i + 1 := by simp at hol; omega
    conv=>whnf
    refine IdxG.rd hr (by omega) fun b9 o9 hc9 => ?_
    conv=>whnf
    refine LoadG.atF (hc9.one (i := i * 2) (u := .string p.key) hp1) ?_
    conv=>whnf
    refine CondG.ndec (fun hne => ?_) (fun heq => ?_)
    ·conv=>whnf
     refine IdxG.rd hr (by omega) fun b8 o8 hc8 => ?_
     conv=>whnf
     refine LoadNG.atF (vs := p.cells) rfl (hc8.part (i := i * 2) (pairsC_at hp)) ?_
     conv=>whnf
     refine BuildG.of (cs := p.cells) rfl ?_
     conv=>whnf
     intro b6
     conv=>whnf
     refine DoesG.ent (Ent.front 1 rfl) ?_
     refine app_own pairsT 28 (m := 1) (ys := p.cells) (.mk _ _ _ _ _ (Nat.le_refl _) (.tl (.left .all _))) rfl hpc (by simp only [maxLen]; omega) (by omega) fun ov2 hov2 hl2 _ => ?_
     conv=>whnf
     refine ArithG.i64' ((i + 1 : Nat) : Int) (by omega) (by omega) ?_
     conv=>whnf
     have eo : pairsC out ++ p.cells = pairsC (out ++ [p]) := by rw [pairsC_app]; simp [pairsC]
     have el : (out ++ [p]).length = (out).length + 1 := by rw [List.length_append]; rfl
     rw [eo]
     refine ⟨ls.length - (i + 1), [(0, .slice la ls.length lc), (1, .string key), (2, v), (6, .slice none 0 0), (7, ov2), (8, .bool false), (9, .int .i64 (i + 1 : Nat))], _, by omega, ⟨rfl, rfl, rfl, rfl, rfl, rfl, rfl, trivial⟩, ?_, i + 1, false, out ++ [p], ov2, x, by omega, rfl, by rw [el]; exact hov2, by rw [el]; simp; omega, (fun h => absurd h (by decide)), fun new hn => ?_, rfl, rfl⟩
     ·rw [el]
      exact Ent.sel (T := []) (A := [_, _]) [0] rfl
     ·rw [hws new (by first | exact hn | exact fun h => h.elim | exact fun _ => hn rfl), if_neg hne]
      simp
    ·conv=>whnf
     refine ArithG.i64' ((i + 1 : Nat) : Int) (by omega) (by omega) ?_
     conv=>whnf
     refine ⟨ls.length - (i + 1), [(0, .slice la ls.length lc), (1, .string key), (2, v), (6, .slice none 0 0), (7, ov), (8, .bool false), (9, .int .i64 (i + 1 : Nat))], _, by omega, ⟨rfl, rfl, rfl, rfl, rfl, rfl, rfl, trivial⟩, ?_, i + 1, false, out, ov, x, by omega, rfl, hov, by simp; omega, (fun h => absurd h (by decide)), fun new hn => ?_, rfl, rfl⟩
     ·exact Ent.sel (T := []) (A := [_]) [0] rfl
     ·rw [hws new (by first | exact hn | exact fun h => h.elim | exact fun _ => hn rfl), if_pos heq]
      simp
 ·obtain rfl : i = ls.length := by omega
  have hdr : ls.drop ls.length = [] := List.drop_length
  cases d with
  | true =>
   have hx' := hx rfl
   have ew := hw ⟨key, x, bs⟩ (fun _ => rfl)
   rw [hdr] at ew
   have ew2 : out = withL PairD.key key ⟨key, x, bs⟩ false ls := by rw [← ew]; simp [withL]
   (conv=>whnf);refine .nff ?_;(conv=>whnf)
   refine ret_here ⟨x, hx', ?_, ?_⟩
   ·rw [← ew2]; exact hov
   ·rw [← ew2]; rfl
  | false =>
   have hol0 : out.length ≤ ls.length := hol
   (conv=>whnf);refine .ntt ?_;(conv=>whnf)
   refine CallG.pure (twin_spec _ v bs (.right hv _) (by omega)) ?_
   rintro x _ ⟨hx', rfl⟩
   obtain ⟨xa, xc, hxe⟩ := hx'.len
   have ew := hw ⟨key, x, bs⟩ (fun h => absurd h (by decide))
   rw [hdr] at ew
   have ew2 : out ++ [⟨key, x, bs⟩] = withL PairD.key key ⟨key, x, bs⟩ false ls := by rw [← ew]; simp [withL]
   conv=>whnf
   refine BuildG.of (cs := [.string key, x]) (by rw [hxe]; rfl) ?_
   conv=>whnf
   refine BuildG.of (cs := [.string key, x]) (by rw [hxe]; rfl) ?_
   conv=>whnf
   intro b5
   conv=>whnf
   refine DoesG.ent (Ent.front 2 rfl) ?_
   refine app_own pairsT 28 (m := 1) (ys := [.string key, x]) (.mk _ _ _ _ _ (Nat.le_refl _) (.tl (.left .all _))) rfl (by simp [Value.oneCell', hxe]) (by simp only [maxLen]; omega) (by omega) fun ov1 hov1 hl1 _ => ?_
   conv=>whnf
   have eo1 : pairsC out ++ [.string key, x] = pairsC (out ++ [⟨key, x, bs⟩]) := by rw [pairsC_app]; rfl
   have el1 : (out ++ [(⟨key, x, bs⟩ : PairD)]).length = out.length + 1 := by simp
   rw [eo1, ← el1, ew2]
   rw [← el1, ew2] at hov1
   exact ⟨_, Ent.sel (T := []) (A := [_, _, _]) [0, 2] rfl, x, hx', hov1, rfl⟩
end Go.Proofs.YtmfonkklmndhjaaGreatDoor
namespace Go.Proofs.YtmfonkklmndhjaaGreatDoor
open Go Go.Sl Go.Sort
theorem at_spec (F : List HP) (lv : Value) (ls : List PairD) (hr : RdS F lv ls.length (pairsC ls)) (hl : ls.length ≤ 4611686018427387904) (key : ByteArray) :
 SpecF Tryz.prog 86 [lv, .string key] F [] (fun r L => r = .tuple #[atV ls key, .bool (atD ls key).isSome] ∧ L = []) := by
 refine fun86.spec rfl ?_
 conv=>whnf
 refine LoopG.mk (fun m ev L => ∃ (i : Nat), i ≤ ls.length ∧ m = ls.length - i ∧ atD ls key = atD (ls.drop i) key ∧
  ev = [(0, lv), (1, .string key), (4, .slice none 0 0), (5, .bool false), (6, .int .i64 i)] ∧ L = []) ls.length
  [(0, lv), (1, .string key), (4, .slice none 0 0), (5, .bool false), (6, .int .i64 0)] [] ⟨rfl, rfl, rfl, rfl, rfl, trivial⟩ (Ent.refl _) ⟨0, Nat.zero_le _, rfl, rfl, rfl, rfl⟩ ?_
 rintro m ev L ⟨i, hi, rfl, hw, rfl, rfl⟩
 conv=>whnf
 refine LenG.rd hr ?_
 conv=>whnf
 refine CondG.dec (fun hlt => ?_) (fun hlt => ?_)
 ·have hi' : i < ls.length := by omega
  obtain ⟨p, hp⟩ : ∃ p, ls[i]? = some p := ⟨ls[i], List.getElem?_eq_getElem hi'⟩
  obtain ⟨hp1, hp2⟩ := pairsC_get hp
  rw [atD_step hp] at hw
  conv=>whnf
  refine IdxG.rd hr (by omega) fun b9 o9 hc9 => ?_
  conv=>whnf
  refine LoadG.atF (hc9.one (i := i * 2) (u := .string p.key) hp1) ?_
  conv=>whnf
  refine CondG.dec (fun he => ?_) (fun he => ?_)
  ·rw [if_pos he] at hw
   conv=>whnf
   refine IdxG.rd hr (by omega) fun b8 o8 hc8 => ?_
   conv=>whnf
   refine LoadG.atF (hc8.one (i := i * 2 + 1) (u := p.v) hp2) ?_
   conv=>whnf
   refine ret_here ⟨?_, rfl⟩
   unfold atV
   rw [hw]
   rfl
  ·rw [if_neg he] at hw
   conv=>whnf
   refine ArithG.i64' ((i + 1 : Nat) : Int) (by omega) (by omega) ?_
   conv=>whnf
   exact ⟨ls.length - (i + 1), [(0, lv), (1, .string key), (4, .slice none 0 0), (5, .bool false), (6, .int .i64 ((i + 1 : Nat) : Int))], _, by omega, ⟨rfl, rfl, rfl, rfl, rfl, trivial⟩, Ent.refl _, i + 1, by omega, rfl, hw, rfl, rfl⟩
 ·obtain rfl : i = ls.length := by omega
  rw [List.drop_length] at hw
  conv=>whnf
  refine ret_here ⟨?_, rfl⟩
  unfold atV
  rw [hw]
  rfl
section
variable {R : RSt} {d : RfD}
theorem now7_spec (F : List HP) (s : Nat) (hv : Value) (part : Bool) (nv : Value) (bad : Int) (hq : IsQ R d) (hl : R.told.length ≤ 3518437208882) (hs : R.steps.length ≤ 4611686018427387904) (key : ByteArray) :
 SpecF Tryz.prog 55 [.pointer (some ⟨s, 0, none⟩), .string key] (d.pieces 73 s hv part nv bad ++ F) [] (fun r L => r = d.nowV key ∧ L = []) := by
 have htl := pairsE_len hq.ts
 have hsl := pairsE_len hq.ss
 refine SpecF.fact (SlV d.tv d.ts.length ∧ SlV d.sv d.ss.length) (fun w h => ⟨(h.perm (List.Perm.swap _ _ _)).ownV, ((h.perm (erase_perm 2 rfl))).ownV⟩) fun ⟨htv, hsv⟩ => ?_
 have hrs : RdS (d.pieces 73 s hv part nv bad ++ F) d.sv d.ss.length (pairsC d.ss) := .tl (.tl (own_rd hsv (pairsC_len d.ss)))
 have hrt : RdS (d.pieces 73 s hv part nv bad ++ F) d.tv d.ts.length (pairsC d.ts) := .tl (own_rd htv (pairsC_len d.ts))
 refine fun55.spec rfl ?_
 conv=>whnf
 refine LoadG.atF (.here rfl) ?_
 conv=>whnf
 refine LenG.sl hsv ?_
 conv=>whnf
 refine ArithG.i64 (by omega) ?_
 conv=>whnf
 refine LoopG.mk (fun m ev L => ∃ (i : Nat), i ≤ d.ss.length ∧ m = i ∧ atD d.ss.reverse key = atD (d.ss.take i).reverse key ∧
  ev = [(0, .pointer (some ⟨s, 0, none⟩)), (1, .string key), (4, .slice none 0 0), (5, .int .i64 ((i : Int) - 1))] ∧ L = []) d.ss.length
  [(0, .pointer (some ⟨s, 0, none⟩)), (1, .string key), (4, .slice none 0 0), (5, .int .i64 ((d.ss.length : Int) - 1))] [] ⟨rfl, rfl, rfl, rfl, trivial⟩ (Ent.refl _) ⟨d.ss.length, Nat.le_refl _, rfl, by rw [List.take_length], rfl, rfl⟩ ?_
 rintro m ev L ⟨i, hi, rfl, hw, rfl, rfl⟩
 conv=>whnf
 refine CondG.dec (fun hlt => ?_) (fun hlt => ?_)
 ·obtain ⟨j, rfl⟩ : ∃ j, m = j + 1 := ⟨m - 1, by omega⟩
  obtain ⟨p, hp⟩ : ∃ p, d.ss[j]? = some p := ⟨d.ss[j], List.getElem?_eq_getElem (by omega)⟩
  obtain ⟨hp1, hp2⟩ := pairsC_get hp
  have hj : (((j + 1 : Nat) : Int) - 1).toNat = j := by omega
  rw [atD_back hp] at hw
  conv=>whnf
  refine LoadG.atF (.here rfl) ?_
  conv=>whnf
  refine IdxG.rd hrs (by omega) fun b9 o9 hc9 => ?_
  conv=>whnf
  refine LoadG.atF (hc9.one (i := (((j + 1 : Nat) : Int) - 1).toNat * 2) (u := .string p.key) (by rw [hj]; exact hp1)) ?_
  conv=>whnf
  refine CondG.dec (fun he => ?_) (fun he => ?_)
  ·rw [if_pos he] at hw
   conv=>whnf
   refine LoadG.atF (.here rfl) ?_
   conv=>whnf
   refine IdxG.rd hrs (by omega) fun b8 o8 hc8 => ?_
   conv=>whnf
   refine LoadG.atF (hc8.one (i := (((j + 1 : Nat) : Int) - 1).toNat * 2 + 1) (u := p.v) (by rw [hj]; exact hp2)) ?_
   conv=>whnf
   refine ret_here ⟨?_, rfl⟩
   unfold RfD.nowV
   rw [hw]
   rfl
  ·rw [if_neg he] at hw
   conv=>whnf
   refine ArithG.i64' ((j : Int) - 1) (by omega) (by omega) ?_
   conv=>whnf
   exact ⟨j, [(0, .pointer (some ⟨s, 0, none⟩)), (1, .string key), (4, .slice none 0 0), (5, .int .i64 ((j : Int) - 1))], _, by omega, ⟨rfl, rfl, rfl, rfl, trivial⟩, Ent.refl _, j, by omega, rfl, hw, rfl, rfl⟩
 ·obtain rfl : m = 0 := by omega
  rw [List.take_zero] at hw
  conv=>whnf
  refine LoadG.atF (.here rfl) ?_
  conv=>whnf
  refine CallG.pure (at_spec _ d.tv d.ts (.right hrt _) (by omega) key) ?_
  rintro _ _ ⟨rfl, rfl⟩
  conv=>whnf
  refine ret_here ⟨?_, rfl⟩
  unfold RfD.nowV
  rw [hw]
  rfl
theorem asked7_spec (F : List HP) (s : Nat) (hv : Value) (part : Bool) (nv : Value) (hs : List PairD) (no : List NoD) (hh : RdS F hv hs.length (pairsC hs)) (hhl : hs.length ≤ 4611686018427387904) (hhv : ∀ p ∈ hs, RdS F p.v p.bs.length (bvs p.bs))
 (hn : RdS F nv no.length (noC no)) (hnl : no.length ≤ 4611686018427387904) (hl : R.told.length ≤ 3518437208882) (key : ByteArray) :
 SpecF Tryz.prog 98 [.pointer (some ⟨s, 0, none⟩), .string key] F [refR 73 s hv part nv R] (fun r L => r = .int .i64 (askI (refF (hs.map PairD.e) no part key) R key) ∧
  ∃ d', IsQ (if askI (refF (hs.map PairD.e) no part key) R key = 0 then askQ (refF (hs.map PairD.e) no part key) R key else R) d' ∧ L = d'.pieces 73 s hv part nv R.bad) := by
 obtain ⟨f, hf⟩ : ∃ f, f = refF (hs.map PairD.e) no part key := ⟨_, rfl⟩
 rw [← hf]
 refine SpecF.unpack0 fun d hq => ?_
 have htl := pairsE_len hq.ts
 refine SpecF.ownV 1 rfl fun htv htc => ?_
 have hrt : RdS (d.pieces 73 s hv part nv R.bad) d.tv d.ts.length (pairsC d.ts) := .tl (own_rd htv (pairsC_len d.ts))
 refine fun98.spec rfl ?_
 conv=>whnf
 refine LoadG.at (.here rfl) ?_
 conv=>whnf
 refine CallG.pure (at_spec _ d.tv d.ts (.left hrt F) (by omega) key) ?_
 rintro _ _ ⟨rfl, rfl⟩
 conv=>whnf
 refine CondG.split (fun h1 => ?_) (fun h1 => ?_)
 ·rw [hq.told key] at h1
  have e0 : askI f R key = 0 := by unfold askI; rw [if_pos h1]
  have e1 : askQ f R key = R := by unfold askQ; rw [if_pos h1]
  rw [e0, if_pos rfl, e1]
  conv=>whnf
  exact ⟨_, Ent.refl _, rfl, d, hq, rfl⟩
 have hnt : (atL R.told key).isSome = false := by rw [← hq.told key]; exact h1
 conv=>whnf
 refine LoopG.mk (fun m ev L => ∃ (i : Nat), i ≤ no.length ∧ m = no.length - i ∧ noF no key = noF (no.drop i) key ∧
  ev = [(0, .pointer (some ⟨s, 0, none⟩)), (1, .string key), (4, .int .i64 0), (7, .int .i64 i)] ∧ L = d.pieces 73 s hv part nv R.bad) no.length
  [(0, .pointer (some ⟨s, 0, none⟩)), (1, .string key), (4, .int .i64 0), (7, .int .i64 0)] (d.pieces 73 s hv part nv R.bad) ⟨rfl, rfl, rfl, rfl, trivial⟩ (Ent.refl _) ⟨0, Nat.zero_le _, rfl, rfl, rfl, rfl⟩ ?_
 rintro m ev L ⟨i, hi, rfl, hw, rfl, rfl⟩
 conv=>whnf
 refine LoadG.at (.here rfl) ?_
 conv=>whnf
 refine LenG.rd hn ?_
 conv=>whnf
 refine CondG.dec (fun hlt => ?_) (fun hlt => ?_)
 ·have hi' : i < no.length := by omega
  obtain ⟨p, hp⟩ : ∃ p, no[i]? = some p := ⟨no[i], List.getElem?_eq_getElem hi'⟩
  obtain ⟨hp1, hp2⟩ := noC_get hp
  rw [noF_step hp] at hw
  conv=>whnf
  refine LoadG.at (.here rfl) ?_
  conv=>whnf
  refine IdxG.rd hn (by omega) fun b9 o9 hc9 => ?_
  conv=>whnf
  refine LoadG.atF (hc9.one (i := i * 2) (u := .string p.1) hp1) ?_
  conv=>whnf
  refine CondG.dec (fun he => ?_) (fun he => ?_)
  ·(conv=>whnf);refine .tt ?_;(conv=>whnf);refine .tt ?_;(conv=>whnf);refine .tt ?_;(conv=>whnf)
   refine LoadG.at (.here rfl) ?_
   (conv=>whnf);refine .tt ?_;(conv=>whnf);refine .tt ?_;(conv=>whnf)
   refine IdxG.rd hn (by omega) fun b8 o8 hc8 => ?_
   (conv=>whnf);refine .tt ?_;(conv=>whnf);refine .tt ?_;(conv=>whnf)
   refine LoadG.atF (hc8.one (i := i * 2 + 1) (u := .int .i64 p.2) hp2) ?_
   (conv=>whnf);refine .tt ?_;(conv=>whnf);refine .tt ?_;(conv=>whnf)
   refine CondG.ndec (fun h0 => ?_) (fun h0 => ?_)
   ·rw [if_pos ⟨he, h0⟩] at hw
    conv=>whnf
    refine LoadG.at (.here rfl) ?_
    conv=>whnf
    refine IdxG.rd hn (by omega) fun b7 o7 hc7 => ?_
    conv=>whnf
    refine LoadG.atF (hc7.one (i := i * 2 + 1) (u := .int .i64 p.2) hp2) ?_
    conv=>whnf
    have e2 : f.2 = p.2 := by rw [hf]; unfold refF; rw [hw, if_pos h0]
    have e0 : askI f R key = p.2 := by unfold askI; rw [if_neg (by rw [hnt]; decide), if_pos (by rw [e2]; exact h0), e2]
    rw [e0, if_neg h0]
    exact ⟨_, Ent.refl _, rfl, d, hq, rfl⟩
   ·rw [if_neg (fun h => h.2 h0)] at hw
    conv=>whnf
    refine ArithG.i64' ((i + 1 : Nat) : Int) (by omega) (by omega) ?_
    conv=>whnf
    exact ⟨no.length - (i + 1), [(0, .pointer (some ⟨s, 0, none⟩)), (1, .string key), (4, .int .i64 0), (7, .int .i64 ((i + 1 : Nat) : Int))], _, by omega, ⟨rfl, rfl, rfl, rfl, trivial⟩, Ent.refl _, i + 1, by omega, rfl, hw, rfl, rfl⟩
  ·rw [if_neg (fun h => he h.1)] at hw
   (conv=>whnf);refine .ff ?_;(conv=>whnf);refine .ff ?_;(conv=>whnf);refine .ff ?_;(conv=>whnf);refine .ff ?_;(conv=>whnf);refine .ff ?_;(conv=>whnf);refine .ff ?_;(conv=>whnf);refine .ff ?_;(conv=>whnf);refine .ff ?_;(conv=>whnf);refine .ff ?_;(conv=>whnf);refine .ff ?_;(conv=>whnf)
   refine ArithG.i64' ((i + 1 : Nat) : Int) (by omega) (by omega) ?_
   conv=>whnf
   exact ⟨no.length - (i + 1), [(0, .pointer (some ⟨s, 0, none⟩)), (1, .string key), (4, .int .i64 0), (7, .int .i64 ((i + 1 : Nat) : Int))], _, by omega, ⟨rfl, rfl, rfl, rfl, trivial⟩, Ent.refl _, i + 1, by omega, rfl, hw, rfl, rfl⟩
 obtain rfl : i = no.length := by omega
 rw [List.drop_length] at hw
 have hn0 : noF no key = 0 := by rw [hw]; rfl
 have hf1 : f = ((atL (hs.map PairD.e) key).getD [], if (atL (hs.map PairD.e) key).isSome = false ∧ part = true then 74 else 0) := by
  rw [hf]; unfold refF; rw [hn0, if_neg (fun h => h rfl)]
 have hsome : (atL (hs.map PairD.e) key).isSome = (atD hs key).isSome := by rw [← atD_atL, Option.isSome_map]
 have hbs : atB hs key = f.1 := by
  rw [hf1, ← atD_atL]
  rfl
 have hrv : RdS F (atV hs key) f.1.length (bvs f.1) := by
  rw [← hbs]
  exact atV_of (φ := fun v bs => RdS F v bs.length (bvs bs)) .nil hhv key
 conv=>whnf
 refine LoadG.at (.here rfl) ?_
 conv=>whnf
 refine CallG.pure (at_spec _ hv hs (.right hh _) hhl key) ?_
 rintro _ _ ⟨rfl, rfl⟩
 have err : ∀ z : Int, z ≠ 0 → askI f R key = z → RetG (d.pieces 73 s hv part nv R.bad) (.int .i64 z) (fun r L => r = .int .i64 (askI f R key) ∧ ∃ d', IsQ (if askI f R key = 0 then askQ f R key else R) d' ∧ L = d'.pieces 73 s hv part nv R.bad) := fun z hz e0 => by
  rw [e0, if_neg hz]
  exact ⟨_, Ent.refl _, rfl, d, hq, rfl⟩
 have h20 : f.2 = 0 → 4096 < f.1.length → askI f R key = 71 := fun h1 h2 => by unfold askI; rw [if_neg (by rw [hnt]; decide), if_neg (by rw [h1]; simp), if_pos h2]
 have h21 : f.2 = 0 → ¬4096 < f.1.length → askI f R key = 0 := fun h1 h2 => by unfold askI; rw [if_neg (by rw [hnt]; decide), if_neg (by rw [h1]; simp), if_neg h2]
 conv=>whnf
 refine CondG.split (fun h5 => ?_) (fun h5 => ?_)
 ·have h6 : (atD hs key).isSome = false := by simpa using h5
  (conv=>whnf);refine .tt ?_;(conv=>whnf);refine .tt ?_;(conv=>whnf);refine .tt ?_;(conv=>whnf)
  refine LoadG.at (v := .bool part) (.here rfl) ?_
  (conv=>whnf);refine .tt ?_;(conv=>whnf)
  refine CondG.split (fun h7 => ?_) (fun h7 => ?_)
  ·conv=>whnf
   refine err 74 (by decide) ?_
   unfold askI
   rw [if_neg (by rw [hnt]; decide), hf1, hsome, h6, h7]
   rfl
  ·have hf2 : f.2 = 0 := by rw [hf1, h7]; simp
   conv=>whnf
   refine LenG.rd hrv ?_
   conv=>whnf
   refine CondG.dec (fun h3 => ?_) (fun h3 => ?_)
   ·conv=>whnf
    exact err 71 (by decide) (h20 hf2 (by omega))
   ·have hlf : ¬4096 < f.1.length := by omega
    conv=>whnf
    refine LoadG.at (.here rfl) ?_
    conv=>whnf
    refine CallG.pure (with_spec _ d.tv d.ts (.left hrt F) key (atV hs key) f.1 (.right hrv _) (by omega) (by omega) (fun p hp => by obtain ⟨a, c, h⟩ := (hq.tw p hp).1.len; rw [h]; rfl)) ?_
    rintro r _ ⟨x, hx, hr2, rfl⟩
    obtain ⟨ra, rc, rfl⟩ := hr2.len
    conv=>whnf
    refine StoreG.at rfl (Upd.tl (Upd.tl (Upd.here (by simp) rfl))) ?_
    conv=>whnf
    have e0 := h21 hf2 hlf
    have e1 : askQ f R key = { R with told := insL R.told key f.1 } := by unfold askQ; rw [if_neg (by rw [hnt]; decide), if_pos e0]
    rw [e0, if_pos rfl, e1]
    refine ⟨_, ?_, rfl, _, hq.tell hx (by omega) (.slice ra (withL PairD.key key ⟨key, x, f.1⟩ false d.ts).length rc) hr2, rfl⟩
    exact (Ent.sel (T := pdS d.ts ++ pdS d.ss) (A := [_, _, _, _, _, _]) [2, 0, 4, 5, 1] rfl).trans (Ent.under ((sh_of_own rfl).trans (pdS_with (new := ⟨key, x, f.1⟩)).2) [_, _, _, _])
 ·have h6 : (atD hs key).isSome = true := by simpa using h5
  have hf2 : f.2 = 0 := by rw [hf1, hsome, h6]; simp
  (conv=>whnf);refine .ff ?_;(conv=>whnf);refine .ff ?_;(conv=>whnf);refine .ff ?_;(conv=>whnf);refine .ff ?_;(conv=>whnf);refine .ff ?_;(conv=>whnf)
  refine LenG.rd hrv ?_
  conv=>whnf
  refine CondG.dec (fun h3 => ?_) (fun h3 => ?_)
  ·conv=>whnf
   exact err 71 (by decide) (h20 hf2 (by omega))
  ·have hlf : ¬4096 < f.1.length := by omega
   conv=>whnf
   refine LoadG.at (.here rfl) ?_
   conv=>whnf
   refine CallG.pure (with_spec _ d.tv d.ts (.left hrt F) key (atV hs key) f.1 (.right hrv _) (by omega) (by omega) (fun p hp => by obtain ⟨a, c, h⟩ := (hq.tw p hp).1.len; rw [h]; rfl)) ?_
   rintro r _ ⟨x, hx, hr2, rfl⟩
   obtain ⟨ra, rc, rfl⟩ := hr2.len
   conv=>whnf
   refine StoreG.at rfl (Upd.tl (Upd.tl (Upd.here (by simp) rfl))) ?_
   conv=>whnf
   have e0 := h21 hf2 hlf
   have e1 : askQ f R key = { R with told := insL R.told key f.1 } := by unfold askQ; rw [if_neg (by rw [hnt]; decide), if_pos e0]
   rw [e0, if_pos rfl, e1]
   refine ⟨_, ?_, rfl, _, hq.tell hx (by omega) (.slice ra (withL PairD.key key ⟨key, x, f.1⟩ false d.ts).length rc) hr2, rfl⟩
   exact (Ent.sel (T := pdS d.ts ++ pdS d.ss) (A := [_, _, _, _, _, _]) [2, 0, 4, 5, 1] rfl).trans (Ent.under ((sh_of_own rfl).trans (pdS_with (new := ⟨key, x, f.1⟩)).2) [_, _, _, _])
theorem ask7_spec (F : List HP) (s : Nat) (hv : Value) (part : Bool) (nv : Value) (hs : List PairD) (no : List NoD) (hh : RdS F hv hs.length (pairsC hs)) (hhl : hs.length ≤ 4611686018427387904) (hhv : ∀ p ∈ hs, RdS F p.v p.bs.length (bvs p.bs))
 (hn : RdS F nv no.length (noC no)) (hnl : no.length ≤ 4611686018427387904) (hl : R.told.length ≤ 3518437208882) (key : ByteArray) :
 SpecF Tryz.prog 80 [.pointer (some ⟨s, 0, none⟩), .string key] F [refR 73 s hv part nv R] (fun r L => r = .int .i64 (askI (refF (hs.map PairD.e) no part key) R key) ∧
  ∃ d', IsQ (askQ (refF (hs.map PairD.e) no part key) R key) d' ∧ L = d'.pieces 73 s hv part nv (askQ (refF (hs.map PairD.e) no part key) R key).bad) := by
 obtain ⟨f, hf⟩ : ∃ f, f = refF (hs.map PairD.e) no part key := ⟨_, rfl⟩
 refine fun80.spec rfl ?_
 conv=>whnf
 refine CallG.of (rest := []) (asked7_spec F s hv part nv hs no hh hhl hhv hn hnl hl key) (Ent.refl _) ?_
 rintro _ _ ⟨rfl, d, hq, rfl⟩
 rw [← hf] at hq ⊢
 rw [List.append_nil]
 conv=>whnf
 refine CondG.ndec (fun h1 => ?_) (fun h1 => ?_)
 ·rw [if_neg h1] at hq
  (conv=>whnf);refine .tt ?_;(conv=>whnf);refine .tt ?_;(conv=>whnf);refine .tt ?_;(conv=>whnf)
  refine LoadG.at (v := .int .i64 R.bad) (.here rfl) ?_
  (conv=>whnf);refine .tt ?_;(conv=>whnf);refine .tt ?_;(conv=>whnf)
  refine CondG.dec (fun h2 => ?_) (fun h2 => ?_)
  ·conv=>whnf
   refine StoreG.at rfl (Upd.here (by simp) rfl) ?_
   conv=>whnf
   have e1 : askQ f R key = { R with bad := askI f R key } := by rw [askQ_fail h1, if_pos h2]
   rw [e1]
   exact ⟨_, Ent.refl _, rfl, d, hq.bad _, rfl⟩
  ·conv=>whnf
   have e1 : askQ f R key = R := by rw [askQ_fail h1, if_neg h2]
   rw [e1]
   exact ⟨_, Ent.refl _, rfl, d, hq, rfl⟩
 ·rw [if_pos h1] at hq
  have e2 : (askQ f R key).bad = R.bad := by
   unfold askQ
   split
   ·rfl
   ·rfl
  (conv=>whnf);refine .ff ?_;(conv=>whnf);refine .ff ?_;(conv=>whnf);refine .ff ?_;(conv=>whnf);refine .ff ?_;(conv=>whnf);refine .ff ?_;(conv=>whnf);refine .ff ?_;(conv=>whnf)
  exact ⟨_, Ent.refl _, rfl, d, hq, by rw [e2]⟩
theorem get7_spec (F : List HP) (s : Nat) (hv : Value) (part : Bool) (nv : Value) (hs : List PairD) (no : List NoD) (hh : RdS F hv hs.length (pairsC hs)) (hhl : hs.length ≤ 4611686018427387904) (hhv : ∀ p ∈ hs, RdS F p.v p.bs.length (bvs p.bs))
 (hn : RdS F nv no.length (noC no)) (hnl : no.length ≤ 4611686018427387904) (hl : R.told.length < 3518437208882) (hst : R.steps.length ≤ 4611686018427387904) (key : ByteArray) :
 SpecF Tryz.prog 71 [.pointer (some ⟨s, 0, none⟩), .string key] F [refR 73 s hv part nv R] (fun r L => ∃ x, SlV x (getQ (refF (hs.map PairD.e) no part key) R key).1.1.length ∧ r = .tuple #[x, .int .i64 (getQ (refF (hs.map PairD.e) no part key) R key).1.2] ∧
  L = [own 1 x (getQ (refF (hs.map PairD.e) no part key) R key).1.1.length (bvs (getQ (refF (hs.map PairD.e) no part key) R key).1.1), refR 73 s hv part nv (getQ (refF (hs.map PairD.e) no part key) R key).2]) := by
 obtain ⟨f, hf⟩ : ∃ f, f = refF (hs.map PairD.e) no part key := ⟨_, rfl⟩
 rw [← hf]
 refine fun71.spec rfl ?_
 conv=>whnf
 refine CallG.pure (may7_spec _ key (.slice none 0 0) 0 ⟨_, _, rfl⟩) ?_
 rintro _ _ ⟨rfl, rfl⟩
 conv=>whnf
 refine CondG.ndec (fun h1 => ?_) (fun h1 => ?_)
 ·have e1 : getQ f R key = (([], mayI key 0), R) := by unfold getQ; rw [if_pos h1]
  conv=>whnf
  rw [e1]
  exact ⟨_, fun w G hs => Sat.own_nil hs, .slice none 0 0, .inl ⟨rfl, rfl⟩, rfl, rfl⟩
 conv=>whnf
 refine CallG.of (rest := []) (ask7_spec F s hv part nv hs no hh hhl hhv hn hnl (by omega) key) (Ent.refl _) ?_
 rintro _ _ ⟨rfl, d, hq, rfl⟩
 rw [← hf] at hq ⊢
 rw [List.append_nil]
 conv=>whnf
 refine CondG.ndec (fun h2 => ?_) (fun h2 => ?_)
 ·have e1 : getQ f R key = (([], askI f R key), askQ f R key) := by unfold getQ; rw [if_neg (fun h => h h1), if_neg h2]
  conv=>whnf
  rw [e1]
  exact ⟨_, fun w G hs => Sat.own_nil (Ent.pack0 (ls := fun d => RfD.pieces 73 s hv part nv (askQ f R key).bad d) hq w G hs), .slice none 0 0, .inl ⟨rfl, rfl⟩, rfl, rfl⟩
 have e1 : getQ f R key = (((askQ f R key).val key, askI f R key), askQ f R key) := by unfold getQ; rw [if_neg (fun h => h h1), if_pos h2]
 rw [e1]
 have hal := getQ_told (R := R) (f := f) (key := key)
 have has := (askQ_steps (R := R) (f := f) (key := key)).1
 conv=>whnf
 refine CallG.pure (now7_spec F s hv part nv _ hq (by omega) (by rw [has]; exact hst) key) ?_
 rintro _ _ ⟨rfl, rfl⟩
 have hr := RfD.rd (T := 73) (s := s) (hv := hv) (part := part) (nv := nv) (bad := (askQ f R key).bad) hq key
 rw [hq.val] at hr
 conv=>whnf
 refine CallG.pure (twin_spec _ (d.nowV key) ((askQ f R key).val key) (.left hr.1 F) (by omega)) ?_
 rintro x _ ⟨hx, rfl⟩
 conv=>whnf
 rw [h2]
 refine ⟨_, ?_, x, hx, rfl, rfl⟩
 exact Ent.cons _ (Ent.pack0 (ls := fun d => RfD.pieces 73 s hv part nv (askQ f R key).bad d) hq)
theorem put7s_spec (F : List HP) (s : Nat) (hv : Value) (part : Bool) (nv : Value) (hs : List PairD) (no : List NoD) (hh : RdS F hv hs.length (pairsC hs)) (hhl : hs.length ≤ 4611686018427387904) (hhv : ∀ p ∈ hs, RdS F p.v p.bs.length (bvs p.bs))
 (hn : RdS F nv no.length (noC no)) (hnl : no.length ≤ 4611686018427387904) (hl : R.told.length < 3518437208882) (hst : R.steps.length < 5000000000000) (key : ByteArray) (v : Value) (bs : List Nat) (hr : RdS F v bs.length (bvs bs)) :
 SpecF Tryz.prog 46 [.pointer (some ⟨s, 0, none⟩), .string key, v] F [refR 73 s hv part nv R] (fun r L => r = .int .i64 (putQ (refF (hs.map PairD.e) no part key) R key bs).1 ∧
  L = [refR 73 s hv part nv (putQ (refF (hs.map PairD.e) no part key) R key bs).2]) := by
 obtain ⟨f, hf⟩ : ∃ f, f = refF (hs.map PairD.e) no part key := ⟨_, rfl⟩
 rw [← hf]
 refine fun46.spec rfl ?_
 conv=>whnf
 refine CallG.pure (may7_spec _ key v bs.length hr.len) ?_
 rintro _ _ ⟨rfl, rfl⟩
 conv=>whnf
 refine CondG.ndec (fun h1 => ?_) (fun h1 => ?_)
 ·have e1 : putQ f R key bs = (mayI key bs.length, R) := by unfold putQ; rw [if_pos h1]
  conv=>whnf
  rw [e1]
  exact ret_here ⟨rfl, rfl⟩
 conv=>whnf
 refine CallG.of (rest := []) (ask7_spec F s hv part nv hs no hh hhl hhv hn hnl (by omega) key) (Ent.refl _) ?_
 rintro _ _ ⟨rfl, d, hq, rfl⟩
 rw [← hf] at hq ⊢
 rw [List.append_nil]
 conv=>whnf
 refine CondG.ndec (fun h2 => ?_) (fun h2 => ?_)
 ·have e1 : putQ f R key bs = (askI f R key, askQ f R key) := by unfold putQ; rw [if_neg (fun h => h h1), if_neg h2]
  conv=>whnf
  rw [e1]
  exact ⟨_, Ent.pack0 (ls := fun d => RfD.pieces 73 s hv part nv (askQ f R key).bad d) hq, rfl, rfl⟩
 have e1 : putQ f R key bs = (askI f R key, { askQ f R key with steps := (askQ f R key).steps ++ [(key, bs)] }) := by unfold putQ; rw [if_neg (fun h => h h1), if_pos h2]
 rw [e1]
 have hal := getQ_told (R := R) (f := f) (key := key)
 have hap := askQ_steps (R := R) (f := f) (key := key)
 have has := hap.1
 have hbl := (mayI_le h1).1
 conv=>whnf
 obtain ⟨R1, hR1⟩ : ∃ R1, R1 = askQ f R key := ⟨_, rfl⟩
 rw [← hR1] at hq has ⊢
 have hsl := pairsE_len hq.ss
 have has2 : R1.steps.length = R.steps.length := by rw [has]
 refine DrawG.mk 13 (cel s 73 [hv, .bool part, nv, d.tv, d.sv, d.mv, .int .i64 R1.bad] :: own 2 d.tv d.ts.length (pairsC d.ts) :: own 1 d.mv d.marks.length (d.marks.map fun n : Nat => Value.int .i64 n) :: (pdS d.ts ++ pdS d.ss)) [own 2 d.sv d.ss.length (pairsC d.ss)] (Ent.front 2 rfl) ?_
 conv=>whnf
 refine .take 0 ?_
 conv=>whnf
 refine ⟨rfl, ?_⟩
 conv=>whnf
 refine .take 1 ?_
 conv=>whnf
 refine ⟨rfl, ?_⟩
 conv=>whnf
 refine .take 2 ?_
 conv=>whnf
 refine ⟨rfl, ?_⟩
 conv=>whnf
 refine .take 3 ?_
 conv=>whnf
 refine ⟨rfl, ?_⟩
 conv=>whnf
 refine .take 4 ?_
 conv=>whnf
 refine ⟨rfl, ?_⟩
 conv=>whnf
 refine LoadG.at (.here rfl) ?_
 conv=>whnf
 refine .take 5 ?_
 conv=>whnf
 refine ⟨rfl, ?_⟩
 conv=>whnf
 refine .take 6 ?_
 conv=>whnf
 refine ⟨rfl, ?_⟩
 conv=>whnf
 refine .all ?_
 conv=>whnf
 refine ⟨by decide, ?_⟩
 conv=>whnf
 refine CallG.pure (twin_spec _ v bs (.right (.right hr _) _) (by omega)) ?_
 rintro x _ ⟨hx, rfl⟩
 obtain ⟨xa, xc, hxe⟩ := hx.len
 conv=>whnf
 refine .all ?_
 conv=>whnf
 refine ⟨by decide, ?_⟩
 conv=>whnf
 refine BuildG.of (cs := [.string key, x]) (by rw [hxe]; rfl) ?_
 conv=>whnf
 refine .all ?_
 conv=>whnf
 refine ⟨by decide, ?_⟩
 conv=>whnf
 refine BuildG.of (cs := [.string key, x]) (by rw [hxe]; rfl) ?_
 conv=>whnf
 intro b
 conv=>whnf
 refine .all ?_
 conv=>whnf
 refine ⟨by decide, ?_⟩
 conv=>whnf
 refine DoesG.ent (Ent.front 2 rfl) ?_
 refine app_ownW pairsT 28 (m := 1) (ys := [.string key, x]) (.mk _ _ _ _ _ (Nat.le_refl _) (.tl (.left .all _))) rfl (by simp [Value.oneCell', hxe]) (by simp only [maxLen]; omega) (.wide (by omega)) fun sv2 hsv2 _ _ => ?_
 conv=>whnf
 refine .all ?_
 conv=>whnf
 refine ⟨by decide, ?_⟩
 conv=>whnf
 refine .all ?_
 conv=>whnf
 refine ⟨by decide, ?_⟩
 conv=>whnf
 refine .all ?_
 conv=>whnf
 refine ⟨by decide, ?_⟩
 conv=>whnf
 refine ⟨rfl, ?_⟩
 obtain ⟨sa, sc, rfl⟩ := hsv2.len
 conv=>whnf
 conv=>whnf
 refine StoreG.at rfl (Upd.tl (Upd.tl (Upd.tl (Upd.here (by simp) rfl)))) ?_
 conv=>whnf
 refine ⟨rfl, ?_⟩
 conv=>whnf
 rw [h2]
 have e2 : pairsC d.ss ++ [.string key, x] = pairsC (d.ss ++ [⟨key, x, bs⟩]) := by rw [pairsC_app]; rfl
 have e3 : (d.ss ++ [(⟨key, x, bs⟩ : PairD)]).length = d.ss.length + 1 := by simp
 refine ⟨_, ?_, rfl, rfl⟩
 refine Ent.trans ?_ (Ent.pack0 (φ := IsQ { R1 with steps := R1.steps ++ [(key, bs)] }) (ls := fun d => RfD.pieces 73 s hv part nv R1.bad d) (hq.put hx hbl hsv2))
 rw [e2]
 unfold RfD.pieces
 simp only [e3]
 refine (Ent.sel (T := pdS d.ts ++ pdS d.ss) (A := [_, _, _, _, _, _]) [3, 4, 0, 5, 2] rfl).trans (Ent.under ((sh_of_own rfl).trans (Ent.perm ?_)) [_, _, _, _])
 rw [pdS_app]
 show List.Perm (sh x bs :: (pdS d.ts ++ pdS d.ss)) (pdS d.ts ++ (pdS d.ss ++ [sh x bs]))
 have h := List.perm_append_comm (l₁ := [sh x bs]) (l₂ := pdS d.ts ++ pdS d.ss)
 simpa only [List.append_assoc, List.cons_append, List.nil_append] using h
theorem ints7 : ElT Tryz.prog 68 3 1 8 := .of (by kernel_rfl)
theorem mark7_spec (F : List HP) (s : Nat) (hv : Value) (part : Bool) (nv : Value) (hst : R.steps.length ≤ 4611686018427387904) (hm : R.marks.length ≤ 4398046511104) :
 SpecF Tryz.prog 23 [.pointer (some ⟨s, 0, none⟩)] F [refR 73 s hv part nv R] (fun r L => r = .int .i64 (markQ R).1 ∧ L = [refR 73 s hv part nv (markQ R).2]) := by
 refine SpecF.unpack0 fun d hq => ?_
 have hsl := pairsE_len hq.ss
 have hml : d.marks.length = R.marks.length := by rw [hq.marks]
 refine fun23.spec rfl ?_
 conv=>whnf
 refine DrawG.mk 14 (cel s 73 [hv, .bool part, nv, d.tv, d.sv, d.mv, .int .i64 R.bad] :: own 2 d.tv d.ts.length (pairsC d.ts) :: own 2 d.sv d.ss.length (pairsC d.ss) :: (pdS d.ts ++ pdS d.ss)) [own 1 d.mv d.marks.length (d.marks.map fun n : Nat => Value.int .i64 n)] (Ent.front 3 rfl) ?_
 conv=>whnf
 refine .take 0 ?_
 conv=>whnf
 refine ⟨rfl, ?_⟩
 conv=>whnf
 refine .take 1 ?_
 conv=>whnf
 refine ⟨rfl, ?_⟩
 conv=>whnf
 refine .take 2 ?_
 conv=>whnf
 refine ⟨rfl, ?_⟩
 conv=>whnf
 refine .take 3 ?_
 conv=>whnf
 refine ⟨rfl, ?_⟩
 conv=>whnf
 refine .take 4 ?_
 conv=>whnf
 refine ⟨rfl, ?_⟩
 conv=>whnf
 refine LoadG.at (.here rfl) ?_
 conv=>whnf
 refine .take 5 ?_
 conv=>whnf
 refine ⟨rfl, ?_⟩
 conv=>whnf
 refine .take 6 ?_
 conv=>whnf
 refine ⟨rfl, ?_⟩
 conv=>whnf
 refine .take 7 ?_
 conv=>whnf
 refine ⟨rfl, ?_⟩
 conv=>whnf
 refine .take 8 ?_
 conv=>whnf
 refine ⟨rfl, ?_⟩
 conv=>whnf
 refine LoadG.at (.here rfl) ?_
 conv=>whnf
 refine .take 9 ?_
 conv=>whnf
 refine ⟨rfl, ?_⟩
 conv=>whnf
 refine LenG.sl hq.ssv ?_
 conv=>whnf
 refine .all ?_
 conv=>whnf
 refine ⟨by decide, ?_⟩
 conv=>whnf
 refine BuildG.of rfl ?_
 conv=>whnf
 intro b
 conv=>whnf
 refine .all ?_
 conv=>whnf
 refine ⟨by decide, ?_⟩
 conv=>whnf
 refine DoesG.ent (Ent.front 1 rfl) ?_
 refine app_own ints7 68 (m := 1) (ys := [.int .i64 d.ss.length]) (.mk _ _ _ _ _ (Nat.le_refl _) (.tl (.left .all _))) rfl (by simp [Value.oneCell']) (by simp only [maxLen]; omega) (by omega) fun mv hmv' hml' _ => ?_
 conv=>whnf
 refine .all ?_
 conv=>whnf
 refine ⟨by decide, ?_⟩
 conv=>whnf
 refine .all ?_
 conv=>whnf
 refine ⟨by decide, ?_⟩
 conv=>whnf
 refine .all ?_
 conv=>whnf
 refine ⟨by decide, ?_⟩
 conv=>whnf
 refine ⟨rfl, ?_⟩
 obtain ⟨ma, mc, rfl⟩ := hmv'.len
 conv=>whnf
 refine StoreG.at rfl (Upd.tl (Upd.tl (Upd.here (by simp) rfl))) ?_
 conv=>whnf
 refine ⟨rfl, ?_⟩
 conv=>whnf
 refine LoadG.at (.tl (.tl (.here rfl))) ?_
 conv=>whnf
 refine LenG.lit ?_
 conv=>whnf
 refine ArithG.i64' (R.marks.length : Int) (by omega) (by omega) ?_
 conv=>whnf
 have e2 : (d.marks.map fun n : Nat => Value.int .i64 n) ++ [.int .i64 d.ss.length] = (d.marks ++ [d.ss.length]).map fun n : Nat => Value.int .i64 n := by simp
 have e3 : (d.marks ++ [d.ss.length]).length = d.marks.length + 1 := by simp
 refine ⟨_, ?_, rfl, rfl⟩
 refine Ent.trans ?_ (Ent.pack0 (φ := IsQ (markQ R).2) (ls := fun d => RfD.pieces 73 s hv part nv R.bad d) (hq.mark hmv'))
 rw [e2]
 unfold RfD.pieces
 simp only [e3]
 exact Ent.sel (T := pdS d.ts ++ pdS d.ss) (A := [_, _, _, _, _]) [2, 3, 4, 0] rfl
theorem back7_spec (F : List HP) (s : Nat) (hv : Value) (part : Bool) (nv : Value) (hst : R.steps.length ≤ 4611686018427387904) (hm : R.marks.length ≤ 4398046511104) (m : Int) (hm1 : -9223372036854775808 ≤ m) (hm2 : m ≤ 9223372036854775807) :
 SpecF Tryz.prog 25 [.pointer (some ⟨s, 0, none⟩), .int .i64 m] F [refR 73 s hv part nv R] (fun r L => r = .int .i64 (backQ R m).1 ∧ L = [refR 73 s hv part nv (backQ R m).2]) := by
 refine SpecF.unpack0 fun d hq => ?_
 have hsl := pairsE_len hq.ss
 have hml : d.marks.length = R.marks.length := by rw [hq.marks]
 refine fun25.spec rfl ?_
 conv=>whnf
 refine CondG.dec (fun h1 => ?_) (fun h1 => ?_)
 ·have e1 : backQ R m = (72, R) := by unfold backQ; rw [if_pos (.inl h1)]
  rw [e1]
  (conv=>whnf);refine .tt ?_;(conv=>whnf);refine .tt ?_;(conv=>whnf);refine .tt ?_;(conv=>whnf);refine .tt ?_;(conv=>whnf);refine .tt ?_;(conv=>whnf);refine .tt ?_;(conv=>whnf);refine .tt ?_;(conv=>whnf);refine .tt ?_;(conv=>whnf)
  exact ⟨_, Ent.pack0 (ls := fun d => RfD.pieces 73 s hv part nv R.bad d) hq, rfl, rfl⟩
 (conv=>whnf);refine .ff ?_;(conv=>whnf);refine .ff ?_;(conv=>whnf);refine .ff ?_;(conv=>whnf);refine .ff ?_;(conv=>whnf)
 refine LoadG.at (.here rfl) ?_
 (conv=>whnf);refine .ff ?_;(conv=>whnf)
 refine LenG.sl hq.smv ?_
 (conv=>whnf);refine .ff ?_;(conv=>whnf);refine .ff ?_;(conv=>whnf)
 refine CondG.dec (fun h2 => ?_) (fun h2 => ?_)
 ·have e1 : backQ R m = (72, R) := by unfold backQ; rw [if_pos (.inr (by omega))]
  rw [e1]
  conv=>whnf
  exact ⟨_, Ent.pack0 (ls := fun d => RfD.pieces 73 s hv part nv R.bad d) hq, rfl, rfl⟩
 have hlt : m.toNat < R.marks.length := by omega
 obtain ⟨k, rfl⟩ : ∃ k : Nat, m = k := ⟨m.toNat, (Int.toNat_of_nonneg (by omega)).symm⟩
 rw [Int.toNat_natCast] at hlt
 obtain ⟨at_, hat⟩ : ∃ a, R.marks[k]? = some a := ⟨R.marks[k], List.getElem?_eq_getElem hlt⟩
 have hle : at_ ≤ d.ss.length := by rw [hsl]; exact hq.top at_ (List.mem_of_getElem? hat)
 have hrm : RdS (d.pieces 73 s hv part nv R.bad) d.mv d.marks.length (d.marks.map fun n : Nat => Value.int .i64 n) := .tl (.tl (.tl (own_rd hq.smv (by simp))))
 obtain ⟨sa, sc, hse⟩ := hq.ssv.len
 obtain ⟨ma, mc, hme⟩ := hq.smv.len
 have hssv := hq.ssv
 have hsmv := hq.smv
 rw [hse] at hssv
 rw [hme] at hsmv
 have hcap : d.ss.length ≤ sc := by
  rcases hssv with ⟨h, h0⟩ | ⟨g, cap, h, hn⟩
  ·omega
  ·cases h; exact hn
 have hcap2 : d.marks.length ≤ mc := by
  rcases hsmv with ⟨h, h0⟩ | ⟨g, cap, h, hn⟩
  ·omega
  ·cases h; exact hn
 conv=>whnf
 refine DrawG.mk 15 (d.pieces 73 s hv part nv R.bad) [] (Ent.refl _) ?_
 conv=>whnf
 refine .take 0 ?_
 conv=>whnf
 refine ⟨rfl, ?_⟩
 conv=>whnf
 refine .take 1 ?_
 conv=>whnf
 refine ⟨rfl, ?_⟩
 conv=>whnf
 refine .take 2 ?_
 conv=>whnf
 refine ⟨rfl, ?_⟩
 conv=>whnf
 refine .take 3 ?_
 conv=>whnf
 refine ⟨rfl, ?_⟩
 conv=>whnf
 refine .take 4 ?_
 conv=>whnf
 refine ⟨rfl, ?_⟩
 conv=>whnf
 refine LoadG.at (.here rfl) ?_
 conv=>whnf
 refine .take 5 ?_
 conv=>whnf
 refine ⟨rfl, ?_⟩
 conv=>whnf
 refine .take 6 ?_
 conv=>whnf
 refine ⟨rfl, ?_⟩
 conv=>whnf
 refine .take 7 ?_
 conv=>whnf
 refine ⟨rfl, ?_⟩
 conv=>whnf
 refine .take 8 ?_
 conv=>whnf
 refine ⟨rfl, ?_⟩
 conv=>whnf
 refine LoadG.at (.here rfl) ?_
 conv=>whnf
 refine .take 9 ?_
 conv=>whnf
 refine ⟨rfl, ?_⟩
 conv=>whnf
 refine .take 10 ?_
 conv=>whnf
 refine ⟨rfl, ?_⟩
 conv=>whnf
 refine IdxG.rd (hrm) (by omega) fun b o hcl => ?_
 conv=>whnf
 refine .take 11 ?_
 conv=>whnf
 refine ⟨rfl, ?_⟩
 conv=>whnf
 refine LoadG.at (hcl.one (u := .int .i64 at_) (by rw [Int.toNat_natCast, Nat.mul_one, List.getElem?_map, hq.marks, hat]; rfl)) ?_
 conv=>whnf
 refine .all ?_
 conv=>whnf
 refine ⟨by decide, ?_⟩
 conv=>whnf
 rw [hse]
 refine SlcG.lit ?_
 conv=>whnf
 refine SideG.of (by omega) ?_
 conv=>whnf
 refine SliceG.zero ?_
 conv=>whnf
 refine .all ?_
 conv=>whnf
 refine ⟨by decide, ?_⟩
 conv=>whnf
 refine .all ?_
 conv=>whnf
 refine ⟨by decide, ?_⟩
 conv=>whnf
 refine .all ?_
 conv=>whnf
 refine ⟨by decide, ?_⟩
 conv=>whnf
 refine ⟨rfl, ?_⟩
 conv=>whnf
 refine StoreG.at rfl (Upd.here (by simp) rfl) ?_
 conv=>whnf
 refine ⟨rfl, ?_⟩
 conv=>whnf
 refine LoadG.at (.here rfl) ?_
 conv=>whnf
 refine ArithG.i64' ((k + 1 : Nat) : Int) (by omega) (by omega) ?_
 conv=>whnf
 rw [hme]
 refine SlcG.lit ?_
 conv=>whnf
 refine SideG.of (by omega) ?_
 conv=>whnf
 refine SliceG.zero ?_
 conv=>whnf
 refine StoreG.at rfl (Upd.here (by simp) rfl) ?_
 conv=>whnf
 have e1 : (backQ R k).1 = 0 := by unfold backQ; rw [if_neg (by omega)]
 rw [e1]
 have hb : (backQ R k).2.bad = R.bad := by unfold backQ; split <;> rfl
 refine ⟨_, ?_, rfl, rfl⟩
 have n1 : SlV (.slice sa at_ sc) at_ := by
  rcases hssv with ⟨h, h0⟩ | ⟨g, cap, h, hn⟩
  ·injection h with h3 h4 h5
   obtain rfl : at_ = 0 := by omega
   rw [h3, h5]
   exact .inl ⟨rfl, rfl⟩
  ·cases h
   exact .inr ⟨g, _, rfl, by omega⟩
 have n2 : SlV (.slice ma (k + 1) mc) (k + 1) := by
  rcases hsmv with ⟨h, h0⟩ | ⟨g, cap, h, hn⟩
  ·omega
  ·cases h
   exact .inr ⟨g, _, rfl, by omega⟩
 have hfin := Ent.pack0 (φ := IsQ (backQ R k).2) (ls := fun d => RfD.pieces 73 s hv part nv R.bad d) (hq.back hat n1 n2)
 have hp : refR 73 s hv part nv (backQ R k).2 = exL (IsQ (backQ R k).2) fun d => RfD.pieces 73 s hv part nv R.bad d := by
  unfold refR
  rw [hb]
 rw [hp]
 refine Ent.trans ?_ hfin
 have a1 : (d.ss.take at_).length = at_ := by rw [List.length_take]; omega
 have a2 : (d.marks.take (k + 1)).length = k + 1 := by rw [List.length_take]; omega
 have e4 : ((k + 1 : Nat) : Int).toNat = k + 1 := by omega
 simp only [RfD.pieces, a1, a2]
 rw [hse, ← pairsC_take, List.map_take]
 refine (Ent.under (own_take hle) [_, _]).trans ?_
 refine (Ent.under (own_take (k := k + 1) (by omega)) [_, _, _]).trans ?_
 rw [Nat.mul_one]
 exact Ent.under (Ent.under pdS_take (pdS d.ts)) [_, _, _, _]
theorem changes7T : ElT Tryz.prog 88 91 3 64 := .of (by kernel_rfl)
theorem changes7_spec (F : List HP) (s : Nat) (hv : Value) (part : Bool) (nv : Value) (hl : R.told.length ≤ 3500000000000) (hst : R.steps.length ≤ 4611686018427387904) :
 SpecF Tryz.prog 29 [.pointer (some ⟨s, 0, none⟩)] F [refR 73 s hv part nv R] (fun r L => ∃ l : List ChD, l.map (fun d => (d.key, d.old, d.new)) = changesQ R ∧ SlV r l.length ∧ l.length ≤ R.told.length ∧ (∀ d ∈ l, SlV d.ov d.old.length ∧ SlV d.nv d.new.length) ∧
  L = refR 73 s hv part nv R :: own 3 r l.length (l.flatMap ChD.cells) :: chS l) := by
 refine SpecF.unpack0 fun d hq => ?_
 have htl := pairsE_len hq.ts
 obtain ⟨A, hA⟩ : ∃ A, A = d.pieces 73 s hv part nv R.bad := ⟨_, rfl⟩
 have hrt : RdS A d.tv d.ts.length (pairsC d.ts) := by rw [hA]; exact .tl (own_rd hq.stv (pairsC_len d.ts))
 have ltv : Cel A s 3 d.tv := by rw [hA]; exact .here rfl
 have hin : ∀ p ∈ d.ts, RdS A p.v p.bs.length (bvs p.bs) := fun p hp => by rw [hA]; exact RfD.rdT hq hp
 have hvr := RfD.rd (T := 73) (s := s) (hv := hv) (part := part) (nv := nv) (bad := R.bad) hq
 rw [← hA] at hvr ⊢
 have hnow : ∀ key M, SpecF Tryz.prog 55 [.pointer (some ⟨s, 0, none⟩), .string key] ((M ++ A) ++ F) [] (fun r L => r = d.nowV key ∧ L = []) := fun key M w hw => by
  have h := now7_spec (M ++ F) s hv part nv R.bad hq (by omega) hst key w
  rw [← hA] at h
  exact (h (hw.perm (by
   have := (List.perm_append_comm (l₁ := M) (l₂ := A)).append_right F
   simpa only [List.append_assoc, List.nil_append] using this))).mono fun e w' ⟨v, L, he, ⟨hv, hL⟩, hx, hs⟩ => ⟨v, L, he, ⟨hv, hL⟩, hx, by
    subst hL
    exact hs.perm (by
     have := (List.perm_append_comm (l₁ := A) (l₂ := M)).append_right F
     simpa only [List.append_assoc, List.nil_append] using this)⟩
 have hchg : changesQ R = (d.ts.filter fun p => !decide (strB (R.val p.key) = strB p.bs)).map fun p => (p.key, p.bs, R.val p.key) := by
  unfold changesQ
  rw [← hq.ts, List.filter_map, List.map_map]
  rfl
 refine fun29.spec rfl ?_
 conv=>whnf
 refine LoopG.mk (fun m ev L => ∃ (i : Nat) (l : List ChD) (cv : Value), i ≤ d.ts.length ∧ m = d.ts.length - i ∧ SlV cv l.length ∧ l.length ≤ i ∧ (∀ d ∈ l, SlV d.ov d.old.length ∧ SlV d.nv d.new.length) ∧
  l.map (fun d => (d.key, d.old, d.new)) = ((d.ts.take i).filter fun p => !decide (strB (R.val p.key) = strB p.bs)).map (fun p => (p.key, p.bs, R.val p.key)) ∧
  ev = [(0, .pointer (some ⟨s, 0, none⟩)), (2, .slice none 0 0), (3, cv), (4, .int .i64 i)] ∧ L = own 3 cv l.length (l.flatMap ChD.cells) :: (chS l ++ A)) d.ts.length
  [(0, .pointer (some ⟨s, 0, none⟩)), (2, .slice none 0 0), (3, .slice none 0 0), (4, .int .i64 0)] (own 3 (.slice none 0 0) 0 [] :: (chS [] ++ A)) ⟨rfl, rfl, rfl, rfl, trivial⟩ (fun w G hs => Sat.own_nil hs)
  ⟨0, [], .slice none 0 0, Nat.zero_le _, rfl, .inl ⟨rfl, rfl⟩, Nat.le_refl _, fun d h => absurd h (List.not_mem_nil), by simp, rfl, rfl⟩ ?_
 rintro m ev L ⟨i, l, cv, hi, rfl, hcv, hll, hsv, hmap, rfl, rfl⟩
 conv=>whnf
 refine LoadG.at (.tl (ltv.right _)) ?_
 conv=>whnf
 refine LenG.sl hq.stv ?_
 conv=>whnf
 refine CondG.dec (fun hlt => ?_) (fun hlt => ?_)
 ·have hil : i < d.ts.length := by omega
  obtain ⟨p, hp⟩ : ∃ p, d.ts[i]? = some p := ⟨d.ts[i], List.getElem?_eq_getElem hil⟩
  obtain ⟨hp1, hp2⟩ := pairsC_get hp
  have hpm := List.mem_of_getElem? hp
  have hpi : d.ts[i] = p := by
   have := List.getElem?_eq_getElem hil
   rw [hp] at this
   exact (Option.some.inj this).symm
  have hil2 : R.told[i]? = some p.e := by rw [← hq.ts, List.getElem?_map, hp]; rfl
  obtain ⟨B, hB⟩ : ∃ B, B = own 3 cv l.length (l.flatMap ChD.cells) :: chS l := ⟨_, rfl⟩
  have hBA : own 3 cv l.length (l.flatMap ChD.cells) :: (chS l ++ A) = B ++ A := by rw [hB]; rfl
  rw [hBA]
  have hrt2 : RdS (B ++ A) d.tv d.ts.length (pairsC d.ts) := .right hrt B
  conv=>whnf
  refine LoadG.at (ltv.right _) ?_
  conv=>whnf
  refine IdxG.rd hrt2 (by omega) fun b9 o9 hc9 => ?_
  conv=>whnf
  refine LoadG.at (hc9.one (i := i * 2) (u := .string p.key) hp1) ?_
  conv=>whnf
  refine CallG.pure (hnow p.key B) ?_
  rintro _ _ ⟨rfl, rfl⟩
  obtain ⟨hv1, hv2⟩ := hvr p.key
  rw [hq.val] at hv1 hv2
  obtain ⟨v, hvv⟩ : ∃ v, v = d.nowV p.key := ⟨_, rfl⟩
  rw [← hvv] at hv1 ⊢
  conv=>whnf
  refine DrawG.mk 12 (B ++ A) [] (Ent.refl _) ?_
  conv=>whnf
  refine .take 0 ?_
  conv=>whnf
  refine ⟨rfl, ?_⟩
  conv=>whnf
  refine .take 2 ?_
  conv=>whnf
  refine ⟨rfl, ?_⟩
  conv=>whnf
  refine .take 3 ?_
  conv=>whnf
  refine ⟨rfl, ?_⟩
  conv=>whnf
  refine .take 4 ?_
  conv=>whnf
  refine ⟨rfl, ?_⟩
  conv=>whnf
  refine .take 5 ?_
  conv=>whnf
  refine ⟨rfl, ?_⟩
  conv=>whnf
  refine LoadG.at (ltv.right _) ?_
  conv=>whnf
  refine .take 6 ?_
  conv=>whnf
  refine ⟨rfl, ?_⟩
  conv=>whnf
  refine .take 7 ?_
  conv=>whnf
  refine ⟨rfl, ?_⟩
  conv=>whnf
  refine IdxG.rd hrt2 (by omega) fun b9 o9 hc9 => ?_
  conv=>whnf
  refine .take 8 ?_
  conv=>whnf
  refine ⟨rfl, ?_⟩
  conv=>whnf
  refine .take 9 ?_
  conv=>whnf
  refine ⟨rfl, ?_⟩
  conv=>whnf
  refine LoadG.at (hc9.one (i := i * 2 + 1) (u := p.v) hp2) ?_
  conv=>whnf
  refine .all ?_
  conv=>whnf
  refine ⟨by decide, ?_, ?_⟩
  conv=>whnf
  refine DoesG.toStr (e := 5) (bs := R.val p.key) (by kernel_rfl) (by kernel_rfl) (by kernel_rfl) (.right (.left (.right hv1 B) F) []) rfl ?_
  conv=>whnf
  refine .all ?_
  conv=>whnf
  refine ⟨by decide, ?_⟩
  conv=>whnf
  refine DoesG.toStr (e := 5) (bs := p.bs) (by kernel_rfl) (by kernel_rfl) (by kernel_rfl) (.right (.left (.right (hin p hpm) B) F) []) rfl ?_
  rotate_left
  conv=>whnf
  refine DoesG.toStr (e := 5) (bs := p.bs) (by kernel_rfl) (by kernel_rfl) (by kernel_rfl) (.right (.left (.right (hin p hpm) B) F) []) rfl ?_
  conv=>whnf
  refine .all ?_
  conv=>whnf
  refine ⟨by decide, ?_⟩
  conv=>whnf
  refine DoesG.toStr (e := 5) (bs := R.val p.key) (by kernel_rfl) (by kernel_rfl) (by kernel_rfl) (.right (.left (.right hv1 B) F) []) rfl ?_
  rotate_left
  all_goals
   conv=>whnf
   refine .take 11 ?_
   conv=>whnf
   refine ⟨rfl, ?_⟩
   conv=>whnf
   refine ⟨rfl, ?_⟩
   conv=>whnf
   refine CondG.split (fun ht => ?_) (fun ht => ?_)
   ·have htk : (!decide (strB (R.val p.key) = strB p.bs)) = true := ht
    conv=>whnf
    rw [hB]
    refine DrawG.mk 23 A (own 3 cv l.length (l.flatMap ChD.cells) :: chS l) (Ent.refl _) ?_
    conv=>whnf
    refine .take 0 ?_
    conv=>whnf
    refine ⟨rfl, ?_⟩
    conv=>whnf
    refine .take 1 ?_
    conv=>whnf
    refine ⟨rfl, ?_⟩
    conv=>whnf
    refine .take 2 ?_
    conv=>whnf
    refine ⟨rfl, ?_⟩
    conv=>whnf
    refine .take 3 ?_
    conv=>whnf
    refine ⟨rfl, ?_⟩
    conv=>whnf
    refine .take 4 ?_
    conv=>whnf
    refine ⟨rfl, ?_⟩
    conv=>whnf
    refine LoadG.at ltv ?_
    conv=>whnf
    refine .take 5 ?_
    conv=>whnf
    refine ⟨rfl, ?_⟩
    conv=>whnf
    refine .take 6 ?_
    conv=>whnf
    refine ⟨rfl, ?_⟩
    conv=>whnf
    refine IdxG.rd hrt (by omega) fun b9 o9 hc9 => ?_
    conv=>whnf
    refine .take 7 ?_
    conv=>whnf
    refine ⟨rfl, ?_⟩
    conv=>whnf
    refine .take 8 ?_
    conv=>whnf
    refine ⟨rfl, ?_⟩
    conv=>whnf
    refine LoadG.at (hc9.one (i := i * 2) (u := .string p.key) hp1) ?_
    conv=>whnf
    refine .take 9 ?_
    conv=>whnf
    refine ⟨rfl, ?_⟩
    conv=>whnf
    refine .take 10 ?_
    conv=>whnf
    refine ⟨rfl, ?_⟩
    conv=>whnf
    refine .take 11 ?_
    conv=>whnf
    refine ⟨rfl, ?_⟩
    conv=>whnf
    refine .take 12 ?_
    conv=>whnf
    refine ⟨rfl, ?_⟩
    conv=>whnf
    refine LoadG.at ltv ?_
    conv=>whnf
    refine .take 13 ?_
    conv=>whnf
    refine ⟨rfl, ?_⟩
    conv=>whnf
    refine .take 14 ?_
    conv=>whnf
    refine ⟨rfl, ?_⟩
    conv=>whnf
    refine IdxG.rd hrt (by omega) fun b9 o9 hc9 => ?_
    conv=>whnf
    refine .take 15 ?_
    conv=>whnf
    refine ⟨rfl, ?_⟩
    conv=>whnf
    refine .take 16 ?_
    conv=>whnf
    refine ⟨rfl, ?_⟩
    conv=>whnf
    refine LoadG.at (hc9.one (i := i * 2 + 1) (u := p.v) hp2) ?_
    conv=>whnf
    refine .take 18 ?_
    conv=>whnf
    refine ⟨rfl, ?_⟩
    conv=>whnf
    refine .all ?_
    conv=>whnf
    refine ⟨by decide, ?_⟩
    conv=>whnf
    refine CallG.pure (twin_spec _ p.v p.bs (.right (.left (hin p hpm) F) _) (by have := (hq.tw p hpm).2; omega)) ?_
    rintro ov _ ⟨hov, rfl⟩
    conv=>whnf
    refine .all ?_
    conv=>whnf
    refine ⟨by decide, ?_⟩
    conv=>whnf
    refine CallG.pure (twin_spec _ v (R.val p.key) (.right (.left hv1 F) _) (by omega)) ?_
    rintro nv2 _ ⟨hnv, rfl⟩
    obtain ⟨oa, oc, hoe⟩ := hov.len
    obtain ⟨na, nc, hne⟩ := hnv.len
    conv=>whnf
    refine .all ?_
    conv=>whnf
    refine ⟨by decide, ?_⟩
    conv=>whnf
    refine BuildG.of (cs := [.string p.key, ov, nv2]) (by rw [hoe, hne]; rfl) ?_
    conv=>whnf
    refine .all ?_
    conv=>whnf
    refine ⟨by decide, ?_⟩
    conv=>whnf
    refine BuildG.of (cs := [.string p.key, ov, nv2]) (by rw [hoe, hne]; rfl) ?_
    conv=>whnf
    intro b5
    conv=>whnf
    refine .all ?_
    conv=>whnf
    refine ⟨by decide, ?_⟩
    conv=>whnf
    refine DoesG.ent (Ent.front 3 rfl) ?_
    refine app_ownW changes7T 88 (m := 1) (ys := [.string p.key, ov, nv2]) (.mk _ _ _ _ _ (Nat.le_refl _) (.tl (.left .all _))) rfl (by simp [Value.oneCell', hoe, hne]) (by simp only [maxLen]; omega) (.wide (by omega)) fun cv2 hcv2 _ _ => ?_
    conv=>whnf
    refine .all ?_
    conv=>whnf
    refine ⟨by decide, ?_⟩
    conv=>whnf
    refine ⟨rfl, ?_⟩
    conv=>whnf
    refine ⟨rfl, ?_⟩
    conv=>whnf
    refine ArithG.i64' ((i + 1 : Nat) : Int) (by omega) (by omega) ?_
    conv=>whnf
    obtain ⟨e, he⟩ : ∃ e : ChD, e = ⟨p.key, ov, p.bs, nv2, R.val p.key⟩ := ⟨_, rfl⟩
    have e1 : own 3 cv2 (l.length + 1) (l.flatMap ChD.cells ++ [.string p.key, ov, nv2]) = own 3 cv2 (l ++ [e]).length ((l ++ [e]).flatMap ChD.cells) := by simp [he, ChD.cells]
    have e2 : chS (l ++ [e]) = chS l ++ [own 1 ov p.bs.length (bvs p.bs), own 1 nv2 (R.val p.key).length (bvs (R.val p.key))] := by simp [chS, he]
    rw [e1]
    refine ⟨d.ts.length - (i + 1), [(0, .pointer (some ⟨s, 0, none⟩)), (2, .slice none 0 0), (3, cv2), (4, .int .i64 ((i + 1 : Nat) : Int))], _, by omega, ⟨rfl, rfl, rfl, rfl, trivial⟩, ?_, i + 1, l ++ [e], cv2, by omega, rfl, by rw [List.length_append]; exact hcv2, by rw [List.length_append, List.length_singleton]; omega, fun x hx => ?_, ?_, rfl, rfl⟩
    ·rw [e2]
     refine (Ent.sel (T := chS l ++ A) (A := [_, _, _, _]) [0, 3, 2] rfl).trans (Ent.cons _ (Ent.perm ?_))
     have h := (List.perm_append_comm (l₁ := [own 1 ov p.bs.length (bvs p.bs), own 1 nv2 (R.val p.key).length (bvs (R.val p.key))]) (l₂ := chS l)).append_right A
     simp only [List.append_assoc, List.cons_append, List.nil_append] at h
     show List.Perm _ ((chS l ++ [_, _]) ++ A)
     rw [List.append_assoc]
     exact h
    ·rcases List.mem_append.1 hx with hx | hx
     ·exact hsv x hx
     ·rw [List.mem_singleton.1 hx, he]
      exact ⟨hov, hnv⟩
    ·rw [List.map_append, hmap, List.take_succ_eq_append_getElem hil, hpi, List.filter_append, List.map_append]
     simp [htk, he]
   ·have htk : (!decide (strB (R.val p.key) = strB p.bs)) = false := ht
    conv=>whnf
    refine ArithG.i64' ((i + 1 : Nat) : Int) (by omega) (by omega) ?_
    conv=>whnf
    refine ⟨d.ts.length - (i + 1), [(0, .pointer (some ⟨s, 0, none⟩)), (2, .slice none 0 0), (3, cv), (4, .int .i64 ((i + 1 : Nat) : Int))], _, by omega, ⟨rfl, rfl, rfl, rfl, trivial⟩, ?_, i + 1, l, cv, by omega, rfl, hcv, by omega, hsv, ?_, rfl, rfl⟩
    ·rw [hBA]
     exact Ent.refl _
    ·rw [hmap, List.take_succ_eq_append_getElem hil, hpi, List.filter_append, List.map_append]
     simp [htk]
 ·obtain rfl : i = d.ts.length := by omega
  rw [List.take_length, ← hchg] at hmap
  conv=>whnf
  refine ⟨_, ?_, l, hmap, hcv, by omega, hsv, rfl⟩
  have hfin := Ent.pack0 (φ := IsQ R) (ls := fun d => RfD.pieces 73 s hv part nv R.bad d) hq
  rw [← hA] at hfin
  refine (Ent.perm (?_ : (_ : List HP).Perm (A ++ (own 3 cv l.length (l.flatMap ChD.cells) :: chS l)))).trans (hfin.app _)
  exact List.perm_append_comm (l₁ := own 3 cv l.length (l.flatMap ChD.cells) :: chS l) (l₂ := A)
theorem strs7 : ElT Tryz.prog 86 9 1 16 := .of (by kernel_rfl)
theorem touched7_spec (F : List HP) (s : Nat) (hv : Value) (part : Bool) (nv : Value) (hl : R.told.length ≤ 3518437208882) :
 SpecF Tryz.prog 27 [.pointer (some ⟨s, 0, none⟩)] F [refR 73 s hv part nv R] (fun r L => SlV r (touchedQ R).length ∧ L = [own 1 r (touchedQ R).length (keysB (touchedQ R)), refR 73 s hv part nv R]) := by
 refine SpecF.unpack0 fun d hq => ?_
 have htl := pairsE_len hq.ts
 have hrt : RdS (d.pieces 73 s hv part nv R.bad) d.tv d.ts.length (pairsC d.ts) := .tl (own_rd hq.stv (pairsC_len d.ts))
 have hke : ∀ i p, d.ts[i]? = some p → touchedQ R = (R.told.take i).map (·.1) ++ p.key :: (R.told.drop (i + 1)).map (·.1) := fun i p hp => by
  unfold touchedQ
  have : R.told[i]? = some p.e := by rw [← hq.ts, List.getElem?_map, hp]; rfl
  obtain ⟨h1, h2⟩ := List.getElem?_eq_some_iff.1 this
  conv => lhs; rw [← List.take_append_drop i R.told, List.drop_eq_getElem_cons h1, h2]
  rw [List.map_append]
  rfl
 refine fun27.spec rfl ?_
 conv=>whnf
 refine LoopG.mk (fun m ev L => ∃ (i : Nat) (kv : Value), i ≤ d.ts.length ∧ m = d.ts.length - i ∧ SlV kv i ∧
  ev = [(0, .pointer (some ⟨s, 0, none⟩)), (2, .slice none 0 0), (3, kv), (4, .int .i64 i)] ∧ L = own 1 kv i (keysB ((R.told.take i).map (·.1))) :: d.pieces 73 s hv part nv R.bad) d.ts.length
  [(0, .pointer (some ⟨s, 0, none⟩)), (2, .slice none 0 0), (3, .slice none 0 0), (4, .int .i64 0)] (own 1 (.slice none 0 0) 0 [] :: d.pieces 73 s hv part nv R.bad) ⟨rfl, rfl, rfl, rfl, trivial⟩ (fun w G hs => Sat.own_nil hs)
  ⟨0, .slice none 0 0, Nat.zero_le _, rfl, .inl ⟨rfl, rfl⟩, rfl, rfl⟩ ?_
 rintro m ev L ⟨i, kv, hi, rfl, hkv, rfl, rfl⟩
 conv=>whnf
 refine LoadG.at (.tl (.here rfl)) ?_
 conv=>whnf
 refine LenG.sl hq.stv ?_
 conv=>whnf
 refine CondG.dec (fun hlt => ?_) (fun hlt => ?_)
 ·obtain ⟨p, hp⟩ : ∃ p, d.ts[i]? = some p := ⟨d.ts[i]'(by omega), List.getElem?_eq_getElem _⟩
  obtain ⟨hp1, hp2⟩ := pairsC_get hp
  have ht : R.told[i]? = some p.e := by rw [← hq.ts, List.getElem?_map, hp]; rfl
  conv=>whnf
  refine LoadG.at (.tl (.here rfl)) ?_
  conv=>whnf
  refine IdxG.rd (RdS.tl (p := own 1 kv i (keysB ((R.told.take i).map (·.1)))) hrt) (by omega) fun b9 o9 hc9 => ?_
  conv=>whnf
  refine LoadG.at (hc9.one (i := i * 2) (u := .string p.key) hp1) ?_
  conv=>whnf
  refine BuildG.of (cs := [.string p.key]) rfl ?_
  conv=>whnf
  intro b
  conv=>whnf
  refine DoesG.ent (Ent.front 1 rfl) ?_
  refine app_own strs7 86 (m := 1) (ys := [.string p.key]) (.mk _ _ _ _ _ (Nat.le_refl _) (.tl (.left .all _))) rfl (by simp [Value.oneCell']) (by simp only [maxLen]; omega) (by omega) fun kv2 hkv2 _ _ => ?_
  conv=>whnf
  refine ArithG.i64' ((i + 1 : Nat) : Int) (by omega) (by omega) ?_
  conv=>whnf
  have ek : keysB ((R.told.take i).map (·.1)) ++ [.string p.key] = keysB ((R.told.take (i + 1)).map (·.1)) := by
   obtain ⟨h1, h2⟩ := List.getElem?_eq_some_iff.1 ht
   rw [List.take_succ_eq_append_getElem h1, List.map_append, h2]
   simp [keysB, PairD.e]
  rw [ek]
  exact ⟨d.ts.length - (i + 1), [(0, .pointer (some ⟨s, 0, none⟩)), (2, .slice none 0 0), (3, kv2), (4, .int .i64 ((i + 1 : Nat) : Int))], _, by omega, ⟨rfl, rfl, rfl, rfl, trivial⟩, Ent.sel (T := d.pieces 73 s hv part nv R.bad) (A := [_, _]) [0] rfl, i + 1, kv2, by omega, rfl, hkv2, rfl, rfl⟩
 ·obtain rfl : i = d.ts.length := by omega
  conv=>whnf
  have e1 : (R.told.take d.ts.length) = R.told := by rw [htl, List.take_length]
  have e2 : (touchedQ R).length = d.ts.length := by rw [touchedQ, List.length_map, htl]
  rw [e1, e2]
  exact ⟨_, Ent.cons _ (Ent.pack0 (ls := fun d => RfD.pieces 73 s hv part nv R.bad d) hq), hkv, rfl⟩
theorem part7_spec (F : List HP) (hv : Value) (hl : ∃ a c n, hv = .slice a n c) : SpecF Tryz.prog 7 [hv] F [] (fun r L => ∃ s, r = .pointer (some ⟨s, 0, none⟩) ∧ L = [refR 73 s hv true (.slice none 0 0) ⟨[], [], [], 0⟩]) := by
 obtain ⟨a, c, n, rfl⟩ := hl
 refine fun7.spec rfl ?_
 conv=>whnf
 refine BuildG.of (cs := [.slice a n c, .bool true, .slice none 0 0, .slice none 0 0, .slice none 0 0, .slice none 0 0, .int .i64 0]) rfl ?_
 conv=>whnf
 intro s
 conv=>whnf
 refine ⟨_, ?_, s, rfl, rfl⟩
 refine Ent.trans ?_ (Ent.pack0 (φ := IsQ ⟨[], [], [], 0⟩) (ls := fun d => RfD.pieces 73 s (.slice a n c) true (.slice none 0 0) 0 d) (a := ⟨.slice none 0 0, [], .slice none 0 0, [], .slice none 0 0, []⟩) ⟨rfl, rfl, rfl, fun p h => absurd h (List.not_mem_nil), fun p h => absurd h (List.not_mem_nil), List.Pairwise.nil, fun m h => absurd h (List.not_mem_nil), .inl ⟨rfl, rfl⟩, .inl ⟨rfl, rfl⟩, .inl ⟨rfl, rfl⟩⟩)
 intro w G hs
 show Sat w (cel s 73 _ :: own 2 (.slice none 0 0) 0 [] :: own 2 (.slice none 0 0) 0 [] :: own 1 (.slice none 0 0) 0 [] :: G)
 have h1 : Sat w (own 2 (.slice none 0 0) 0 [] :: own 2 (.slice none 0 0) 0 [] :: own 1 (.slice none 0 0) 0 [] :: cel s 73 [.slice a n c, .bool true, .slice none 0 0, .slice none 0 0, .slice none 0 0, .slice none 0 0, .int .i64 0] :: G) := Sat.own_nil (Sat.own_nil (Sat.own_nil hs))
 exact h1.perm (List.perm_middle (l₁ := [own 2 (.slice none 0 0) 0 [], own 2 (.slice none 0 0) 0 [], own 1 (.slice none 0 0) 0 []]))
end
end Go.Proofs.YtmfonkklmndhjaaGreatDoor
