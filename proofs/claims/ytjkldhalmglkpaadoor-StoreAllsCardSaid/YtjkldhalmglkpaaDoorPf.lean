import Derived.Test.YtjkldhalmglkpaaDoorSd
import Derived.Test.YtjkldhalmglkpaaDoorZPa
import Derived.Test.YtjkldhalmglkpaaDoorZMk
namespace Go.Proofs.YtjkldhalmglkpaaDoor
open Go Go.Sl
theorem pairsT : ElT Tryd.prog 22 34 2 40 := .of (by kernel_rfl)
theorem may7_spec (F : List HP) (key : ByteArray) (v : Value) (n : Nat) (hv : ∃ a c, v = .slice a n c) : SpecF Tryd.prog 13 [.string key, v] F [] (fun r L => r = .int .i64 (mayI key n) ∧ L = []) := by
 obtain ⟨va, vc, rfl⟩ := hv
 refine fun13.spec rfl ?_
 conv=>whnf
 refine CondG.dec (fun h1 => ?_) (fun h1 => ?_)
 ·(conv=>whnf);refine .tt ?_;(conv=>whnf);refine .tt ?_;(conv=>whnf);refine .tt ?_;(conv=>whnf);refine .tt ?_;(conv=>whnf)
  refine ret_here ⟨congrArg (Value.int .i64) ?_, rfl⟩
  unfold mayI
  rw [if_pos (.inl (by omega))]
 (conv=>whnf);refine .ff ?_;(conv=>whnf);refine .ff ?_;(conv=>whnf);refine .ff ?_;(conv=>whnf)
 refine CondG.dec (fun h2 => ?_) (fun h2 => ?_)
 ·conv=>whnf
  refine ret_here ⟨congrArg (Value.int .i64) ?_, rfl⟩
  unfold mayI
  rw [if_pos (.inr (by omega))]
 conv=>whnf
 refine LenG.lit ?_
 conv=>whnf
 refine CondG.dec (fun h3 => ?_) (fun h3 => ?_)
 ·conv=>whnf
  refine ret_here ⟨congrArg (Value.int .i64) ?_, rfl⟩
  unfold mayI
  rw [if_neg (by omega), if_pos (by omega)]
 conv=>whnf
 refine ret_here ⟨congrArg (Value.int .i64) ?_, rfl⟩
 unfold mayI
 rw [if_neg (by omega), if_neg (by omega)]
theorem twin_spec (F : List HP) (v : Value) (bs : List Nat) (hv : RdS F v bs.length (bvs bs)) (hl : bs.length ≤ 1099511627776) : SpecF Tryd.prog 75 [v] F [] (fun r L => SlV r bs.length ∧ L = [own 1 r bs.length (bvs bs)]) := by
 obtain ⟨va, vc, rfl⟩ := hv.len
 refine fun75.spec rfl ?_
 conv=>whnf
 refine LenG.lit ?_
 conv=>whnf
 refine DoesG.makeG bytesT .i64 .i64 (by omega) (by simp only [maxLen]; omega) fun b zs hz => ?_
 conv=>whnf
 refine DoesG.copyS (o := 0) (cs := bvs bs) bytesT.und (by kernel_rfl) (.tl (.right hv _)) (bvs_len bs) (Nat.le_refl _) (by omega) (bvs_one _) (cur' := bvs bs) (by
  rw [List.take_zero, List.nil_append, List.drop_eq_nil_of_le (by omega), List.append_nil]) ?_
 conv=>whnf
 refine ⟨_, own_of_cel (n := bs.length) (sz := 1) (by rw [bvs_len, Nat.mul_one]) (by simp only [maxLen]; omega), .inr ⟨b, bs.length, rfl, Nat.le_refl _⟩, rfl⟩
theorem with_spec (F : List HP) (lv : Value) (ls : List PairD) (hr : RdS F lv ls.length (pairsC ls)) (key : ByteArray) (v : Value) (bs : List Nat) (hv : RdS F v bs.length (bvs bs)) (hb : bs.length ≤ 4096) (hl : ls.length ≤ 3518437208882) (hok : ∀ p ∈ ls, p.v.oneCell' = true) :
 SpecF Tryd.prog 50 [lv, .string key, v] F [] (fun r L => ∃ x, SlV x bs.length ∧ SlV r (withL PairD.key key ⟨key, x, bs⟩ false ls).length ∧
  L = [own 2 r (withL PairD.key key ⟨key, x, bs⟩ false ls).length (pairsC (withL PairD.key key ⟨key, x, bs⟩ false ls)), own 1 x bs.length (bvs bs)]) := by
 obtain ⟨la, lc, rfl⟩ := hr.len
 refine fun50.spec rfl ?_
 conv=>whnf
 refine LoopG.mk (fun m ev L => ∃ (i : Nat) (d : Bool) (out : List PairD) (ov x : Value), i ≤ ls.length ∧ m = ls.length - i ∧ SlV ov out.length ∧ out.length ≤ i + (if d then 1 else 0) ∧ (d = true → SlV x bs.length) ∧
  (∀ new : PairD, (d = true → new = ⟨key, x, bs⟩) → out ++ withL PairD.key key new d (ls.drop i) = withL PairD.key key new false ls) ∧
  ev = [(0, .slice la ls.length lc), (1, .string key), (2, v), (6, .slice none 0 0), (7, ov), (8, .bool d), (9, .int .i64 i)] ∧ L = own 2 ov out.length (pairsC out) :: (if d then [own 1 x bs.length (bvs bs)] else [])) ls.length
  [(0, .slice la ls.length lc), (1, .string key), (2, v), (6, .slice none 0 0), (7, .slice none 0 0), (8, .bool false), (9, .int .i64 0)] [own 2 (.slice none 0 0) 0 (pairsC [])] ⟨rfl, rfl, rfl, rfl, rfl, rfl, rfl, trivial⟩ (fun w G hs => Sat.own_nil hs)
  ⟨0, false, [], .slice none 0 0, .slice none 0 0, Nat.zero_le _, rfl, .inl ⟨rfl, rfl⟩, Nat.le_refl _, fun h => absurd h (by decide), fun _ _ => rfl, rfl, rfl⟩ ?_
 rintro m ev L ⟨i, d, out, ov, x, hi, rfl, hov, hol, hx, hw, rfl, rfl⟩
 conv=>whnf
 refine LenG.lit ?_
 conv=>whnf
 refine CondG.dec (fun hlt => ?_) (fun hlt => ?_)
 ·have hi' : i < ls.length := by omega
  obtain ⟨p, hp⟩ : ∃ p, ls[i]? = some p := ⟨ls[i], List.getElem?_eq_getElem hi'⟩
  obtain ⟨hp1, hp2⟩ := pairsC_get hp
  have hpo := hok p (List.mem_of_getElem? hp)
  have hpc : ∀ u ∈ p.cells, u.oneCell' = true := by
   intro u hu
   simp only [PairD.cells, List.mem_cons, List.not_mem_nil, or_false] at hu
   rcases hu with rfl | rfl
   ·rfl
   ·exact hpo
  cases d with
  | true =>
   have hx' := hx rfl
   have hws := fun new h => (hw new h).symm.trans (by rw [withL_step PairD.key key new true hp])
   simp only [Bool.not_true, Bool.false_and, Bool.true_or, Bool.false_eq_true, if_false, List.nil_append] at hws
   have hol1 : out.length ≤ i + 1 := hol
   (conv=>whnf);repeat((with_reducible first|refine .ff ?_|refine .nff ?_);conv=>whnf)
   refine IdxG.rd hr (by omega) fun b9 o9 hc9 => ?_
   conv=>whnf
   refine LoadG.atF (hc9.one (i := i * 2) (u := .string p.key) hp1) ?_
   conv=>whnf
   refine CondG.ndec (fun hne => ?_) (fun heq => ?_)
   ·conv=>whnf
    refine IdxG.rd hr (by omega) fun b8 o8 hc8 => ?_
    conv=>whnf
    refine LoadNG.atF (vs := p.cells) rfl (hc8.part (i := i * 2) (pairsC_at hp)) ?_
    conv=>whnf
    refine BuildG.of (cs := p.cells) rfl ?_
    conv=>whnf
    intro b6
    conv=>whnf
    refine DoesG.ent (Ent.front 1 rfl) ?_
    refine app_own pairsT 22 (m := 1) (ys := p.cells) (.mk _ _ _ _ _ (Nat.le_refl _) (.tl (.left .all _))) rfl hpc (by simp only [maxLen]; omega) (by omega) fun ov2 hov2 hl2 _ => ?_
    conv=>whnf
    refine ArithG.i64' ((i + 1 : Nat) : Int) (by omega) (by omega) ?_
    conv=>whnf
    have eo : pairsC out ++ p.cells = pairsC (out ++ [p]) := by rw [pairsC_app]; simp [pairsC]
    have el : (out ++ [p]).length = (out).length + 1 := by rw [List.length_append]; rfl
    rw [eo]
    refine ⟨ls.length - (i + 1), [(0, .slice la ls.length lc), (1, .string key), (2, v), (6, .slice none 0 0), (7, ov2), (8, .bool true), (9, .int .i64 (i + 1 : Nat))], _, by omega, ⟨rfl, rfl, rfl, rfl, rfl, rfl, rfl, trivial⟩, ?_, i + 1, true, out ++ [p], ov2, x, by omega, rfl, by rw [el]; exact hov2, by rw [el]; simp; omega, (fun _ => hx'), fun new hn => ?_, rfl, rfl⟩
    ·rw [el]
     exact Ent.sel (T := []) (A := [_, _, _]) [0, 2] rfl
    ·rw [hws new (by first | exact hn | exact fun h => h.elim | exact fun _ => hn rfl), if_neg hne]
     simp
   ·conv=>whnf
    refine ArithG.i64' ((i + 1 : Nat) : Int) (by omega) (by omega) ?_
    conv=>whnf
    refine ⟨ls.length - (i + 1), [(0, .slice la ls.length lc), (1, .string key), (2, v), (6, .slice none 0 0), (7, ov), (8, .bool true), (9, .int .i64 (i + 1 : Nat))], _, by omega, ⟨rfl, rfl, rfl, rfl, rfl, rfl, rfl, trivial⟩, ?_, i + 1, true, out, ov, x, by omega, rfl, hov, by simp; omega, (fun _ => hx'), fun new hn => ?_, rfl, rfl⟩
    ·exact Ent.sel (T := []) (A := [_, _]) [0, 1] rfl
    ·rw [hws new (by first | exact hn | exact fun h => h.elim | exact fun _ => hn rfl), if_pos heq]
     simp
  | false =>
   have hws := fun new h => (hw new h).symm.trans (by rw [withL_step PairD.key key new false hp])
   simp only [Bool.not_false, Bool.true_and, Bool.false_or] at hws
   have hol0 : out.length ≤ i := hol
   (conv=>whnf);repeat((with_reducible first|refine .tt ?_|refine .ntt ?_);conv=>whnf)
   refine IdxG.rd hr (by omega) fun b7 o7 hc7 => ?_
   (conv=>whnf);refine .tt ?_;(conv=>whnf);refine .tt ?_;(conv=>whnf)
   refine LoadG.atF (hc7.one (i := i * 2) (u := .string p.key) hp1) ?_
   (conv=>whnf);refine .tt ?_;(conv=>whnf);refine .tt ?_;(conv=>whnf)
   refine DoesG.geq ?_
   (conv=>whnf);refine .tt ?_;(conv=>whnf)
   refine CondG.split (fun hge => ?_) (fun hge => ?_)
   ·simp only [hge, if_true] at hws
    conv=>whnf
    refine CallG.pure (twin_spec _ v bs (.right hv _) (by omega)) ?_
    rintro x _ ⟨hx', rfl⟩
    obtain ⟨xa, xc, hxe⟩ := hx'.len
    conv=>whnf
    refine BuildG.of (cs := [.string key, x]) (by rw [hxe]; rfl) ?_
    conv=>whnf
    refine BuildG.of (cs := [.string key, x]) (by rw [hxe]; rfl) ?_
    conv=>whnf
    intro b5
    conv=>whnf
    refine DoesG.ent (Ent.front 2 rfl) ?_
    refine app_own pairsT 22 (m := 1) (ys := [.string key, x]) (.mk _ _ _ _ _ (Nat.le_refl _) (.tl (.left .all _))) rfl (by simp [Value.oneCell', hxe]) (by simp only [maxLen]; omega) (by omega) fun ov1 hov1 hl1 _ => ?_
    conv=>whnf
    have eo1 : pairsC out ++ [.string key, x] = pairsC (out ++ [⟨key, x, bs⟩]) := by rw [pairsC_app]; rfl
    have el1 : (out ++ [(⟨key, x, bs⟩ : PairD)]).length = out.length + 1 := by simp
    have hol1 : (out ++ [(⟨key, x, bs⟩ : PairD)]).length ≤ i + 1 := by simp at hol; omega
    have hws2 : ∀ new : PairD, (true = true → new = ⟨key, x, bs⟩) → (out ++ [⟨key, x, bs⟩]) ++ ((if p.key = key then [] else [p]) ++ withL PairD.key key new true (ls.drop (i + 1))) = withL PairD.key key new false ls := fun new h => by
     rw [hws new (fun h2 => by cases h2), h rfl]
     simp
    clear hws
    have hws := fun new h => (hws2 new h).symm
    rw [eo1, ← el1]
    rw [← el1] at hov1
    refine IdxG.rd hr (by omega) fun b9 o9 hc9 => ?_
    conv=>whnf
    refine LoadG.atF (hc9.one (i := i * 2) (u := .string p.key) hp1) ?_
    conv=>whnf
    refine CondG.ndec (fun hne => ?_) (fun heq => ?_)
    ·conv=>whnf
     refine IdxG.rd hr (by omega) fun b8 o8 hc8 => ?_
     conv=>whnf
     refine LoadNG.atF (vs := p.cells) rfl (hc8.part (i := i * 2) (pairsC_at hp)) ?_
     conv=>whnf
     refine BuildG.of (cs := p.cells) rfl ?_
     conv=>whnf
     intro b6
     conv=>whnf
     refine DoesG.ent (Ent.front 1 rfl) ?_
     refine app_own pairsT 22 (m := 1) (ys := p.cells) (.mk _ _ _ _ _ (Nat.le_refl _) (.tl (.left .all _))) rfl hpc (by simp only [maxLen]; omega) (by omega) fun ov2 hov2 hl2 _ => ?_
     conv=>whnf
     refine ArithG.i64' ((i + 1 : Nat) : Int) (by omega) (by omega) ?_
     conv=>whnf
     have eo : pairsC (out ++ [(⟨key, x, bs⟩ : PairD)]) ++ p.cells = pairsC ((out ++ [(⟨key, x, bs⟩ : PairD)]) ++ [p]) := by rw [pairsC_app]; simp [pairsC]
     have el : ((out ++ [(⟨key, x, bs⟩ : PairD)]) ++ [p]).length = ((out ++ [(⟨key, x, bs⟩ : PairD)])).length + 1 := by rw [List.length_append]; rfl
     rw [eo]
     refine ⟨ls.length - (i + 1), [(0, .slice la ls.length lc), (1, .string key), (2, v), (6, .slice none 0 0), (7, ov2), (8, .bool true), (9, .int .i64 (i + 1 : Nat))], _, by omega, ⟨rfl, rfl, rfl, rfl, rfl, rfl, rfl, trivial⟩, ?_, i + 1, true, (out ++ [(⟨key, x, bs⟩ : PairD)]) ++ [p], ov2, x, by omega, rfl, by rw [el]; exact hov2, by rw [el]; simp; omega, (fun _ => hx'), fun new hn => ?_, rfl, rfl⟩
     ·rw [el]
      exact Ent.sel (T := []) (A := [_, _, _, _]) [0, 3] rfl
     ·rw [hws new (by first | exact hn | exact fun h => h.elim | exact fun _ => hn rfl), if_neg hne]
      simp
    ·conv=>whnf
     refine ArithG.i64' ((i + 1 : Nat) : Int) (by omega) (by omega) ?_
     conv=>whnf
     refine ⟨ls.length - (i + 1), [(0, .slice la ls.length lc), (1, .string key), (2, v), (6, .slice none 0 0), (7, ov1), (8, .bool true), (9, .int .i64 (i + 1 : Nat))], _, by omega, ⟨rfl, rfl, rfl, rfl, rfl, rfl, rfl, trivial⟩, ?_, i + 1, true, (out ++ [(⟨key, x, bs⟩ : PairD)]), ov1, x, by omega, rfl, hov1, by simp; omega, (fun _ => hx'), fun new hn => ?_, rfl, rfl⟩
     ·exact Ent.sel (T := []) (A := [_, _, _]) [0, 2] rfl
     ·rw [hws new (by first | exact hn | exact fun h => h.elim | exact fun _ => hn rfl), if_pos heq]
      simp
   ·simp only [hge, if_false, List.nil_append, Bool.false_eq_true] at hws
    have hol1 : out.length ≤ i + 1 := by simp at hol; omega
    conv=>whnf
    refine IdxG.rd hr (by omega) fun b9 o9 hc9 => ?_
    conv=>whnf
    refine LoadG.atF (hc9.one (i := i * 2) (u := .string p.key) hp1) ?_
    conv=>whnf
    refine CondG.ndec (fun hne => ?_) (fun heq => ?_)
    ·conv=>whnf
     refine IdxG.rd hr (by omega) fun b8 o8 hc8 => ?_
     conv=>whnf
     refine LoadNG.atF (vs := p.cells) rfl (hc8.part (i := i * 2) (pairsC_at hp)) ?_
     conv=>whnf
     refine BuildG.of (cs := p.cells) rfl ?_
     conv=>whnf
     intro b6
     conv=>whnf
     refine DoesG.ent (Ent.front 1 rfl) ?_
     refine app_own pairsT 22 (m := 1) (ys := p.cells) (.mk _ _ _ _ _ (Nat.le_refl _) (.tl (.left .all _))) rfl hpc (by simp only [maxLen]; omega) (by omega) fun ov2 hov2 hl2 _ => ?_
     conv=>whnf
     refine ArithG.i64' ((i + 1 : Nat) : Int) (by omega) (by omega) ?_
     conv=>whnf
     have eo : pairsC out ++ p.cells = pairsC (out ++ [p]) := by rw [pairsC_app]; simp [pairsC]
     have el : (out ++ [p]).length = (out).length + 1 := by rw [List.length_append]; rfl
     rw [eo]
     refine ⟨ls.length - (i + 1), [(0, .slice la ls.length lc), (1, .string key), (2, v), (6, .slice none 0 0), (7, ov2), (8, .bool false), (9, .int .i64 (i + 1 : Nat))], _, by omega, ⟨rfl, rfl, rfl, rfl, rfl, rfl, rfl, trivial⟩, ?_, i + 1, false, out ++ [p], ov2, x, by omega, rfl, by rw [el]; exact hov2, by rw [el]; simp; omega, (fun h => absurd h (by decide)), fun new hn => ?_, rfl, rfl⟩
     ·rw [el]
      exact Ent.sel (T := []) (A := [_, _]) [0] rfl
     ·rw [hws new (by first | exact hn | exact fun h => h.elim | exact fun _ => hn rfl), if_neg hne]
      simp
    ·conv=>whnf
     refine ArithG.i64' ((i + 1 : Nat) : Int) (by omega) (by omega) ?_
     conv=>whnf
     refine ⟨ls.length - (i + 1), [(0, .slice la ls.length lc), (1, .string key), (2, v), (6, .slice none 0 0), (7, ov), (8, .bool false), (9, .int .i64 (i + 1 : Nat))], _, by omega, ⟨rfl, rfl, rfl, rfl, rfl, rfl, rfl, trivial⟩, ?_, i + 1, false, out, ov, x, by omega, rfl, hov, by simp; omega, (fun h => absurd h (by decide)), fun new hn => ?_, rfl, rfl⟩
     ·exact Ent.sel (T := []) (A := [_]) [0] rfl
     ·rw [hws new (by first | exact hn | exact fun h => h.elim | exact fun _ => hn rfl), if_pos heq]
      simp
 ·obtain rfl : i = ls.length := by omega
  have hdr : ls.drop ls.length = [] := List.drop_length
  cases d with
  | true =>
   have hx' := hx rfl
   have ew := hw ⟨key, x, bs⟩ (fun _ => rfl)
   rw [hdr] at ew
   have ew2 : out = withL PairD.key key ⟨key, x, bs⟩ false ls := by rw [← ew]; simp [withL]
   (conv=>whnf);refine .nff ?_;(conv=>whnf)
   refine ret_here ⟨x, hx', ?_, ?_⟩
   ·rw [← ew2]; exact hov
   ·rw [← ew2]; rfl
  | false =>
   have hol0 : out.length ≤ ls.length := hol
   (conv=>whnf);refine .ntt ?_;(conv=>whnf)
   refine CallG.pure (twin_spec _ v bs (.right hv _) (by omega)) ?_
   rintro x _ ⟨hx', rfl⟩
   obtain ⟨xa, xc, hxe⟩ := hx'.len
   have ew := hw ⟨key, x, bs⟩ (fun h => absurd h (by decide))
   rw [hdr] at ew
   have ew2 : out ++ [⟨key, x, bs⟩] = withL PairD.key key ⟨key, x, bs⟩ false ls := by rw [← ew]; simp [withL]
   conv=>whnf
   refine BuildG.of (cs := [.string key, x]) (by rw [hxe]; rfl) ?_
   conv=>whnf
   refine BuildG.of (cs := [.string key, x]) (by rw [hxe]; rfl) ?_
   conv=>whnf
   intro b5
   conv=>whnf
   refine DoesG.ent (Ent.front 2 rfl) ?_
   refine app_own pairsT 22 (m := 1) (ys := [.string key, x]) (.mk _ _ _ _ _ (Nat.le_refl _) (.tl (.left .all _))) rfl (by simp [Value.oneCell', hxe]) (by simp only [maxLen]; omega) (by omega) fun ov1 hov1 hl1 _ => ?_
   conv=>whnf
   have eo1 : pairsC out ++ [.string key, x] = pairsC (out ++ [⟨key, x, bs⟩]) := by rw [pairsC_app]; rfl
   have el1 : (out ++ [(⟨key, x, bs⟩ : PairD)]).length = out.length + 1 := by simp
   rw [eo1, ← el1, ew2]
   rw [← el1, ew2] at hov1
   exact ⟨_, Ent.sel (T := []) (A := [_, _, _]) [0, 2] rfl, x, hx', hov1, rfl⟩
theorem put7_spec (F : List HP) (lv : Value) (ls : List PairD) (hr : RdS F lv ls.length (pairsC ls)) (key : ByteArray) (v : Value) (bs : List Nat) (hv : RdS F v bs.length (bvs bs)) (hl : ls.length ≤ 3518437208882) (hok : ∀ p ∈ ls, SlV p.v p.bs.length) :
 SpecF Tryd.prog 18 [lv, .string key, v] F [] (fun r L => (mayI key bs.length ≠ 0 ∧ r = .tuple #[lv, .int .i64 (mayI key bs.length)] ∧ L = []) ∨
  (mayI key bs.length = 0 ∧ ∃ x ov out, SlV x bs.length ∧ SlV ov out.length ∧ out = (withL PairD.key key ⟨key, x, bs⟩ false ls).filter (fun p => decide (0 < p.bs.length)) ∧ r = .tuple #[ov, .int .i64 0] ∧
   L = [own 2 ov out.length (pairsC out), own 1 x bs.length (bvs bs)])) := by
 refine fun18.spec rfl ?_
 conv=>whnf
 refine CallG.pure (may7_spec _ key v bs.length hv.len) ?_
 rintro _ _ ⟨rfl, rfl⟩
 conv=>whnf
 refine CondG.ndec (fun hne => ?_) (fun heq => ?_)
 ·conv=>whnf
  exact ret_here (.inl ⟨hne, rfl, rfl⟩)
 conv=>whnf
 refine CallG.pure (with_spec _ lv ls (.right hr _) key v bs (.right hv _) (mayI_le heq).1 hl (fun p hp => by obtain ⟨a, c, h⟩ := (hok p hp).len; rw [h]; rfl)) ?_
 rintro mv _ ⟨x, hx, hmv, rfl⟩
 obtain ⟨more, hmore⟩ : ∃ z, z = withL PairD.key key ⟨key, x, bs⟩ false ls := ⟨_, rfl⟩
 rw [← hmore] at hmv ⊢
 have hmok : ∀ p ∈ more, SlV p.v p.bs.length := fun p hp => by
  rw [hmore] at hp
  rcases withL_mem PairD.key hp with rfl | ⟨h, _⟩
  ·exact hx
  ·exact hok p h
 have hml : more.length ≤ 3518437208883 := by
  have := withL_len PairD.key key (⟨key, x, bs⟩ : PairD) ls false
  rw [← hmore] at this
  simp at this
  omega
 obtain ⟨ma, mc, rfl⟩ := hmv.len
 conv=>whnf
 refine LoopG.mk (fun m ev L => ∃ (i : Nat) (out : List PairD) (ov : Value), i ≤ more.length ∧ m = more.length - i ∧ SlV ov out.length ∧ out.length ≤ i ∧
  out ++ (more.drop i).filter (fun p => decide (0 < p.bs.length)) = more.filter (fun p => decide (0 < p.bs.length)) ∧
  ev = [(6, .slice none 0 0), (7, .int .i64 0), (9, ov), (10, .slice ma more.length mc), (11, .int .i64 i)] ∧ L = [own 2 ov out.length (pairsC out), own 2 (.slice ma more.length mc) more.length (pairsC more), own 1 x bs.length (bvs bs)]) more.length
  [(6, .slice none 0 0), (7, .int .i64 0), (9, .slice none 0 0), (10, .slice ma more.length mc), (11, .int .i64 0)] [own 2 (.slice none 0 0) 0 (pairsC []), own 2 (.slice ma more.length mc) more.length (pairsC more), own 1 x bs.length (bvs bs)] ⟨rfl, rfl, rfl, rfl, rfl, trivial⟩ (fun w G hs => Sat.own_nil hs)
  ⟨0, [], .slice none 0 0, Nat.zero_le _, rfl, .inl ⟨rfl, rfl⟩, Nat.le_refl _, rfl, rfl, rfl⟩ ?_
 rintro m ev L ⟨i, out, ov, hi, rfl, hov, hol, hw, rfl, rfl⟩
 conv=>whnf
 refine LenG.lit ?_
 conv=>whnf
 refine CondG.dec (fun hlt => ?_) (fun hlt => ?_)
 ·have hi' : i < more.length := by omega
  obtain ⟨p, hp⟩ : ∃ p, more[i]? = some p := ⟨more[i], List.getElem?_eq_getElem hi'⟩
  obtain ⟨hp1, hp2⟩ := pairsC_get hp
  have hps := hmok p (List.mem_of_getElem? hp)
  obtain ⟨pa, pc, hpe⟩ := hps.len
  have hrm : RdS [own 2 ov out.length (pairsC out), own 2 (.slice ma more.length mc) more.length (pairsC more), own 1 x bs.length (bvs bs)] (.slice ma more.length mc) more.length (pairsC more) := .tl (own_rd hmv (pairsC_len more))
  have hst : (more.drop i).filter (fun p => decide (0 < p.bs.length)) = (if 0 < p.bs.length then [p] else []) ++ (more.drop (i + 1)).filter (fun p => decide (0 < p.bs.length)) := by
   obtain ⟨h1, rfl⟩ := List.getElem?_eq_some_iff.1 hp
   rw [List.drop_eq_getElem_cons h1, List.filter_cons]
   split <;> simp_all
  conv=>whnf
  refine IdxG.rd hrm (by omega) fun b7 o7 hc7 => ?_
  conv=>whnf
  refine LoadG.at (hc7.one (i := i * 2 + 1) (u := p.v) hp2) ?_
  conv=>whnf
  rw [hpe]
  refine LenG.lit ?_
  conv=>whnf
  refine CondG.dec (fun hpos => ?_) (fun hpos => ?_)
  ·conv=>whnf
   refine IdxG.rd hrm (by omega) fun b8 o8 hc8 => ?_
   conv=>whnf
   refine LoadNG.at (vs := p.cells) rfl (hc8.part (i := i * 2) (pairsC_at hp)) ?_
   conv=>whnf
   refine BuildG.of (cs := p.cells) rfl ?_
   conv=>whnf
   intro b6
   conv=>whnf
   refine DoesG.ent (Ent.front 1 rfl) ?_
   refine app_own pairsT 22 (m := 1) (ys := p.cells) (.mk _ _ _ _ _ (Nat.le_refl _) (.tl (.left .all _))) rfl (by simp [PairD.cells, Value.oneCell', hpe]) (by simp only [maxLen]; omega) (by omega) fun ov2 hov2 hl2 _ => ?_
   conv=>whnf
   refine ArithG.i64' ((i + 1 : Nat) : Int) (by omega) (by omega) ?_
   conv=>whnf
   have eo : pairsC out ++ p.cells = pairsC (out ++ [p]) := by rw [pairsC_app]; simp [pairsC]
   have el : (out ++ [p]).length = out.length + 1 := by simp
   rw [eo, ← el]
   rw [← el] at hov2
   refine ⟨more.length - (i + 1), [(6, .slice none 0 0), (7, .int .i64 0), (9, ov2), (10, .slice ma more.length mc), (11, .int .i64 (i + 1 : Nat))], _, by omega, ⟨rfl, rfl, rfl, rfl, rfl, trivial⟩, ?_, i + 1, out ++ [p], ov2, by omega, rfl, hov2, by rw [el]; omega, ?_, rfl, rfl⟩
   ·exact Ent.sel (T := []) (A := [_, _, _, _]) [0, 2, 3] rfl
   ·rw [← hw, hst, if_pos (by omega)]
    simp
  ·conv=>whnf
   refine ArithG.i64' ((i + 1 : Nat) : Int) (by omega) (by omega) ?_
   conv=>whnf
   refine ⟨more.length - (i + 1), [(6, .slice none 0 0), (7, .int .i64 0), (9, ov), (10, .slice ma more.length mc), (11, .int .i64 (i + 1 : Nat))], _, by omega, ⟨rfl, rfl, rfl, rfl, rfl, trivial⟩, Ent.refl _, i + 1, out, ov, by omega, rfl, hov, by omega, ?_, rfl, rfl⟩
   rw [← hw, hst, if_neg (by omega)]
   simp
 ·obtain rfl : i = more.length := by omega
  have eo : out = more.filter (fun p => decide (0 < p.bs.length)) := by rw [← hw]; simp
  conv=>whnf
  exact ⟨_, Ent.sel (T := []) (A := [_, _, _]) [0, 2] rfl, .inr ⟨heq, x, ov, out, hx, hov, by rw [eo, hmore], rfl, rfl⟩⟩
end Go.Proofs.YtjkldhalmglkpaaDoor
