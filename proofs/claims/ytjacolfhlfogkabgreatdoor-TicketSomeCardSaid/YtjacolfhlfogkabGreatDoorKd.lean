import Derived.Test.YtjacolfhlfogkabGreatDoorMu
import Derived.Test.YtjacolfhlfogkabGreatDoorZTw
import Derived.Test.YtjacolfhlfogkabGreatDoorMy
namespace Go.Proofs.YtjacolfhlfogkabGreatDoor
open Go Go.Sl
theorem eight9_spec (F : List HP) (n : Nat) (hn : n < 9223372036854775808) : SpecF Tryz.prog 91 [.int .i64 n] F [] (fun r L => SlV r 8 ∧ L = [own 1 r 8 (bvs (be n 8))]) := by
 have h8 := be_len n 8
 refine fun91.spec rfl ?_
 conv=>whnf
 refine DoesG.makeC (n := 8) (zv := .int .u8 0) bytesT (by kernel_rfl) rfl .i64 .i64 (by decide) (by decide) fun b3 => ?_
 conv=>whnf
 refine LoopG.mk (fun mm e L => ∃ i : Nat, i ≤ 8 ∧ mm = 8 - i ∧ e = [(3, .slice (some ⟨b3, 0, none⟩) 8 8), (4, .int .i64 ((n / 256 ^ i : Nat) : Int)), (5, .int .i64 (7 - (i : Int)))] ∧ L = [cel b3 5 (bvs (tailN (be n 8) (8 - i)))]) 8
  [(3, .slice (some ⟨b3, 0, none⟩) 8 8), (4, .int .i64 n), (5, .int .i64 7)] _ ⟨rfl, rfl, rfl, trivial⟩ (Ent.refl _) ⟨0, by omega, rfl, by simp, by rw [show 8 - 0 = (be n 8).length by rw [h8], tailN_all, h8]; rfl⟩ ?_
 rintro mm e L ⟨i, hi, rfl, rfl, rfl⟩
 conv=>whnf
 refine CondG.dec (fun h1 => ?_) (fun h1 => ?_)
 ·have hlt : i < 8 := by omega
  have hnl : n / 256 ^ i ≤ n := Nat.div_le_self _ _
  obtain ⟨X, hX⟩ : ∃ X, X = n / 256 ^ i := ⟨_, rfl⟩
  rw [← hX] at hnl ⊢
  have hm : (X : Int).tmod 256 = ((X % 256 : Nat) : Int) := rfl
  have hq : (X : Int).tdiv 256 = ((X / 256 : Nat) : Int) := rfl
  conv=>whnf
  refine SideG.of (by decide) ?_
  conv=>whnf
  rw [hm]
  refine ArithG.u8 (by omega) ?_
  conv=>whnf
  refine ⟨b3, 0, 8, 8, rfl, by omega, ?_⟩
  conv=>whnf
  have hg := be_at n 8 (7 - i) (by omega)
  rw [show 8 - 1 - (7 - i) = i by omega, ← hX] at hg
  have hget : (be n 8)[7 - i]'(by omega) = X % 256 := (List.getElem?_eq_some_iff.1 hg).2
  refine StoreG.at (cs := [_]) rfl (Upd.here (by rw [bvs_len, tailN_len (by omega), h8]; omega) rfl) ?_
  have eu : (bvs (tailN (be n 8) (8 - i))).set (0 + (7 - (i : Int)).toNat * 1) (.int .u8 ((X % 256 : Nat) : Int)) = bvs (tailN (be n 8) (8 - (i + 1))) := by
   rw [show 0 + (7 - (i : Int)).toNat * 1 = 7 - i by omega, ← hget, show 8 - i = 7 - i + 1 by omega, show 8 - (i + 1) = 7 - i by omega]
   exact tailN_set (by omega)
  rw [eu]
  conv=>whnf
  refine SideG.of (by decide) ?_
  refine ArithG.i64' ((X / 256 : Nat) : Int) hq (by omega) ?_
  conv=>whnf
  refine ArithG.i64' (7 - ((i + 1 : Nat) : Int)) (by omega) (by omega) ?_
  conv=>whnf
  have hX2 : X / 256 = n / 256 ^ (i + 1) := by rw [hX, Nat.pow_succ, Nat.div_div_eq_div_mul]
  rw [hX2]
  exact ⟨8 - (i + 1), [(3, .slice (some ⟨b3, 0, none⟩) 8 8), (4, .int .i64 ((n / 256 ^ (i + 1) : Nat) : Int)), (5, .int .i64 (7 - ((i + 1 : Nat) : Int)))], _, by omega, ⟨rfl, rfl, rfl, trivial⟩, Ent.refl _, i + 1, by omega, rfl, rfl, rfl⟩
 ·obtain rfl : i = 8 := by omega
  rw [Nat.sub_self, tailN_zero]
  conv=>whnf
  refine ⟨_, (own_of_cel (n := 8) (sz := 1) (by rw [bvs_len, h8]) (by decide)), .inr ⟨_, _, rfl, by decide⟩, rfl⟩
theorem key9_spec (F : List HP) (n : Nat) (hn : n < 9223372036854775808) : SpecF Tryz.prog 89 [.int .i64 n] F [] (fun r L => r = .string (tkey n) ∧ L = []) := by
 refine fun89.spec rfl ?_
 conv=>whnf
 refine CallG.pure (eight9_spec _ n hn) ?_
 rintro r _ ⟨hr, rfl⟩
 conv=>whnf
 refine DoesG.toStr (e := 5) (bs := be n 8) (by kernel_rfl) (by kernel_rfl) (by kernel_rfl) (.left (own_rd hr (by simp [bvs_len, be_len])) F) (be_len n 8) ?_
 conv=>whnf
 refine DoesG.cat (by rw [strB_size, be_len]; decide) ?_
 conv=>whnf
 exact ⟨[], Ent.nil _, rfl, rfl⟩
theorem number9_spec (F : List HP) (v : Value) (bs : List Nat) (h8 : 8 ≤ bs.length) (hby : ∀ b ∈ bs, b < 256) (hv : RdS F v bs.length (bvs bs)) : SpecF Tryz.prog 93 [v] F [] (fun r L => r = .int .i64 (num9 bs) ∧ L = []) := by
 have e0 : bs.getD 0 0 = bs[0]'(by omega) := by simp [List.getD, show 0 < bs.length by omega]
 refine fun93.spec rfl ?_
 conv=>whnf
 refine IdxG.rd hv (by omega) fun b o hc => ?_
 conv=>whnf
 refine LoadG.atF (v := bv (bs[0]'(by omega))) (hc.one (i := ((0 : Nat) : Int).toNat * 1) (by simpa using bvs_get (by omega))) ?_
 conv=>whnf
 refine CondG.dec (fun h0 => ?_) (fun h0 => ?_)
 ·have e : num9 bs = -1 := by unfold num9; rw [if_pos (by omega)]
  rw [e]
  conv=>whnf
  exact ret_here ⟨rfl, rfl⟩
 have hs : bs.getD 0 0 ≤ 63 := by omega
 have e : num9 bs = numF (bs.take 8) := by unfold num9; rw [if_neg (by omega)]
 rw [e]
 conv=>whnf
 refine LoopG.mk (fun m e L => ∃ i, i ≤ 8 ∧ m = 8 - i ∧ e = [(0, v), (3, .int .i64 (numF (bs.take i))), (4, .int .i64 i)] ∧ L = []) 8
  [(0, v), (3, .int .i64 0), (4, .int .i64 0)] _ ⟨rfl, rfl, rfl, trivial⟩ (Ent.refl _) ⟨0, by omega, rfl, rfl, rfl⟩ ?_
 rintro m e L ⟨i, hi, rfl, rfl, rfl⟩
 conv=>whnf
 refine CondG.dec (fun h => ?_) (fun h => ?_)
 ·have hlt : i < 8 := by omega
  have hil : i < bs.length := by omega
  obtain ⟨a, ha, hal⟩ := num_small hby hs hlt hil
  have hb := hby _ (List.getElem_mem hil)
  have hst : numF (bs.take (i + 1)) = ((256 * a + bs[i] : Nat) : Int) := by rw [numF_take bs i hil, ha, numStep_nat a _ hal hb]
  rw [ha]
  conv=>whnf
  refine ArithG.i64' ((256 * a : Nat) : Int) (by omega) (by omega) ?_
  conv=>whnf
  refine IdxG.rd hv (by omega) fun b o hc => ?_
  conv=>whnf
  refine LoadG.atF (v := bv bs[i]) (hc.one (i := (i : Int).toNat * 1) (by simpa using bvs_get hil)) ?_
  conv=>whnf
  refine ArithG.i64 (by omega) ?_
  conv=>whnf
  refine ArithG.i64' ((256 * a + bs[i] : Nat) : Int) (by omega) (by omega) ?_
  conv=>whnf
  refine ArithG.i64' ((i + 1 : Nat) : Int) (by omega) (by omega) ?_
  conv=>whnf
  exact ⟨8 - (i + 1), [(0, v), (3, .int .i64 ((256 * a + bs[i] : Nat) : Int)), (4, .int .i64 ((i + 1 : Nat) : Int))], _, by omega, ⟨rfl, rfl, rfl, trivial⟩, Ent.refl _, i + 1, by omega, rfl, by rw [hst], rfl⟩
 ·obtain rfl : i = 8 := by omega
  conv=>whnf
  exact ret_here ⟨rfl, rfl⟩
theorem fits9_spec (F : List HP) (t : TicketD) (ht : t.wf) : SpecF Tryz.prog 87 [.agg ⟨t.cells⟩] F [] (fun v L => v = .bool (decide t.may) ∧ L = []) := by
 refine fun87.spec rfl ?_
 conv=>whnf
 intro b
 conv=>whnf
 refine LoadG.at (v := .int .i64 t.ent) (.here rfl) ?_
 conv=>whnf
 refine CondG.dec (fun h1 => ?_) (fun h1 => ?_)
 rotate_left
 ·(conv=>whnf);repeat((with_reducible first|refine .tt ?_|refine .ff ?_|refine .ntt ?_|refine .nff ?_);conv=>whnf)
  exact ⟨[], Ent.nil _, congrArg Value.bool (decide_eq_false fun h => h1 h.1.1).symm, rfl⟩
 (conv=>whnf);refine .tt ?_;(conv=>whnf)
 refine LoadG.at (v := .int .i64 t.ent) (.here rfl) ?_
 (conv=>whnf);refine .tt ?_;(conv=>whnf);refine .tt ?_;(conv=>whnf)
 refine CondG.dec (fun h2 => ?_) (fun h2 => ?_)
 rotate_left
 ·(conv=>whnf);refine .ff ?_;(conv=>whnf);refine .ff ?_;(conv=>whnf);refine .ff ?_;(conv=>whnf);refine .ff ?_;(conv=>whnf);refine .ff ?_;(conv=>whnf);refine .ff ?_;(conv=>whnf);refine .ff ?_;(conv=>whnf);refine .ff ?_;(conv=>whnf);refine .ff ?_;(conv=>whnf);refine .ff ?_;(conv=>whnf);refine .ff ?_;(conv=>whnf);refine .ff ?_;(conv=>whnf)
  exact ⟨[], Ent.nil _, congrArg Value.bool (decide_eq_false fun h => h2 h.1.2).symm, rfl⟩
 (conv=>whnf);refine .tt ?_;(conv=>whnf)
 refine LoadG.at (v := .int .i64 t.tok) (.here (TicketD.tok_at ht)) ?_
 (conv=>whnf);refine .tt ?_;(conv=>whnf);refine .tt ?_;(conv=>whnf)
 refine CondG.dec (fun h3 => ?_) (fun h3 => ?_)
 rotate_left
 ·(conv=>whnf);refine .ff ?_;(conv=>whnf);refine .ff ?_;(conv=>whnf);refine .ff ?_;(conv=>whnf);refine .ff ?_;(conv=>whnf);refine .ff ?_;(conv=>whnf);refine .ff ?_;(conv=>whnf);refine .ff ?_;(conv=>whnf);refine .ff ?_;(conv=>whnf)
  exact ⟨[], Ent.nil _, congrArg Value.bool (decide_eq_false fun h => h3 h.2.1.1).symm, rfl⟩
 (conv=>whnf);refine .tt ?_;(conv=>whnf)
 refine LoadG.at (v := .int .i64 t.tok) (.here (TicketD.tok_at ht)) ?_
 (conv=>whnf);refine .tt ?_;(conv=>whnf);refine .tt ?_;(conv=>whnf)
 refine CondG.dec (fun h4 => ?_) (fun h4 => ?_)
 rotate_left
 ·(conv=>whnf);refine .ff ?_;(conv=>whnf);refine .ff ?_;(conv=>whnf);refine .ff ?_;(conv=>whnf);refine .ff ?_;(conv=>whnf)
  exact ⟨[], Ent.nil _, congrArg Value.bool (decide_eq_false fun h => h4 h.2.1.2).symm, rfl⟩
 (conv=>whnf);refine .tt ?_;(conv=>whnf)
 refine LoadNG.at (vs := uvs t.amt) (by rw [uvs_len, ht.amt]) (CelN.here (TicketD.amt_at ht)) ?_
 (conv=>whnf);refine .tt ?_;(conv=>whnf)
 refine BuildG.of rfl ?_
 (conv=>whnf);refine .tt ?_;(conv=>whnf)
 refine DoesG.eqv 8 (List.replicate 4 (.int .u64)) (by kernel_rfl) (by decide) (by kernel_rfl) (by kernel_rfl) (wt_uvs ht.amt) (wt_uvs (ws := z4) rfl) ?_
 (conv=>whnf);refine .tt ?_;(conv=>whnf)
 refine ⟨[], Ent.nil _, congrArg Value.bool ?_, rfl⟩
 have hz : uvs t.amt = uvs z4 ↔ t.amt = z4 := uvs_inj
 refine Eq.trans (congrArg Bool.not (show _ = decide (t.amt = z4) from decide_eq_decide.2 hz)) ?_
 by_cases h5 : t.amt = z4
 ·rw [decide_eq_true h5]
  exact (decide_eq_false fun h => h.2.2 h5).symm
 ·rw [decide_eq_false h5]
  exact (decide_eq_true ⟨⟨h1, h2⟩, ⟨h3, h4⟩, h5⟩).symm
theorem value9_spec (F : List HP) (t : TicketD) (ht : t.wf) (hm : t.may) (ha : wOk t.amt) : SpecF Tryz.prog 90 [.agg ⟨t.cells⟩] F [] (fun r L => SlV r t.value.length ∧ L = [own 1 r t.value.length (bvs t.value)]) := by
 have he := hm.1
 have hk := hm.2.1
 obtain ⟨n, hn⟩ : ∃ n : Nat, t.ent = n := ⟨t.ent.toNat, (Int.toNat_of_nonneg he.1).symm⟩
 have hb1 : (bvs t.snd).length = 20 := by rw [bvs_len, ht.snd]
 have hb2 : (bvs t.to).length = 20 := by rw [bvs_len, ht.to]
 refine fun90.spec rfl ?_
 conv=>whnf
 intro b
 conv=>whnf
 refine LoadG.at (v := .int .i64 n) (.here (congrArg (fun z => some (Value.int .i64 z)) hn)) ?_
 conv=>whnf
 refine CallG.pure (eight9_spec _ n (by omega)) ?_
 rintro r _ ⟨hr, rfl⟩
 conv=>whnf
 refine SideG.of (by decide) ?_
 conv=>whnf
 refine SliceG.zero ?_
 conv=>whnf
 refine app_own bytesT 97 (m := 20) (ys := bvs t.snd) (.mk _ _ _ _ _ (by decide) (.tl (.left (CelN.here (by rw [hb1]; exact hb1 ▸ t.snd_at)) F))) (by rw [hb1]) (bvs_one _) (by decide) (by decide) fun r1 hr1 hl1 hn1 => ?_
 rw [bvs_append] at hl1 ⊢
 conv=>whnf
 refine LoadG.at (v := .int .i64 t.tok) (.tl (.here (TicketD.tok_at ht))) ?_
 conv=>whnf
 refine ArithG.u8 (by omega) ?_
 conv=>whnf
 refine BuildG.of rfl ?_
 conv=>whnf
 intro b4
 conv=>whnf
 refine DoesG.ent (Ent.front 1 rfl) ?_
 have hk2 : (Value.int .u8 t.tok) = bv t.tok.toNat := by
  unfold bv
  rw [Int.toNat_of_nonneg hk.1]
 refine app_own bytesT 97 (m := 1) (ys := bvs [t.tok.toNat]) (.mk _ _ _ _ _ (by decide) (.tl (.left (CelN.here (by rw [hk2]; rfl)) _))) rfl (bvs_one _) (by decide) (by decide) fun r2 hr2 hl2 hn2 => ?_
 rw [bvs_append] at hl2 ⊢
 conv=>whnf
 refine SideG.of (by decide) ?_
 conv=>whnf
 refine SliceG.zero ?_
 conv=>whnf
 refine app_own bytesT 97 (m := 20) (ys := bvs t.to) (.mk _ _ _ _ _ (by decide) (.tl (.left (.tl (CelN.here (by rw [hb2]; exact hb2 ▸ TicketD.to_at ht))) F))) (by rw [hb2]) (bvs_one _) (by decide) (by decide) fun r3 hr3 hl3 hn3 => ?_
 rw [bvs_append] at hl3 ⊢
 conv=>whnf
 refine LoadNG.at (vs := uvs t.amt) (by rw [uvs_len, ht.amt]) (.tl (.tl (CelN.here (TicketD.amt_at ht)))) ?_
 conv=>whnf
 refine CallG.pure (bytes2_spec _ _ ha) ?_
 rintro r4 _ ⟨hr4, rfl⟩
 conv=>whnf
 refine DoesG.ent (Ent.front 1 rfl) ?_
 refine app_own bytesT 97 (m := 32) (ys := bvs (wideB t.amt)) (.tl (.left (own_rd hr4 (by rw [bvs_len, wide_len])) _)) (by rw [bvs_len, wide_len]) (bvs_one _) (by decide) (by decide) fun r5 hr5 hl5 hn5 => ?_
 rw [bvs_append] at hl5 ⊢
 conv=>whnf
 have e : be n 8 ++ t.snd ++ [t.tok.toNat] ++ t.to ++ wideB t.amt = t.value := by simp only [TicketD.value, hn, Int.toNat_natCast]
 rw [e] at *
 have hl : t.value.length = 8 + 20 + 1 + 20 + 32 := by rw [TicketD.value_len ht]
 rw [hl]
 exact ⟨_, Ent.dropL [own 1 r5 (8 + 20 + 1 + 20 + 32) (bvs t.value)] _, hr5, rfl⟩
end Go.Proofs.YtjacolfhlfogkabGreatDoor
namespace Go.Proofs.YtjacolfhlfogkabGreatDoor
open Go Go.Sl
section
variable {find : SrcF} {hv nv : Value} {part : Bool}
theorem made9_q (F : List HP) (s : Nat) (R : RSt) (hd : DocF F hv nv part find) (hl : Lim R 1) :
 SpecF Tryz.prog 40 [.pointer (some ⟨s, 0, none⟩)] F [refR 83 s hv part nv R] (fun r L => r = .tuple #[.int .i64 (madeQ find R).1.1, .int .i64 (madeQ find R).1.2] ∧ L = [refR 83 s hv part nv (madeQ find R).2]) := by
 refine fun40.spec rfl ?_
 (conv=>whnf);refine .ff ?_;(conv=>whnf)
 refine CallG.of (pre := [refR 83 s hv part nv R]) (rest := []) (get7_p _ s R ntK (hd.left _) hl) (Ent.refl _) ?_
 rintro _ _ ⟨x, hx, rfl, rfl⟩
 obtain ⟨g, hg⟩ : ∃ g, g = gtQ find R ntK := ⟨_, rfl⟩
 have ha : madeQ find R = madeOf g := by rw [hg]; rfl
 have hgb := (hl.get hd.1 ntK).2
 rw [ha]
 rw [← hg] at hx hgb ⊢
 conv=>whnf
 refine CondG.ndec (fun he => ?_) (fun he => ?_)
 ·(conv=>whnf);refine .tt ?_;(conv=>whnf);refine .tt ?_;(conv=>whnf);refine .tt ?_;(conv=>whnf);refine .tt ?_;(conv=>whnf)
  refine ⟨_, Ent.sel (T := []) (A := [_, _]) [1] rfl, ?_, rfl⟩
  unfold madeOf
  rw [if_pos he]
  rfl
 have hao : madeOf g = (madeR g.1.1, g.2) := by unfold madeOf; rw [if_neg (fun h => h he)]
 rw [hao]
 (conv=>whnf);refine .ff ?_;(conv=>whnf)
 refine LenG.sl hx ?_
 (conv=>whnf);refine .ff ?_;(conv=>whnf);refine .ff ?_;(conv=>whnf)
 refine CondG.dec (fun h1 => ?_) (fun h1 => ?_)
 ·have e : g.1.1 = [] := List.eq_nil_of_length_eq_zero (by omega)
  conv=>whnf
  refine ⟨_, Ent.sel (T := []) (A := [_, _]) [1] rfl, ?_, rfl⟩
  rw [e, he]
  rfl
 have hne : g.1.1 ≠ [] := fun e => h1 (by rw [e]; rfl)
 have hm9 := made9 hgb hne
 show _
 rw [hm9]
 conv=>whnf
 refine LenG.sl hx ?_
 conv=>whnf
 refine CondG.ndec (fun h2 => ?_) (fun h2 => ?_)
 ·conv=>whnf
  refine ⟨_, Ent.sel (T := []) (A := [_, _]) [1] rfl, ?_, rfl⟩
  rw [if_pos (by omega)]
  rfl
 rw [if_neg (by omega)]
 conv=>whnf
 refine CallG.pure (number9_spec _ x g.1.1 (by omega) hgb (.left (own_rd hx (by rw [bvs_len, Nat.mul_one])) _)) ?_
 rintro _ _ ⟨rfl, rfl⟩
 conv=>whnf
 refine CondG.dec (fun h3 => ?_) (fun h3 => ?_)
 ·(conv=>whnf);refine .tt ?_;(conv=>whnf);refine .tt ?_;(conv=>whnf);refine .tt ?_;(conv=>whnf)
  refine ⟨_, Ent.sel (T := []) (A := [_, _]) [1] rfl, ?_, rfl⟩
  rw [if_pos (.inl h3)]
  rfl
 (conv=>whnf);refine .ff ?_;(conv=>whnf);refine .ff ?_;(conv=>whnf)
 refine CondG.dec (fun h4 => ?_) (fun h4 => ?_)
 ·conv=>whnf
  refine ⟨_, Ent.sel (T := []) (A := [_, _]) [1] rfl, ?_, rfl⟩
  rw [if_pos (.inr h4)]
  rfl
 conv=>whnf
 refine ⟨_, Ent.sel (T := []) (A := [_, _]) [1] rfl, ?_, rfl⟩
 rw [if_neg (by omega)]
 rfl
theorem open9_q (F : List HP) (s : Nat) (R : RSt) (t : TicketD) (ht : t.wf) (hv8 : t.may → ∀ b ∈ t.value, b < 256) (hta : wOk t.amt) (hd : DocF F hv nv part find) (hl : Lim R 3) :
 SpecF Tryz.prog 38 [.pointer (some ⟨s, 0, none⟩), .agg ⟨t.cells⟩] F [refR 83 s hv part nv R] (fun r L => r = .tuple #[.int .i64 (openQ find R t).1.1, .int .i64 (openQ find R t).1.2] ∧ L = [refR 83 s hv part nv (openQ find R t).2]) := by
 refine fun38.spec rfl ?_
 conv=>whnf
 intro b3
 (conv=>whnf);refine .ff ?_;(conv=>whnf)
 refine LoadG.at (v := .int .i64 t.num) (.here rfl) ?_
 conv=>whnf
 refine CondG.ndec (fun h1 => ?_) (fun h1 => ?_)
 ·(conv=>whnf);refine .tt ?_;(conv=>whnf);refine .tt ?_;(conv=>whnf);refine .tt ?_;(conv=>whnf);refine .tt ?_;(conv=>whnf)
  rw [openQ, if_pos (.inl h1)]
  exact ⟨_, Ent.drop _, rfl, rfl⟩
 conv=>whnf
 refine LoadNG.at (vs := t.cells) (TicketD.cells_len ht) .all ?_
 (conv=>whnf);refine .ff ?_;(conv=>whnf)
 refine CallG.pure (fits9_spec _ t ht) ?_
 rintro _ _ ⟨rfl, rfl⟩
 (conv=>whnf);refine .ff ?_;(conv=>whnf);refine .ff ?_;(conv=>whnf)
 refine CondG.ndec (fun h2 => ?_) (fun h2 => ?_)
 ·conv=>whnf
  rw [openQ, if_pos (.inr h2)]
  exact ⟨_, Ent.drop _, rfl, rfl⟩
 have eo : openQ find R t = openA find t (madeQ find R) := by
  rw [openQ, if_neg]
  rintro (h | h)
  ·exact h h1
  ·exact h h2
 rw [eo]
 have hsec := fun h => open_second (find := find) (R := R) h
 have hnat := fun h => madeQ_nat (find := find) (R := R) h
 have hl2 : Lim (madeQ find R).2 2 := (hl.get hd.1 ntK).1
 conv=>whnf
 refine CallG.of (pre := [refR 83 s hv part nv R]) (rest := [cel b3 40 t.cells]) (made9_q _ s R (hd.left _) (hl.mono (by decide))) (Ent.perm (List.Perm.swap _ _ _)) ?_
 rintro _ _ ⟨rfl, rfl⟩
 generalize madeQ find R = g at *
 conv=>whnf
 refine CondG.ndec (fun h3 => ?_) (fun h3 => ?_)
 ·conv=>whnf
  rw [openA, if_pos h3]
  exact ⟨_, Ent.sel (T := []) (A := [_, _]) [0] rfl, rfl, rfl⟩
 have hn := hnat h3
 replace hsec := hsec h3
 obtain ⟨⟨gn, ge⟩, R1⟩ := g
 obtain ⟨m, rfl⟩ : ∃ m : Nat, gn = m := ⟨gn.toNat, (Int.toNat_of_nonneg hn.1).symm⟩
 simp only [Int.toNat_natCast] at h3 hn hsec hl2 ⊢
 rw [openA, if_neg (fun h => h h3)]
 conv=>whnf
 refine CondG.dec (fun h4 => ?_) (fun h4 => ?_)
 ·conv=>whnf
  rw [if_pos (by show (1099511627776 : Int) ≤ (m : Int); omega)]
  exact ⟨_, Ent.sel (T := []) (A := [_, _]) [0] rfl, rfl, rfl⟩
 rw [if_neg (by show ¬ (1099511627776 : Int) ≤ (m : Int); omega)]
 have em2 : ((m : Int) + 1) = ((m + 1 : Nat) : Int) := rfl
 have hvl := TicketD.value_len ht
 have hen := h2.1
 have htk := h2.2.1
 simp only [Int.toNat_natCast]
 conv=>whnf
 refine DrawG.mk 8 [cel b3 40 t.cells] [refR 83 s hv part nv R1] (Ent.refl _) ?_
 conv=>whnf
 refine .take 0 ?_
 conv=>whnf
 refine ⟨rfl, ?_⟩
 conv=>whnf
 refine .take 1 ?_
 conv=>whnf
 refine ⟨rfl, ?_⟩
 conv=>whnf
 refine .take 2 ?_
 conv=>whnf
 refine ⟨rfl, ?_⟩
 conv=>whnf
 refine ArithG.i64' ((m + 1 : Nat) : Int) rfl (by omega) ?_
 conv=>whnf
 refine .take 4 ?_
 conv=>whnf
 refine ⟨rfl, ?_⟩
 conv=>whnf
 refine LoadNG.at (vs := t.cells) (TicketD.cells_len ht) .all ?_
 conv=>whnf
 refine .all ?_
 conv=>whnf
 refine ⟨by decide, ?_⟩
 conv=>whnf
 refine CallG.pure (key9_spec _ (m + 1) (by omega)) ?_
 rintro _ _ ⟨rfl, rfl⟩
 conv=>whnf
 refine .all ?_
 conv=>whnf
 refine ⟨by decide, ?_⟩
 conv=>whnf
 refine CallG.pure (value9_spec _ t ht h2 hta) ?_
 rintro r1 _ ⟨hr1, rfl⟩
 conv=>whnf
 refine .all ?_
 conv=>whnf
 refine ⟨by decide, ?_⟩
 conv=>whnf
 refine CallG.of (pre := [refR 83 s hv part nv R1]) (rest := [own 1 r1 t.value.length (bvs t.value)]) (put7_p _ s R1 (tkey (m + 1)) r1 t.value ((hd.left _).left _) (.left (own_rd hr1 (by rw [bvs_len, Nat.mul_one])) _) (hl2.mono (by decide))) (Ent.perm (List.Perm.swap _ _ _)) ?_
 rintro _ _ ⟨rfl, rfl⟩
 replace hsec := hsec (tkey (m + 1)) t.value (m + 1)
 have hl3 : Lim (ptQ find R1 (tkey (m + 1)) t.value).2 1 := hl2.put hd.1 _ (hv8 h2)
 rw [openB]
 generalize ptQ find R1 (tkey (m + 1)) t.value = p at *
 conv=>whnf
 refine .take 7 ?_
 conv=>whnf
 refine ⟨rfl, ?_⟩
 conv=>whnf
 refine ⟨rfl, ?_⟩
 conv=>whnf
 refine CondG.ndec (fun h5 => ?_) (fun h5 => ?_)
 ·conv=>whnf
  rw [if_pos h5]
  exact ⟨_, Ent.sel (T := []) (A := [_, _, _]) [0] rfl, rfl, rfl⟩
 rw [if_neg (fun h => h h5)]
 conv=>whnf
 refine ArithG.i64' ((m + 1 : Nat) : Int) rfl (by omega) ?_
 conv=>whnf
 refine CallG.pure (eight9_spec _ (m + 1) (by omega)) ?_
 rintro r2 _ ⟨hr2, rfl⟩
 conv=>whnf
 refine CallG.of (pre := [refR 83 s hv part nv p.2]) (rest := [own 1 r2 8 (bvs (be (m + 1) 8)), own 1 r1 t.value.length (bvs t.value), cel b3 40 t.cells]) (put7_p _ s p.2 ntK r2 (be (m + 1) 8) (hd.left _) (by rw [be_len]; exact .left (own_rd hr2 (by rw [bvs_len, be_len])) _) hl3) (Ent.perm (by classical exact List.perm_iff_count.2 fun x => by simp only [List.append_eq, List.count_append, List.count_cons, List.count_nil]; omega)) ?_
 rintro _ _ ⟨rfl, rfl⟩
 rw [hsec]
 conv=>whnf
 refine CondG.ndec (fun h => absurd rfl h) (fun _ => ?_)
 conv=>whnf
 refine ArithG.i64' ((m + 1 : Nat) : Int) rfl (by omega) ?_
 conv=>whnf
 exact ⟨_, Ent.sel (T := []) (A := [_, _, _, _]) [0] rfl, rfl, rfl⟩
theorem find9_q (F : List HP) (s : Nat) (R : RSt) (n : Int) (hd : DocF F hv nv part find) (hl : Lim R 1) :
 SpecF Tryz.prog 39 [.pointer (some ⟨s, 0, none⟩), .int .i64 n] F [refR 83 s hv part nv R] (fun r L => r = .tuple #[.agg ⟨(tfindQ find R n).1.1.cells⟩, .int .i64 (tfindQ find R n).1.2] ∧ L = [refR 83 s hv part nv (tfindQ find R n).2]) := by
 refine fun39.spec rfl ?_
 conv=>whnf
 intro b4
 (conv=>whnf);refine .ff ?_;(conv=>whnf)
 refine CondG.dec (fun h1 => ?_) (fun h1 => ?_)
 ·(conv=>whnf);refine .tt ?_;(conv=>whnf);refine .tt ?_;(conv=>whnf);refine .tt ?_;(conv=>whnf)
  refine BuildG.of rfl ?_
  conv=>whnf
  refine StoreG.at rfl ( (Upd.whole rfl (TicketD.cells_one zeroT'))) ?_
  conv=>whnf
  refine LoadNG.at (vs := zeroT'.cells) rfl .all ?_
  conv=>whnf
  rw [tfindQ, if_pos (.inl h1)]
  exact ⟨_, Ent.drop _, rfl, rfl⟩
 (conv=>whnf);refine .ff ?_;(conv=>whnf);refine .ff ?_;(conv=>whnf)
 refine CondG.dec (fun h2 => ?_) (fun h2 => ?_)
 ·conv=>whnf
  refine BuildG.of rfl ?_
  conv=>whnf
  refine StoreG.at rfl ( (Upd.whole rfl (TicketD.cells_one zeroT'))) ?_
  conv=>whnf
  refine LoadNG.at (vs := zeroT'.cells) rfl .all ?_
  conv=>whnf
  rw [tfindQ, if_pos (.inr h2)]
  exact ⟨_, Ent.drop _, rfl, rfl⟩
 obtain ⟨m, rfl⟩ : ∃ m : Nat, n = m := ⟨n.toNat, (Int.toNat_of_nonneg (by omega)).symm⟩
 conv=>whnf
 refine CallG.pure (key9_spec _ m (by omega)) ?_
 rintro _ _ ⟨rfl, rfl⟩
 conv=>whnf
 refine CallG.of (pre := [refR 83 s hv part nv R]) (rest := [cel b4 40 zeroT'.cells]) (get7_p _ s R (tkey m) (hd.left _) hl) (Ent.perm (List.Perm.swap _ _ _)) ?_
 rintro _ _ ⟨x, hx, rfl, rfl⟩
 obtain ⟨g, hg⟩ : ∃ g, g = gtQ find R (tkey m) := ⟨_, rfl⟩
 have ha : tfindQ find R m = findOf m g := by rw [tfindQ, if_neg (by omega), Int.toNat_natCast, hg]
 have hgb := (hl.get hd.1 (tkey m)).2
 rw [ha]
 rw [← hg] at hx hgb ⊢
 conv=>whnf
 refine CondG.ndec (fun he => ?_) (fun he => ?_)
 ·conv=>whnf
  refine BuildG.of rfl ?_
  conv=>whnf
  refine StoreG.at rfl (Upd.tl <| Upd.tl (Upd.whole rfl (TicketD.cells_one zeroT'))) ?_
  conv=>whnf
  refine LoadNG.at (vs := zeroT'.cells) rfl (.tl (.tl .all)) ?_
  conv=>whnf
  refine ⟨_, Ent.sel (T := []) (A := [_, _, _]) [1] rfl, ?_⟩
  unfold findOf
  rw [if_pos he]
  exact ⟨rfl, rfl⟩
 have hao : findOf m g = (findR m g.1.1, g.2) := by unfold findOf; rw [if_neg (fun h => h he)]
 rw [hao]
 conv=>whnf
 refine LenG.sl hx ?_
 conv=>whnf
 refine CondG.dec (fun h3 => ?_) (fun h3 => ?_)
 ·have e : g.1.1 = [] := List.eq_nil_of_length_eq_zero (by omega)
  conv=>whnf
  refine BuildG.of rfl ?_
  conv=>whnf
  refine StoreG.at rfl (Upd.tl <| Upd.tl (Upd.whole rfl (TicketD.cells_one zeroT'))) ?_
  conv=>whnf
  refine LoadNG.at (vs := zeroT'.cells) rfl (.tl (.tl .all)) ?_
  conv=>whnf
  refine ⟨_, Ent.sel (T := []) (A := [_, _, _]) [1] rfl, ?_, rfl⟩
  rw [e]
  rfl
 have hne : g.1.1 ≠ [] := fun e => h3 (by rw [e]; rfl)
 conv=>whnf
 refine LenG.sl hx ?_
 conv=>whnf
 refine CondG.ndec (fun h4 => ?_) (fun h4 => ?_)
 ·have e : findR m g.1.1 = (zeroT', 75) := by unfold findR; rw [if_neg hne, if_neg (fun h => h4 (by rw [h.1]; rfl))]
  conv=>whnf
  refine BuildG.of rfl ?_
  conv=>whnf
  refine StoreG.at rfl (Upd.tl <| Upd.tl (Upd.whole rfl (TicketD.cells_one zeroT'))) ?_
  conv=>whnf
  refine LoadNG.at (vs := zeroT'.cells) rfl (.tl (.tl .all)) ?_
  conv=>whnf
  refine ⟨_, Ent.sel (T := []) (A := [_, _, _]) [1] rfl, ?_, rfl⟩
  rw [e]
  rfl
 have h81 : g.1.1.length = 81 := by omega
 obtain ⟨xa, xc, hxe⟩ := hx.len
 have hxc : g.1.1.length ≤ xc := by
  rcases hx with ⟨_, h⟩ | ⟨_, _, h, h'⟩
  ·omega
  ·rw [hxe] at h
   obtain ⟨_, _, rfl⟩ := Value.slice.inj h
   exact h'
 subst hxe
 have hxr : RdS [own 1 (.slice xa g.1.1.length xc) g.1.1.length (bvs g.1.1), refR 83 s hv part nv g.2, cel b4 40 zeroT'.cells] (.slice xa g.1.1.length xc) g.1.1.length (bvs g.1.1) := own_rd hx (by rw [bvs_len, Nat.mul_one])
 have h28 : 28 < g.1.1.length := by omega
 have e28 : g.1.1.getD 28 0 = g.1.1[28] := by simp [List.getD, h28]
 have hg28 : g.1.1[28] < 256 := hgb _ (List.getElem_mem h28)
 have hl2 : ((g.1.1.drop 8).take 20).length = 20 := by simp [h81]
 have hl4 : ((g.1.1.drop 29).take 20).length = 20 := by simp [h81]
 have hl5 : ((g.1.1.drop 49).take 32).length = 32 := by simp [h81]
 have w0 : (TicketD.mk m (num9 g.1.1) (List.replicate 20 0) (g.1.1[28] : Nat) (List.replicate 20 0) (List.replicate 4 0)).wf := ⟨rfl, rfl, rfl⟩
 obtain ⟨t0, ht0⟩ : ∃ t : TicketD, t = TicketD.mk m (num9 g.1.1) (List.replicate 20 0) (g.1.1[28] : Nat) (List.replicate 20 0) (List.replicate 4 0) := ⟨_, rfl⟩
 rw [← ht0] at w0
 conv=>whnf
 refine DrawG.mk 10 [own 1 (.slice xa g.1.1.length xc) g.1.1.length (bvs g.1.1), refR 83 s hv part nv g.2, cel b4 40 zeroT'.cells] [] (Ent.refl _) ?_
 conv=>whnf
 refine .take 0 ?_
 conv=>whnf
 refine ⟨rfl, ?_⟩
 conv=>whnf
 refine .take 1 ?_
 conv=>whnf
 refine ⟨rfl, ?_⟩
 conv=>whnf
 refine .take 3 ?_
 conv=>whnf
 refine ⟨rfl, ?_⟩
 conv=>whnf
 refine .take 4 ?_
 conv=>whnf
 refine ⟨rfl, ?_⟩
 conv=>whnf
 refine IdxG.rd (hxr.left F) (by omega) fun c o hc => ?_
 conv=>whnf
 refine .take 5 ?_
 conv=>whnf
 refine ⟨rfl, ?_⟩
 conv=>whnf
 refine LoadG.atG (v := bv g.1.1[28]) (hc.one (i := ((28 : Nat) : Int).toNat * 1) (by simpa using bvs_get h28)) ?_
 conv=>whnf
 refine .take 6 ?_
 conv=>whnf
 refine ⟨rfl, ?_⟩
 conv=>whnf
 refine ArithG.i64 (by omega) ?_
 conv=>whnf
 refine .all ?_
 conv=>whnf
 refine ⟨by decide, ?_, ?_⟩
 ·conv=>whnf
  refine CallG.pure (number9_spec _ _ g.1.1 (by omega) hgb (.right (.left hxr F) _)) ?_
  rintro _ _ ⟨rfl, rfl⟩
  conv=>whnf
  refine .take 7 ?_
  conv=>whnf
  refine ⟨rfl, ?_⟩
  conv=>whnf
  refine BuildG.of (cs := t0.cells) (by rw [ht0]; rfl) ?_
  conv=>whnf
  refine .all ?_
  conv=>whnf
  refine ⟨by decide, ?_⟩
  conv=>whnf
  intro b8
  conv=>whnf
  refine .all ?_
  conv=>whnf
  refine ⟨by decide, ?_⟩
  conv=>whnf
  refine StoreG.at (by rw [ht0]; rfl) (Upd.whole (by rw [ht0]; rfl) (TicketD.cells_one _)) ?_
  conv=>whnf
  refine ⟨rfl, ?_⟩
  conv=>whnf
  refine DrawG.mk 5 [own 1 (.slice xa g.1.1.length xc) g.1.1.length (bvs g.1.1), refR 83 s hv part nv g.2, cel b4 40 zeroT'.cells] [cel b8 40 t0.cells] (Ent.refl _) ?_
  conv=>whnf
  refine .take 0 ?_
  conv=>whnf
  refine ⟨rfl, ?_⟩
  conv=>whnf
  refine .take 1 ?_
  conv=>whnf
  refine ⟨rfl, ?_⟩
  conv=>whnf
  refine SideG.of (by decide) ?_
  conv=>whnf
  refine SliceG.zero ?_
  conv=>whnf
  refine .take 2 ?_
  conv=>whnf
  refine ⟨rfl, ?_⟩
  conv=>whnf
  refine .take 3 ?_
  conv=>whnf
  refine ⟨rfl, ?_⟩
  conv=>whnf
  refine SlcG.lit ?_
  conv=>whnf
  refine SideG.of (by omega) ?_
  conv=>whnf
  refine SliceG.rd hxr (by decide) (by show 28 ≤ _; omega) (by show 28 ≤ _; omega) (by simp) fun v1 hv1 _ => ?_
  have e1 : List.take ((Int.toNat 28 - Int.toNat 8) * 1) (List.drop (Int.toNat 8 * 1) (bvs g.1.1)) = bvs ((g.1.1.drop 8).take 20) := by simp [bvs]
  rw [e1] at hv1
  conv=>whnf
  refine .all ?_
  conv=>whnf
  refine ⟨by decide, ?_⟩
  conv=>whnf
  refine DoesG.copy1 (elem := 5) (n := 20) (cs := bvs ((g.1.1.drop 8).take 20)) (by kernel_rfl) (by kernel_rfl) (.tl (.right (.left hv1 F) _)) (by rw [bvs_len, hl2]) (by rw [TicketD.cells_len w0]; decide) (bvs_one _) ?_
  have e2 := TicketD.set_snd w0 hl2
  rw [bvs_len, hl2] at e2
  have e3 : t0.cells.take (0 + 2) ++ (bvs ((g.1.1.drop 8).take 20)).take (min 20 ((20 : Nat) : Int).toNat) ++ t0.cells.drop (0 + 2 + min 20 ((20 : Nat) : Int).toNat) = ({ t0 with snd := (g.1.1.drop 8).take 20 } : TicketD).cells := by
   rw [← e2, List.take_of_length_le (l := bvs _) (by rw [bvs_len, hl2]; decide)]
   rfl
  rw [e3]
  have w1 : ({ t0 with snd := (g.1.1.drop 8).take 20 } : TicketD).wf := ⟨hl2, w0.to, w0.amt⟩
  conv=>whnf
  refine ⟨rfl, ?_⟩
  conv=>whnf
  refine DrawG.mk 5 [own 1 (.slice xa g.1.1.length xc) g.1.1.length (bvs g.1.1), refR 83 s hv part nv g.2, cel b4 40 zeroT'.cells] [cel b8 40 ({ t0 with snd := (g.1.1.drop 8).take 20 } : TicketD).cells] (Ent.refl _) ?_
  conv=>whnf
  refine .take 0 ?_
  conv=>whnf
  refine ⟨rfl, ?_⟩
  conv=>whnf
  refine .take 1 ?_
  conv=>whnf
  refine ⟨rfl, ?_⟩
  conv=>whnf
  refine SideG.of (by decide) ?_
  conv=>whnf
  refine SliceG.zero ?_
  conv=>whnf
  refine .take 2 ?_
  conv=>whnf
  refine ⟨rfl, ?_⟩
  conv=>whnf
  refine .take 3 ?_
  conv=>whnf
  refine ⟨rfl, ?_⟩
  conv=>whnf
  refine SlcG.lit ?_
  conv=>whnf
  refine SideG.of (by omega) ?_
  conv=>whnf
  refine SliceG.rd hxr (by decide) (by show 49 ≤ _; omega) (by show 49 ≤ _; omega) (by simp) fun v1 hv1 _ => ?_
  have e1 : List.take ((Int.toNat 49 - Int.toNat 29) * 1) (List.drop (Int.toNat 29 * 1) (bvs g.1.1)) = bvs ((g.1.1.drop 29).take 20) := by simp [bvs]
  rw [e1] at hv1
  conv=>whnf
  refine .all ?_
  conv=>whnf
  refine ⟨by decide, ?_⟩
  conv=>whnf
  refine DoesG.copy1 (elem := 5) (n := 20) (cs := bvs ((g.1.1.drop 29).take 20)) (by kernel_rfl) (by kernel_rfl) (.tl (.right (.left hv1 F) _)) (by rw [bvs_len, hl4]) (by rw [TicketD.cells_len w1]; decide) (bvs_one _) ?_
  have e4 := TicketD.set_to w1 hl4
  rw [bvs_len, hl4] at e4
  have e5 : ({ t0 with snd := (g.1.1.drop 8).take 20 } : TicketD).cells.take (0 + 23) ++ (bvs ((g.1.1.drop 29).take 20)).take (min 20 ((20 : Nat) : Int).toNat) ++ ({ t0 with snd := (g.1.1.drop 8).take 20 } : TicketD).cells.drop (0 + 23 + min 20 ((20 : Nat) : Int).toNat) = ({ t0 with snd := (g.1.1.drop 8).take 20, to := (g.1.1.drop 29).take 20 } : TicketD).cells := by
   rw [← e4, List.take_of_length_le (l := bvs _) (by rw [bvs_len, hl4]; decide)]
   rfl
  rw [e5]
  have w2 : ({ t0 with snd := (g.1.1.drop 8).take 20, to := (g.1.1.drop 29).take 20 } : TicketD).wf := ⟨hl2, hl4, w0.amt⟩
  conv=>whnf
  refine ⟨rfl, ?_⟩
  conv=>whnf
  refine SlcG.lit ?_
  conv=>whnf
  refine SideG.of (by omega) ?_
  conv=>whnf
  refine SliceG.rd hxr (by show 49 ≤ _; omega) (by simp) (by simp; omega) (by simp) fun v1 hv1 _ => ?_
  have e6 : List.take (((g.1.1.length : Int).toNat - Int.toNat 49) * 1) (List.drop (Int.toNat 49 * 1) (bvs g.1.1)) = bvs ((g.1.1.drop 49).take 32) := by simp [bvs, h81]
  have e7 : (g.1.1.length : Int).toNat - Int.toNat 49 = 32 := by rw [h81]; rfl
  rw [e6, e7] at hv1
  conv=>whnf
  refine CallG.pure (read2_spec _ v1 ((g.1.1.drop 49).take 32) hl5 (.left (.tl hv1) F) (fun b hb => hgb b (List.mem_of_mem_drop (List.mem_of_mem_take hb)))) ?_
  rintro _ _ ⟨rfl, rfl⟩
  have e8 := TicketD.set_amt w2 (wordsN_len ((g.1.1.drop 49).take 32))
  conv=>whnf
  refine StoreG.at (by rw [uvs_len, wordsN_len]) (Upd.hereN (by rw [uvs_len, wordsN_len, TicketD.cells_len w2]; decide) (uvs_one _) e8) ?_
  have et : ({ t0 with snd := (g.1.1.drop 8).take 20, to := (g.1.1.drop 29).take 20, amt := wordsN ((g.1.1.drop 49).take 32) } : TicketD) = tk9 m g.1.1 := by
   rw [ht0]
   unfold tk9 tkOf
   rw [e28]
  have wt : (tk9 m g.1.1).wf := by rw [← et]; exact ⟨hl2, hl4, wordsN_len _⟩
  rw [et]
  have h9 := tk9_eq (n := (m : Int)) hgb h81
  conv=>whnf
  refine LoadNG.at (vs := (tk9 m g.1.1).cells) (TicketD.cells_len wt) .all ?_
  conv=>whnf
  refine CallG.pure (fits9_spec _ _ wt) ?_
  rintro _ _ ⟨rfl, rfl⟩
  conv=>whnf
  refine CondG.ndec (fun h5 => ?_) (fun h5 => ?_)
  ·have e : findR m g.1.1 = (zeroT', 75) := by unfold findR; rw [if_neg hne, if_neg (fun h => h5 (h9.1.2 h.2))]
   conv=>whnf
   refine BuildG.of rfl ?_
   conv=>whnf
   refine StoreG.at rfl (Upd.tl <| Upd.tl <| Upd.tl (Upd.whole rfl (TicketD.cells_one zeroT'))) ?_
   conv=>whnf
   refine LoadNG.at (vs := zeroT'.cells) rfl (.tl (.tl (.tl .all))) ?_
   conv=>whnf
   refine ⟨_, Ent.sel (T := []) (A := [_, _, _, _]) [2] rfl, ?_, rfl⟩
   rw [e]
   rfl
  have e : findR m g.1.1 = (tk9 m g.1.1, 0) := by unfold findR; rw [if_neg hne, if_pos ⟨h81, h9.1.1 h5⟩, h9.2 h5]
  conv=>whnf
  refine LoadNG.at (vs := (tk9 m g.1.1).cells) (TicketD.cells_len wt) .all ?_
  conv=>whnf
  refine StoreG.at (TicketD.cells_len wt) (Upd.tl (Upd.tl (Upd.tl (Upd.whole (by rw [TicketD.cells_len wt]; rfl) (TicketD.cells_one _))))) ?_
  conv=>whnf
  refine LoadNG.at (vs := (tk9 m g.1.1).cells) (TicketD.cells_len wt) (.tl (.tl (.tl .all))) ?_
  conv=>whnf
  refine ⟨_, Ent.sel (T := []) (A := [_, _, _, _]) [2] rfl, ?_, rfl⟩
  rw [e]
  rfl
 ·conv=>whnf
  intro b8
  conv=>whnf
  refine .all ?_
  conv=>whnf
  refine ⟨by decide, ?_⟩
  conv=>whnf
  refine CallG.pure (number9_spec _ _ g.1.1 (by omega) hgb (.right (.left hxr F) _)) ?_
  rintro _ _ ⟨rfl, rfl⟩
  conv=>whnf
  refine .take 7 ?_
  conv=>whnf
  refine ⟨rfl, ?_⟩
  conv=>whnf
  refine BuildG.of (cs := t0.cells) (by rw [ht0]; rfl) ?_
  conv=>whnf
  refine .all ?_
  conv=>whnf
  refine ⟨by decide, ?_⟩
  conv=>whnf
  refine StoreG.at (by rw [ht0]; rfl) (Upd.whole (by rw [ht0]; rfl) (TicketD.cells_one _)) ?_
  conv=>whnf
  refine ⟨rfl, ?_⟩
  conv=>whnf
  refine DrawG.mk 5 [own 1 (.slice xa g.1.1.length xc) g.1.1.length (bvs g.1.1), refR 83 s hv part nv g.2, cel b4 40 zeroT'.cells] [cel b8 40 t0.cells] (Ent.refl _) ?_
  conv=>whnf
  refine .take 0 ?_
  conv=>whnf
  refine ⟨rfl, ?_⟩
  conv=>whnf
  refine .take 1 ?_
  conv=>whnf
  refine ⟨rfl, ?_⟩
  conv=>whnf
  refine SideG.of (by decide) ?_
  conv=>whnf
  refine SliceG.zero ?_
  conv=>whnf
  refine .take 2 ?_
  conv=>whnf
  refine ⟨rfl, ?_⟩
  conv=>whnf
  refine .take 3 ?_
  conv=>whnf
  refine ⟨rfl, ?_⟩
  conv=>whnf
  refine SlcG.lit ?_
  conv=>whnf
  refine SideG.of (by omega) ?_
  conv=>whnf
  refine SliceG.rd hxr (by decide) (by show 28 ≤ _; omega) (by show 28 ≤ _; omega) (by simp) fun v1 hv1 _ => ?_
  have e1 : List.take ((Int.toNat 28 - Int.toNat 8) * 1) (List.drop (Int.toNat 8 * 1) (bvs g.1.1)) = bvs ((g.1.1.drop 8).take 20) := by simp [bvs]
  rw [e1] at hv1
  conv=>whnf
  refine .all ?_
  conv=>whnf
  refine ⟨by decide, ?_⟩
  conv=>whnf
  refine DoesG.copy1 (elem := 5) (n := 20) (cs := bvs ((g.1.1.drop 8).take 20)) (by kernel_rfl) (by kernel_rfl) (.tl (.right (.left hv1 F) _)) (by rw [bvs_len, hl2]) (by rw [TicketD.cells_len w0]; decide) (bvs_one _) ?_
  have e2 := TicketD.set_snd w0 hl2
  rw [bvs_len, hl2] at e2
  have e3 : t0.cells.take (0 + 2) ++ (bvs ((g.1.1.drop 8).take 20)).take (min 20 ((20 : Nat) : Int).toNat) ++ t0.cells.drop (0 + 2 + min 20 ((20 : Nat) : Int).toNat) = ({ t0 with snd := (g.1.1.drop 8).take 20 } : TicketD).cells := by
   rw [← e2, List.take_of_length_le (l := bvs _) (by rw [bvs_len, hl2]; decide)]
   rfl
  rw [e3]
  have w1 : ({ t0 with snd := (g.1.1.drop 8).take 20 } : TicketD).wf := ⟨hl2, w0.to, w0.amt⟩
  conv=>whnf
  refine ⟨rfl, ?_⟩
  conv=>whnf
  refine DrawG.mk 5 [own 1 (.slice xa g.1.1.length xc) g.1.1.length (bvs g.1.1), refR 83 s hv part nv g.2, cel b4 40 zeroT'.cells] [cel b8 40 ({ t0 with snd := (g.1.1.drop 8).take 20 } : TicketD).cells] (Ent.refl _) ?_
  conv=>whnf
  refine .take 0 ?_
  conv=>whnf
  refine ⟨rfl, ?_⟩
  conv=>whnf
  refine .take 1 ?_
  conv=>whnf
  refine ⟨rfl, ?_⟩
  conv=>whnf
  refine SideG.of (by decide) ?_
  conv=>whnf
  refine SliceG.zero ?_
  conv=>whnf
  refine .take 2 ?_
  conv=>whnf
  refine ⟨rfl, ?_⟩
  conv=>whnf
  refine .take 3 ?_
  conv=>whnf
  refine ⟨rfl, ?_⟩
  conv=>whnf
  refine SlcG.lit ?_
  conv=>whnf
  refine SideG.of (by omega) ?_
  conv=>whnf
  refine SliceG.rd hxr (by decide) (by show 49 ≤ _; omega) (by show 49 ≤ _; omega) (by simp) fun v1 hv1 _ => ?_
  have e1 : List.take ((Int.toNat 49 - Int.toNat 29) * 1) (List.drop (Int.toNat 29 * 1) (bvs g.1.1)) = bvs ((g.1.1.drop 29).take 20) := by simp [bvs]
  rw [e1] at hv1
  conv=>whnf
  refine .all ?_
  conv=>whnf
  refine ⟨by decide, ?_⟩
  conv=>whnf
  refine DoesG.copy1 (elem := 5) (n := 20) (cs := bvs ((g.1.1.drop 29).take 20)) (by kernel_rfl) (by kernel_rfl) (.tl (.right (.left hv1 F) _)) (by rw [bvs_len, hl4]) (by rw [TicketD.cells_len w1]; decide) (bvs_one _) ?_
  have e4 := TicketD.set_to w1 hl4
  rw [bvs_len, hl4] at e4
  have e5 : ({ t0 with snd := (g.1.1.drop 8).take 20 } : TicketD).cells.take (0 + 23) ++ (bvs ((g.1.1.drop 29).take 20)).take (min 20 ((20 : Nat) : Int).toNat) ++ ({ t0 with snd := (g.1.1.drop 8).take 20 } : TicketD).cells.drop (0 + 23 + min 20 ((20 : Nat) : Int).toNat) = ({ t0 with snd := (g.1.1.drop 8).take 20, to := (g.1.1.drop 29).take 20 } : TicketD).cells := by
   rw [← e4, List.take_of_length_le (l := bvs _) (by rw [bvs_len, hl4]; decide)]
   rfl
  rw [e5]
  have w2 : ({ t0 with snd := (g.1.1.drop 8).take 20, to := (g.1.1.drop 29).take 20 } : TicketD).wf := ⟨hl2, hl4, w0.amt⟩
  conv=>whnf
  refine ⟨rfl, ?_⟩
  conv=>whnf
  refine SlcG.lit ?_
  conv=>whnf
  refine SideG.of (by omega) ?_
  conv=>whnf
  refine SliceG.rd hxr (by show 49 ≤ _; omega) (by simp) (by simp; omega) (by simp) fun v1 hv1 _ => ?_
  have e6 : List.take (((g.1.1.length : Int).toNat - Int.toNat 49) * 1) (List.drop (Int.toNat 49 * 1) (bvs g.1.1)) = bvs ((g.1.1.drop 49).take 32) := by simp [bvs, h81]
  have e7 : (g.1.1.length : Int).toNat - Int.toNat 49 = 32 := by rw [h81]; rfl
  rw [e6, e7] at hv1
  conv=>whnf
  refine CallG.pure (read2_spec _ v1 ((g.1.1.drop 49).take 32) hl5 (.left (.tl hv1) F) (fun b hb => hgb b (List.mem_of_mem_drop (List.mem_of_mem_take hb)))) ?_
  rintro _ _ ⟨rfl, rfl⟩
  have e8 := TicketD.set_amt w2 (wordsN_len ((g.1.1.drop 49).take 32))
  conv=>whnf
  refine StoreG.at (by rw [uvs_len, wordsN_len]) (Upd.hereN (by rw [uvs_len, wordsN_len, TicketD.cells_len w2]; decide) (uvs_one _) e8) ?_
  have et : ({ t0 with snd := (g.1.1.drop 8).take 20, to := (g.1.1.drop 29).take 20, amt := wordsN ((g.1.1.drop 49).take 32) } : TicketD) = tk9 m g.1.1 := by
   rw [ht0]
   unfold tk9 tkOf
   rw [e28]
  have wt : (tk9 m g.1.1).wf := by rw [← et]; exact ⟨hl2, hl4, wordsN_len _⟩
  rw [et]
  have h9 := tk9_eq (n := (m : Int)) hgb h81
  conv=>whnf
  refine LoadNG.at (vs := (tk9 m g.1.1).cells) (TicketD.cells_len wt) .all ?_
  conv=>whnf
  refine CallG.pure (fits9_spec _ _ wt) ?_
  rintro _ _ ⟨rfl, rfl⟩
  conv=>whnf
  refine CondG.ndec (fun h5 => ?_) (fun h5 => ?_)
  ·have e : findR m g.1.1 = (zeroT', 75) := by unfold findR; rw [if_neg hne, if_neg (fun h => h5 (h9.1.2 h.2))]
   conv=>whnf
   refine BuildG.of rfl ?_
   conv=>whnf
   refine StoreG.at rfl (Upd.tl <| Upd.tl <| Upd.tl (Upd.whole rfl (TicketD.cells_one zeroT'))) ?_
   conv=>whnf
   refine LoadNG.at (vs := zeroT'.cells) rfl (.tl (.tl (.tl .all))) ?_
   conv=>whnf
   refine ⟨_, Ent.sel (T := []) (A := [_, _, _, _]) [2] rfl, ?_, rfl⟩
   rw [e]
   rfl
  have e : findR m g.1.1 = (tk9 m g.1.1, 0) := by unfold findR; rw [if_neg hne, if_pos ⟨h81, h9.1.1 h5⟩, h9.2 h5]
  conv=>whnf
  refine LoadNG.at (vs := (tk9 m g.1.1).cells) (TicketD.cells_len wt) .all ?_
  conv=>whnf
  refine StoreG.at (TicketD.cells_len wt) (Upd.tl (Upd.tl (Upd.tl (Upd.whole (by rw [TicketD.cells_len wt]; rfl) (TicketD.cells_one _))))) ?_
  conv=>whnf
  refine LoadNG.at (vs := (tk9 m g.1.1).cells) (TicketD.cells_len wt) (.tl (.tl (.tl .all))) ?_
  conv=>whnf
  refine ⟨_, Ent.sel (T := []) (A := [_, _, _, _]) [2] rfl, ?_, rfl⟩
  rw [e]
  rfl
theorem cancel9_q (F : List HP) (s : Nat) (R : RSt) (n : Int) (a : List Nat) (ha : a.length = 20) (hd : DocF F hv nv part find) (hl : Lim R 2) :
 SpecF Tryz.prog 42 [.pointer (some ⟨s, 0, none⟩), .int .i64 n, .agg ⟨bvs a⟩] F [refR 83 s hv part nv R] (fun r L => r = .tuple #[.agg ⟨(cancelQ find R n a).1.1.cells⟩, .int .i64 (cancelQ find R n a).1.2] ∧ L = [refR 83 s hv part nv (cancelQ find R n a).2]) := by
 refine fun42.spec rfl ?_
 have wt := tfindQ_wf find R n
 have hnum := fun h => tfindQ_num (find := find) (R := R) (n := n) h
 have hstp := hl.tfind hd.1 n
 rw [cancelQ]
 conv=>whnf
 intro b5
 conv=>whnf
 intro b6
 conv=>whnf
 refine CallG.of (pre := [refR 83 s hv part nv R]) (rest := [cel b6 40 zeroT'.cells, cel b5 35 (bvs a)]) (find9_q _ s R n (hd.left _) (hl.mono (by decide))) (Ent.sel (T := []) (A := [_, _, _]) [2, 0, 1] rfl) ?_
 rintro _ _ ⟨rfl, rfl⟩
 generalize tfindQ find R n = g at *
 obtain ⟨⟨t, e⟩, R1⟩ := g
 simp only at wt hnum hstp ⊢
 conv=>whnf
 intro b8
 conv=>whnf
 refine StoreG.at (TicketD.cells_len wt) (Upd.whole (by rw [TicketD.cells_len wt]; rfl) (TicketD.cells_one _)) ?_
 conv=>whnf
 refine CondG.ndec (fun h1 => ?_) (fun h1 => ?_)
 ·conv=>whnf
  refine BuildG.of rfl ?_
  conv=>whnf
  refine StoreG.at rfl (Upd.tl (Upd.tl (Upd.whole rfl (TicketD.cells_one zeroT')))) ?_
  conv=>whnf
  refine LoadNG.at (vs := zeroT'.cells) rfl (.tl (.tl .all)) ?_
  conv=>whnf
  rw [cancelA, if_pos h1]
  exact ⟨_, Ent.sel (T := []) (A := [_, _, _, _]) [1] rfl, rfl, rfl⟩
 rw [cancelA, if_neg (fun h => h h1)]
 conv=>whnf
 have hl2 : t.snd.length = 20 := wt.snd
 refine LoadNG.at (vs := bvs t.snd) (by rw [bvs_len, hl2]) (CelN.here (TicketD.snd_at _)) ?_
 conv=>whnf
 refine LoadNG.at (vs := bvs a) (by rw [bvs_len, ha]) (.tl (.tl (.tl .all))) ?_
 conv=>whnf
 refine DoesG.eqv 8 (List.replicate 20 (.int .u8)) (by kernel_rfl) (by decide) (by kernel_rfl) (by kernel_rfl) (wt_bvs hl2) (wt_bvs ha) ?_
 conv=>whnf
 refine CondG.split (fun h2 => ?_) (fun h2 => ?_)
 ·have h2' : t.snd ≠ a := fun e => by rw [e] at h2; simp at h2
  conv=>whnf
  refine BuildG.of rfl ?_
  conv=>whnf
  refine StoreG.at rfl (Upd.tl (Upd.tl (Upd.whole rfl (TicketD.cells_one zeroT')))) ?_
  conv=>whnf
  refine LoadNG.at (vs := zeroT'.cells) rfl (.tl (.tl .all)) ?_
  conv=>whnf
  rw [if_pos h2']
  exact ⟨_, Ent.sel (T := []) (A := [_, _, _, _]) [1] rfl, rfl, rfl⟩
 have h2' : t.snd = a := bvs_inj.1 (by simpa using h2)
 have hn1 := hnum h1
 rw [if_neg (fun h => h h2')]
 obtain ⟨m, rfl⟩ : ∃ m : Nat, n = m := ⟨n.toNat, (Int.toNat_of_nonneg (by omega)).symm⟩
 rw [Int.toNat_natCast]
 conv=>whnf
 refine CallG.pure (key9_spec _ m (by omega)) ?_
 rintro _ _ ⟨rfl, rfl⟩
 conv=>whnf
 refine CallG.of (pre := [refR 83 s hv part nv R1]) (rest := [cel b8 40 t.cells, cel b6 40 zeroT'.cells, cel b5 35 (bvs a)]) (put7_p _ s R1 (tkey m) (.slice none 0 0) [] (hd.left _) .nil (hstp.mono (by decide))) (Ent.sel (T := []) (A := [_, _, _, _]) [1, 0, 2, 3] rfl) ?_
 rintro _ _ ⟨rfl, rfl⟩
 generalize ptQ find R1 (tkey m) [] = p at *
 conv=>whnf
 refine CondG.ndec (fun h5 => ?_) (fun h5 => ?_)
 ·conv=>whnf
  refine BuildG.of rfl ?_
  conv=>whnf
  refine StoreG.at rfl (Upd.tl (Upd.tl (Upd.whole rfl (TicketD.cells_one zeroT')))) ?_
  conv=>whnf
  refine LoadNG.at (vs := zeroT'.cells) rfl (.tl (.tl .all)) ?_
  conv=>whnf
  rw [cancelB, if_pos h5]
  exact ⟨_, Ent.sel (T := []) (A := [_, _, _, _]) [0] rfl, rfl, rfl⟩
 rw [cancelB, if_neg (fun h => h h5)]
 conv=>whnf
 refine LoadNG.at (vs := t.cells) (TicketD.cells_len wt) (.tl .all) ?_
 conv=>whnf
 refine StoreG.at (TicketD.cells_len wt) (Upd.tl (Upd.tl (Upd.whole (by rw [TicketD.cells_len wt]; rfl) (TicketD.cells_one _)))) ?_
 conv=>whnf
 refine LoadNG.at (vs := t.cells) (TicketD.cells_len wt) (.tl (.tl .all)) ?_
 conv=>whnf
 exact ⟨_, Ent.sel (T := []) (A := [_, _, _, _]) [0] rfl, rfl, rfl⟩
theorem retry9_q (F : List HP) (s : Nat) (R : RSt) (n : Int) (hd : DocF F hv nv part find) (hl : Lim R 6) :
 SpecF Tryz.prog 41 [.pointer (some ⟨s, 0, none⟩), .int .i64 n] F [refR 83 s hv part nv R] (fun r L => r = .int .i64 (retryQ find R n).1 ∧ L = [refR 83 s hv part nv (retryQ find R n).2]) := by
 refine fun41.spec rfl ?_
 have hw := tfindQ_wf find R n
 have hamt := tfindQ_amt find R n
 have hnum := fun h => tfindQ_num (find := find) (R := R) (n := n) h
 have hstp := hl.tfind hd.1 n
 rw [retryQ]
 conv=>whnf
 refine CallG.of (pre := [refR 83 s hv part nv R]) (rest := []) (find9_q _ s R n (hd.left _) (hl.mono (by decide))) (Ent.refl _) ?_
 rintro _ _ ⟨rfl, rfl⟩
 generalize tfindQ find R n = g at *
 obtain ⟨⟨t, e⟩, R1⟩ := g
 simp only at hw hamt hnum hstp ⊢
 have h47 : t.cells.length = 47 := TicketD.cells_len hw
 have h20 : (bvs t.to).length = 20 := by rw [bvs_len, hw.to]
 have h4 : (uvs t.amt).length = 4 := by rw [uvs_len, hw.amt]
 conv=>whnf
 intro b5
 conv=>whnf
 refine StoreG.at h47 (Upd.whole (by rw [h47]; rfl) (TicketD.cells_one _)) ?_
 conv=>whnf
 refine CondG.ndec (fun hc => ?_) (fun hc => ?_)
 ·conv=>whnf
  rw [retryA, if_pos hc]
  exact ⟨_, Ent.sel (T := []) (A := [_, _]) [1] rfl, rfl, rfl⟩
 have hkr := hnum hc
 rw [retryA, if_neg (fun h => h hc)]
 obtain ⟨kn, rfl⟩ : ∃ m : Nat, n = m := ⟨n.toNat, by omega⟩
 conv=>whnf
 refine LoadG.at (v := .int .i64 t.tok) (.here (TicketD.tok_at hw)) ?_
 conv=>whnf
 refine LoadNG.at (vs := bvs t.to) h20 (.here (TicketD.to_at hw)) ?_
 conv=>whnf
 refine LoadNG.at (vs := uvs t.amt) h4 (.here (TicketD.amt_at hw)) ?_
 conv=>whnf
 refine CallG.of (pre := [refR 83 s hv part nv R1]) (rest := [cel b5 40 t.cells]) (mint8_q _ s R1 t.tok t.to t.amt hw.to hamt (hd.left [_]) (hstp.mono (by decide))) (Ent.front 1 rfl) ?_
 rintro _ _ ⟨rfl, rfl⟩
 have hms : Lim (mintQ find R1 t.tok t.to t.amt).2 1 := hstp.mint hd.1 _ _ _
 generalize mintQ find R1 t.tok t.to t.amt = y at *
 conv=>whnf
 refine CondG.ndec (fun hc2 => ?_) (fun hc2 => ?_)
 ·conv=>whnf
  rw [retryB, if_pos hc2]
  exact ⟨_, Ent.sel (T := []) (A := [_, _]) [0] rfl, rfl, rfl⟩
 rw [retryB, if_neg (fun h => h hc2), Int.toNat_natCast]
 conv=>whnf
 refine CallG.pure (key9_spec _ kn (by omega)) ?_
 rintro _ _ ⟨rfl, rfl⟩
 conv=>whnf
 refine CallG.of (pre := [refR 83 s hv part nv y.2]) (rest := [cel b5 40 t.cells]) (put7_p _ s y.2 (tkey kn) (.slice none 0 0) [] (hd.left [_]) .nil hms) (Ent.refl _) ?_
 rintro _ _ ⟨rfl, rfl⟩
 conv=>whnf
 exact ⟨_, Ent.sel (T := []) (A := [_, _]) [0] rfl, rfl, rfl⟩
end
end Go.Proofs.YtjacolfhlfogkabGreatDoor
