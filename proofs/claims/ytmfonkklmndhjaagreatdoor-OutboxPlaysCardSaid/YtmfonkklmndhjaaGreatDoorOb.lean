import Derived.Test.YtmfonkklmndhjaaGreatDoorSd
namespace Go.Proofs.YtmfonkklmndhjaaGreatDoor
open Go Go.Sl
theorem count_spec (F : List HP) (n : Int) : SpecF Tryz.prog 57 [.int .i64 n] F [] (fun v L => v = .bool (decide (mayCount n)) ∧ L = []) := by
 refine fun57.spec rfl ?_
 conv=>whnf
 refine CondG.dec (fun h => ?_) (fun h => ?_)
 ·(conv=>whnf);refine .tt ?_;(conv=>whnf);refine .tt ?_;(conv=>whnf)
  refine ret_here ⟨congrArg Value.bool ?_, rfl⟩
  simp [mayCount, h]
 ·(conv=>whnf);refine .ff ?_;(conv=>whnf);refine .ff ?_;(conv=>whnf)
  refine ret_here ⟨congrArg Value.bool ?_, rfl⟩
  simp [mayCount, h]
theorem may_spec (F : List HP) (l : LeafD) (hl : l.wf) : SpecF Tryz.prog 30 [.agg ⟨l.cells⟩] F [] (fun v L => v = .bool (decide l.may) ∧ L = []) := by
 refine fun30.spec rfl ?_
 conv=>whnf
 intro b
 conv=>whnf
 refine LoadG.at (v := .int .i64 l.idx) (.here rfl) ?_
 conv=>whnf
 refine CallG.pure (count_spec _ _) ?_
 rintro _ _ ⟨rfl, rfl⟩
 conv=>whnf
 refine CondG.dec (fun h1 => ?_) (fun h1 => ?_)
 rotate_left
 ·(conv=>whnf);repeat((with_reducible first|refine .tt ?_|refine .ff ?_);conv=>whnf)
  exact ⟨[], Ent.nil _, congrArg Value.bool (decide_eq_false fun h => h1 h.1).symm, rfl⟩
 (conv=>whnf);refine .tt ?_;(conv=>whnf)
 refine LoadG.at (v := .int .i64 l.ent) (.here rfl) ?_
 (conv=>whnf);refine .tt ?_;(conv=>whnf)
 refine CallG.pure (count_spec _ _) ?_
 rintro _ _ ⟨rfl, rfl⟩
 (conv=>whnf);refine .tt ?_;(conv=>whnf)
 refine CondG.dec (fun h2 => ?_) (fun h2 => ?_)
 rotate_left
 ·(conv=>whnf);refine .ff ?_;(conv=>whnf);refine .ff ?_;(conv=>whnf);refine .ff ?_;(conv=>whnf);refine .ff ?_;(conv=>whnf);refine .ff ?_;(conv=>whnf);refine .ff ?_;(conv=>whnf);refine .ff ?_;(conv=>whnf);refine .ff ?_;(conv=>whnf);refine .ff ?_;(conv=>whnf);refine .ff ?_;(conv=>whnf);refine .ff ?_;(conv=>whnf);refine .ff ?_;(conv=>whnf)
  exact ⟨[], Ent.nil _, congrArg Value.bool (decide_eq_false fun h => h2 h.2.1).symm, rfl⟩
 (conv=>whnf);refine .tt ?_;(conv=>whnf)
 refine LoadG.at (v := .int .i64 l.tok) (.here rfl) ?_
 (conv=>whnf);refine .tt ?_;(conv=>whnf);refine .tt ?_;(conv=>whnf)
 refine CondG.dec (fun h3 => ?_) (fun h3 => ?_)
 rotate_left
 ·(conv=>whnf);refine .ff ?_;(conv=>whnf);refine .ff ?_;(conv=>whnf);refine .ff ?_;(conv=>whnf);refine .ff ?_;(conv=>whnf);refine .ff ?_;(conv=>whnf);refine .ff ?_;(conv=>whnf);refine .ff ?_;(conv=>whnf);refine .ff ?_;(conv=>whnf)
  exact ⟨[], Ent.nil _, congrArg Value.bool (decide_eq_false fun h => h3 h.2.2.1.1).symm, rfl⟩
 (conv=>whnf);refine .tt ?_;(conv=>whnf)
 refine LoadG.at (v := .int .i64 l.tok) (.here rfl) ?_
 (conv=>whnf);refine .tt ?_;(conv=>whnf);refine .tt ?_;(conv=>whnf)
 refine CondG.dec (fun h4 => ?_) (fun h4 => ?_)
 rotate_left
 ·(conv=>whnf);refine .ff ?_;(conv=>whnf);refine .ff ?_;(conv=>whnf);refine .ff ?_;(conv=>whnf);refine .ff ?_;(conv=>whnf)
  exact ⟨[], Ent.nil _, congrArg Value.bool (decide_eq_false fun h => h4 h.2.2.1.2).symm, rfl⟩
 (conv=>whnf);refine .tt ?_;(conv=>whnf)
 refine LoadNG.at (vs := uvs l.amt) (by rw [uvs_len, hl.amt]) (CelN.here (LeafD.amt_at hl)) ?_
 (conv=>whnf);refine .tt ?_;(conv=>whnf)
 refine CallG.pure (isZero_spec _ _ hl.amt) ?_
 rintro _ _ ⟨rfl, rfl⟩
 (conv=>whnf);refine .tt ?_;(conv=>whnf);refine .tt ?_;(conv=>whnf)
 refine ⟨[], Ent.nil _, congrArg Value.bool ?_, rfl⟩
 by_cases h5 : l.amt = List.replicate 4 0
 ·rw [decide_eq_true h5]
  exact (decide_eq_false fun h => h.2.2.2 h5).symm
 ·rw [decide_eq_false h5]
  exact (decide_eq_true ⟨h1, h2, ⟨h3, h4⟩, h5⟩).symm
theorem bytes_spec (F : List HP) (l : LeafD) (hl : l.wf) : SpecF Tryz.prog 11 [.agg ⟨l.cells⟩] F []
 (fun v L => (l.may ∧ ∃ r, SlV r l.bytes.length ∧ v = .tuple #[r, .int .i64 0] ∧ L = [own 1 r l.bytes.length (bvs l.bytes)]) ∨ (¬ l.may ∧ v = .tuple #[.slice none 0 0, .int .i64 110] ∧ L = [])) := by
 refine fun11.spec rfl ?_
 conv=>whnf
 intro b
 conv=>whnf
 refine LoadNG.at (vs := l.cells) (LeafD.cells_len hl) .all ?_
 conv=>whnf
 refine CallG.pure (may_spec _ _ hl) ?_
 rintro _ _ ⟨rfl, rfl⟩
 conv=>whnf
 refine CondG.ndec (fun h1 => ?_) (fun h1 => ?_)
 ·conv=>whnf
  exact ⟨[], Ent.nil _, .inr ⟨h1, rfl, rfl⟩⟩
 have hlen := LeafD.bytes_len l hl
 obtain ⟨n1, hn1⟩ : ∃ n : Nat, l.idx = n := ⟨l.idx.toNat, (Int.toNat_of_nonneg h1.1.1).symm⟩
 obtain ⟨n2, hn2⟩ : ∃ n : Nat, l.ent = n := ⟨l.ent.toNat, (Int.toNat_of_nonneg h1.2.1.1).symm⟩
 obtain ⟨n3, hn3⟩ : ∃ n : Nat, l.tok = n := ⟨l.tok.toNat, (Int.toNat_of_nonneg h1.2.2.1.1).symm⟩
 have hm1 := h1.1.2
 have hm2 := h1.2.1.2
 have hm3 := h1.2.2.1.2
 have hby : l.bytes = [76] ++ shortL (be n1 8) ++ shortL (be n2 8) ++ shortL (be n3 8) ++ l.to ++ shortL (wideB l.amt) := by
  simp only [LeafD.bytes, hn1, hn2, hn3, Int.toNat_natCast]
 have s1 := short_len (be n1 8)
 have s2 := short_len (be n2 8)
 have s3 := short_len (be n3 8)
 have s4 := short_len (wideB l.amt)
 rw [be_len] at s1 s2 s3
 rw [wide_len] at s4
 have s5 := hl.to
 conv=>whnf
 refine CallG.pure (newWriter_spec _) ?_
 rintro _ _ ⟨p, rfl, rfl⟩
 conv=>whnf
 refine CallG.of (rest := [cel b 45 l.cells]) (byte_spec _ p _ [] 0 76 (by simp)) (Ent.refl _) ?_
 rintro _ _ ⟨u1, rfl⟩
 rw [layB_ok (by simp), layE_ok (by simp)]
 conv=>whnf
 refine LoadG.at (v := .int .i64 n1) (.tl (.tl (.here (congrArg (fun z => some (Value.int .i64 z)) hn1)))) ?_
 conv=>whnf
 refine CallG.of (rest := [cel b 45 l.cells]) (number_spec _ p _ _ 0 n1 (by simp) (by omega)) (Ent.refl _) ?_
 rintro _ _ ⟨u2, rfl⟩
 rw [layB_ok (by simp; omega), layE_ok (by simp; omega)]
 conv=>whnf
 refine LoadG.at (v := .int .i64 n2) (.tl (.tl (.here (congrArg (fun z => some (Value.int .i64 z)) hn2)))) ?_
 conv=>whnf
 refine CallG.of (rest := [cel b 45 l.cells]) (number_spec _ p _ _ 0 n2 (by simp; omega) (by omega)) (Ent.refl _) ?_
 rintro _ _ ⟨u3, rfl⟩
 rw [layB_ok (by simp; omega), layE_ok (by simp; omega)]
 conv=>whnf
 refine LoadG.at (v := .int .i64 n3) (.tl (.tl (.here (congrArg (fun z => some (Value.int .i64 z)) hn3)))) ?_
 conv=>whnf
 refine CallG.of (rest := [cel b 45 l.cells]) (number_spec _ p _ _ 0 n3 (by simp; omega) (by omega)) (Ent.refl _) ?_
 rintro _ _ ⟨u4, rfl⟩
 rw [layB_ok (by simp; omega), layE_ok (by simp; omega)]
 conv=>whnf
 refine LoadNG.at (vs := bvs l.to) (by rw [bvs_len, hl.to]) (.tl (.tl (CelN.here LeafD.to_at))) ?_
 conv=>whnf
 refine CallG.of (rest := [cel b 45 l.cells]) (address_spec _ p _ _ 0 l.to (by simp; omega) hl.to) (Ent.refl _) ?_
 rintro _ _ ⟨u5, rfl⟩
 rw [layB_ok (by simp; omega), layE_ok (by simp; omega)]
 conv=>whnf
 refine LoadNG.at (vs := uvs l.amt) (by rw [uvs_len, hl.amt]) (.tl (.tl (CelN.here (LeafD.amt_at hl)))) ?_
 conv=>whnf
 refine CallG.of (rest := [cel b 45 l.cells]) (wide_spec _ p _ _ 0 l.amt (by simp; omega) hl.amt) (Ent.refl _) ?_
 rintro _ _ ⟨u6, rfl⟩
 rw [layB_ok (by simp; omega), layE_ok (by simp; omega), List.nil_append, ← hby]
 conv=>whnf
 refine CallG.of (rest := [cel b 45 l.cells]) (done_spec _ p _ _ 0 (by omega)) (Ent.refl _) ?_
 rintro _ _ ⟨r, hr, rfl, rfl⟩
 rw [if_pos rfl] at hr ⊢
 conv=>whnf
 exact ⟨_, Ent.dropL [own 1 r l.bytes.length (bvs l.bytes)] _, .inl ⟨h1, r, hr, rfl, rfl⟩⟩
theorem new_spec (F : List HP) : SpecF Tryz.prog 10 [] F [] (fun v L => ∃ b, v = .pointer (some ⟨b, 0, none⟩) ∧ L = bookL 63 b (.slice none 0 0) (.slice none 0 0) [] []) := by
 refine fun10.spec rfl ?_
 conv=>whnf
 refine BuildG.of rfl ?_
 conv=>whnf
 intro b
 conv=>whnf
 exact ⟨_, fun w G hs => Sat.own_nil (Sat.own_nil hs), b, rfl, rfl⟩
theorem len_spec (F : List HP) (b : Nat) (lv : Value) (n : Nat) (h : Cel F b 0 lv) (hs : SlV lv n) : SpecF Tryz.prog 14 [.pointer (some ⟨b, 0, none⟩)] F [] (fun v L => v = .int .i64 n ∧ L = []) := by
 refine fun14.spec rfl ?_
 conv=>whnf
 refine LoadG.atF h ?_
 conv=>whnf
 refine LenG.sl hs ?_
 conv=>whnf
 exact ret_here ⟨rfl, rfl⟩
theorem bleaf_spec (F : List HP) (b : Nat) (lv : Value) (i : Int) (ls : List LeafD) (hw : ∀ l ∈ ls, l.wf) (h : Cel F b 0 lv) (hr : RdS F lv ls.length (leavesC ls)) (hs : SlV lv ls.length) :
 SpecF Tryz.prog 13 [.pointer (some ⟨b, 0, none⟩), .int .i64 i] F [] (fun v L => L = [] ∧ ((∃ hi : 0 ≤ i ∧ i < ls.length, v = .tuple #[.agg ⟨(ls[i.toNat]'(by omega)).cells⟩, .int .i64 0]) ∨
  (¬ (0 ≤ i ∧ i < ls.length) ∧ v = .tuple #[.agg ⟨(LeafD.mk 0 0 0 (List.replicate 20 0) (List.replicate 4 0)).cells⟩, .int .i64 111]))) := by
 refine fun13.spec rfl ?_
 conv=>whnf
 intro b4
 conv=>whnf
 refine CondG.dec (fun h1 => ?_) (fun h1 => ?_)
 ·(conv=>whnf);refine .tt ?_;(conv=>whnf);refine .tt ?_;(conv=>whnf);refine .tt ?_;(conv=>whnf);refine .tt ?_;(conv=>whnf);refine .tt ?_;(conv=>whnf);refine .tt ?_;(conv=>whnf);refine .tt ?_;(conv=>whnf)
  refine BuildG.of rfl ?_
  conv=>whnf
  refine StoreG.at rfl (Upd.whole rfl (LeafD.cells_one (LeafD.mk 0 0 0 (List.replicate 20 0) (List.replicate 4 0)))) ?_
  conv=>whnf
  refine LoadNG.at (vs := (LeafD.mk 0 0 0 (List.replicate 20 0) (List.replicate 4 0)).cells) rfl .all ?_
  conv=>whnf
  exact ⟨[], Ent.nil _, rfl, .inr ⟨by omega, rfl⟩⟩
 (conv=>whnf);refine .ff ?_;(conv=>whnf);refine .ff ?_;(conv=>whnf);refine .ff ?_;(conv=>whnf);refine .ff ?_;(conv=>whnf)
 refine CallG.pure (len_spec _ b lv ls.length (h.right _) hs) ?_
 rintro _ _ ⟨rfl, rfl⟩
 (conv=>whnf);refine .ff ?_;(conv=>whnf);refine .ff ?_;(conv=>whnf)
 refine CondG.dec (fun h2 => ?_) (fun h2 => ?_)
 ·conv=>whnf
  refine BuildG.of rfl ?_
  conv=>whnf
  refine StoreG.at rfl (Upd.whole rfl (LeafD.cells_one (LeafD.mk 0 0 0 (List.replicate 20 0) (List.replicate 4 0)))) ?_
  conv=>whnf
  refine LoadNG.at (vs := (LeafD.mk 0 0 0 (List.replicate 20 0) (List.replicate 4 0)).cells) rfl .all ?_
  conv=>whnf
  exact ⟨[], Ent.nil _, rfl, .inr ⟨by omega, rfl⟩⟩
 conv=>whnf
 have hi : i.toNat < ls.length := by omega
 have hl := LeafD.cells_len (hw ls[i.toNat] (List.getElem_mem hi))
 refine LoadG.atF h ?_
 conv=>whnf
 refine IdxG.rd hr (by omega) fun c o hc => ?_
 conv=>whnf
 refine LoadNG.atF (vs := ls[i.toNat].cells) hl (hc.part (by rw [hl]; exact leavesC_get hw hi)) ?_
 conv=>whnf
 refine StoreG.at hl (Upd.whole (by rw [hl]; rfl) (LeafD.cells_one _)) ?_
 conv=>whnf
 refine LoadNG.at (vs := ls[i.toNat].cells) hl .all ?_
 conv=>whnf
 exact ⟨[], Ent.nil _, rfl, .inl ⟨by omega, rfl⟩⟩
theorem perm_put {a c d e f : HP} {T : List HP} : (a :: c :: d :: e :: f :: T).Perm (d :: c :: e :: f :: (T ++ [a])) := by
 refine List.Perm.trans (List.perm_append_comm (l₁ := [a]) (l₂ := c :: d :: e :: f :: T)) ?_
 exact List.Perm.swap _ _ _
theorem leavesT : ElT Tryz.prog 58 45 27 80 := .of (by kernel_rfl)
theorem put_spec (F : List HP) (b : Nat) (lv tv : Value) (l : LeafD) (hl : l.wf) (ls : List LeafD) (ts : List (Value × List Nat)) (hn : ls.length ≤ 1099511627776) (hm : ts.length ≤ 1099511627776) :
 SpecF Tryz.prog 12 [.pointer (some ⟨b, 0, none⟩), .agg ⟨l.cells⟩] F (bookL 63 b lv tv ls ts) (fun v L =>
  (¬ l.may ∧ v = .int .i64 110 ∧ L = bookL 63 b lv tv ls ts) ∨ (l.may ∧ l.idx ≠ ls.length ∧ v = .int .i64 111 ∧ L = bookL 63 b lv tv ls ts) ∨
  (l.may ∧ l.idx = ls.length ∧ v = .int .i64 0 ∧ ∃ lv' tv' r, SlV lv' (ls.length + 1) ∧ SlV tv' (ts.length + 1) ∧ SlV r l.bytes.length ∧ L = bookL 63 b lv' tv' (ls ++ [l]) (ts ++ [(r, l.bytes)]))) := by
 refine SpecF.ownV 0 rfl fun hsl hlen => ?_
 refine SpecF.ownV 1 rfl fun hst htl => ?_
 refine fun12.spec rfl ?_
 conv=>whnf
 intro b3
 conv=>whnf
 refine LoadNG.at (vs := l.cells) (LeafD.cells_len hl) .all ?_
 conv=>whnf
 refine CallG.pure (bytes_spec _ l hl) ?_
 rintro _ _ (⟨h1, r, hr, rfl, rfl⟩ | ⟨h1, rfl, rfl⟩)
 rotate_left
 ·conv=>whnf
  refine CondG.tt ?_
  conv=>whnf
  exact ⟨_, Ent.drop _, .inl ⟨h1, rfl, rfl⟩⟩
 conv=>whnf
 refine CondG.ff ?_
 conv=>whnf
 refine DrawG.mk 8 (cel b3 45 l.cells :: bookL 63 b lv tv ls ts) [own 1 r l.bytes.length (bvs l.bytes)] (Ent.refl _) ?_
 conv=>whnf
 refine .take 0 ?_
 conv=>whnf
 refine ⟨rfl, ?_⟩
 conv=>whnf
 refine .take 1 ?_
 conv=>whnf
 refine ⟨rfl, ?_⟩
 conv=>whnf
 refine LoadG.at (v := .int .i64 l.idx) (.here rfl) ?_
 conv=>whnf
 refine .take 2 ?_
 conv=>whnf
 refine ⟨rfl, ?_⟩
 conv=>whnf
 refine .take 3 ?_
 conv=>whnf
 refine ⟨rfl, ?_⟩
 conv=>whnf
 refine .take 4 ?_
 conv=>whnf
 refine ⟨rfl, ?_⟩
 conv=>whnf
 refine .all ?_
 conv=>whnf
 refine ⟨by decide, ?_⟩
 conv=>whnf
 refine CallG.pure (len_spec _ b lv ls.length (.right (.left (.tl (.tl (.tl (.here rfl)))) F) _) hsl) ?_
 rintro _ _ ⟨rfl, rfl⟩
 conv=>whnf
 refine .take 6 ?_
 conv=>whnf
 refine ⟨rfl, ?_⟩
 conv=>whnf
 refine .take 7 ?_
 conv=>whnf
 refine ⟨rfl, ?_⟩
 conv=>whnf
 refine ⟨rfl, ?_⟩
 conv=>whnf
 refine CondG.ndec (fun h2 => ?_) (fun h2 => ?_)
 ·conv=>whnf
  refine ⟨bookL 63 b lv tv ls ts, fun w G hs => hs.tail.tail, .inr (.inl ⟨h1, h2, rfl, rfl⟩)⟩
 conv=>whnf
 refine DrawG.mk 9 (cel b3 45 l.cells :: own 1 tv ts.length (ts.map (·.1)) :: cel b 63 [lv, tv] :: (textsL ts ++ [own 1 r l.bytes.length (bvs l.bytes)])) [own 27 lv ls.length (leavesC ls)] (Ent.perm ?_) ?_
 ·exact perm_put
 conv=>whnf
 refine .take 0 ?_
 conv=>whnf
 refine ⟨rfl, ?_⟩
 conv=>whnf
 refine .take 1 ?_
 conv=>whnf
 refine ⟨rfl, ?_⟩
 conv=>whnf
 refine .take 2 ?_
 conv=>whnf
 refine ⟨rfl, ?_⟩
 conv=>whnf
 refine .take 3 ?_
 conv=>whnf
 refine ⟨rfl, ?_⟩
 conv=>whnf
 refine .take 4 ?_
 conv=>whnf
 refine ⟨rfl, ?_⟩
 conv=>whnf
 refine .take 5 ?_
 conv=>whnf
 refine ⟨rfl, ?_⟩
 conv=>whnf
 refine LoadG.at (.tl (.tl (.here rfl))) ?_
 conv=>whnf
 refine .take 6 ?_
 conv=>whnf
 refine ⟨rfl, ?_⟩
 conv=>whnf
 refine LoadNG.at (vs := l.cells) (LeafD.cells_len hl) .all ?_
 conv=>whnf
 refine .all ?_
 conv=>whnf
 refine ⟨by decide, ?_⟩
 conv=>whnf
 refine BuildG.of (cs := l.cells) ?_ ?_
 ·have e := LeafD.cells_len hl
  simp [fillL, Value.cells, e]
 conv=>whnf
 intro b4
 conv=>whnf
 refine .all ?_
 conv=>whnf
 refine ⟨by decide, ?_⟩
 conv=>whnf
 refine DoesG.ent (Ent.front 1 rfl) ?_
 refine app_own leavesT 58 (.mk _ _ _ _ _ (by decide) (.tl (.left .all _))) (by rw [LeafD.cells_len hl]) (LeafD.cells_one l) (by simp only [maxLen]; omega) (by omega) fun lv' hlv' hlen' hnil => ?_
 obtain ⟨la, lc, hle⟩ := hlv'.len
 subst hle
 conv=>whnf
 refine .all ?_
 conv=>whnf
 refine ⟨by decide, ?_⟩
 conv=>whnf
 refine ⟨rfl, ?_⟩
 conv=>whnf
 refine .all ?_
 conv=>whnf
 refine ⟨by decide, ?_⟩
 conv=>whnf
 refine .all ?_
 conv=>whnf
 refine ⟨by decide, ?_⟩
 conv=>whnf
 refine .all ?_
 conv=>whnf
 refine ⟨by decide, ?_⟩
 conv=>whnf
 refine StoreG.at rfl (Upd.tl (Upd.tl (Upd.tl (Upd.tl (Upd.here (by simp) rfl))))) ?_
 conv=>whnf
 refine ⟨rfl, ?_⟩
 conv=>whnf
 obtain ⟨ra, rc, hre⟩ := hr.len
 subst hre
 refine LoadG.at (.tl (.tl (.tl (.tl (.here rfl))))) ?_
 conv=>whnf
 refine BuildG.of rfl ?_
 conv=>whnf
 intro b5
 conv=>whnf
 refine DoesG.ent (Ent.front 4 rfl) ?_
 refine app_own partsT 59 (m := 1) (ys := [.slice ra l.bytes.length rc]) (.mk _ _ _ _ _ (by decide) (.tl (.left .all _))) rfl (by simp [Value.oneCell']) (by simp only [maxLen]; omega) (by omega) fun tv' htv' htl' hnil' => ?_
 obtain ⟨ta, tc, hte⟩ := htv'.len
 subst hte
 conv=>whnf
 refine StoreG.at rfl (Upd.tl (Upd.tl (Upd.tl (Upd.tl (Upd.tl (Upd.here (by simp) rfl)))))) ?_
 conv=>whnf
 refine ⟨_, (Ent.front 2 rfl).trans (Ent.cons _ (Ent.cons _ ((Ent.drop _).trans ((Ent.drop _).trans (Ent.drop _))))), .inr (.inr ⟨h1, h2, rfl, _, _, _, hlv', htv', hr, ?_⟩)⟩
 simp only [bookL, textsL, leavesC_app, List.map_append, List.length_append, List.length_cons, List.length_nil, List.map_cons, List.map_nil]
 rfl
end Go.Proofs.YtmfonkklmndhjaaGreatDoor
