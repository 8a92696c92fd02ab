import Derived.Test.YtjacolfhlfogkabGreatDoorSd
import Derived.Test.YtjacolfhlfogkabGreatDoorZSr
import Derived.Test.YtjacolfhlfogkabGreatDoorZSp
import Derived.Test.YtjacolfhlfogkabGreatDoorZLv
import Derived.Test.YtjacolfhlfogkabGreatDoorZOl
namespace Go.Proofs.YtjacolfhlfogkabGreatDoor
open Go Go.Sl
end Go.Proofs.YtjacolfhlfogkabGreatDoor
namespace Go.Proofs.YtjacolfhlfogkabGreatDoor
open Go Go.Sl
theorem strT : KeyT Tryz.prog 9 Value.string (fun _ => True) := .str (by kernel_rfl)
theorem mapT : (Tryz.prog).underlying 71 = some (.map 9 97) := by kernel_rfl
theorem zeroB : ∀ w, (zeroValue 97).run Tryz.prog w = .ok (.slice none 0 0) w := run_zeroV (by kernel_rfl)
theorem stepsT : ElT Tryz.prog 72 135 3 48 := .of (by kernel_rfl)
theorem smay_spec_r (F : List HP) (key : ByteArray) (v : Value) (n : Nat) (hv : ∃ a c, v = .slice a n c) : SpecF Tryz.prog 102 [.string key, v] F [] (fun r L => r = .int .i64 (mayI key n) ∧ L = []) := by
 obtain ⟨va, vc, rfl⟩ := hv
 refine fun102.spec rfl ?_
 conv=>whnf
 refine CondG.split (fun h1 => ?_) (fun h1 => ?_)
 ·(conv=>whnf);refine .tt ?_;(conv=>whnf);refine .tt ?_;(conv=>whnf);refine .tt ?_;(conv=>whnf);refine .tt ?_;(conv=>whnf)
  refine ret_here ⟨congrArg (Value.int .i64) ?_, rfl⟩
  have e : key = ⟨#[]⟩ := of_decide_eq_true h1
  subst e
  rfl
 have h1' : ¬ key = ⟨#[]⟩ := of_decide_eq_false h1
 have h0 : ¬ key.size = 0 := fun h => h1' (by
  obtain ⟨⟨l⟩⟩ := key
  have : l = [] := List.eq_nil_of_length_eq_zero h
  rw [this])
 (conv=>whnf);refine .ff ?_;(conv=>whnf);refine .ff ?_;(conv=>whnf);refine .ff ?_;(conv=>whnf)
 refine CondG.dec (fun h2 => ?_) (fun h2 => ?_)
 ·conv=>whnf
  refine ret_here ⟨congrArg (Value.int .i64) ?_, rfl⟩
  unfold mayI
  rw [if_pos (.inr (by omega))]
 conv=>whnf
 refine LenG.lit ?_
 conv=>whnf
 refine CondG.dec (fun h3 => ?_) (fun h3 => ?_)
 ·conv=>whnf
  refine ret_here ⟨congrArg (Value.int .i64) ?_, rfl⟩
  unfold mayI
  rw [if_neg (by omega), if_pos (by omega)]
 conv=>whnf
 refine ret_here ⟨congrArg (Value.int .i64) ?_, rfl⟩
 unfold mayI
 rw [if_neg (by omega), if_neg (by omega)]
theorem smay_spec (F : List HP) (key : ByteArray) (v : Value) (n : Nat) (hv : SlV v n) (_ : n ≤ 4611686018427387904) : SpecF Tryz.prog 102 [.string key, v] F [] (fun r L => r = .int .i64 (mayI key n) ∧ L = []) := smay_spec_r F key v n hv.len
theorem value_spec (F : List HP) (s : Nat) (src : Value) (c : StC) (key : ByteArray) (L0 : List HP) : SpecF Tryz.prog 50 [.pointer (some ⟨s, 0, none⟩), .string key] (c.pieces 75 s src ++ F) [] (fun r L => r = c.valV key ∧ L = []) := by
 refine fun50.spec rfl ?_
 conv=>whnf
 refine LoadG.atF (.left (.here rfl) F) ?_
 conv=>whnf
 refine DoesG.look strT mapT zeroB trivial (MapG.right (MapG.left (.tl (.tl .here)) F) _) true ?_
 rw [getM_kv]
 conv=>whnf
 refine CondG.split (fun h1 => ?_) (fun h1 => ?_)
 ·conv=>whnf
  refine ret_here ⟨?_, rfl⟩
  cases hg : getK c.now key with
  | none => rw [hg] at h1; cases h1
  | some p => simp [StC.valV, hg, retV]
 ·conv=>whnf
  refine LoadG.atF (.left (.here rfl) F) ?_
  conv=>whnf
  refine DoesG.look strT mapT zeroB trivial (MapG.right (MapG.left (.tl .here) F) _) false ?_
  rw [getM_kv]
  conv=>whnf
  refine ret_here ⟨?_, rfl⟩
  cases hg : getK c.now key with
  | some p => rw [hg] at h1; cases h1
  | none => simp [StC.valV, hg, retV]
theorem perm_laid {a b : HP} {H N S : List HP} : (a :: b :: (H ++ (N ++ S))).Perm (H ++ (b :: (N ++ (S ++ [a])))) := by
 refine (List.perm_append_comm (l₁ := [a]) (l₂ := b :: (H ++ (N ++ S)))).trans ?_
 have e : (b :: (H ++ (N ++ S))) ++ [a] = b :: (H ++ (N ++ (S ++ [a]))) := by simp
 rw [e]
 exact List.perm_middle.symm
end Go.Proofs.YtjacolfhlfogkabGreatDoor
namespace Go.Proofs.YtjacolfhlfogkabGreatDoor
open Go Go.Sl
theorem find_spec (F : List HP) (t vb : Nat) (vals : List (KV ByteArray)) (key : ByteArray) (h0 : Cel F t 0 (.map (some vb))) (hm : MapG Value.string (fun _ => True) F vb (kvM vals))
 (hv : ∀ p ∈ vals, SlV p.2.1 p.2.2.length ∧ p.2.2.length ≤ 4096 ∧ RdS F p.2.1 p.2.2.length (bvs p.2.2)) :
 SpecF Tryz.prog 209 [.pointer (some ⟨t, 0, none⟩), .string key] F [] (fun v L => ∃ x, SlV x (tabFind vals key).1.length ∧ v = .tuple #[x, .int .i64 (tabFind vals key).2] ∧ L = [own 1 x (tabFind vals key).1.length (bvs (tabFind vals key).1)]) := by
 refine fun209.spec rfl ?_
 conv=>whnf
 refine CallG.pure (smay_spec _ key (.slice none 0 0) 0 (.inl ⟨rfl, rfl⟩) (by decide)) ?_
 rintro _ _ ⟨rfl, rfl⟩
 conv=>whnf
 refine CondG.ndec (fun h1 => ?_) (fun h1 => ?_)
 ·conv=>whnf
  have e : tabFind vals key = ([], mayI key 0) := by unfold tabFind; rw [if_pos h1]
  rw [e]
  exact ⟨[own 1 (.slice none 0 0) 0 []], fun w G hs => Sat.own_nil hs, .slice none 0 0, .inl ⟨rfl, rfl⟩, rfl, rfl⟩
 conv=>whnf
 refine LoadG.atF h0 ?_
 conv=>whnf
 refine DoesG.look strT mapT zeroB trivial (MapG.right hm _) false ?_
 rw [getM_kv]
 have e : tabFind vals key = (((getK vals key).map (·.2)).getD [], 0) := by unfold tabFind; rw [if_neg (by omega)]
 rw [e]
 cases hg : getK vals key with
 | none =>
  conv=>whnf
  refine CallG.pure (clone_spec _ (.slice none 0 0) [] (by simp) .nil) ?_
  rintro r _ ⟨hr, rfl, _⟩
  conv=>whnf
  exact ret_here ⟨r, hr, rfl, rfl⟩
 | some p =>
  obtain ⟨h2, h3, h4⟩ := hv _ (getK_mem hg)
  conv=>whnf
  refine CallG.pure (clone_spec _ p.1 p.2 (by have h5 : p.2.length ≤ 4096 := h3; omega) (.right h4 _)) ?_
  rintro r _ ⟨hr, rfl, _⟩
  conv=>whnf
  exact ret_here ⟨r, hr, rfl, rfl⟩
theorem find_method (v : Value) (w : World) : (method ((Tryz.prog).types.size + Made.depth) 105 v "Find").run Tryz.prog w = .ok (209, v) w := by kernel_rfl
theorem tab_src (F : List HP) (t vb : Nat) (vals : List (KV ByteArray)) (h0 : Cel F t 0 (.map (some vb))) (hm : MapG Value.string (fun _ => True) F vb (kvM vals))
 (hv : ∀ p ∈ vals, SlV p.2.1 p.2.2.length ∧ p.2.2.length ≤ 4096 ∧ RdS F p.2.1 p.2.2.length (bvs p.2.2)) : SrcG Tryz.prog F (.iface 105 (.pointer (some ⟨t, 0, none⟩))) (tabFind vals) :=
 ⟨105, .pointer (some ⟨t, 0, none⟩), 209, .pointer (some ⟨t, 0, none⟩), rfl, find_method _, by kernel_rfl, fun key L =>
  find_spec (L ++ F) t vb vals key (h0.right L) (hm.right L) (fun p hp => ⟨(hv p hp).1, (hv p hp).2.1, (hv p hp).2.2.right L⟩)⟩
theorem snew_spec (F : List HP) : SpecF Tryz.prog 101 [] F [] (fun v L => ∃ q, v = .pointer (some ⟨q, 0, none⟩) ∧ L = [cel q 171 [.pointer none, .int .i64 0]]) := by
 refine fun101.spec rfl ?_
 conv=>whnf
 refine BuildG.of rfl ?_
 conv=>whnf
 intro q
 conv=>whnf
 exact ret_here ⟨q, rfl, rfl⟩
theorem newTable_spec (F : List HP) : SpecF Tryz.prog 55 [] F [] (fun v L => ∃ t, v = .pointer (some ⟨t, 0, none⟩) ∧ ∃ vb q ob, L = emptyL 147 171 t vb q ob) := by
 refine fun55.spec rfl ?_
 conv=>whnf
 intro vb
 conv=>whnf
 refine CallG.pure (snew_spec _) ?_
 rintro _ _ ⟨q, rfl, rfl⟩
 conv=>whnf
 intro ob
 conv=>whnf
 refine BuildG.of rfl ?_
 conv=>whnf
 intro t
 conv=>whnf
 refine ⟨emptyL 147 171 t vb q ob, ?_, t, rfl, vb, q, ob, rfl⟩
 intro w G hs
 have h1 : Sat w (blk vb (.map #[] 0) :: (blk ob (.map #[] 0) :: cel t 147 [.map (some vb), .pointer (some ⟨q, 0, none⟩), .map (some ob)] :: cel q 171 [.pointer none, .int .i64 0] :: G)) :=
  Ent.sel (T := []) (A := [_, _, _, _]) [3, 1, 0, 2] rfl w G hs
 have h2 := mapP_new (kv := Value.string) (ok := fun _ => True) w h1
 have h3 : Sat w (blk ob (.map #[] 0) :: (mapP Value.string (fun _ => True) vb [] :: cel t 147 [.map (some vb), .pointer (some ⟨q, 0, none⟩), .map (some ob)] :: cel q 171 [.pointer none, .int .i64 0] :: G)) := h2.perm (List.Perm.swap _ _ _)
 have h4 := mapP_new (kv := digV) (ok := digOk) w h3
 exact Ent.sel (T := []) (A := [_, _, _, _]) [2, 1, 0, 3] rfl w G h4
theorem over_spec (F : List HP) (u : Nat) (v : Value) : SpecF Tryz.prog 6 [.iface u v] F [] (fun r L => ∃ s, r = .tuple #[.pointer (some ⟨s, 0, none⟩), .int .i64 0] ∧ ∃ hb nb, L = (StC.mk [] [] [] [] hb nb (.slice none 0 0) (.slice none 0 0)).pieces 75 s (.iface u v)) := by
 refine fun6.spec rfl ?_
 (conv=>whnf);refine .ff ?_;(conv=>whnf)
 intro hb
 conv=>whnf
 intro nb
 conv=>whnf
 refine BuildG.of rfl ?_
 conv=>whnf
 intro s
 conv=>whnf
 refine ⟨(StC.mk [] [] [] [] hb nb (.slice none 0 0) (.slice none 0 0)).pieces 75 s (.iface u v), ?_, s, rfl, hb, nb, rfl⟩
 intro w G hs
 have h1 : Sat w (blk hb (.map #[] 0) :: (blk nb (.map #[] 0) :: cel s 75 [.iface u v, .map (some hb), .map (some nb), .slice none 0 0, .slice none 0 0] :: G)) :=
  Ent.sel (T := []) (A := [_, _, _]) [2, 1, 0] rfl w G hs
 have h2 := mapP_new (kv := Value.string) (ok := fun _ => True) w h1
 have h3 := mapP_new (kv := Value.string) (ok := fun _ => True) w (h2.perm (List.Perm.swap _ _ _))
 have h4 : Sat w (own 1 (.slice none 0 0) 0 [] :: own 3 (.slice none 0 0) 0 [] :: mapS nb [] :: mapS hb [] :: cel s 75 [.iface u v, .map (some hb), .map (some nb), .slice none 0 0, .slice none 0 0] :: G) := Sat.own_nil (Sat.own_nil h3)
 exact Ent.sel (T := []) (A := [_, _, _, _, _]) [4, 3, 2, 1, 0] rfl w G h4
end Go.Proofs.YtjacolfhlfogkabGreatDoor
namespace Go.Proofs.YtjacolfhlfogkabGreatDoor
open Go Go.Sl
theorem eight_spec (F : List HP) (n : Nat) (hn : n < 9223372036854775808) :
 SpecF Tryz.prog 80 [.int .i64 n] F [] (fun r L => SlV r 8 ∧ r ≠ .slice none 0 0 ∧ L = [own 1 r 8 (bvs (be n 8))]) := by
 refine fun80.spec rfl ?_
 conv=>whnf
 intro b
 conv=>whnf
 refine LoopG.mk (fun m e L => ∃ i, i ≤ 8 ∧ m = 8 - i ∧ e = [(0, .int .i64 n), (3, .pointer (some ⟨b, 0, none⟩)), (5, .int .i64 i)] ∧ L = [cel b 164 (bvs (fillB (fun i => n / 256 ^ (7 - i) % 256) 8 i))]) 8
  [(0, .int .i64 n), (3, .pointer (some ⟨b, 0, none⟩)), (5, .int .i64 0)] _ ⟨rfl, rfl, rfl, trivial⟩ (Ent.refl _) ⟨0, by omega, rfl, rfl, by rw [fillB_zero]; rfl⟩ ?_
 rintro m e L ⟨i, hi, rfl, rfl, rfl⟩
 conv=>whnf
 refine CondG.dec (fun h => ?_) (fun h => ?_)
 ·have hi8 : i < 8 := by omega
  conv=>whnf
  refine ArithG.i64 (by omega) ?_
  conv=>whnf
  refine ArithG.i64 (by omega) ?_
  conv=>whnf
  refine SideG.of (by omega) ?_
  conv=>whnf
  refine ArithG.all ?_
  conv=>whnf
  refine SideG.of (by omega) ?_
  conv=>whnf
  have e1 := shr_be n i hi8
  refine StoreG.at rfl (Upd.here (by simp [bvs_len, fillB_len]; omega) rfl) ?_
  conv=>whnf
  refine ArithG.i64 (by omega) ?_
  conv=>whnf
  refine ⟨8 - (i + 1), _, _, by omega, ?_, Ent.refl _, i + 1, by omega, rfl, rfl, ?_⟩
  ·exact ⟨rfl, rfl, rfl, trivial⟩
  rw [← fillB_set _ hi8]
  have e2 : (0 : Nat) + (i : Int).toNat * 1 = i := by simp
  rw [e2]
  show [cel b 164 ((bvs (fillB (fun i => n / 256 ^ (7 - i) % 256) 8 i)).set i (.int .u8 (IntKind.u8.wrap ((n : Int).fdiv (2 ^ (min (56 - 8 * (i : Int)).toNat 64))))))] = _
  rw [e1]
  rfl
 ·obtain rfl : i = 8 := by omega
  conv=>whnf
  refine SideG.of (by decide) ?_
  conv=>whnf
  refine SliceG.zero ?_
  conv=>whnf
  rw [fillB_all, be_range n 8]
  exact ⟨[own 1 (.slice (some ⟨b, 0, none⟩) 8 8) 8 (bvs (be n 8))], own_of_cel (by simp [bvs_len, be_len]) (by decide), .inr ⟨b, 8, rfl, by decide⟩, by simp [retV], rfl⟩
theorem key_spec (F : List HP) (n : Nat) (hn : n < 9223372036854775808) : SpecF Tryz.prog 78 [.int .i64 n] F [] (fun r L => r = .string (tkey n) ∧ L = []) := by
 refine fun78.spec rfl ?_
 conv=>whnf
 refine CallG.pure (eight_spec _ n hn) ?_
 rintro r _ ⟨hr, _, rfl⟩
 conv=>whnf
 refine DoesG.toStr (e := 5) (bs := be n 8) (by kernel_rfl) (by kernel_rfl) (by kernel_rfl) (.left (own_rd hr (by simp [bvs_len, be_len])) F) (be_len n 8) ?_
 conv=>whnf
 refine DoesG.cat (by rw [strB_size, be_len]; decide) ?_
 conv=>whnf
 exact ⟨[], Ent.nil _, rfl, rfl⟩
theorem wbytes_spec (F : List HP) (ws : List Nat) (hw : ws.length = 4) : SpecF Tryz.prog 128 [.agg ⟨uvs ws⟩] F [] (fun r L => SlV r 32 ∧ L = [own 1 r 32 (bvs (wideB ws))]) := by
 refine fun128.spec rfl ?_
 conv=>whnf
 intro b1
 conv=>whnf
 refine DoesG.make0 bytesT .i64 .i64 (by decide) (by decide) fun v0 hv0 _ => ?_
 conv=>whnf
 refine LoopG.mk (fun m e L => ∃ i v, i ≤ 4 ∧ SlV v (8 * i) ∧ m = 4 - i ∧ e = [(1, .pointer (some ⟨b1, 0, none⟩)), (3, v), (4, .int .i64 (3 - i))] ∧ L = [own 1 v (8 * i) (bvs ((wideB ws).take (8 * i))), cel b1 38 (uvs ws)]) 4
  [(1, .pointer (some ⟨b1, 0, none⟩)), (3, v0), (4, .int .i64 3)] _ ⟨rfl, rfl, rfl, trivial⟩ (Ent.refl _) ⟨0, v0, by omega, hv0, rfl, rfl, rfl⟩ ?_
 rintro m e L ⟨i, v, hi, hvi, rfl, rfl, rfl⟩
 conv=>whnf
 refine CondG.dec (fun h => ?_) (fun h => ?_)
 ·have hi4 : i < 4 := by omega
  conv=>whnf
  refine LoopG.mk (fun m e L => ∃ j v, j ≤ 8 ∧ SlV v (8 * i + j) ∧ m = 8 - j ∧ e = [(1, .pointer (some ⟨b1, 0, none⟩)), (3, v), (4, .int .i64 (3 - i)), (5, .int .i64 (56 - 8 * j))] ∧ L = [own 1 v (8 * i + j) (bvs ((wideB ws).take (8 * i + j))), cel b1 38 (uvs ws)]) 8
   [(1, .pointer (some ⟨b1, 0, none⟩)), (3, v), (4, .int .i64 (3 - i)), (5, .int .i64 56)] _ ⟨rfl, rfl, rfl, rfl, trivial⟩ (Ent.refl _) ⟨0, v, by omega, hvi, rfl, rfl, rfl⟩ ?_
  rintro m e L ⟨j, v, hj, hvj, rfl, rfl, rfl⟩
  conv=>whnf
  refine CondG.dec (fun h2 => ?_) (fun h2 => ?_)
  ·have hj8 : j < 8 := by omega
   conv=>whnf
   refine SideG.of (by omega) ?_
   conv=>whnf
   have hg : (uvs ws)[0 + (3 - (i : Int)).toNat * 1]? = some (uv (ws.getD (3 - i) 0)) := by
    have e1 : 0 + (3 - (i : Int)).toNat * 1 = 3 - i := by omega
    rw [e1]
    have hlt : 3 - i < ws.length := by omega
    simp [uvs, List.getD, List.getElem?_eq_getElem hlt]
   refine LoadG.at (v := uv (ws.getD (3 - i) 0)) (.tl (.here hg)) ?_
   conv=>whnf
   refine SideG.of (by omega) ?_
   conv=>whnf
   refine ArithG.all ?_
   conv=>whnf
   refine BuildG.of rfl ?_
   conv=>whnf
   intro b2
   conv=>whnf
   refine DoesG.ent (Ent.front 1 rfl) ?_
   have e1 := shr_be (ws.getD (3 - i) 0) j hj8
   refine app_own bytesT 97 (m := 1) (ys := [bv (ws.getD (3 - i) 0 / 256 ^ (7 - j) % 256)]) (.mk _ _ _ _ _ (by decide) (.tl (.left (fun w hs => CelN.all w (by
    have e2 : (List.take 0 [Value.int .u8 0] ++ (Value.int .u8 (IntKind.u8.wrap (((ws.getD (3 - i) 0 : Nat) : Int).fdiv (2 ^ (min (56 - 8 * (j : Int)).toNat 64))))).cells.toList ++ List.drop (0 + 1) [Value.int .u8 0]) = [bv (ws.getD (3 - i) 0 / 256 ^ (7 - j) % 256)] := by
     rw [e1]; rfl
    rw [← e2]
    exact hs)) _))) rfl (by simp [bv, Value.oneCell']) (by simp only [maxLen]; omega) (by omega) fun r hr hlen hnil => ?_
   have e3 : bvs ((wideB ws).take (8 * i + j)) ++ [bv (ws.getD (3 - i) 0 / 256 ^ (7 - j) % 256)] = bvs ((wideB ws).take (8 * i + (j + 1))) := by
    have := wide_take ws (8 * i + j) (by omega)
    have q1 : (8 * i + j) / 8 = i := by omega
    have q2 : (8 * i + j) % 8 = j := by omega
    rw [q1, q2] at this
    rw [show 8 * i + (j + 1) = 8 * i + j + 1 by omega, this, ← bvs_append]
    rfl
   rw [e3]
   obtain ⟨ra, rc, hre⟩ := hr.len
   subst hre
   conv=>whnf
   refine ArithG.i64 (by omega) ?_
   conv=>whnf
   refine ⟨8 - (j + 1), [(1, .pointer (some ⟨b1, 0, none⟩)), (3, .slice ra (8 * i + j + 1) rc), (4, .int .i64 (3 - i)), (5, .int .i64 (56 - 8 * ((j + 1 : Nat) : Int)))], _, by omega, ?_, Ent.sel (T := []) [0, 2] (A := [_, _, _]) rfl, j + 1, _, by omega, hr, rfl, rfl, rfl⟩
   refine ⟨rfl, rfl, rfl, ?_, trivial⟩
   show some (Value.int .i64 (56 - 8 * (j : Int) - 8)) = _
   congr 2
   omega
  ·obtain rfl : j = 8 := by omega
   conv=>whnf
   refine ArithG.i64 (by omega) ?_
   conv=>whnf
   refine ⟨4 - (i + 1), [(1, .pointer (some ⟨b1, 0, none⟩)), (3, v), (4, .int .i64 (3 - ((i + 1 : Nat) : Int)))], _, by omega, ?_, Ent.refl _, i + 1, v, by omega, hvj, rfl, rfl, rfl⟩
   refine ⟨rfl, rfl, ?_, trivial⟩
   show some (Value.int .i64 (3 - (i : Int) - 1)) = _
   congr 2
   omega
 ·obtain rfl : i = 4 := by omega
  conv=>whnf
  refine ⟨[own 1 v 32 (bvs (wideB ws))], ?_, hvi, rfl⟩
  have e : (wideB ws).take (8 * 4) = wideB ws := List.take_of_length_le (by rw [wide_len]; decide)
  rw [e]
  exact Ent.dropL [own 1 v 32 (bvs (wideB ws))] [cel b1 38 (uvs ws)]
theorem number_spec_t (F : List HP) (v : Value) (bs : List Nat) (hb : bs.length ≤ 1152921504606846976) (hv : RdS F v bs.length (bvs bs)) : SpecF Tryz.prog 83 [v] F [] (fun r L => r = .int .i64 (numF bs) ∧ L = []) := by
 refine fun83.spec rfl ?_
 conv=>whnf
 refine LenG.rd hv ?_
 conv=>whnf
 refine LoopG.mk (fun m e L => ∃ i, i ≤ bs.length ∧ m = bs.length - i ∧ e = [(3, .int .i64 (numF (bs.take i))), (6, v), (7, .int .i64 bs.length), (8, .int .i64 i)] ∧ L = []) bs.length
  [(3, .int .i64 0), (6, v), (7, .int .i64 bs.length), (8, .int .i64 0)] _ ⟨rfl, rfl, rfl, rfl, trivial⟩ (Ent.refl _) ⟨0, by omega, rfl, rfl, rfl⟩ ?_
 rintro m e L ⟨i, hi, rfl, rfl, rfl⟩
 conv=>whnf
 refine CondG.dec (fun h => ?_) (fun h => ?_)
 ·have hlt : i < bs.length := by omega
  conv=>whnf
  refine IdxG.rd hv (by omega) fun b o hc => ?_
  conv=>whnf
  refine LoadG.atF (v := bv bs[i]) (hc.one (i := (i : Int).toNat * 1) (by simpa using bvs_get hlt)) ?_
  conv=>whnf
  refine SideG.of (by decide) ?_
  conv=>whnf
  refine ArithG.all ?_
  conv=>whnf
  refine ArithG.all ?_
  conv=>whnf
  refine ArithG.i64 (by omega) ?_
  conv=>whnf
  refine ⟨bs.length - (i + 1), [(3, .int .i64 (numF (bs.take (i + 1)))), (6, v), (7, .int .i64 bs.length), (8, .int .i64 ((i + 1 : Nat)))], _, by omega, ?_, Ent.refl _, i + 1, by omega, rfl, rfl, rfl⟩
  refine ⟨?_, rfl, rfl, rfl, trivial⟩
  rw [numF_take bs i hlt]
  rfl
 ·obtain rfl : i = bs.length := by omega
  rw [List.take_length]
  conv=>whnf
  exact ret_here ⟨rfl, rfl⟩
theorem wread_spec (F : List HP) (v : Value) (bs : List Nat) (hb : bs.length = 32) (hv : RdS F v 32 (bvs bs)) : SpecF Tryz.prog 114 [v] F [] (fun r L => r = .tuple #[.agg ⟨ivs (wordsF bs 0 [0, 0, 0, 0])⟩, .int .i64 0] ∧ L = []) := by
 refine fun114.spec rfl ?_
 conv=>whnf
 intro b2
 conv=>whnf
 intro b4
 conv=>whnf
 refine LenG.rd hv ?_
 conv=>whnf
 refine CondG.ff ?_
 conv=>whnf
 refine LenG.rd hv ?_
 conv=>whnf
 refine LoopG.mk (fun m e L => ∃ i, i ≤ 32 ∧ m = 32 - i ∧ e = [(2, .pointer (some ⟨b2, 0, none⟩)), (4, .pointer (some ⟨b4, 0, none⟩)), (11, v), (12, .int .i64 32), (13, .int .i64 i)] ∧
  L = [cel b4 38 (ivs (wordsF (bs.take i) 0 [0, 0, 0, 0])), cel b2 38 (ivs [0, 0, 0, 0])]) 32
  [(2, .pointer (some ⟨b2, 0, none⟩)), (4, .pointer (some ⟨b4, 0, none⟩)), (11, v), (12, .int .i64 32), (13, .int .i64 0)] _ ⟨rfl, rfl, rfl, rfl, rfl, trivial⟩ (Ent.refl _) ⟨0, by omega, rfl, rfl, rfl⟩ ?_
 rintro m e L ⟨i, hi, rfl, rfl, rfl⟩
 conv=>whnf
 refine CondG.dec (fun h => ?_) (fun h => ?_)
 ·have hlt : i < 32 := by omega
  have hq : (i : Int).tdiv 8 = ((i / 8 : Nat) : Int) := rfl
  have hwl : (wordsF (bs.take i) 0 [0, 0, 0, 0]).length = 4 := wordsF_len _ _ _
  conv=>whnf
  refine IdxG.rd hv (by omega) fun b o hc => ?_
  conv=>whnf
  refine LoadG.atF (v := bv (bs[i]'(by omega))) (hc.one (i := (i : Int).toNat * 1) (by simpa using bvs_get (by omega))) ?_
  conv=>whnf
  refine SideG.of (by decide) ?_
  conv=>whnf
  refine ArithG.i64' _ hq (by omega) ?_
  conv=>whnf
  refine ArithG.i64 (by omega) ?_
  conv=>whnf
  refine SideG.of (by decide) ?_
  conv=>whnf
  refine ArithG.i64' _ hq (by omega) ?_
  conv=>whnf
  refine ArithG.i64 (by omega) ?_
  conv=>whnf
  refine SideG.of (by omega) ?_
  conv=>whnf
  have e1 : 0 + (3 - ((i / 8 : Nat) : Int)).toNat * 1 = 3 - i / 8 := by omega
  have hg : (ivs (wordsF (bs.take i) 0 [0, 0, 0, 0]))[0 + (3 - ((i / 8 : Nat) : Int)).toNat * 1]? = some (.int .u64 ((wordsF (bs.take i) 0 [0, 0, 0, 0]).getD (3 - i / 8) 0)) := by
   rw [e1]
   have hl4 : 3 - i / 8 < (wordsF (bs.take i) 0 [0, 0, 0, 0]).length := by omega
   simp [ivs, List.getD, List.getElem?_eq_getElem hl4]
  refine LoadG.at (v := .int .u64 ((wordsF (bs.take i) 0 [0, 0, 0, 0]).getD (3 - i / 8) 0)) (.here hg) ?_
  conv=>whnf
  refine SideG.of (by decide) ?_
  conv=>whnf
  refine ArithG.all ?_
  conv=>whnf
  refine ArithG.all ?_
  conv=>whnf
  refine SideG.of (by omega) ?_
  conv=>whnf
  refine StoreG.at rfl (Upd.here (by rw [e1]; simp [ivs, hwl]; omega) rfl) ?_
  conv=>whnf
  refine ArithG.i64 (by omega) ?_
  conv=>whnf
  refine ⟨32 - (i + 1), _, _, by omega, ?_, Ent.refl _, i + 1, by omega, rfl, rfl, ?_⟩
  ·exact ⟨rfl, rfl, rfl, rfl, rfl, trivial⟩
  rw [wordsF_take bs 0 i _ (by omega), wordsStep]
  simp only [Nat.zero_add]
  rw [show (3 - ((i / 8 : Nat) : Int)).toNat * 1 = 3 - i / 8 by omega]
  simp only [ivs, List.map_set]
  rfl
 ·obtain rfl : i = 32 := by omega
  rw [List.take_of_length_le (by omega)]
  conv=>whnf
  refine LoadNG.at (vs := ivs (wordsF bs 0 [0, 0, 0, 0])) (by simp [ivs, wordsF_len]) .all ?_
  conv=>whnf
  refine StoreG.at (by simp [ivs, wordsF_len]) (Upd.tl (Upd.whole (by simp [ivs, wordsF_len]) (by intro u hu; obtain ⟨z, _, rfl⟩ := List.mem_map.1 hu; rfl))) ?_
  conv=>whnf
  refine LoadNG.at (vs := ivs (wordsF bs 0 [0, 0, 0, 0])) (by simp [ivs, wordsF_len]) (.tl .all) ?_
  conv=>whnf
  exact ⟨[], Ent.nil _, rfl, rfl⟩
theorem tmay_spec (F : List HP) (t : TicketD) (ht : t.wf) : SpecF Tryz.prog 76 [.agg ⟨t.cells⟩] F [] (fun v L => v = .bool (decide t.may) ∧ L = []) := by
 refine fun76.spec rfl ?_
 conv=>whnf
 intro b
 conv=>whnf
 refine LoadG.at (v := .int .i64 t.ent) (.here rfl) ?_
 conv=>whnf
 refine CondG.dec (fun h1 => ?_) (fun h1 => ?_)
 rotate_left
 ·(conv=>whnf);repeat((with_reducible first|refine .tt ?_|refine .ff ?_);conv=>whnf)
  exact ⟨[], Ent.nil _, congrArg Value.bool (decide_eq_false fun h => h1 h.1.1).symm, rfl⟩
 (conv=>whnf);refine .tt ?_;(conv=>whnf)
 refine LoadG.at (v := .int .i64 t.ent) (.here rfl) ?_
 (conv=>whnf);refine .tt ?_;(conv=>whnf);refine .tt ?_;(conv=>whnf)
 refine CondG.dec (fun h2 => ?_) (fun h2 => ?_)
 rotate_left
 ·(conv=>whnf);refine .ff ?_;(conv=>whnf);refine .ff ?_;(conv=>whnf);refine .ff ?_;(conv=>whnf);refine .ff ?_;(conv=>whnf);refine .ff ?_;(conv=>whnf);refine .ff ?_;(conv=>whnf);refine .ff ?_;(conv=>whnf);refine .ff ?_;(conv=>whnf);refine .ff ?_;(conv=>whnf);refine .ff ?_;(conv=>whnf);refine .ff ?_;(conv=>whnf);refine .ff ?_;(conv=>whnf)
  exact ⟨[], Ent.nil _, congrArg Value.bool (decide_eq_false fun h => h2 h.1.2).symm, rfl⟩
 (conv=>whnf);refine .tt ?_;(conv=>whnf)
 refine LoadG.at (v := .int .i64 t.tok) (.here (TicketD.tok_at ht)) ?_
 (conv=>whnf);refine .tt ?_;(conv=>whnf);refine .tt ?_;(conv=>whnf)
 refine CondG.dec (fun h3 => ?_) (fun h3 => ?_)
 rotate_left
 ·(conv=>whnf);refine .ff ?_;(conv=>whnf);refine .ff ?_;(conv=>whnf);refine .ff ?_;(conv=>whnf);refine .ff ?_;(conv=>whnf);refine .ff ?_;(conv=>whnf);refine .ff ?_;(conv=>whnf);refine .ff ?_;(conv=>whnf);refine .ff ?_;(conv=>whnf)
  exact ⟨[], Ent.nil _, congrArg Value.bool (decide_eq_false fun h => h3 h.2.1.1).symm, rfl⟩
 (conv=>whnf);refine .tt ?_;(conv=>whnf)
 refine LoadG.at (v := .int .i64 t.tok) (.here (TicketD.tok_at ht)) ?_
 (conv=>whnf);refine .tt ?_;(conv=>whnf);refine .tt ?_;(conv=>whnf)
 refine CondG.dec (fun h4 => ?_) (fun h4 => ?_)
 rotate_left
 ·(conv=>whnf);refine .ff ?_;(conv=>whnf);refine .ff ?_;(conv=>whnf);refine .ff ?_;(conv=>whnf);refine .ff ?_;(conv=>whnf)
  exact ⟨[], Ent.nil _, congrArg Value.bool (decide_eq_false fun h => h4 h.2.1.2).symm, rfl⟩
 (conv=>whnf);refine .tt ?_;(conv=>whnf)
 refine LoadNG.at (vs := uvs t.amt) (by rw [uvs_len, ht.amt]) (CelN.here (TicketD.amt_at ht)) ?_
 (conv=>whnf);refine .tt ?_;(conv=>whnf)
 refine CallG.pure (isZero_spec _ _ ht.amt) ?_
 rintro _ _ ⟨rfl, rfl⟩
 (conv=>whnf);refine .tt ?_;(conv=>whnf);refine .tt ?_;(conv=>whnf)
 refine ⟨[], Ent.nil _, congrArg Value.bool ?_, rfl⟩
 by_cases h5 : t.amt = List.replicate 4 0
 ·rw [decide_eq_true h5]
  exact (decide_eq_false fun h => h.2.2 h5).symm
 ·rw [decide_eq_false h5]
  exact (decide_eq_true ⟨⟨h1, h2⟩, ⟨h3, h4⟩, h5⟩).symm
theorem tvalue_spec (F : List HP) (t : TicketD) (ht : t.wf) (he : 0 ≤ t.ent ∧ t.ent < 9223372036854775808) (hk : 0 ≤ t.tok ∧ t.tok < 256) : SpecF Tryz.prog 79 [.agg ⟨t.cells⟩] F [] (fun r L => SlV r t.value.length ∧ L = [own 1 r t.value.length (bvs t.value)]) := by
 obtain ⟨n, hn⟩ : ∃ n : Nat, t.ent = n := ⟨t.ent.toNat, (Int.toNat_of_nonneg he.1).symm⟩
 have hb1 : (bvs t.snd).length = 20 := by rw [bvs_len, ht.snd]
 have hb2 : (bvs t.to).length = 20 := by rw [bvs_len, ht.to]
 refine fun79.spec rfl ?_
 conv=>whnf
 intro b
 conv=>whnf
 refine DrawG.mk 7 [cel b 40 t.cells] [] (Ent.refl _) ?_
 conv=>whnf
 refine .take 0 ?_
 conv=>whnf
 refine ⟨rfl, ?_⟩
 conv=>whnf
 refine .take 1 ?_
 conv=>whnf
 refine ⟨rfl, ?_⟩
 conv=>whnf
 refine LoadG.at (v := .int .i64 n) (.here (congrArg (fun z => some (Value.int .i64 z)) hn)) ?_
 conv=>whnf
 refine .take 3 ?_
 conv=>whnf
 refine ⟨rfl, ?_⟩
 conv=>whnf
 refine .take 4 ?_
 conv=>whnf
 refine ⟨rfl, ?_⟩
 conv=>whnf
 refine SideG.of (by decide) ?_
 conv=>whnf
 refine SliceG.zero ?_
 conv=>whnf
 refine .all ?_
 conv=>whnf
 refine ⟨by decide, ?_⟩
 conv=>whnf
 refine CallG.pure (eight_spec _ n (by omega)) ?_
 rintro r _ ⟨hr, _, rfl⟩
 conv=>whnf
 refine .all ?_
 conv=>whnf
 refine ⟨by decide, ?_⟩
 conv=>whnf
 refine app_own bytesT 97 (m := 20) (ys := bvs t.snd) (.mk _ _ _ _ _ (by decide) (.tl (.right (.left (CelN.here (by rw [hb1]; exact hb1 ▸ t.snd_at)) F) _))) (by rw [hb1]) (bvs_one _) (by decide) (by decide) fun r1 hr1 hl1 hn1 => ?_
 rw [bvs_append] at hl1 ⊢
 conv=>whnf
 refine .take 6 ?_
 conv=>whnf
 refine ⟨rfl, ?_⟩
 conv=>whnf
 refine ⟨rfl, ?_⟩
 conv=>whnf
 refine DrawG.mk 10 [cel b 40 t.cells] [own 1 r1 (8 + 20) (bvs (be n 8 ++ t.snd))] (Ent.refl _) ?_
 conv=>whnf
 refine .take 0 ?_
 conv=>whnf
 refine ⟨rfl, ?_⟩
 conv=>whnf
 refine .take 1 ?_
 conv=>whnf
 refine ⟨rfl, ?_⟩
 conv=>whnf
 refine .take 2 ?_
 conv=>whnf
 refine ⟨rfl, ?_⟩
 conv=>whnf
 refine LoadG.at (v := .int .i64 t.tok) (.here (TicketD.tok_at ht)) ?_
 conv=>whnf
 refine .take 3 ?_
 conv=>whnf
 refine ⟨rfl, ?_⟩
 conv=>whnf
 refine ArithG.u8 (by omega) ?_
 conv=>whnf
 refine .take 6 ?_
 conv=>whnf
 refine ⟨rfl, ?_⟩
 conv=>whnf
 refine .take 7 ?_
 conv=>whnf
 refine ⟨rfl, ?_⟩
 conv=>whnf
 refine SideG.of (by decide) ?_
 conv=>whnf
 refine SliceG.zero ?_
 conv=>whnf
 refine .all ?_
 conv=>whnf
 refine ⟨by decide, ?_⟩
 conv=>whnf
 refine BuildG.of rfl ?_
 conv=>whnf
 intro b4
 conv=>whnf
 refine .all ?_
 conv=>whnf
 refine ⟨by decide, ?_⟩
 conv=>whnf
 refine DoesG.ent (Ent.front 1 rfl) ?_
 have hk2 : (Value.int .u8 t.tok) = bv t.tok.toNat := by
  unfold bv
  rw [Int.toNat_of_nonneg hk.1]
 refine app_own bytesT 97 (m := 1) (ys := bvs [t.tok.toNat]) (.mk _ _ _ _ _ (by decide) (.tl (.left (CelN.here (by rw [hk2]; rfl)) _))) rfl (bvs_one _) (by decide) (by decide) fun r2 hr2 hl2 hn2 => ?_
 rw [bvs_append] at hl2 ⊢
 conv=>whnf
 refine .all ?_
 conv=>whnf
 refine ⟨by decide, ?_⟩
 conv=>whnf
 refine app_own bytesT 97 (m := 20) (ys := bvs t.to) (.mk _ _ _ _ _ (by decide) (.tl (.right (.left (CelN.here (by rw [hb2]; exact hb2 ▸ TicketD.to_at ht)) F) _))) (by rw [hb2]) (bvs_one _) (by decide) (by decide) fun r3 hr3 hl3 hn3 => ?_
 rw [bvs_append] at hl3 ⊢
 conv=>whnf
 refine .take 9 ?_
 conv=>whnf
 refine ⟨rfl, ?_⟩
 conv=>whnf
 refine ⟨rfl, ?_⟩
 conv=>whnf
 refine LoadNG.at (vs := uvs t.amt) (by rw [uvs_len, ht.amt]) (.tl (.tl (CelN.here (TicketD.amt_at ht)))) ?_
 conv=>whnf
 refine CallG.pure (wbytes_spec _ _ ht.amt) ?_
 rintro r4 _ ⟨hr4, rfl⟩
 conv=>whnf
 refine DoesG.ent (Ent.front 1 rfl) ?_
 refine app_own bytesT 97 (m := 32) (ys := bvs (wideB t.amt)) (.tl (.left (own_rd hr4 (by rw [bvs_len, wide_len])) _)) (by rw [bvs_len, wide_len]) (bvs_one _) (by decide) (by decide) fun r5 hr5 hl5 hn5 => ?_
 rw [bvs_append] at hl5 ⊢
 conv=>whnf
 have e : be n 8 ++ t.snd ++ [t.tok.toNat] ++ t.to ++ wideB t.amt = t.value := by simp only [TicketD.value, hn, Int.toNat_natCast]
 rw [e] at *
 have hl : t.value.length = 8 + 20 + 1 + 20 + 32 := by rw [TicketD.value_len ht]
 rw [hl]
 exact ⟨_, Ent.dropL [own 1 r5 (8 + 20 + 1 + 20 + 32) (bvs t.value)] _, hr5, rfl⟩
theorem cut_spec (F A : List HP) (q n m : Nat) (v : Value) (bs : List Nat) (hn : n ≤ m) (hm : bs.length = m) (hv : RdS A v m (bvs bs)) (hb : m ≤ 1152921504606846976) :
 SpecF Tryz.prog 129 [.int .i64 n, .pointer (some ⟨q, 0, none⟩)] F [cel q 97 [v]] (fun r L => RdS A r n (bvs (bs.take n)) ∧ ∃ v', RdS A v' (m - n) (bvs (bs.drop n)) ∧ L = [cel q 97 [v']]) := by
 refine fun129.spec rfl ?_
 conv=>whnf
 refine LoadG.at (.here rfl) ?_
 conv=>whnf
 refine SlcG.rd hv fun a cap ha hc => ?_
 subst ha
 conv=>whnf
 refine SideG.of (by omega) ?_
 conv=>whnf
 refine SliceG.rd (n := m) hv (by simp) (by simpa using hn) (by simp; omega) (by simp) fun r hr _ => ?_
 conv=>whnf
 refine LoadG.at (.here rfl) ?_
 conv=>whnf
 refine SlcG.lit ?_
 conv=>whnf
 refine SideG.of (by omega) ?_
 conv=>whnf
 refine SliceG.rd (n := m) hv (by simpa using hn) (by simp) (by simp; omega) (by simp) fun v' hv' _ => ?_
 obtain ⟨va, vc, hve⟩ := hv'.len
 subst hve
 conv=>whnf
 refine StoreG.at rfl (Upd.whole rfl (by simp [Value.oneCell'])) ?_
 conv=>whnf
 refine ret_here ⟨?_, _, ?_, rfl⟩
 ·have e1 : ((n : Int).toNat - (0 : Int).toNat) = n := by simp
  have e2 : ((bvs bs).drop ((0 : Int).toNat * 1)).take (((n : Int).toNat - (0 : Int).toNat) * 1) = bvs (bs.take n) := by simp [bvs]
  rw [e2, e1] at hr
  exact hr
 ·have e1 : ((m : Int).toNat - (n : Int).toNat) = m - n := by simp
  have e2 : ((bvs bs).drop ((n : Int).toNat * 1)).take (((m : Int).toNat - (n : Int).toNat) * 1) = bvs (bs.drop n) := by
   simp only [Int.toNat_natCast, Nat.mul_one]
   rw [List.take_of_length_le (by simp [bvs]; omega)]
   simp [bvs]
  rw [e2, e1] at hv'
  simpa using hv'
end Go.Proofs.YtjacolfhlfogkabGreatDoor
namespace Go.Proofs.YtjacolfhlfogkabGreatDoor
open Go Go.Sl
section
variable {find : ByteArray → List Nat × Int}
end
end Go.Proofs.YtjacolfhlfogkabGreatDoor
