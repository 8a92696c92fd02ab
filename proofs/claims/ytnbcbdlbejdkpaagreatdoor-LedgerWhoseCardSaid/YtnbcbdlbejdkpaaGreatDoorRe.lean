import Derived.Test.YtnbcbdlbejdkpaaGreatDoorGp
import Derived.Test.YtnbcbdlbejdkpaaGreatDoorZMb
import Derived.Test.YtnbcbdlbejdkpaaGreatDoorLc
import Derived.Test.YtnbcbdlbejdkpaaGreatDoorZSu
import Derived.Test.YtnbcbdlbejdkpaaGreatDoorPl
import Derived.Test.YtnbcbdlbejdkpaaGreatDoorZBs
import Derived.Test.YtnbcbdlbejdkpaaGreatDoorZDg
import Derived.Test.YtnbcbdlbejdkpaaGreatDoorZBb
namespace Go.Proofs.YtnbcbdlbejdkpaaGreatDoor
open Go Go.Sl
theorem intsM : ElT Tryz.prog 31 3 1 8 := .of (by kernel_rfl)
section
variable {find : ByteArray → List Nat × Int}
theorem mark_at (F : List HP) (s : Nat) (src : Value) (V : View) (n : Nat) (hn : n ≤ 4398046511104) (hh : V.hist.length ≤ 4398046511104) :
  SpecF Tryz.prog 49 [.pointer (some ⟨s, 0, none⟩)] F [stP 118 s src find V n] (fun r L => r = .int .i64 V.hist.length ∧ L = [stP 118 s src find ⟨V.now, V.hist ++ [V.now]⟩ n]) := by
 refine SpecF.unpack0 fun c hc => ?_
 refine SpecF.ownV 3 rfl fun hsv _ => ?_
 refine SpecF.ownV 4 rfl fun hmv hml => ?_
 have hst := hc.steps
 have hmk := hc.marks
 refine fun49.spec rfl ?_
 conv=>whnf
 refine DrawG.mk 14 (cel s 118 [src, .map (some c.hb), .map (some c.nb), c.sv, c.mv] :: mapS c.hb (kvM c.has) :: mapS c.nb (kvM c.now) :: own 3 c.sv c.steps.length (stepsC c.steps) :: (kvS c.has ++ (kvS c.now ++ stepsS c.steps))) [own 1 c.mv c.marks.length (c.marks.map fun n : Nat => Value.int .i64 n)] (Ent.front 4 rfl) ?_
 conv=>whnf
 refine .take 0 ?_
 conv=>whnf
 refine ⟨rfl, ?_⟩
 conv=>whnf
 refine .take 1 ?_
 conv=>whnf
 refine ⟨rfl, ?_⟩
 conv=>whnf
 refine .take 2 ?_
 conv=>whnf
 refine ⟨rfl, ?_⟩
 conv=>whnf
 refine .take 3 ?_
 conv=>whnf
 refine ⟨rfl, ?_⟩
 conv=>whnf
 refine .take 4 ?_
 conv=>whnf
 refine ⟨rfl, ?_⟩
 conv=>whnf
 refine LoadG.at (.here rfl) ?_
 conv=>whnf
 refine .take 5 ?_
 conv=>whnf
 refine ⟨rfl, ?_⟩
 conv=>whnf
 refine .take 6 ?_
 conv=>whnf
 refine ⟨rfl, ?_⟩
 conv=>whnf
 refine .take 7 ?_
 conv=>whnf
 refine ⟨rfl, ?_⟩
 conv=>whnf
 refine .take 8 ?_
 conv=>whnf
 refine ⟨rfl, ?_⟩
 conv=>whnf
 refine LoadG.at (.here rfl) ?_
 conv=>whnf
 refine .take 9 ?_
 conv=>whnf
 refine ⟨rfl, ?_⟩
 conv=>whnf
 refine LenG.sl hsv ?_
 conv=>whnf
 refine .all ?_
 conv=>whnf
 refine ⟨by decide, ?_⟩
 conv=>whnf
 refine BuildG.of rfl ?_
 conv=>whnf
 intro b
 conv=>whnf
 refine .all ?_
 conv=>whnf
 refine ⟨by decide, ?_⟩
 conv=>whnf
 refine DoesG.ent (Ent.front 1 rfl) ?_
 refine app_own intsM 31 (m := 1) (ys := [.int .i64 c.steps.length]) (.mk _ _ _ _ _ (Nat.le_refl _) (.tl (.left .all _))) rfl (by simp [Value.oneCell']) (by simp only [maxLen]; omega) (by omega) fun mv hmv' hml' _ => ?_
 conv=>whnf
 refine .all ?_
 conv=>whnf
 refine ⟨by decide, ?_⟩
 conv=>whnf
 refine .all ?_
 conv=>whnf
 refine ⟨by decide, ?_⟩
 conv=>whnf
 refine .all ?_
 conv=>whnf
 refine ⟨by decide, ?_⟩
 conv=>whnf
 refine ⟨rfl, ?_⟩
 obtain ⟨ma, mc, rfl⟩ := hmv'.len
 conv=>whnf
 refine StoreG.at rfl (Upd.tl (Upd.tl (Upd.here (by simp) rfl))) ?_
 conv=>whnf
 refine ⟨rfl, ?_⟩
 conv=>whnf
 refine LoadG.at (.tl (.tl (.here rfl))) ?_
 conv=>whnf
 refine LenG.lit ?_
 conv=>whnf
 refine ArithG.i64' (V.hist.length : Int) (by rw [hmk]; omega) (by omega) ?_
 conv=>whnf
 obtain ⟨c', hc'⟩ : ∃ z, z = { c with marks := c.marks ++ [c.steps.length], mv := .slice ma (c.marks.length + 1) mc } := ⟨_, rfl⟩
 have hat : At find ⟨V.now, V.hist ++ [V.now]⟩ n c' := hc.mark (by rw [hc']) (by rw [hc']) (by rw [hc']) (by rw [hc']) (by rw [hc']; exact ⟨hc.wf.has, hc.wf.now, hc.wf.steps⟩)
 refine ⟨_, ?_, rfl, rfl⟩
 refine Ent.trans ?_ (Ent.pack0 (ls := fun c => StC.pieces 118 s src c) hat)
 rw [hc']
 simp only [StC.pieces, List.length_append, List.length_cons, List.length_nil, List.map_append, List.map_cons, List.map_nil]
 exact Ent.sel (T := kvS c.has ++ (kvS c.now ++ stepsS c.steps)) (A := [_, _, _, _, _, _]) [2, 3, 4, 5, 0] rfl
theorem back_at (F : List HP) (s : Nat) (src : Value) (V : View) (n : Nat) (hn : n ≤ 4398046511104) (hh : V.hist.length ≤ 4398046511104) (m : Int) (hm1 : -9223372036854775808 ≤ m) (hm2 : m ≤ 9223372036854775807) :
  SpecF Tryz.prog 50 [.pointer (some ⟨s, 0, none⟩), .int .i64 m] F [stP 118 s src find V n] (fun r L => r = .int .i64 (backE V m) ∧ L = [stP 118 s src find (backV V m) n]) := by
 refine SpecF.unpack0 fun c hc => ?_
 refine SpecF.ownV 3 rfl fun hsv hsl => ?_
 refine SpecF.ownV 4 rfl fun hmv hml => ?_
 have hst := hc.steps
 have hmk := hc.marks
 obtain ⟨sa, sc, hsv2⟩ := hsv.len
 obtain ⟨ma, mc, hmv2⟩ := hmv.len
 refine fun50.spec rfl ?_
 conv=>whnf
 refine CondG.dec (fun h1 => ?_) (fun h1 => ?_)
 ·have e1 : backE V m = 72 := by unfold backE; rw [if_pos (.inl h1)]
  have e2 : backV V m = V := by unfold backV; rw [if_pos (.inl h1)]
  rw [e1, e2]
  (conv=>whnf);refine .tt ?_;(conv=>whnf);refine .tt ?_;(conv=>whnf);refine .tt ?_;(conv=>whnf);refine .tt ?_;(conv=>whnf);refine .tt ?_;(conv=>whnf);refine .tt ?_;(conv=>whnf);refine .tt ?_;(conv=>whnf);refine .tt ?_;(conv=>whnf)
  exact ⟨_, Ent.pack0 (ls := fun c => StC.pieces 118 s src c) hc, rfl, rfl⟩
 (conv=>whnf);refine .ff ?_;(conv=>whnf);refine .ff ?_;(conv=>whnf);refine .ff ?_;(conv=>whnf);refine .ff ?_;(conv=>whnf)
 refine LoadG.at (.here rfl) ?_
 (conv=>whnf);refine .ff ?_;(conv=>whnf)
 refine LenG.sl hmv ?_
 (conv=>whnf);refine .ff ?_;(conv=>whnf);refine .ff ?_;(conv=>whnf)
 refine CondG.dec (fun h2 => ?_) (fun h2 => ?_)
 ·have e1 : backE V m = 72 := by unfold backE; rw [if_pos (.inr (by omega))]
  have e2 : backV V m = V := by unfold backV; rw [if_pos (.inr (by omega))]
  rw [e1, e2]
  conv=>whnf
  exact ⟨_, Ent.pack0 (ls := fun c => StC.pieces 118 s src c) hc, rfl, rfl⟩
 have hlt : m.toNat < c.marks.length := by omega
 obtain ⟨k, rfl⟩ : ∃ k : Nat, m = k := ⟨m.toNat, (Int.toNat_of_nonneg (by omega)).symm⟩
 rw [Int.toNat_natCast] at hlt
 obtain ⟨at_, hat⟩ : ∃ a, c.marks[k]? = some a := ⟨c.marks[k], List.getElem?_eq_getElem hlt⟩
 have hle : at_ ≤ c.steps.length := by
  have hlt2 : k < V.hist.length := by rw [← hmk]; exact hlt
  exact (hc.hist k at_ _ hat (List.getElem?_eq_getElem hlt2)).1
 conv=>whnf
 refine LoadG.at (.here rfl) ?_
 conv=>whnf
 refine IdxG.rd (L := c.pieces 118 s src) (.tl (.tl (.tl (.tl (own_rd hmv hml))))) (by omega) fun b o hcl => ?_
 conv=>whnf
 refine LoadG.at (hcl.one (u := .int .i64 at_) (by rw [Int.toNat_natCast, Nat.mul_one, List.getElem?_map, hat]; rfl)) ?_
 conv=>whnf
 refine LoadG.at (.here rfl) ?_
 conv=>whnf
 refine LenG.sl hsv ?_
 conv=>whnf
 refine ArithG.i64 (by omega) ?_
 conv=>whnf
 refine LoopG.mk (fun i ev L => ∃ (nw : List (KV ByteArray)), at_ ≤ i ∧ i ≤ c.steps.length ∧ nowFun nw = undoTo c.steps i c.nowF ∧ (∀ p ∈ nw, SlV p.2.1 p.2.2.length ∧ p.2.2.length ≤ 4096) ∧
   ev = [(0, .pointer (some ⟨s, 0, none⟩)), (1, .int .i64 k), (4, .int .i64 0), (5, .int .i64 at_), (6, .int .i64 ((i : Int) - 1))] ∧ L = ({ c with now := nw } : StC).pieces 118 s src) c.steps.length
  [(0, .pointer (some ⟨s, 0, none⟩)), (1, .int .i64 k), (4, .int .i64 0), (5, .int .i64 at_), (6, .int .i64 ((c.steps.length : Int) - 1))] _ ⟨rfl, rfl, rfl, rfl, rfl, trivial⟩ (Ent.refl _)
  ⟨c.now, hle, Nat.le_refl _, (undoTo_all (Nat.le_refl _) _).symm, hc.wf.now, rfl, rfl⟩ ?_
 rintro i ev L ⟨nw, hi1, hi2, hnw, hwn, rfl, rfl⟩
 conv=>whnf
 refine CondG.dec (fun h3 => ?_) (fun h3 => ?_)
 ·obtain ⟨j, rfl⟩ : ∃ j, i = j + 1 := ⟨i - 1, by omega⟩
  obtain ⟨x, hx⟩ : ∃ x, c.steps[j]? = some x := ⟨c.steps[j], List.getElem?_eq_getElem (by omega)⟩
  have hxm := List.mem_of_getElem? hx
  obtain ⟨hxs, hxl⟩ := hc.wf.steps x hxm
  have hback : nowFun (backK x nw) = undoTo c.steps j c.nowF := by rw [backK_fun, hnw, ← undoTo_step hx]
  conv=>whnf
  refine LoadG.at (.here rfl) ?_
  conv=>whnf
  refine IdxG.rd (L := ({ c with now := nw } : StC).pieces 118 s src) (n := c.steps.length) (cs := stepsC c.steps) (.tl (.tl (.tl (own_rd hsv hsl)))) (by omega) fun b o hcl => ?_
  conv=>whnf
  have hjn : (((j + 1 : Nat) : Int) - 1).toNat = j := by omega
  refine LoadNG.at (vs := x.cells) rfl (by rw [hjn]; exact hcl.part (i := j * 3) (stepsC_at hx)) ?_
  conv=>whnf
  intro b7
  conv=>whnf
  obtain ⟨xa, xc, hxw⟩ := hxs.len
  refine StoreG.at (cs := x.cells) rfl (Upd.whole (by rfl) (by simp [StepC.cells, Value.oneCell', hxw])) ?_
  conv=>whnf
  refine LoadG.at (v := .bool x.laid) (.here rfl) ?_
  conv=>whnf
  refine CondG.split (fun hld => ?_) (fun hld => ?_)
  ·conv=>whnf
   refine DrawG.mk 8 _ [] (Ent.refl _) ?_
   conv=>whnf
   refine .take 0 ?_
   conv=>whnf
   refine ⟨rfl, ?_⟩
   conv=>whnf
   refine .take 1 ?_
   conv=>whnf
   refine ⟨rfl, ?_⟩
   conv=>whnf
   refine .take 2 ?_
   conv=>whnf
   refine ⟨rfl, ?_⟩
   conv=>whnf
   refine .take 3 ?_
   conv=>whnf
   refine ⟨rfl, ?_⟩
   conv=>whnf
   refine LoadG.at (.tl (.here rfl)) ?_
   conv=>whnf
   refine .take 4 ?_
   conv=>whnf
   refine ⟨rfl, ?_⟩
   conv=>whnf
   refine .take 5 ?_
   conv=>whnf
   refine ⟨rfl, ?_⟩
   conv=>whnf
   refine LoadG.at (v := .string x.key) (.here rfl) ?_
   conv=>whnf
   refine .take 6 ?_
   conv=>whnf
   refine ⟨rfl, ?_⟩
   conv=>whnf
   refine .take 7 ?_
   conv=>whnf
   refine ⟨rfl, ?_⟩
   conv=>whnf
   refine LoadG.at (v := x.was) (.here rfl) ?_
   conv=>whnf
   refine .all ?_
   conv=>whnf
   refine ⟨by decide, ?_⟩
   conv=>whnf
   refine ⟨rfl, ?_⟩
   conv=>whnf
   refine DoesG.ent (Ent.front 3 rfl) ?_
   refine DoesG.upd strT mapT trivial ?_
   rw [putM_kv nw x.key x.was x.bs]
   conv=>whnf
   refine ⟨rfl, ?_⟩
   conv=>whnf
   refine ArithG.i64' ((j : Int) - 1) (by omega) (by omega) ?_
   conv=>whnf
   refine ⟨j, [(0, .pointer (some ⟨s, 0, none⟩)), (1, .int .i64 k), (4, .int .i64 0), (5, .int .i64 at_), (6, .int .i64 ((j : Int) - 1))], ({ c with now := putK nw x.key x.was x.bs } : StC).pieces 118 s src, by omega, ⟨rfl, rfl, rfl, rfl, rfl, trivial⟩, ?_, putK nw x.key x.was x.bs, by omega, by omega, ?_, putK_all hwn ⟨hxs, hxl⟩, rfl, rfl⟩
   ·refine (Ent.under (Ent.under (back_put hxm) (kvS c.has)) [_, _, _, _, _, _]).trans ?_
    exact Ent.sel (T := kvS c.has ++ (kvS (putK nw x.key x.was x.bs) ++ stepsS c.steps)) (A := [_, _, _, _, _, _]) [2, 3, 0, 4, 5] rfl
   ·rw [← hback]
    unfold backK
    rw [if_pos hld]
  ·conv=>whnf
   refine DrawG.mk 7 (cel b7 155 x.cells :: cel s 118 [src, .map (some c.hb), .map (some c.nb), c.sv, c.mv] :: mapS c.hb (kvM c.has) :: own 3 c.sv c.steps.length (stepsC c.steps) :: own 1 c.mv c.marks.length (c.marks.map fun n : Nat => Value.int .i64 n) :: (kvS c.has ++ (kvS nw ++ stepsS c.steps))) [mapS c.nb (kvM nw)] (Ent.front 3 rfl) ?_
   conv=>whnf
   refine .take 0 ?_
   conv=>whnf
   refine ⟨rfl, ?_⟩
   conv=>whnf
   refine .take 1 ?_
   conv=>whnf
   refine ⟨rfl, ?_⟩
   conv=>whnf
   refine .take 2 ?_
   conv=>whnf
   refine ⟨rfl, ?_⟩
   conv=>whnf
   refine .take 3 ?_
   conv=>whnf
   refine ⟨rfl, ?_⟩
   conv=>whnf
   refine LoadG.at (.tl (.here rfl)) ?_
   conv=>whnf
   refine .take 4 ?_
   conv=>whnf
   refine ⟨rfl, ?_⟩
   conv=>whnf
   refine .take 5 ?_
   conv=>whnf
   refine ⟨rfl, ?_⟩
   conv=>whnf
   refine LoadG.at (v := .string x.key) (.here rfl) ?_
   conv=>whnf
   refine .all ?_
   conv=>whnf
   refine ⟨by decide, ?_⟩
   conv=>whnf
   refine DoesG.delM strT mapT trivial ?_
   rw [delM_kv nw x.key]
   conv=>whnf
   refine ⟨rfl, ?_⟩
   conv=>whnf
   refine ArithG.i64' ((j : Int) - 1) (by omega) (by omega) ?_
   conv=>whnf
   refine ⟨j, [(0, .pointer (some ⟨s, 0, none⟩)), (1, .int .i64 k), (4, .int .i64 0), (5, .int .i64 at_), (6, .int .i64 ((j : Int) - 1))], ({ c with now := delK nw x.key } : StC).pieces 118 s src, by omega, ⟨rfl, rfl, rfl, rfl, rfl, trivial⟩, ?_, delK nw x.key, by omega, by omega, ?_, fun p hp => hwn p (List.mem_filter.1 hp).1, rfl, rfl⟩
   ·refine (Ent.under (Ent.under (kvS_del (x := x.key)) (kvS c.has)) [_, _, _, _, _, _]).trans ?_
    exact Ent.sel (T := kvS c.has ++ (kvS (delK nw x.key) ++ stepsS c.steps)) (A := [_, _, _, _, _, _]) [2, 3, 0, 4, 5] rfl
   ·rw [← hback]
    unfold backK
    rw [if_neg (by simp [hld])]
 ·obtain rfl : at_ = i := by omega
  conv=>whnf
  refine LoadG.at (.here rfl) ?_
  rw [hsv2]
  rw [hsv2] at hsv
  conv=>whnf
  refine SlcG.lit ?_
  have hcap : c.steps.length ≤ sc := by
   rcases hsv with ⟨h, h0⟩ | ⟨g, cap, h, hn⟩
   ·omega
   ·cases h; exact hn
  conv=>whnf
  refine SideG.of (by omega) ?_
  conv=>whnf
  refine SliceG.zero ?_
  conv=>whnf
  refine StoreG.at rfl (Upd.here (by simp) rfl) ?_
  conv=>whnf
  refine LoadG.at (.here rfl) ?_
  rw [hmv2]
  rw [hmv2] at hmv
  conv=>whnf
  refine ArithG.i64' ((k + 1 : Nat) : Int) (by omega) (by omega) ?_
  conv=>whnf
  refine SlcG.lit ?_
  have hcap2 : c.marks.length ≤ mc := by
   rcases hmv with ⟨h, h0⟩ | ⟨g, cap, h, hn⟩
   ·omega
   ·cases h; exact hn
  conv=>whnf
  refine SideG.of (by omega) ?_
  conv=>whnf
  refine SliceG.zero ?_
  conv=>whnf
  refine StoreG.at rfl (Upd.here (by simp) rfl) ?_
  conv=>whnf
  have hkl : k < V.hist.length := by rw [← hmk]; exact hlt
  have e1 : backE V k = 0 := by unfold backE; rw [if_neg (by omega)]
  obtain ⟨c', hc'⟩ : ∃ z, z = ({ c with now := nw, steps := c.steps.take at_, marks := c.marks.take (k + 1), sv := .slice sa at_ sc, mv := .slice ma (k + 1) mc } : StC) := ⟨_, rfl⟩
  have hg : Gone c k at_ c' := by
   rw [hc']
   exact ⟨rfl, hnw, rfl, rfl, ⟨hc.wf.has, hwn, fun x hx => hc.wf.steps x (List.mem_of_mem_take hx)⟩⟩
  obtain ⟨f, hf, hat2⟩ := hc.back hat hg
  have e2 : backV V k = ⟨f, V.hist.take (k + 1)⟩ := by
   unfold backV
   rw [if_neg (by omega), Int.toNat_natCast, hf]
  rw [e1, e2]
  refine ⟨_, ?_, rfl, rfl⟩
  refine Ent.trans ?_ (Ent.pack0 (ls := fun c => StC.pieces 118 s src c) hat2)
  rw [hc']
  have a1 : (c.steps.take at_).length = at_ := by rw [List.length_take]; omega
  have a2 : (c.marks.take (k + 1)).length = k + 1 := by rw [List.length_take]; omega
  simp only [StC.pieces, a1, a2]
  rw [← stepsC_take, List.map_take]
  refine (Ent.under (own_take hle) [_, _, _]).trans ?_
  refine (Ent.under (own_take (k := k + 1) (by omega)) [_, _, _, _]).trans ?_
  rw [Nat.mul_one]
  exact Ent.under (Ent.under (Ent.under steps_take (kvS nw)) (kvS c.has)) [_, _, _, _, _]
end
end Go.Proofs.YtnbcbdlbejdkpaaGreatDoor
namespace Go.Proofs.YtnbcbdlbejdkpaaGreatDoor
open Go Go.Sl
section
variable {find : ByteArray → List Nat × Int}
theorem stepped_at (F : List HP) (s : Nat) (src : Value) (V : View) (n : Nat) (x : StepD) (hx : x.wf) (hs : SrcG Tryz.prog F src find) (ho : SrcOk find) (hn : n + 2 ≤ 4398046511104) (hh : V.hist.length ≤ 4398046511104) :
  SpecF Tryz.prog 14 [.pointer (some ⟨s, 0, none⟩), .agg ⟨x.cells⟩] F [stP 118 s src find V n] (fun r L => r = .agg ⟨(stepL V x).1.cells⟩ ∧ L = [stP 118 s src find (stepL V x).2 (n + 3)]) := by
 have h20a : (bvs x.a).length = 20 := by rw [bvs_len, hx.a.1]
 have h20b : (bvs x.b).length = 20 := by rw [bvs_len, hx.b.1]
 have h20c : (bvs x.c).length = 20 := by rw [bvs_len, hx.c.1]
 have h4w : (uvs x.amt).length = 4 := by rw [uvs_len, hx.amt.len]
 refine fun14.spec rfl ?_
 conv=>whnf
 intro b3
 conv=>whnf
 intro b4
 conv=>whnf
 refine LoadG.at (v := .int .i64 x.what) (.tl (.here rfl)) ?_
 conv=>whnf
 refine CallG.pure (lpick_spec _ x.what 13 hx.w1 hx.w2 (by decide)) ?_
 rintro _ _ ⟨rfl, rfl⟩
 conv=>whnf
 refine CondG.dec (fun e0 => ?_) (fun e0 => ?_)
 ·have es : stepL V x = (told1 (registerL V x.tok).1, (registerL V x.tok).2) := by
   unfold stepL
   rw [show pickN x.what 13 = 0 by omega]
   rfl
  conv=>whnf
  refine LoadG.at (v := .int .i64 x.tok) (.tl (.here rfl)) ?_
  conv=>whnf
  refine CallG.of (pre := [stP 118 s src find V n]) (register_at _ s src V n x.tok (hs.left _) ho (by omega)) (Ent.front 2 rfl) ?_
  rintro _ _ ⟨rfl, rfl⟩
  conv=>whnf
  refine BuildG.of (cs := (told1 (registerL V x.tok).1).cells) rfl ?_
  conv=>whnf
  refine StoreG.at (by rw [ToldD.cells_len (show _ = 4 from rfl) (show _ = 4 from rfl)]) (Upd.tl (Upd.whole (by rw [ToldD.cells_len (show _ = 4 from rfl) (show _ = 4 from rfl)]; rfl) (ToldD.cells_one _))) ?_
  conv=>whnf
  refine LoadNG.at (vs := ((told1 (registerL V x.tok).1) : ToldD).cells) (by rw [ToldD.cells_len (show _ = 4 from rfl) (show _ = 4 from rfl)]) (.tl .all) ?_
  conv=>whnf
  rw [es]
  exact ⟨_, (Ent.sel (T := []) (A := [_, _, _]) [0] rfl).trans (stP_more (by omega)), rfl, rfl⟩
 conv=>whnf
 refine CondG.dec (fun e1 => ?_) (fun e1 => ?_)
 ·have es : stepL V x = (told1 (pauseL V x.tok).1, (pauseL V x.tok).2) := by
   unfold stepL
   rw [show pickN x.what 13 = 1 by omega]
   rfl
  conv=>whnf
  refine LoadG.at (v := .int .i64 x.tok) (.tl (.here rfl)) ?_
  conv=>whnf
  refine CallG.of (pre := [stP 118 s src find V n]) (pause_at _ s src V n x.tok (hs.left _) ho (by omega)) (Ent.front 2 rfl) ?_
  rintro _ _ ⟨rfl, rfl⟩
  conv=>whnf
  refine BuildG.of (cs := (told1 (pauseL V x.tok).1).cells) rfl ?_
  conv=>whnf
  refine StoreG.at (by rw [ToldD.cells_len (show _ = 4 from rfl) (show _ = 4 from rfl)]) (Upd.tl (Upd.whole (by rw [ToldD.cells_len (show _ = 4 from rfl) (show _ = 4 from rfl)]; rfl) (ToldD.cells_one _))) ?_
  conv=>whnf
  refine LoadNG.at (vs := ((told1 (pauseL V x.tok).1) : ToldD).cells) (by rw [ToldD.cells_len (show _ = 4 from rfl) (show _ = 4 from rfl)]) (.tl .all) ?_
  conv=>whnf
  rw [es]
  exact ⟨_, (Ent.sel (T := []) (A := [_, _, _]) [0] rfl).trans (stP_more (by omega)), rfl, rfl⟩
 conv=>whnf
 refine CondG.dec (fun e2 => ?_) (fun e2 => ?_)
 ·have es : stepL V x = (told1 (resumeL V x.tok).1, (resumeL V x.tok).2) := by
   unfold stepL
   rw [show pickN x.what 13 = 2 by omega]
   rfl
  conv=>whnf
  refine LoadG.at (v := .int .i64 x.tok) (.tl (.here rfl)) ?_
  conv=>whnf
  refine CallG.of (pre := [stP 118 s src find V n]) (resume_at _ s src V n x.tok (hs.left _) ho (by omega)) (Ent.front 2 rfl) ?_
  rintro _ _ ⟨rfl, rfl⟩
  conv=>whnf
  refine BuildG.of (cs := (told1 (resumeL V x.tok).1).cells) rfl ?_
  conv=>whnf
  refine StoreG.at (by rw [ToldD.cells_len (show _ = 4 from rfl) (show _ = 4 from rfl)]) (Upd.tl (Upd.whole (by rw [ToldD.cells_len (show _ = 4 from rfl) (show _ = 4 from rfl)]; rfl) (ToldD.cells_one _))) ?_
  conv=>whnf
  refine LoadNG.at (vs := ((told1 (resumeL V x.tok).1) : ToldD).cells) (by rw [ToldD.cells_len (show _ = 4 from rfl) (show _ = 4 from rfl)]) (.tl .all) ?_
  conv=>whnf
  rw [es]
  exact ⟨_, (Ent.sel (T := []) (A := [_, _, _]) [0] rfl).trans (stP_more (by omega)), rfl, rfl⟩
 conv=>whnf
 refine CondG.dec (fun e3 => ?_) (fun e3 => ?_)
 ·have es : stepL V x = (told1 (mintL V x.tok x.a x.amt).1, (mintL V x.tok x.a x.amt).2) := by
   unfold stepL
   rw [show pickN x.what 13 = 3 by omega]
   rfl
  conv=>whnf
  refine LoadG.at (v := .int .i64 x.tok) (.tl (.here rfl)) ?_
  conv=>whnf
  refine LoadNG.at (vs := bvs x.a) h20a (.tl (.here (StepD.a_at x))) ?_
  conv=>whnf
  refine LoadNG.at (vs := uvs x.amt) h4w (.tl (.here (StepD.amt_at hx))) ?_
  conv=>whnf
  refine CallG.of (pre := [stP 118 s src find V n]) (mint_at _ s src V n x.tok x.a x.amt hx.a.1 hx.amt (hs.left _) ho (by omega)) (Ent.front 2 rfl) ?_
  rintro _ _ ⟨rfl, rfl⟩
  conv=>whnf
  refine BuildG.of (cs := (told1 (mintL V x.tok x.a x.amt).1).cells) rfl ?_
  conv=>whnf
  refine StoreG.at (by rw [ToldD.cells_len (show _ = 4 from rfl) (show _ = 4 from rfl)]) (Upd.tl (Upd.whole (by rw [ToldD.cells_len (show _ = 4 from rfl) (show _ = 4 from rfl)]; rfl) (ToldD.cells_one _))) ?_
  conv=>whnf
  refine LoadNG.at (vs := ((told1 (mintL V x.tok x.a x.amt).1) : ToldD).cells) (by rw [ToldD.cells_len (show _ = 4 from rfl) (show _ = 4 from rfl)]) (.tl .all) ?_
  conv=>whnf
  rw [es]
  exact ⟨_, (Ent.sel (T := []) (A := [_, _, _]) [0] rfl).trans (stP_more (by omega)), rfl, rfl⟩
 conv=>whnf
 refine CondG.dec (fun e4 => ?_) (fun e4 => ?_)
 ·have es : stepL V x = (told1 (burnL V x.tok x.a x.amt).1, (burnL V x.tok x.a x.amt).2) := by
   unfold stepL
   rw [show pickN x.what 13 = 4 by omega]
   rfl
  conv=>whnf
  refine LoadG.at (v := .int .i64 x.tok) (.tl (.here rfl)) ?_
  conv=>whnf
  refine LoadNG.at (vs := bvs x.a) h20a (.tl (.here (StepD.a_at x))) ?_
  conv=>whnf
  refine LoadNG.at (vs := uvs x.amt) h4w (.tl (.here (StepD.amt_at hx))) ?_
  conv=>whnf
  refine CallG.of (pre := [stP 118 s src find V n]) (burn_at _ s src V n x.tok x.a x.amt hx.a.1 hx.amt (hs.left _) ho (by omega)) (Ent.front 2 rfl) ?_
  rintro _ _ ⟨rfl, rfl⟩
  conv=>whnf
  refine BuildG.of (cs := (told1 (burnL V x.tok x.a x.amt).1).cells) rfl ?_
  conv=>whnf
  refine StoreG.at (by rw [ToldD.cells_len (show _ = 4 from rfl) (show _ = 4 from rfl)]) (Upd.tl (Upd.whole (by rw [ToldD.cells_len (show _ = 4 from rfl) (show _ = 4 from rfl)]; rfl) (ToldD.cells_one _))) ?_
  conv=>whnf
  refine LoadNG.at (vs := ((told1 (burnL V x.tok x.a x.amt).1) : ToldD).cells) (by rw [ToldD.cells_len (show _ = 4 from rfl) (show _ = 4 from rfl)]) (.tl .all) ?_
  conv=>whnf
  rw [es]
  exact ⟨_, (Ent.sel (T := []) (A := [_, _, _]) [0] rfl).trans (stP_more (by omega)), rfl, rfl⟩
 conv=>whnf
 refine CondG.dec (fun e5 => ?_) (fun e5 => ?_)
 ·have es : stepL V x = (told1 (moveL V x.tok x.a x.b x.amt).1, (moveL V x.tok x.a x.b x.amt).2) := by
   unfold stepL
   rw [show pickN x.what 13 = 5 by omega]
   rfl
  conv=>whnf
  refine LoadG.at (v := .int .i64 x.tok) (.tl (.here rfl)) ?_
  conv=>whnf
  refine LoadNG.at (vs := bvs x.a) h20a (.tl (.here (StepD.a_at x))) ?_
  conv=>whnf
  refine LoadNG.at (vs := bvs x.b) h20b (.tl (.here (StepD.b_at hx))) ?_
  conv=>whnf
  refine LoadNG.at (vs := uvs x.amt) h4w (.tl (.here (StepD.amt_at hx))) ?_
  conv=>whnf
  refine CallG.of (pre := [stP 118 s src find V n]) (move_at _ s src V n x.tok x.a x.b x.amt hx.a.1 hx.b.1 hx.amt (hs.left _) ho (by omega)) (Ent.front 2 rfl) ?_
  rintro _ _ ⟨rfl, rfl⟩
  conv=>whnf
  refine BuildG.of (cs := (told1 (moveL V x.tok x.a x.b x.amt).1).cells) rfl ?_
  conv=>whnf
  refine StoreG.at (by rw [ToldD.cells_len (show _ = 4 from rfl) (show _ = 4 from rfl)]) (Upd.tl (Upd.whole (by rw [ToldD.cells_len (show _ = 4 from rfl) (show _ = 4 from rfl)]; rfl) (ToldD.cells_one _))) ?_
  conv=>whnf
  refine LoadNG.at (vs := ((told1 (moveL V x.tok x.a x.b x.amt).1) : ToldD).cells) (by rw [ToldD.cells_len (show _ = 4 from rfl) (show _ = 4 from rfl)]) (.tl .all) ?_
  conv=>whnf
  rw [es]
  exact ⟨_, (Ent.sel (T := []) (A := [_, _, _]) [0] rfl).trans (stP_more (by omega)), rfl, rfl⟩
 conv=>whnf
 refine CondG.dec (fun e6 => ?_) (fun e6 => ?_)
 ·have es : stepL V x = (told1 (allowL V x.tok x.a x.b x.amt).1, (allowL V x.tok x.a x.b x.amt).2) := by
   unfold stepL
   rw [show pickN x.what 13 = 6 by omega]
   rfl
  conv=>whnf
  refine LoadG.at (v := .int .i64 x.tok) (.tl (.here rfl)) ?_
  conv=>whnf
  refine LoadNG.at (vs := bvs x.a) h20a (.tl (.here (StepD.a_at x))) ?_
  conv=>whnf
  refine LoadNG.at (vs := bvs x.b) h20b (.tl (.here (StepD.b_at hx))) ?_
  conv=>whnf
  refine LoadNG.at (vs := uvs x.amt) h4w (.tl (.here (StepD.amt_at hx))) ?_
  conv=>whnf
  refine CallG.of (pre := [stP 118 s src find V n]) (allow_at _ s src V n x.tok x.a x.b x.amt hx.a.1 hx.b.1 hx.amt (hs.left _) ho (by omega)) (Ent.front 2 rfl) ?_
  rintro _ _ ⟨rfl, rfl⟩
  conv=>whnf
  refine BuildG.of (cs := (told1 (allowL V x.tok x.a x.b x.amt).1).cells) rfl ?_
  conv=>whnf
  refine StoreG.at (by rw [ToldD.cells_len (show _ = 4 from rfl) (show _ = 4 from rfl)]) (Upd.tl (Upd.whole (by rw [ToldD.cells_len (show _ = 4 from rfl) (show _ = 4 from rfl)]; rfl) (ToldD.cells_one _))) ?_
  conv=>whnf
  refine LoadNG.at (vs := ((told1 (allowL V x.tok x.a x.b x.amt).1) : ToldD).cells) (by rw [ToldD.cells_len (show _ = 4 from rfl) (show _ = 4 from rfl)]) (.tl .all) ?_
  conv=>whnf
  rw [es]
  exact ⟨_, (Ent.sel (T := []) (A := [_, _, _]) [0] rfl).trans (stP_more (by omega)), rfl, rfl⟩
 conv=>whnf
 refine CondG.dec (fun e7 => ?_) (fun e7 => ?_)
 ·have es : stepL V x = (told1 (pullL V x.tok x.a x.b x.c x.amt).1, (pullL V x.tok x.a x.b x.c x.amt).2) := by
   unfold stepL
   rw [show pickN x.what 13 = 7 by omega]
   rfl
  conv=>whnf
  refine LoadG.at (v := .int .i64 x.tok) (.tl (.here rfl)) ?_
  conv=>whnf
  refine LoadNG.at (vs := bvs x.a) h20a (.tl (.here (StepD.a_at x))) ?_
  conv=>whnf
  refine LoadNG.at (vs := bvs x.b) h20b (.tl (.here (StepD.b_at hx))) ?_
  conv=>whnf
  refine LoadNG.at (vs := bvs x.c) h20c (.tl (.here (StepD.c_at hx))) ?_
  conv=>whnf
  refine LoadNG.at (vs := uvs x.amt) h4w (.tl (.here (StepD.amt_at hx))) ?_
  conv=>whnf
  refine CallG.of (pre := [stP 118 s src find V n]) (pull_at _ s src V n x.tok x.a x.b x.c x.amt hx.a.1 hx.b.1 hx.c.1 hx.amt (hs.left _) ho (by omega)) (Ent.front 2 rfl) ?_
  rintro _ _ ⟨rfl, rfl⟩
  conv=>whnf
  refine BuildG.of (cs := (told1 (pullL V x.tok x.a x.b x.c x.amt).1).cells) rfl ?_
  conv=>whnf
  refine StoreG.at (by rw [ToldD.cells_len (show _ = 4 from rfl) (show _ = 4 from rfl)]) (Upd.tl (Upd.whole (by rw [ToldD.cells_len (show _ = 4 from rfl) (show _ = 4 from rfl)]; rfl) (ToldD.cells_one _))) ?_
  conv=>whnf
  refine LoadNG.at (vs := ((told1 (pullL V x.tok x.a x.b x.c x.amt).1) : ToldD).cells) (by rw [ToldD.cells_len (show _ = 4 from rfl) (show _ = 4 from rfl)]) (.tl .all) ?_
  conv=>whnf
  rw [es]
  exact ⟨_, (Ent.sel (T := []) (A := [_, _, _]) [0] rfl).trans (stP_more (by omega)), rfl, rfl⟩
 conv=>whnf
 refine CondG.dec (fun e8 => ?_) (fun e8 => ?_)
 ·have es : stepL V x = (⟨(tokenL V x.tok).2, (tokenL V x.tok).1, z4, 0⟩, V) := by
   unfold stepL
   rw [show pickN x.what 13 = 8 by omega]
   rfl
  have h4 := (tokenL_ok V x.tok).len
  conv=>whnf
  refine LoadG.at (v := .int .i64 x.tok) (.tl (.here rfl)) ?_
  conv=>whnf
  refine CallG.of (pre := [stP 118 s src find V n]) (token_at _ s src V n x.tok (hs.left _) ho) (Ent.front 2 rfl) ?_
  rintro _ _ ⟨rfl, rfl⟩
  conv=>whnf
  intro b5
  conv=>whnf
  refine StoreG.at (by rw [TokD.cells_len h4]) (Upd.whole (by rw [TokD.cells_len h4]; rfl) (TokD.cells_one _)) ?_
  conv=>whnf
  refine LoadNG.at (vs := (tokenL V x.tok).1.cells) (by rw [TokD.cells_len h4]) .all ?_
  conv=>whnf
  refine BuildG.of (cs := (⟨(tokenL V x.tok).2, (tokenL V x.tok).1, z4, 0⟩ : ToldD).cells) (told_tok h4) ?_
  conv=>whnf
  refine StoreG.at (by rw [ToldD.cells_len h4 (show _ = 4 from rfl)]) (Upd.tl (Upd.tl (Upd.whole (by rw [ToldD.cells_len h4 (show _ = 4 from rfl)]; rfl) (ToldD.cells_one _)))) ?_
  conv=>whnf
  refine LoadNG.at (vs := (⟨(tokenL V x.tok).2, (tokenL V x.tok).1, z4, 0⟩ : ToldD).cells) (by rw [ToldD.cells_len h4 (show _ = 4 from rfl)]) (.tl (.tl .all)) ?_
  conv=>whnf
  rw [es]
  exact ⟨_, (Ent.sel (T := []) (A := [_, _, _, _]) [1] rfl).trans (stP_more (by omega)), rfl, rfl⟩
 conv=>whnf
 refine CondG.dec (fun e9 => ?_) (fun e9 => ?_)
 ·have es : stepL V x = (⟨(balL V x.tok x.a).2, zTok, (balL V x.tok x.a).1, 0⟩, V) := by
   unfold stepL
   rw [show pickN x.what 13 = 9 by omega]
   rfl
  have h4 := (balL_len V x.tok x.a)
  conv=>whnf
  refine LoadG.at (v := .int .i64 x.tok) (.tl (.here rfl)) ?_
  conv=>whnf
  refine LoadNG.at (vs := bvs x.a) h20a (.tl (.here (StepD.a_at x))) ?_
  conv=>whnf
  refine CallG.of (pre := [stP 118 s src find V n]) (balance_at _ s src V n x.tok x.a hx.a.1 (hs.left _) ho) (Ent.front 2 rfl) ?_
  rintro _ _ ⟨rfl, rfl⟩
  conv=>whnf
  intro b5
  conv=>whnf
  refine StoreG.at (by rw [uvs_len, h4]) (Upd.whole (by rw [uvs_len, h4]; rfl) (uvs_one _)) ?_
  conv=>whnf
  refine LoadNG.at (vs := uvs (balL V x.tok x.a).1) (by rw [uvs_len, h4]) .all ?_
  conv=>whnf
  refine BuildG.of (cs := (⟨(balL V x.tok x.a).2, zTok, (balL V x.tok x.a).1, 0⟩ : ToldD).cells) (told_amt h4) ?_
  conv=>whnf
  refine StoreG.at (by rw [ToldD.cells_len (show _ = 4 from rfl) h4]) (Upd.tl (Upd.tl (Upd.whole (by rw [ToldD.cells_len (show _ = 4 from rfl) h4]; rfl) (ToldD.cells_one _)))) ?_
  conv=>whnf
  refine LoadNG.at (vs := (⟨(balL V x.tok x.a).2, zTok, (balL V x.tok x.a).1, 0⟩ : ToldD).cells) (by rw [ToldD.cells_len (show _ = 4 from rfl) h4]) (.tl (.tl .all)) ?_
  conv=>whnf
  rw [es]
  exact ⟨_, (Ent.sel (T := []) (A := [_, _, _, _]) [1] rfl).trans (stP_more (by omega)), rfl, rfl⟩
 conv=>whnf
 refine CondG.dec (fun e10 => ?_) (fun e10 => ?_)
 ·have es : stepL V x = (⟨(allowedL V x.tok x.a x.b).2, zTok, (allowedL V x.tok x.a x.b).1, 0⟩, V) := by
   unfold stepL
   rw [show pickN x.what 13 = 10 by omega]
   rfl
  have h4 := (allowedL_len V x.tok x.a x.b)
  conv=>whnf
  refine LoadG.at (v := .int .i64 x.tok) (.tl (.here rfl)) ?_
  conv=>whnf
  refine LoadNG.at (vs := bvs x.a) h20a (.tl (.here (StepD.a_at x))) ?_
  conv=>whnf
  refine LoadNG.at (vs := bvs x.b) h20b (.tl (.here (StepD.b_at hx))) ?_
  conv=>whnf
  refine CallG.of (pre := [stP 118 s src find V n]) (allowed_at _ s src V n x.tok x.a x.b hx.a.1 hx.b.1 (hs.left _) ho) (Ent.front 2 rfl) ?_
  rintro _ _ ⟨rfl, rfl⟩
  conv=>whnf
  intro b5
  conv=>whnf
  refine StoreG.at (by rw [uvs_len, h4]) (Upd.whole (by rw [uvs_len, h4]; rfl) (uvs_one _)) ?_
  conv=>whnf
  refine LoadNG.at (vs := uvs (allowedL V x.tok x.a x.b).1) (by rw [uvs_len, h4]) .all ?_
  conv=>whnf
  refine BuildG.of (cs := (⟨(allowedL V x.tok x.a x.b).2, zTok, (allowedL V x.tok x.a x.b).1, 0⟩ : ToldD).cells) (told_amt h4) ?_
  conv=>whnf
  refine StoreG.at (by rw [ToldD.cells_len (show _ = 4 from rfl) h4]) (Upd.tl (Upd.tl (Upd.whole (by rw [ToldD.cells_len (show _ = 4 from rfl) h4]; rfl) (ToldD.cells_one _)))) ?_
  conv=>whnf
  refine LoadNG.at (vs := (⟨(allowedL V x.tok x.a x.b).2, zTok, (allowedL V x.tok x.a x.b).1, 0⟩ : ToldD).cells) (by rw [ToldD.cells_len (show _ = 4 from rfl) h4]) (.tl (.tl .all)) ?_
  conv=>whnf
  rw [es]
  exact ⟨_, (Ent.sel (T := []) (A := [_, _, _, _]) [1] rfl).trans (stP_more (by omega)), rfl, rfl⟩
 conv=>whnf
 refine CondG.dec (fun e11 => ?_) (fun e11 => ?_)
 ·have es : stepL V x = (⟨0, zTok, z4, V.hist.length⟩, ⟨V.now, V.hist ++ [V.now]⟩) := by
   unfold stepL
   rw [show pickN x.what 13 = 11 by omega]
   rfl
  conv=>whnf
  refine CallG.of (pre := [stP 118 s src find V n]) (mark_at _ s src V n (by omega) hh) (Ent.front 2 rfl) ?_
  rintro _ _ ⟨rfl, rfl⟩
  conv=>whnf
  refine BuildG.of (cs := (⟨0, zTok, z4, V.hist.length⟩ : ToldD).cells) rfl ?_
  conv=>whnf
  refine StoreG.at (by rw [ToldD.cells_len (show _ = 4 from rfl) (show _ = 4 from rfl)]) (Upd.tl (Upd.whole (by rw [ToldD.cells_len (show _ = 4 from rfl) (show _ = 4 from rfl)]; rfl) (ToldD.cells_one _))) ?_
  conv=>whnf
  refine LoadNG.at (vs := (⟨0, zTok, z4, V.hist.length⟩ : ToldD).cells) (by rw [ToldD.cells_len (show _ = 4 from rfl) (show _ = 4 from rfl)]) (.tl .all) ?_
  conv=>whnf
  rw [es]
  exact ⟨_, (Ent.sel (T := []) (A := [_, _, _]) [0] rfl).trans (stP_more (by omega)), rfl, rfl⟩
 have hk12 : pickN x.what 13 = 12 := by
  have := pickN_lt x.what (n := 13) (by decide)
  omega
 have es : stepL V x = (told1 (backE V x.tok), backV V x.tok) := by
  unfold stepL
  rw [hk12]
  rfl
 conv=>whnf
 refine LoadG.at (v := .int .i64 x.tok) (.tl (.here rfl)) ?_
 conv=>whnf
 refine CallG.of (pre := [stP 118 s src find V n]) (back_at _ s src V n (by omega) hh x.tok hx.t1 hx.t2) (Ent.front 2 rfl) ?_
 rintro _ _ ⟨rfl, rfl⟩
 conv=>whnf
 refine BuildG.of (cs := (told1 (backE V x.tok)).cells) rfl ?_
 conv=>whnf
 refine StoreG.at (by rw [ToldD.cells_len (show _ = 4 from rfl) (show _ = 4 from rfl)]) (Upd.tl (Upd.whole (by rw [ToldD.cells_len (show _ = 4 from rfl) (show _ = 4 from rfl)]; rfl) (ToldD.cells_one _))) ?_
 conv=>whnf
 refine LoadNG.at (vs := ((told1 (backE V x.tok)) : ToldD).cells) (by rw [ToldD.cells_len (show _ = 4 from rfl) (show _ = 4 from rfl)]) (.tl .all) ?_
 conv=>whnf
 rw [es]
 exact ⟨_, (Ent.sel (T := []) (A := [_, _, _]) [0] rfl).trans (stP_more (by omega)), rfl, rfl⟩
end
end Go.Proofs.YtnbcbdlbejdkpaaGreatDoor
namespace Go.Proofs.YtnbcbdlbejdkpaaGreatDoor
open Go Go.Sl
theorem strN_strB {l : List Nat} (h : ∀ b ∈ l, b < 256) : strN (strB l) = l := strB_inj (strN_byte _) h (strB_strN _)
theorem tab_zero {vals : List (KV ByteArray)} {ls : List PairD} (hk : ∀ p ∈ vals, ∃ q ∈ ls, q.key = p.1) (hc : ∀ q ∈ ls, cleanP q = true) {l : List Nat} (hl : ∀ b ∈ l, b < 256) (hd : l.headD 0 = 116 ∨ l.headD 0 = 98 ∨ l.headD 0 = 108) :
  (tabFind vals (strB l)).1 = [] := by
 have hn : getK vals (strB l) = none := getK_none.2 fun hm => by
  obtain ⟨p, hp, e⟩ := List.mem_map.1 hm
  obtain ⟨q, hq, e2⟩ := hk p hp
  have hcl := hc q hq
  have hf : firstB q = l.headD 0 := by rw [firstB, e2, e, strN_strB hl]
  rw [cleanP, hf] at hcl
  rcases hd with h | h | h <;> rw [h] at hcl <;> simp at hcl
 unfold tabFind
 split
 ·rfl
 ·rw [hn]
  rfl
def md0 : Md := ⟨fun _ => ⟨false, false, 0⟩, fun _ _ => 0, fun _ _ _ => 0⟩
theorem led0 {vals : List (KV ByteArray)} {ls : List PairD} (hk : ∀ p ∈ vals, ∃ q ∈ ls, q.key = p.1) (hc : ∀ q ∈ ls, cleanP q = true) : Led ⟨fun k => (tabFind vals k).1, []⟩ md0 where
 tok t ht := tab_zero hk hc (tok_bytes ht) (.inl rfl)
 bal t a ht ha := (tab_zero hk hc (bal_bytes ht ha) (.inr (.inl rfl))).trans amtB_0.symm
 all t o s ht ho hs := (tab_zero hk hc (all_bytes ht ho hs) (.inr (.inr rfl))).trans amtB_0.symm
 supLt t ht := by show 0 < m256; decide
 balLt t a ht ha := by show 0 < m256; decide
 allLt t o s ht ho hs := by show 0 < m256; decide
 non t ht h := rfl
theorem inv0 (W : List (List Nat)) : InvM W md0 where
 sum t ht := by
  show (W.map fun _ => 0).sum = 0
  induction W with
  | nil => rfl
  | cons a W ih => rw [List.map_cons, List.sum_cons, ih]
 lt t ht := by show 0 < m256; decide
 non t ht h := rfl
theorem stepN_rule (V : View) (x : StepD) (Q : ToldD × View → Prop) (h0 : Q (told1 (registerL V x.tok).1, (registerL V x.tok).2)) (h1 : Q (told1 (pauseL V x.tok).1, (pauseL V x.tok).2)) (h2 : Q (told1 (resumeL V x.tok).1, (resumeL V x.tok).2)) (h3 : Q (told1 (mintL V x.tok x.a x.amt).1, (mintL V x.tok x.a x.amt).2)) (h4 : Q (told1 (burnL V x.tok x.a x.amt).1, (burnL V x.tok x.a x.amt).2)) (h5 : Q (told1 (moveL V x.tok x.a x.b x.amt).1, (moveL V x.tok x.a x.b x.amt).2)) (h6 : Q (told1 (allowL V x.tok x.a x.b x.amt).1, (allowL V x.tok x.a x.b x.amt).2)) (h7 : Q (told1 (pullL V x.tok x.a x.b x.c x.amt).1, (pullL V x.tok x.a x.b x.c x.amt).2)) (h8 : Q (⟨(tokenL V x.tok).2, (tokenL V x.tok).1, z4, 0⟩, V)) (h9 : Q (⟨(balL V x.tok x.a).2, zTok, (balL V x.tok x.a).1, 0⟩, V)) (h10 : Q (⟨(allowedL V x.tok x.a x.b).2, zTok, (allowedL V x.tok x.a x.b).1, 0⟩, V)) (h11 : Q (⟨0, zTok, z4, V.hist.length⟩, ⟨V.now, V.hist ++ [V.now]⟩)) (h12 : Q (told1 (backE V x.tok), backV V x.tok)) (k : Nat) : Q (stepN k V x) := by
 unfold stepN
 by_cases e : k = 0
 ·rw [if_pos e]; exact h0
 rw [if_neg e]; clear e
 by_cases e : k = 1
 ·rw [if_pos e]; exact h1
 rw [if_neg e]; clear e
 by_cases e : k = 2
 ·rw [if_pos e]; exact h2
 rw [if_neg e]; clear e
 by_cases e : k = 3
 ·rw [if_pos e]; exact h3
 rw [if_neg e]; clear e
 by_cases e : k = 4
 ·rw [if_pos e]; exact h4
 rw [if_neg e]; clear e
 by_cases e : k = 5
 ·rw [if_pos e]; exact h5
 rw [if_neg e]; clear e
 by_cases e : k = 6
 ·rw [if_pos e]; exact h6
 rw [if_neg e]; clear e
 by_cases e : k = 7
 ·rw [if_pos e]; exact h7
 rw [if_neg e]; clear e
 by_cases e : k = 8
 ·rw [if_pos e]; exact h8
 rw [if_neg e]; clear e
 by_cases e : k = 9
 ·rw [if_pos e]; exact h9
 rw [if_neg e]; clear e
 by_cases e : k = 10
 ·rw [if_pos e]; exact h10
 rw [if_neg e]; clear e
 by_cases e : k = 11
 ·rw [if_pos e]; exact h11
 rw [if_neg e]; clear e
 exact h12
theorem stepL_len (V : View) (x : StepD) : (stepL V x).1.tok.sup.length = 4 ∧ (stepL V x).1.amt.length = 4 :=
 stepN_rule V x (fun r => r.1.tok.sup.length = 4 ∧ r.1.amt.length = 4) ⟨rfl, rfl⟩ ⟨rfl, rfl⟩ ⟨rfl, rfl⟩ ⟨rfl, rfl⟩ ⟨rfl, rfl⟩ ⟨rfl, rfl⟩ ⟨rfl, rfl⟩ ⟨rfl, rfl⟩ ⟨(tokenL_ok V x.tok).len, rfl⟩ ⟨rfl, balL_len _ _ _⟩ ⟨rfl, allowedL_len _ _ _ _⟩ ⟨rfl, rfl⟩ ⟨rfl, rfl⟩ _
theorem stepL_hist (V : View) (x : StepD) : (stepL V x).2.hist.length ≤ V.hist.length + 1 :=
 stepN_rule V x (fun r => r.2.hist.length ≤ V.hist.length + 1) (by simp only [registerL_hist]; omega) (by simp only [pauseL_hist]; omega) (by simp only [resumeL_hist]; omega) (by simp only [mintL_hist]; omega) (by simp only [burnL_hist]; omega) (by simp only [moveL_hist]; omega) (by simp only [allowL_hist]; omega) (by simp only [pullL_hist]; omega)
  (Nat.le_succ _) (Nat.le_succ _) (Nat.le_succ _) (by simp only [List.length_append, List.length_singleton]; omega) (by
   show (backV V x.tok).hist.length ≤ _
   unfold backV
   split
   ·omega
   ·split
    ·show (List.take _ _).length ≤ _
     rw [List.length_take]; omega
    ·omega) _
end Go.Proofs.YtnbcbdlbejdkpaaGreatDoor
namespace Go.Proofs.YtnbcbdlbejdkpaaGreatDoor
open Go Go.Sl
theorem nvs_gd {l : List Nat} {i : Nat} (h : i < l.length) : (nvs l)[i]? = some (.int .i64 (l.getD i 0 : Nat)) := by
 rw [nvs_get h]
 simp [List.getD, h]
theorem gd_big {l : List Nat} {i : Nat} (h : ¬ (i : Int) < (l.length : Int)) : l.getD i 0 = 0 := by
 simp [List.getD, List.getElem?_eq_none (show l.length ≤ i by omega)]
theorem gd_bit {l : List Nat} (h : isBits l) (i : Nat) : l.getD i 0 < 2 := by
 rcases Nat.lt_or_ge i l.length with h1 | h1
 ·simp only [List.getD, List.getElem?_eq_getElem h1, Option.getD_some]
  exact h _ (List.getElem_mem h1)
 ·simp [List.getD, List.getElem?_eq_none h1]
theorem plus_spec (F : List HP) (va vb : Value) (a b : List Nat) (hA : RdS F va a.length (nvs a)) (hB : RdS F vb b.length (nvs b)) (ha : isBits a) (hb : isBits b) (hal : a.length ≤ 1099511627776) (hbl : b.length ≤ 1099511627776) :
  SpecF Tryz.prog 106 [va, vb] F [] (fun r L => ∃ ov out, isBits out ∧ val2 out = val2 a + val2 b ∧ out.length ≤ a.length + b.length + 1 ∧ (∀ M : List HP, RdS (own 1 ov out.length (nvs out) :: M) r (cutL out).length (nvs (cutL out))) ∧ L = [own 1 ov out.length (nvs out)]) := by
 obtain ⟨aa, ac, rfl⟩ := hA.len
 obtain ⟨ba, bc, rfl⟩ := hB.len
 refine fun106.spec rfl ?_
 conv=>whnf
 refine LoopG.mk (fun m ev L => ∃ (i c : Nat) (out : List Nat) (ov : Value), c < 2 ∧ i ≤ a.length + b.length + 1 ∧ m = a.length + b.length + 2 - i ∧ SlV ov out.length ∧ out.length = i ∧ isBits out ∧ val2 out + 2 ^ i * c = val2 (a.take i) + val2 (b.take i) ∧
   (a.length ≤ i → b.length ≤ i → i ≤ a.length + b.length ∨ c = 0) ∧
   ev = [(0, .slice aa a.length ac), (1, .slice ba b.length bc), (4, .slice none 0 0), (5, ov), (6, .int .i64 c), (7, .int .i64 i)] ∧ L = [own 1 ov out.length (nvs out)]) (a.length + b.length + 2)
  [(0, .slice aa a.length ac), (1, .slice ba b.length bc), (4, .slice none 0 0), (5, .slice none 0 0), (6, .int .i64 0), (7, .int .i64 0)] [own 1 (.slice none 0 0) 0 (nvs [])] ⟨rfl, rfl, rfl, rfl, rfl, rfl, trivial⟩ (fun w G hs => Sat.own_nil hs)
  ⟨0, 0, [], .slice none 0 0, by decide, by omega, rfl, .inl ⟨rfl, rfl⟩, rfl, fun x hx => absurd hx (List.not_mem_nil), by simp [val2], fun _ _ => .inr rfl, rfl, rfl⟩ ?_
 rintro m ev L ⟨i, c, out, ov, hc, hi, rfl, hov, hol, hob, hw, hx, rfl, rfl⟩
 conv=>whnf
 refine LenG.lit ?_
 conv=>whnf
 by_cases h1 : (i : Int) < (a.length : Int)
 ·by_cases h2 : (i : Int) < (b.length : Int)
  ·repeat((first|(with_reducible first|refine .tt ?_|refine .ff ?_)|refine .decT (by assumption) ?_|refine .decF (by assumption) ?_);conv=>whnf)
   obtain ⟨s, es⟩ : ∃ s : Nat, s = c + a.getD i 0 + b.getD i 0 := ⟨_, rfl⟩
   have xa := gd_bit ha i
   have xb := gd_bit hb i
   conv=>whnf
   refine LenG.lit ?_
   conv=>whnf
   refine .decT (by assumption) ?_;(conv=>whnf)
   refine IdxG.rd hA (by omega) fun cb o hcb => ?_
   conv=>whnf
   refine LoadG.atF (v := .int .i64 (a.getD i 0 : Nat)) (hcb.one (i := ((i : Nat) : Int).toNat * 1) (by rw [Int.toNat_natCast, Nat.mul_one]; exact nvs_gd (by omega))) ?_
   conv=>whnf
   refine ArithG.i64' ((c + a.getD i 0 : Nat) : Int) (by omega) (by omega) ?_
   conv=>whnf
   refine LenG.lit ?_
   conv=>whnf
   refine .decT (by assumption) ?_;(conv=>whnf)
   refine IdxG.rd hB (by omega) fun cb o hcb => ?_
   conv=>whnf
   refine LoadG.atF (v := .int .i64 (b.getD i 0 : Nat)) (hcb.one (i := ((i : Nat) : Int).toNat * 1) (by rw [Int.toNat_natCast, Nat.mul_one]; exact nvs_gd (by omega))) ?_
   conv=>whnf
   refine ArithG.i64' ((s : Nat) : Int) (by omega) (by omega) ?_
   conv=>whnf
   refine SideG.of (by decide) ?_
   conv=>whnf
   have er : (s : Int).tmod 2 = ((s % 2 : Nat) : Int) := by rw [Int.tmod_eq_emod_of_nonneg (by omega)]; omega
   rw [er]
   refine BuildG.of rfl ?_
   conv=>whnf
   intro b1
   conv=>whnf
   refine DoesG.ent (Ent.front 1 rfl) ?_
   refine app_own intsT 31 (m := 1) (ys := [.int .i64 ((s % 2 : Nat) : Int)]) (.mk _ _ _ _ _ (Nat.le_refl _) (.tl (.left .all _))) rfl (by simp [Value.oneCell']) (by simp only [maxLen]; omega) (by omega) fun ov2 hov2 hl2 _ => ?_
   conv=>whnf
   refine SideG.of (by decide) ?_
   have eq2 : (s : Int).tdiv 2 = ((s / 2 : Nat) : Int) := by rw [Int.tdiv_eq_ediv_of_nonneg (by omega)]; omega
   refine ArithG.i64' ((s / 2 : Nat) : Int) eq2 (by omega) ?_
   conv=>whnf
   refine ArithG.i64' ((i + 1 : Nat) : Int) (by omega) (by omega) ?_
   conv=>whnf
   have eL : own 1 ov2 (out.length + 1) (nvs out ++ [.int .i64 ((s % 2 : Nat) : Int)]) = own 1 ov2 (out ++ [s % 2]).length (nvs (out ++ [s % 2])) := by simp [nvs]
   rw [eL]
   refine ⟨a.length + b.length + 2 - (i + 1), [(0, .slice aa a.length ac), (1, .slice ba b.length bc), (4, .slice none 0 0), (5, ov2), (6, .int .i64 ((s / 2 : Nat) : Int)), (7, .int .i64 ((i + 1 : Nat) : Int))], _, by omega, ⟨rfl, rfl, rfl, rfl, rfl, rfl, trivial⟩, Ent.sel (T := []) (A := [_, _]) [0] rfl, i + 1, s / 2, out ++ [s % 2], ov2, by omega, by omega, rfl, ?_, ?_, isBits_snoc hob (by omega), ?_, fun _ _ => by omega, rfl, rfl⟩
   ·rw [List.length_append]; exact hov2
   ·rw [List.length_append, hol]; rfl
   ·rw [val2_snoc, hol, val2_getD a, val2_getD b]
    exact plus_step hw es
  ·repeat((first|(with_reducible first|refine .tt ?_|refine .ff ?_)|refine .decT (by assumption) ?_|refine .decF (by assumption) ?_);conv=>whnf)
   obtain ⟨s, es⟩ : ∃ s : Nat, s = c + a.getD i 0 + b.getD i 0 := ⟨_, rfl⟩
   have xa := gd_bit ha i
   have xb := gd_bit hb i
   conv=>whnf
   refine LenG.lit ?_
   conv=>whnf
   refine .decT (by assumption) ?_;(conv=>whnf)
   refine IdxG.rd hA (by omega) fun cb o hcb => ?_
   conv=>whnf
   refine LoadG.atF (v := .int .i64 (a.getD i 0 : Nat)) (hcb.one (i := ((i : Nat) : Int).toNat * 1) (by rw [Int.toNat_natCast, Nat.mul_one]; exact nvs_gd (by omega))) ?_
   conv=>whnf
   refine ArithG.i64' ((c + a.getD i 0 : Nat) : Int) (by omega) (by omega) ?_
   conv=>whnf
   refine LenG.lit ?_
   conv=>whnf
   refine .decF (by assumption) ?_;(conv=>whnf)
   have zb := gd_big h2
   have ec : ((c + a.getD i 0 : Nat) : Int) = (s : Int) := by omega
   rw [ec]
   refine SideG.of (by decide) ?_
   conv=>whnf
   have er : (s : Int).tmod 2 = ((s % 2 : Nat) : Int) := by rw [Int.tmod_eq_emod_of_nonneg (by omega)]; omega
   rw [er]
   refine BuildG.of rfl ?_
   conv=>whnf
   intro b1
   conv=>whnf
   refine DoesG.ent (Ent.front 1 rfl) ?_
   refine app_own intsT 31 (m := 1) (ys := [.int .i64 ((s % 2 : Nat) : Int)]) (.mk _ _ _ _ _ (Nat.le_refl _) (.tl (.left .all _))) rfl (by simp [Value.oneCell']) (by simp only [maxLen]; omega) (by omega) fun ov2 hov2 hl2 _ => ?_
   conv=>whnf
   refine SideG.of (by decide) ?_
   have eq2 : (s : Int).tdiv 2 = ((s / 2 : Nat) : Int) := by rw [Int.tdiv_eq_ediv_of_nonneg (by omega)]; omega
   refine ArithG.i64' ((s / 2 : Nat) : Int) eq2 (by omega) ?_
   conv=>whnf
   refine ArithG.i64' ((i + 1 : Nat) : Int) (by omega) (by omega) ?_
   conv=>whnf
   have eL : own 1 ov2 (out.length + 1) (nvs out ++ [.int .i64 ((s % 2 : Nat) : Int)]) = own 1 ov2 (out ++ [s % 2]).length (nvs (out ++ [s % 2])) := by simp [nvs]
   rw [eL]
   refine ⟨a.length + b.length + 2 - (i + 1), [(0, .slice aa a.length ac), (1, .slice ba b.length bc), (4, .slice none 0 0), (5, ov2), (6, .int .i64 ((s / 2 : Nat) : Int)), (7, .int .i64 ((i + 1 : Nat) : Int))], _, by omega, ⟨rfl, rfl, rfl, rfl, rfl, rfl, trivial⟩, Ent.sel (T := []) (A := [_, _]) [0] rfl, i + 1, s / 2, out ++ [s % 2], ov2, by omega, by omega, rfl, ?_, ?_, isBits_snoc hob (by omega), ?_, fun _ _ => by omega, rfl, rfl⟩
   ·rw [List.length_append]; exact hov2
   ·rw [List.length_append, hol]; rfl
   ·rw [val2_snoc, hol, val2_getD a, val2_getD b]
    exact plus_step hw es
 ·repeat((first|(with_reducible first|refine .tt ?_|refine .ff ?_)|refine .decT (by assumption) ?_|refine .decF (by assumption) ?_);conv=>whnf)
  refine LenG.lit ?_
  (conv=>whnf);refine .ff ?_;(conv=>whnf);refine .ff ?_;(conv=>whnf)
  by_cases h2 : (i : Int) < (b.length : Int)
  ·repeat((first|(with_reducible first|refine .tt ?_|refine .ff ?_)|refine .decT (by assumption) ?_|refine .decF (by assumption) ?_);conv=>whnf)
   obtain ⟨s, es⟩ : ∃ s : Nat, s = c + a.getD i 0 + b.getD i 0 := ⟨_, rfl⟩
   have xa := gd_bit ha i
   have xb := gd_bit hb i
   conv=>whnf
   refine LenG.lit ?_
   conv=>whnf
   refine .decF (by assumption) ?_;(conv=>whnf)
   have za := gd_big h1
   have ec1 : (c : Int) = ((c + a.getD i 0 : Nat) : Int) := by omega
   rw [ec1]
   refine LenG.lit ?_
   conv=>whnf
   refine .decT (by assumption) ?_;(conv=>whnf)
   refine IdxG.rd hB (by omega) fun cb o hcb => ?_
   conv=>whnf
   refine LoadG.atF (v := .int .i64 (b.getD i 0 : Nat)) (hcb.one (i := ((i : Nat) : Int).toNat * 1) (by rw [Int.toNat_natCast, Nat.mul_one]; exact nvs_gd (by omega))) ?_
   conv=>whnf
   refine ArithG.i64' ((s : Nat) : Int) (by omega) (by omega) ?_
   conv=>whnf
   refine SideG.of (by decide) ?_
   conv=>whnf
   have er : (s : Int).tmod 2 = ((s % 2 : Nat) : Int) := by rw [Int.tmod_eq_emod_of_nonneg (by omega)]; omega
   rw [er]
   refine BuildG.of rfl ?_
   conv=>whnf
   intro b1
   conv=>whnf
   refine DoesG.ent (Ent.front 1 rfl) ?_
   refine app_own intsT 31 (m := 1) (ys := [.int .i64 ((s % 2 : Nat) : Int)]) (.mk _ _ _ _ _ (Nat.le_refl _) (.tl (.left .all _))) rfl (by simp [Value.oneCell']) (by simp only [maxLen]; omega) (by omega) fun ov2 hov2 hl2 _ => ?_
   conv=>whnf
   refine SideG.of (by decide) ?_
   have eq2 : (s : Int).tdiv 2 = ((s / 2 : Nat) : Int) := by rw [Int.tdiv_eq_ediv_of_nonneg (by omega)]; omega
   refine ArithG.i64' ((s / 2 : Nat) : Int) eq2 (by omega) ?_
   conv=>whnf
   refine ArithG.i64' ((i + 1 : Nat) : Int) (by omega) (by omega) ?_
   conv=>whnf
   have eL : own 1 ov2 (out.length + 1) (nvs out ++ [.int .i64 ((s % 2 : Nat) : Int)]) = own 1 ov2 (out ++ [s % 2]).length (nvs (out ++ [s % 2])) := by simp [nvs]
   rw [eL]
   refine ⟨a.length + b.length + 2 - (i + 1), [(0, .slice aa a.length ac), (1, .slice ba b.length bc), (4, .slice none 0 0), (5, ov2), (6, .int .i64 ((s / 2 : Nat) : Int)), (7, .int .i64 ((i + 1 : Nat) : Int))], _, by omega, ⟨rfl, rfl, rfl, rfl, rfl, rfl, trivial⟩, Ent.sel (T := []) (A := [_, _]) [0] rfl, i + 1, s / 2, out ++ [s % 2], ov2, by omega, by omega, rfl, ?_, ?_, isBits_snoc hob (by omega), ?_, fun _ _ => by omega, rfl, rfl⟩
   ·rw [List.length_append]; exact hov2
   ·rw [List.length_append, hol]; rfl
   ·rw [val2_snoc, hol, val2_getD a, val2_getD b]
    exact plus_step hw es
  ·repeat((first|(with_reducible first|refine .tt ?_|refine .ff ?_)|refine .decT (by assumption) ?_|refine .decF (by assumption) ?_);conv=>whnf)
   by_cases h3 : (0 : Int) < (c : Int)
   ·refine .decT (by assumption) ?_;(conv=>whnf)
    obtain ⟨s, es⟩ : ∃ s : Nat, s = c + a.getD i 0 + b.getD i 0 := ⟨_, rfl⟩
    have xa := gd_bit ha i
    have xb := gd_bit hb i
    conv=>whnf
    refine LenG.lit ?_
    conv=>whnf
    refine .decF (by assumption) ?_;(conv=>whnf)
    have za := gd_big h1
    have ec1 : (c : Int) = ((c + a.getD i 0 : Nat) : Int) := by omega
    rw [ec1]
    refine LenG.lit ?_
    conv=>whnf
    refine .decF (by assumption) ?_;(conv=>whnf)
    have zb := gd_big h2
    have ec : ((c + a.getD i 0 : Nat) : Int) = (s : Int) := by omega
    rw [ec]
    refine SideG.of (by decide) ?_
    conv=>whnf
    have er : (s : Int).tmod 2 = ((s % 2 : Nat) : Int) := by rw [Int.tmod_eq_emod_of_nonneg (by omega)]; omega
    rw [er]
    refine BuildG.of rfl ?_
    conv=>whnf
    intro b1
    conv=>whnf
    refine DoesG.ent (Ent.front 1 rfl) ?_
    refine app_own intsT 31 (m := 1) (ys := [.int .i64 ((s % 2 : Nat) : Int)]) (.mk _ _ _ _ _ (Nat.le_refl _) (.tl (.left .all _))) rfl (by simp [Value.oneCell']) (by simp only [maxLen]; omega) (by omega) fun ov2 hov2 hl2 _ => ?_
    conv=>whnf
    refine SideG.of (by decide) ?_
    have eq2 : (s : Int).tdiv 2 = ((s / 2 : Nat) : Int) := by rw [Int.tdiv_eq_ediv_of_nonneg (by omega)]; omega
    refine ArithG.i64' ((s / 2 : Nat) : Int) eq2 (by omega) ?_
    conv=>whnf
    refine ArithG.i64' ((i + 1 : Nat) : Int) (by omega) (by omega) ?_
    conv=>whnf
    have eL : own 1 ov2 (out.length + 1) (nvs out ++ [.int .i64 ((s % 2 : Nat) : Int)]) = own 1 ov2 (out ++ [s % 2]).length (nvs (out ++ [s % 2])) := by simp [nvs]
    rw [eL]
    refine ⟨a.length + b.length + 2 - (i + 1), [(0, .slice aa a.length ac), (1, .slice ba b.length bc), (4, .slice none 0 0), (5, ov2), (6, .int .i64 ((s / 2 : Nat) : Int)), (7, .int .i64 ((i + 1 : Nat) : Int))], _, by omega, ⟨rfl, rfl, rfl, rfl, rfl, rfl, trivial⟩, Ent.sel (T := []) (A := [_, _]) [0] rfl, i + 1, s / 2, out ++ [s % 2], ov2, by omega, by omega, rfl, ?_, ?_, isBits_snoc hob (by omega), ?_, fun _ _ => by omega, rfl, rfl⟩
    ·rw [List.length_append]; exact hov2
    ·rw [List.length_append, hol]; rfl
    ·rw [val2_snoc, hol, val2_getD a, val2_getD b]
     exact plus_step hw es
   ·refine .decF (by assumption) ?_;(conv=>whnf)
    have hv0 : val2 out = val2 a + val2 b := by
     rw [List.take_of_length_le (show a.length ≤ i by omega), List.take_of_length_le (show b.length ≤ i by omega), show c = 0 by omega, Nat.mul_zero, Nat.add_zero] at hw
     exact hw
    refine CallG.pure (rcut_any _ ov out (by omega) (own_rd hov (by rw [nvs_len, Nat.mul_one]))) ?_
    rintro r _ ⟨hr, rfl⟩
    conv=>whnf
    exact ret_here ⟨ov, out, hob, hv0, by omega, fun M => hr _ (own_rd hov (by rw [nvs_len, Nat.mul_one])), rfl⟩
theorem u64_or {x y : Nat} (hx : x < 18446744073709551616) (hy : y < 18446744073709551616) : IntKind.u64.wrap ((BitVec.ofInt IntKind.u64.bits (x : Int) ||| BitVec.ofInt IntKind.u64.bits (y : Int)).toNat : Int) = ((x ||| y : Nat) : Int) := by
 have e : (BitVec.ofInt IntKind.u64.bits (x : Int) ||| BitVec.ofInt IntKind.u64.bits (y : Int)).toNat = x ||| y := by
  show (BitVec.ofInt 64 (x : Int) ||| BitVec.ofInt 64 (y : Int)).toNat = _
  rw [BitVec.ofInt_natCast, BitVec.ofInt_natCast, BitVec.toNat_or, BitVec.toNat_ofNat, BitVec.toNat_ofNat, Nat.mod_eq_of_lt hx, Nat.mod_eq_of_lt hy]
 rw [e]
 exact u_wrap (k := .u64) rfl (by omega) (by have := Nat.or_lt_two_pow (n := 64) hx hy; show ((x ||| y : Nat) : Int) < 2 ^ 64; omega)
def numN (n : Nat) : List Nat := if n < 2 ^ 256 then w4 n else z4
theorem number_spec (F : List HP) (v : Value) (l : List Nat) (hl : l.length ≤ 4611686018427387904) (hv : RdS F v l.length (nvs l)) (hb : isBits l) :
  SpecF Tryz.prog 137 [v] F [] (fun r L => r = .tuple #[.agg ⟨uvs (numN (val2 l))⟩, .bool (decide (val2 l < 2 ^ 256))] ∧ L = []) := by
 refine fun137.spec rfl ?_
 conv=>whnf
 intro b2
 conv=>whnf
 refine CallG.pure (rcut_spec _ v l hl (hv.right [_])) ?_
 rintro r _ ⟨hr, rfl⟩
 conv=>whnf
 intro b4
 conv=>whnf
 refine LenG.rd hr ?_
 conv=>whnf
 refine CondG.dec (fun h => ?_) (fun h => ?_)
 ·have hbig : ¬ val2 l < 2 ^ 256 := fun hlt => by
   have := cut_short hlt
   omega
  conv=>whnf
  refine LoadNG.at (vs := uvs z4) rfl .all ?_
  conv=>whnf
  refine StoreG.at rfl (Upd.tl (Upd.whole rfl (uvs_one z4))) ?_
  conv=>whnf
  refine LoadNG.at (vs := uvs z4) rfl (.tl .all) ?_
  conv=>whnf
  refine ⟨[], Ent.nil _, ?_, rfl⟩
  rw [numN, if_neg hbig, decide_eq_false hbig]
  rfl
 have hlt : val2 l < 2 ^ 256 := by
  have h1 := val2_lt (cutL_bits hb)
  rw [cutL_val] at h1
  exact Nat.lt_of_lt_of_le h1 (Nat.pow_le_pow_right (by decide) (by omega))
 have hcb := cutL_bits hb
 obtain ⟨k, hk⟩ : ∃ k, k = cutL l := ⟨_, rfl⟩
 rw [← hk] at hr h hcb
 have hkv : val2 k = val2 l := by rw [hk, cutL_val]
 conv=>whnf
 refine LoopG.mk (fun m e L => ∃ i, i ≤ k.length ∧ m = k.length - i ∧ e = [(0, r), (2, .pointer (some ⟨b2, 0, none⟩)), (4, .pointer (some ⟨b4, 0, none⟩)), (5, .int .i64 i)] ∧ L = [cel b4 38 (uvs (w4 (val2 (k.take i)))), cel b2 38 (uvs z4)]) k.length
  [(0, r), (2, .pointer (some ⟨b2, 0, none⟩)), (4, .pointer (some ⟨b4, 0, none⟩)), (5, .int .i64 0)] _ ⟨rfl, rfl, rfl, rfl, trivial⟩ (Ent.refl _) ⟨0, by omega, rfl, rfl, by rw [List.take_zero, show val2 [] = 0 from rfl, w4z]; rfl⟩ ?_
 rintro m e L ⟨i, hi, rfl, rfl, rfl⟩
 conv=>whnf
 refine LenG.rd hr ?_
 conv=>whnf
 refine CondG.dec (fun h1 => ?_) (fun h1 => ?_)
 ·have hik : i < k.length := by omega
  have hki : k.getD i 0 < 2 := gd_bit hcb i
  have hN : val2 (k.take i) < 2 ^ i := by
   have := val2_lt (l := k.take i) (fun x hx => hcb x (List.mem_of_mem_take hx))
   rw [List.length_take, Nat.min_eq_left (by omega)] at this
   exact this
  obtain ⟨hx, hstep⟩ := w4_bit (b := k.getD i 0) hN (by omega) hki
  rw [← val2_getD] at hstep
  have hr64 : i % 64 < 64 := Nat.mod_lt _ (by decide)
  have hA : 2 ^ (i % 64) ≤ 9223372036854775808 := by
   have : 2 ^ (i % 64) ≤ 2 ^ 63 := Nat.pow_le_pow_right (by decide) (by omega)
   omega
  have hq : (i : Int).tdiv 64 = ((i / 64 : Nat) : Int) := by rw [Int.tdiv_eq_ediv_of_nonneg (by omega)]; omega
  have hm : (i : Int).tmod 64 = ((i % 64 : Nat) : Int) := by rw [Int.tmod_eq_emod_of_nonneg (by omega)]; omega
  conv=>whnf
  refine DrawG.mk 15 [cel b4 38 (uvs (w4 (val2 (k.take i)))), cel b2 38 (uvs z4)] [] (Ent.refl _) ?_
  conv=>whnf
  refine .take 0 ?_
  conv=>whnf
  refine ⟨rfl, ?_⟩
  conv=>whnf
  refine .take 1 ?_
  conv=>whnf
  refine ⟨rfl, ?_⟩
  conv=>whnf
  refine SideG.of (by decide) ?_
  refine ArithG.i64' ((i / 64 : Nat) : Int) hq (by omega) ?_
  conv=>whnf
  refine .take 2 ?_
  conv=>whnf
  refine ⟨rfl, ?_⟩
  conv=>whnf
  refine .take 3 ?_
  conv=>whnf
  refine ⟨rfl, ?_⟩
  conv=>whnf
  refine SideG.of (by decide) ?_
  refine ArithG.i64' ((i / 64 : Nat) : Int) hq (by omega) ?_
  conv=>whnf
  refine .take 4 ?_
  conv=>whnf
  refine ⟨rfl, ?_⟩
  conv=>whnf
  refine SideG.of (by omega) ?_
  conv=>whnf
  refine .take 5 ?_
  conv=>whnf
  refine ⟨rfl, ?_⟩
  conv=>whnf
  refine LoadG.at (v := .int .u64 ((w4 (val2 (k.take i))).getD (i / 64) 0)) (.here (by rw [show 0 + ((i / 64 : Nat) : Int).toNat * 1 = i / 64 by omega]; exact uvs_at (by rw [w4_len]; omega))) ?_
  conv=>whnf
  refine .take 6 ?_
  conv=>whnf
  refine ⟨rfl, ?_⟩
  conv=>whnf
  refine .take 7 ?_
  conv=>whnf
  refine ⟨rfl, ?_⟩
  conv=>whnf
  refine .take 8 ?_
  conv=>whnf
  refine ⟨rfl, ?_⟩
  conv=>whnf
  refine IdxG.rd hr (by omega) fun cb o hcc => ?_
  conv=>whnf
  refine .take 9 ?_
  conv=>whnf
  refine ⟨rfl, ?_⟩
  conv=>whnf
  refine LoadG.atG (v := .int .i64 (k.getD i 0 : Nat)) ((hcc.one (i := ((i : Nat) : Int).toNat * 1) (by rw [Int.toNat_natCast, Nat.mul_one]; exact nvs_gd (by omega))).tl) ?_
  conv=>whnf
  refine .take 10 ?_
  conv=>whnf
  refine ⟨rfl, ?_⟩
  conv=>whnf
  refine ArithG.u64 (by omega) ?_
  conv=>whnf
  refine .take 11 ?_
  conv=>whnf
  refine ⟨rfl, ?_⟩
  conv=>whnf
  refine .take 12 ?_
  conv=>whnf
  refine ⟨rfl, ?_⟩
  conv=>whnf
  refine SideG.of (by decide) ?_
  conv=>whnf
  rw [hm]
  refine .take 13 ?_
  conv=>whnf
  refine ⟨rfl, ?_⟩
  conv=>whnf
  refine SideG.of (by omega) ?_
  have hbA : k.getD i 0 * 2 ^ (i % 64) ≤ 9223372036854775808 := by
   rcases (show k.getD i 0 = 0 ∨ k.getD i 0 = 1 by omega) with e | e <;> rw [e]
   ·omega
   ·omega
  have es : ((k.getD i 0 : Nat) : Int) * 2 ^ (min (((i % 64 : Nat) : Int)).toNat IntKind.u64.bits) = ((k.getD i 0 * 2 ^ (i % 64) : Nat) : Int) := by
   have e : min (((i % 64 : Nat) : Int)).toNat IntKind.u64.bits = i % 64 := by
    rw [Int.toNat_natCast]
    exact Nat.min_eq_left (by show _ ≤ 64; omega)
   rw [e]
   simp
  rw [es]
  refine ArithG.u64 (by omega) ?_
  conv=>whnf
  refine .take 14 ?_
  conv=>whnf
  refine ⟨rfl, ?_⟩
  conv=>whnf
  rw [u64_or (by omega) (by omega), or_add hx]
  conv=>whnf
  refine .all ?_
  conv=>whnf
  refine ⟨by decide, ?_⟩
  conv=>whnf
  refine ⟨rfl, ?_⟩
  conv=>whnf
  refine SideG.of (by omega) ?_
  conv=>whnf
  refine .all ?_
  conv=>whnf
  refine ⟨by decide, ?_⟩
  conv=>whnf
  have eu : (uvs (w4 (val2 (k.take i)))).set (0 + ((i / 64 : Nat) : Int).toNat * 1) (.int .u64 ((w4 (val2 (k.take i))).getD (i / 64) 0 + k.getD i 0 * 2 ^ (i % 64) : Nat)) = uvs (w4 (val2 (k.take (i + 1)))) := by
   rw [hstep, show 0 + ((i / 64 : Nat) : Int).toNat * 1 = i / 64 by omega]
   exact List.map_set.symm
  refine StoreG.at (cs := [_]) rfl (Upd.here (by rw [uvs_len, w4_len]; omega) rfl) ?_
  rw [eu]
  conv=>whnf
  refine ⟨rfl, ?_⟩
  conv=>whnf
  refine ArithG.i64' ((i + 1 : Nat) : Int) (by omega) (by omega) ?_
  conv=>whnf
  exact ⟨k.length - (i + 1), [(0, r), (2, .pointer (some ⟨b2, 0, none⟩)), (4, .pointer (some ⟨b4, 0, none⟩)), (5, .int .i64 ((i + 1 : Nat) : Int))], _, by omega, ⟨rfl, rfl, rfl, rfl, trivial⟩, Ent.refl _, i + 1, by omega, rfl, rfl, rfl⟩
 ·have hik : i = k.length := by omega
  rw [hik, List.take_length, hkv]
  conv=>whnf
  refine LoadNG.at (vs := uvs (w4 (val2 l))) rfl .all ?_
  conv=>whnf
  refine StoreG.at rfl (Upd.tl (Upd.whole rfl (uvs_one (w4 (val2 l))))) ?_
  conv=>whnf
  refine LoadNG.at (vs := uvs (w4 (val2 l))) rfl (.tl .all) ?_
  conv=>whnf
  refine ⟨[], Ent.nil _, ?_, rfl⟩
  rw [numN, if_pos hlt, decide_eq_true hlt]
  rfl
def ansE (n : Nat) : Int := if n < 2 ^ 256 then 0 else 22
theorem answered_spec (F : List HP) (v : Value) (l : List Nat) (hl : l.length ≤ 4611686018427387904) (hv : RdS F v l.length (nvs l)) (hb : isBits l) :
  SpecF Tryz.prog 105 [v] F [] (fun r L => r = .tuple #[.agg ⟨uvs (numN (val2 l))⟩, .int .i64 (ansE (val2 l))] ∧ L = []) := by
 refine fun105.spec rfl ?_
 conv=>whnf
 intro b2
 conv=>whnf
 refine CallG.pure (number_spec _ v l hl (hv.right [_]) hb) ?_
 rintro _ _ ⟨rfl, rfl⟩
 conv=>whnf
 intro b4
 conv=>whnf
 have h4 : (uvs (numN (val2 l))).length = 4 := by
  rw [uvs_len, numN]
  split <;> rfl
 refine StoreG.at h4 (Upd.whole h4 (uvs_one _)) ?_
 conv=>whnf
 refine CondG.ndec (fun h => ?_) (fun h => ?_)
 ·have hz : numN (val2 l) = z4 := by rw [numN, if_neg h]
  conv=>whnf
  refine BuildG.of (cs := uvs z4) rfl ?_
  conv=>whnf
  refine StoreG.at rfl (Upd.tl (Upd.whole rfl (uvs_one z4))) ?_
  conv=>whnf
  refine LoadNG.at (vs := uvs z4) rfl (.tl .all) ?_
  conv=>whnf
  refine ⟨[], Ent.nil _, ?_, rfl⟩
  rw [ansE, if_neg h, hz]
  rfl
 ·conv=>whnf
  refine LoadNG.at (vs := uvs (numN (val2 l))) h4 .all ?_
  conv=>whnf
  refine StoreG.at h4 (Upd.tl (Upd.whole h4 (uvs_one _))) ?_
  conv=>whnf
  refine LoadNG.at (vs := uvs (numN (val2 l))) h4 (.tl .all) ?_
  conv=>whnf
  refine ⟨[], Ent.nil _, ?_, rfl⟩
  rw [ansE, if_pos h]
  rfl
def sum4 (l : List (List Nat)) : Nat := (l.map nat4).sum
end Go.Proofs.YtnbcbdlbejdkpaaGreatDoor
namespace Go.Proofs.YtnbcbdlbejdkpaaGreatDoor
open Go Go.Sl
theorem intsN : ElT Tryz.prog 31 3 1 8 := .of (by kernel_rfl)
theorem addrsT : ElT Tryz.prog 29 35 20 20 := .of (by kernel_rfl)
def who3 (x : StepD) : List (List Nat) := [x.a, x.b, x.c]
theorem who3_adr {x : StepD} (h : x.wf) : ∀ a ∈ who3 x, adr a := by
 intro a ha
 simp only [who3, List.mem_cons, List.not_mem_nil, or_false] at ha
 rcases ha with rfl | rfl | rfl
 ·exact h.a
 ·exact h.b
 ·exact h.c
theorem fill3 {a b c : List Value} (ha : a.length = 20) (hb : b.length = 20) (hc : c.length = 20) :
  fillL (List.replicate 60 (Value.int .u8 0)) [(0, 20, .agg ⟨a⟩), (20, 20, .agg ⟨b⟩), (40, 20, .agg ⟨c⟩)] = some (a ++ (b ++ c)) := by
 have hz : (List.replicate 20 (Value.int .u8 0)).length = 20 := rfl
 have e0 : List.replicate 60 (Value.int .u8 0) = [] ++ (List.replicate 20 (Value.int .u8 0) ++ (List.replicate 20 (Value.int .u8 0) ++ List.replicate 20 (Value.int .u8 0))) := rfl
 rw [e0]
 generalize List.replicate 20 (Value.int .u8 0) = z at *
 have e1 := fill_part (a := []) (m := z) (m' := a) (c := z ++ z) (v := .agg ⟨a⟩) (ps := [(20, 20, .agg ⟨b⟩), (40, 20, .agg ⟨c⟩)]) (off := 0) (n := 20) rfl hz rfl ha
 have e2 := fill_part (a := a) (m := z) (m' := b) (c := z) (v := .agg ⟨b⟩) (ps := [(40, 20, .agg ⟨c⟩)]) (off := 20) (n := 20) ha hz rfl hb
 have e3 := fill_part (a := a ++ b) (m := z) (m' := c) (c := []) (v := .agg ⟨c⟩) (ps := []) (off := 40) (n := 20) (by rw [List.length_append, ha, hb]) hz rfl hc
 rw [List.append_nil, List.append_nil, List.append_assoc, List.append_assoc] at e3
 exact e1.trans (e2.trans (e3.trans rfl))
theorem fill_one {z m : List Value} {n : Nat} (hm : m.length = n) (hz : z.length = n) : fillL z [(0, n, .agg ⟨m⟩)] = some m := by
 have e1 := fill_part (a := []) (m := z) (m' := m) (c := []) (v := .agg ⟨m⟩) (ps := []) (off := 0) (n := n) rfl hz rfl hm
 rw [List.append_nil, List.append_nil, List.nil_append, List.nil_append] at e1
 exact e1.trans rfl
theorem people_spec (F : List HP) (lv : Value) (xs : List StepD) (hx : ∀ x ∈ xs, x.wf) (hl : xs.length ≤ 1256584717458) (hr : RdS F lv xs.length (xs.flatMap StepD.cells)) :
  SpecF Tryz.prog 10 [lv] F [] (fun r L => ∃ W : List (List Nat), SlV r W.length ∧ W.Nodup ∧ (∀ x ∈ xs, ∀ a ∈ who3 x, a ∈ W) ∧ (∀ a ∈ W, adr a) ∧ W.length ≤ 3 * xs.length ∧ L = [own 20 r W.length (W.flatMap bvs)]) := by
 refine fun10.spec rfl ?_
 conv=>whnf
 refine LoopG.mk (fun mm e L => ∃ (i : Nat) (W : List (List Nat)) (ov : Value), i ≤ xs.length ∧ mm = xs.length - i ∧ SlV ov W.length ∧ W.Nodup ∧ (∀ x ∈ xs.take i, ∀ a ∈ who3 x, a ∈ W) ∧ (∀ a ∈ W, adr a) ∧ W.length ≤ 3 * i ∧ e = [(0, lv), (2, .slice none 0 0), (3, ov), (4, .int .i64 i)] ∧ L = [own 20 ov W.length (W.flatMap bvs)]) xs.length
  [(0, lv), (2, .slice none 0 0), (3, .slice none 0 0), (4, .int .i64 0)] [own 20 (.slice none 0 0) 0 []] ⟨rfl, rfl, rfl, rfl, trivial⟩ (fun w G hs => Sat.own_nil hs) ⟨0, [], .slice none 0 0, by omega, rfl, .inl ⟨rfl, rfl⟩, .nil, by simp, by simp, by simp, rfl, rfl⟩ ?_
 rintro mm e L ⟨i, W, ov, hi, rfl, hov, hnd, hall, hadr, hlen, rfl, rfl⟩
 conv=>whnf
 refine LenG.rd hr ?_
 conv=>whnf
 refine CondG.dec (fun h1 => ?_) (fun h1 => ?_)
 ·have hil : i < xs.length := by omega
  obtain ⟨x, hxi⟩ : ∃ x, x = xs[i] := ⟨_, rfl⟩
  have hxw : x.wf := by rw [hxi]; exact hx _ (List.getElem_mem hil)
  have h66 : x.cells.length = 66 := StepD.cells_len hxw
  have ha20 : (bvs x.a).length = 20 := by rw [bvs_len, hxw.a.1]
  have hb20 : (bvs x.b).length = 20 := by rw [bvs_len, hxw.b.1]
  have hc20 : (bvs x.c).length = 20 := by rw [bvs_len, hxw.c.1]
  conv=>whnf
  refine DrawG.mk 17 [] [own 20 ov W.length (W.flatMap bvs)] (Ent.refl _) ?_
  conv=>whnf
  refine .take 0 ?_
  conv=>whnf
  refine ⟨rfl, ?_⟩
  conv=>whnf
  refine .take 1 ?_
  conv=>whnf
  refine ⟨rfl, ?_⟩
  conv=>whnf
  refine .take 2 ?_
  conv=>whnf
  refine ⟨rfl, ?_⟩
  conv=>whnf
  refine IdxG.rd hr (by omega) fun cb o hcc => ?_
  have hxc : CelN F cb (o + ((i : Nat) : Int).toNat * 66) x.cells := hcc.part (by rw [h66, Int.toNat_natCast, hxi]; exact flat_get (fun y h => StepD.cells_len (hx y h)) hil)
  clear hcc
  conv=>whnf
  refine .take 3 ?_
  conv=>whnf
  refine ⟨rfl, ?_⟩
  conv=>whnf
  refine .take 4 ?_
  conv=>whnf
  refine ⟨rfl, ?_⟩
  conv=>whnf
  refine LoadNG.atF (vs := bvs x.a) ha20 (hxc.part (by simp [StepD.cells, bvs_len, hxw.a.1, hxw.b.1, hxw.c.1, List.drop_append, List.take_append])) ?_
  clear hxc
  conv=>whnf
  refine .take 5 ?_
  conv=>whnf
  refine ⟨rfl, ?_⟩
  conv=>whnf
  refine .take 6 ?_
  conv=>whnf
  refine ⟨rfl, ?_⟩
  conv=>whnf
  refine .take 7 ?_
  conv=>whnf
  refine ⟨rfl, ?_⟩
  conv=>whnf
  refine IdxG.rd hr (by omega) fun cb o hcc => ?_
  have hxc : CelN F cb (o + ((i : Nat) : Int).toNat * 66) x.cells := hcc.part (by rw [h66, Int.toNat_natCast, hxi]; exact flat_get (fun y h => StepD.cells_len (hx y h)) hil)
  clear hcc
  conv=>whnf
  refine .take 8 ?_
  conv=>whnf
  refine ⟨rfl, ?_⟩
  conv=>whnf
  refine .take 9 ?_
  conv=>whnf
  refine ⟨rfl, ?_⟩
  conv=>whnf
  refine LoadNG.atF (vs := bvs x.b) hb20 (hxc.part (by simp [StepD.cells, bvs_len, hxw.a.1, hxw.b.1, hxw.c.1, List.drop_append, List.take_append])) ?_
  clear hxc
  conv=>whnf
  refine .take 10 ?_
  conv=>whnf
  refine ⟨rfl, ?_⟩
  conv=>whnf
  refine .take 11 ?_
  conv=>whnf
  refine ⟨rfl, ?_⟩
  conv=>whnf
  refine .take 12 ?_
  conv=>whnf
  refine ⟨rfl, ?_⟩
  conv=>whnf
  refine IdxG.rd hr (by omega) fun cb o hcc => ?_
  have hxc : CelN F cb (o + ((i : Nat) : Int).toNat * 66) x.cells := hcc.part (by rw [h66, Int.toNat_natCast, hxi]; exact flat_get (fun y h => StepD.cells_len (hx y h)) hil)
  clear hcc
  conv=>whnf
  refine .take 13 ?_
  conv=>whnf
  refine ⟨rfl, ?_⟩
  conv=>whnf
  refine .take 14 ?_
  conv=>whnf
  refine ⟨rfl, ?_⟩
  conv=>whnf
  refine LoadNG.atF (vs := bvs x.c) hc20 (hxc.part (by simp [StepD.cells, bvs_len, hxw.a.1, hxw.b.1, hxw.c.1, List.drop_append, List.take_append])) ?_
  clear hxc
  conv=>whnf
  refine .all ?_
  conv=>whnf
  refine ⟨by decide, ?_⟩
  conv=>whnf
  refine BuildG.of (fill3 ha20 hb20 hc20) ?_
  conv=>whnf
  intro b5
  conv=>whnf
  refine .all ?_
  conv=>whnf
  refine ⟨by decide, ?_⟩
  conv=>whnf
  refine ⟨rfl, ?_⟩
  have h3 : bvs x.a ++ (bvs x.b ++ bvs x.c) = (who3 x).flatMap bvs := by simp [who3]
  rw [h3]
  have hA : ∀ a ∈ who3 x, adr a := who3_adr hxw
  have hA3 : (who3 x).length = 3 := rfl
  obtain ⟨A, heA⟩ : ∃ A, A = who3 x := ⟨_, rfl⟩
  rw [← heA] at hA hA3 ⊢
  conv=>whnf
  refine LoopG.mk (fun mm e L => ∃ (k : Nat) (W : List (List Nat)) (ov : Value), k ≤ 3 ∧ mm = 3 - k ∧ SlV ov W.length ∧ W.Nodup ∧ (∀ x ∈ xs.take i, ∀ a ∈ who3 x, a ∈ W) ∧ (∀ a ∈ A.take k, a ∈ W) ∧ (∀ a ∈ W, adr a) ∧ W.length ≤ 3 * i + k ∧
    e = [(0, lv), (2, .slice none 0 0), (3, ov), (4, .int .i64 i), (5, .slice (some ⟨b5, 0, none⟩) 3 3), (6, .int .i64 k)] ∧ L = [own 20 ov W.length (W.flatMap bvs), cel b5 35 (A.flatMap bvs)]) 3
   [(0, lv), (2, .slice none 0 0), (3, ov), (4, .int .i64 i), (5, .slice (some ⟨b5, 0, none⟩) 3 3), (6, .int .i64 0)] [own 20 ov W.length (W.flatMap bvs), cel b5 35 (A.flatMap bvs)] ⟨rfl, rfl, rfl, rfl, rfl, rfl, trivial⟩ (Ent.front 1 rfl) ⟨0, W, ov, by omega, rfl, hov, hnd, hall, by simp, hadr, hlen, rfl, rfl⟩ ?_
  clear hov hnd hall hadr hlen ov W
  rintro mm e L ⟨k, W, ov, hk, rfl, hov, hnd, hall, hAk, hadr, hlen, rfl, rfl⟩
  conv=>whnf
  refine CondG.dec (fun h2 => ?_) (fun h2 => ?_)
  ·have hk3 : k < A.length := by omega
   obtain ⟨y, hy⟩ : ∃ y, y = A[k] := ⟨_, rfl⟩
   have hya : adr y := by rw [hy]; exact hA _ (List.getElem_mem hk3)
   have hy20 : (bvs y).length = 20 := by rw [bvs_len, hya.1]
   have hW20 : ∀ a ∈ W, (bvs a).length = 20 := fun a h => by rw [bvs_len, (hadr a h).1]
   have hA20 : ∀ a ∈ A, (bvs a).length = 20 := fun a h => by rw [bvs_len, (hA a h).1]
   have hWl : (W.flatMap bvs).length = W.length * 20 := flat_len hW20
   have hrd : ∀ M : List HP, RdS (own 20 ov W.length (W.flatMap bvs) :: M) ov W.length (W.flatMap bvs) := fun M => own_rd hov hWl
   have hr3 : ∀ M : List HP, RdS (cel b5 35 (A.flatMap bvs) :: M) (.slice (some ⟨b5, 0, none⟩) 3 3) 3 (A.flatMap bvs) := fun M => .mk _ _ _ _ _ (Nat.le_refl _) .all
   conv=>whnf
   refine LoopG.mk (fun mm e L => ∃ q : Nat, q ≤ W.length ∧ mm = W.length - q ∧
     e = [(0, lv), (2, .slice none 0 0), (3, ov), (4, .int .i64 i), (5, .slice (some ⟨b5, 0, none⟩) 3 3), (6, .int .i64 k), (7, .bool (decide (y ∈ W.take q))), (8, .int .i64 q)] ∧ L = [own 20 ov W.length (W.flatMap bvs), cel b5 35 (A.flatMap bvs)]) W.length
    [(0, lv), (2, .slice none 0 0), (3, ov), (4, .int .i64 i), (5, .slice (some ⟨b5, 0, none⟩) 3 3), (6, .int .i64 k), (7, .bool false), (8, .int .i64 0)] _ ⟨rfl, rfl, rfl, rfl, rfl, rfl, rfl, rfl, trivial⟩ (Ent.refl _) ⟨0, by omega, rfl, by simp, rfl⟩ ?_
   rintro mm e L ⟨q, hq, rfl, rfl, rfl⟩
   conv=>whnf
   refine LenG.sl hov ?_
   conv=>whnf
   refine CondG.dec (fun h3 => ?_) (fun h3 => ?_)
   ·have hql : q < W.length := by omega
    have htk : y ∈ W.take (q + 1) ↔ y ∈ W.take q ∨ y = W[q] := by
     rw [List.take_succ_eq_append_getElem hql, List.mem_append, List.mem_singleton]
    rcases Bool.eq_false_or_eq_true (decide (y ∈ W.take q)) with hd | hd
    ·rw [hd]
     conv=>whnf
     refine DrawG.mk 13 [own 20 ov W.length (W.flatMap bvs), cel b5 35 (A.flatMap bvs)] [] (Ent.refl _) ?_
     conv=>whnf
     refine .take 0 ?_
     conv=>whnf
     refine ⟨rfl, ?_⟩
     conv=>whnf
     refine .take 1 ?_
     conv=>whnf
     refine ⟨rfl, ?_⟩
     conv=>whnf
     refine .take 2 ?_
     conv=>whnf
     refine ⟨rfl, ?_⟩
     (conv=>whnf);refine .tt ?_;(conv=>whnf)
     refine .take 3 ?_
     conv=>whnf
     refine ⟨rfl, ?_⟩
     (conv=>whnf);refine .tt ?_;(conv=>whnf)
     refine .take 4 ?_
     conv=>whnf
     refine ⟨rfl, ?_⟩
     (conv=>whnf);refine .tt ?_;(conv=>whnf)
     refine .take 5 ?_
     conv=>whnf
     refine ⟨rfl, ?_⟩
     (conv=>whnf);refine .tt ?_;(conv=>whnf)
     refine .take 6 ?_
     conv=>whnf
     refine ⟨rfl, ?_⟩
     (conv=>whnf);refine .tt ?_;(conv=>whnf)
     refine .take 7 ?_
     conv=>whnf
     refine ⟨rfl, ?_⟩
     (conv=>whnf);refine .tt ?_;(conv=>whnf)
     refine .take 8 ?_
     conv=>whnf
     refine ⟨rfl, ?_⟩
     (conv=>whnf);refine .tt ?_;(conv=>whnf)
     refine .take 9 ?_
     conv=>whnf
     refine ⟨rfl, ?_⟩
     (conv=>whnf);refine .tt ?_;(conv=>whnf)
     refine .all ?_
     conv=>whnf
     refine ⟨by decide, ?_⟩
     (conv=>whnf);refine .tt ?_;(conv=>whnf)
     refine .take 11 ?_
     conv=>whnf
     refine ⟨rfl, ?_⟩
     (conv=>whnf);refine .tt ?_;(conv=>whnf)
     refine .all ?_
     conv=>whnf
     refine ⟨by decide, ?_⟩
     conv=>whnf
     refine ⟨rfl, ?_⟩
     conv=>whnf
     refine ArithG.i64' ((q + 1 : Nat) : Int) (by omega) (by omega) ?_
     conv=>whnf
     exact ⟨W.length - (q + 1), [(0, lv), (2, .slice none 0 0), (3, ov), (4, .int .i64 i), (5, .slice (some ⟨b5, 0, none⟩) 3 3), (6, .int .i64 k), (7, .bool true), (8, .int .i64 ((q + 1 : Nat) : Int))], _, by omega, ⟨rfl, rfl, rfl, rfl, rfl, rfl, rfl, rfl, trivial⟩, Ent.refl _, q + 1, by omega, rfl, (by rw [decide_eq_true (htk.2 (.inl (of_decide_eq_true hd)))]), rfl⟩
    ·rw [hd]
     conv=>whnf
     refine DrawG.mk 13 [own 20 ov W.length (W.flatMap bvs), cel b5 35 (A.flatMap bvs)] [] (Ent.refl _) ?_
     conv=>whnf
     refine .take 0 ?_
     conv=>whnf
     refine ⟨rfl, ?_⟩
     conv=>whnf
     refine .take 1 ?_
     conv=>whnf
     refine ⟨rfl, ?_⟩
     conv=>whnf
     refine .take 2 ?_
     conv=>whnf
     refine ⟨rfl, ?_⟩
     (conv=>whnf);refine .ff ?_;(conv=>whnf)
     refine .take 3 ?_
     conv=>whnf
     refine ⟨rfl, ?_⟩
     (conv=>whnf);refine .ff ?_;(conv=>whnf)
     refine .take 4 ?_
     conv=>whnf
     refine ⟨rfl, ?_⟩
     (conv=>whnf);refine .ff ?_;(conv=>whnf)
     refine IdxG.rd (hrd (cel b5 35 (A.flatMap bvs) :: F)) (by omega) fun cb o hcc => ?_
     conv=>whnf
     refine .take 5 ?_
     conv=>whnf
     refine ⟨rfl, ?_⟩
     (conv=>whnf);refine .ff ?_;(conv=>whnf)
     refine LoadNG.atG (vs := bvs W[q]) (hW20 _ (List.getElem_mem hql)) (hcc.part (by rw [hW20 _ (List.getElem_mem hql), Int.toNat_natCast]; exact flat_get hW20 hql)) ?_
     conv=>whnf
     refine .take 6 ?_
     conv=>whnf
     refine ⟨rfl, ?_⟩
     (conv=>whnf);refine .ff ?_;(conv=>whnf)
     refine .take 7 ?_
     conv=>whnf
     refine ⟨rfl, ?_⟩
     (conv=>whnf);refine .ff ?_;(conv=>whnf)
     refine .take 8 ?_
     conv=>whnf
     refine ⟨rfl, ?_⟩
     (conv=>whnf);refine .ff ?_;(conv=>whnf)
     refine IdxG.rd (hr3 F) (by omega) fun cb o hcc => ?_
     conv=>whnf
     refine .take 9 ?_
     conv=>whnf
     refine ⟨rfl, ?_⟩
     (conv=>whnf);refine .ff ?_;(conv=>whnf)
     refine LoadNG.atG (vs := bvs y) hy20 ((hcc.part (by rw [hy20, Int.toNat_natCast, hy]; exact flat_get hA20 hk3)).tl) ?_
     conv=>whnf
     refine .all ?_
     conv=>whnf
     refine ⟨by decide, ?_⟩
     (conv=>whnf);refine .ff ?_;(conv=>whnf)
     refine DoesG.eqv 8 (List.replicate 20 (.int .u8)) (by kernel_rfl) (by decide) (by kernel_rfl) (by kernel_rfl) (wt_bvs (hadr _ (List.getElem_mem hql)).1) (wt_bvs hya.1) ?_
     conv=>whnf
     refine .take 11 ?_
     conv=>whnf
     refine ⟨rfl, ?_⟩
     (conv=>whnf);refine .ff ?_;(conv=>whnf)
     refine .all ?_
     conv=>whnf
     refine ⟨by decide, ?_⟩
     conv=>whnf
     refine ⟨rfl, ?_⟩
     have hb : ∀ inst : Decidable (bvs W[q] = bvs y), @decide _ inst = decide (y ∈ W.take (q + 1)) := fun inst => by
      refine decide_eq_decide.2 ?_
      rw [bvs_inj, htk]
      exact ⟨fun h => .inr h.symm, fun h => (h.resolve_left (of_decide_eq_false hd)).symm⟩
     rw [hb]
     conv=>whnf
     refine ArithG.i64' ((q + 1 : Nat) : Int) (by omega) (by omega) ?_
     conv=>whnf
     exact ⟨W.length - (q + 1), [(0, lv), (2, .slice none 0 0), (3, ov), (4, .int .i64 i), (5, .slice (some ⟨b5, 0, none⟩) 3 3), (6, .int .i64 k), (7, .bool (decide (y ∈ W.take (q + 1)))), (8, .int .i64 ((q + 1 : Nat) : Int))], _, by omega, ⟨rfl, rfl, rfl, rfl, rfl, rfl, rfl, rfl, trivial⟩, Ent.refl _, q + 1, by omega, rfl, rfl, rfl⟩
   ·have hqe : q = W.length := by omega
    rw [hqe, List.take_length]
    have hA1 : A.take (k + 1) = A.take k ++ [y] := by rw [List.take_succ_eq_append_getElem hk3, hy]
    conv=>whnf
    refine CondG.ndec (fun h4 => ?_) (fun h4 => ?_)
    ·conv=>whnf
     refine IdxG.rd (hr3 F) (by omega) fun cb o hcc => ?_
     conv=>whnf
     refine LoadNG.atG (vs := bvs y) hy20 ((hcc.part (by rw [hy20, Int.toNat_natCast, hy]; exact flat_get hA20 hk3)).tl) ?_
     conv=>whnf
     refine BuildG.of (cs := bvs y) (fill_one hy20 rfl) ?_
     conv=>whnf
     intro b1
     conv=>whnf
     refine DoesG.ent (Ent.front 1 rfl) ?_
     refine app_own addrsT 29 (m := 1) (ys := bvs y) (.mk _ _ _ _ _ (Nat.le_refl _) (.tl (.left .all _))) (by rw [hy20]) (bvs_one _) (by simp only [maxLen]; omega) (by omega) fun ov2 hov2 hl2 _ => ?_
     have eL : own 20 ov2 (W.length + 1) (W.flatMap bvs ++ bvs y) = own 20 ov2 (W ++ [y]).length ((W ++ [y]).flatMap bvs) := by simp
     rw [eL]
     conv=>whnf
     refine ArithG.i64' ((k + 1 : Nat) : Int) (by omega) (by omega) ?_
     conv=>whnf
     refine ⟨3 - (k + 1), [(0, lv), (2, .slice none 0 0), (3, ov2), (4, .int .i64 i), (5, .slice (some ⟨b5, 0, none⟩) 3 3), (6, .int .i64 ((k + 1 : Nat) : Int))], _, by omega, ⟨rfl, rfl, rfl, rfl, rfl, rfl, trivial⟩, Ent.sel (T := []) (A := [_, _, _]) [0, 2] rfl, k + 1, W ++ [y], ov2, by omega, rfl, ?_, ?_, ?_, ?_, ?_, ?_, rfl, rfl⟩
     ·rw [List.length_append]; exact hov2
     ·rw [List.nodup_append]
      exact ⟨hnd, by simp, fun a ha b hb h => h4 (by rw [List.mem_singleton.1 hb] at h; rw [← h]; exact ha)⟩
     ·exact fun x' hx' a ha => List.mem_append.2 (.inl (hall x' hx' a ha))
     ·intro a ha
      rw [hA1] at ha
      rcases List.mem_append.1 ha with h | h
      ·exact List.mem_append.2 (.inl (hAk a h))
      ·exact List.mem_append.2 (.inr h)
     ·intro a ha
      rcases List.mem_append.1 ha with h | h
      ·exact hadr a h
      ·rw [List.mem_singleton.1 h]; exact hya
     ·rw [List.length_append, List.length_singleton]; omega
    ·conv=>whnf
     refine ArithG.i64' ((k + 1 : Nat) : Int) (by omega) (by omega) ?_
     conv=>whnf
     refine ⟨3 - (k + 1), [(0, lv), (2, .slice none 0 0), (3, ov), (4, .int .i64 i), (5, .slice (some ⟨b5, 0, none⟩) 3 3), (6, .int .i64 ((k + 1 : Nat) : Int))], _, by omega, ⟨rfl, rfl, rfl, rfl, rfl, rfl, trivial⟩, Ent.refl _, k + 1, W, ov, by omega, rfl, hov, hnd, hall, ?_, hadr, by omega, rfl, rfl⟩
     intro a ha
     rw [hA1] at ha
     rcases List.mem_append.1 ha with h | h
     ·exact hAk a h
     ·rw [List.mem_singleton.1 h]; exact h4
  ·have hke : k = 3 := by omega
   conv=>whnf
   refine ArithG.i64' ((i + 1 : Nat) : Int) (by omega) (by omega) ?_
   conv=>whnf
   refine ⟨xs.length - (i + 1), [(0, lv), (2, .slice none 0 0), (3, ov), (4, .int .i64 ((i + 1 : Nat) : Int))], _, by omega, ⟨rfl, rfl, rfl, rfl, trivial⟩, Ent.sel (T := []) (A := [_, _]) [0] rfl, i + 1, W, ov, by omega, rfl, hov, hnd, ?_, hadr, by omega, rfl, rfl⟩
   intro x' hx' a ha
   rw [List.take_succ_eq_append_getElem hil] at hx'
   rcases List.mem_append.1 hx' with h | h
   ·exact hall x' h a ha
   ·refine hAk a ?_
    rw [hke, List.take_of_length_le (by omega), heA, hxi, ← List.mem_singleton.1 h]
    exact ha
 ·have hil : i = xs.length := by omega
  conv=>whnf
  refine ret_here ⟨W, hov, hnd, fun x h => hall x (by rw [hil, List.take_length]; exact h), hadr, by omega, rfl⟩
theorem numbers_spec (F : List HP) (lv : Value) (xs : List StepD) (hx : ∀ x ∈ xs, x.wf) (hl : xs.length ≤ 1256584717458) (hr : RdS F lv xs.length (xs.flatMap StepD.cells)) :
  SpecF Tryz.prog 11 [lv] F [] (fun r L => ∃ T : List Nat, SlV r T.length ∧ (∀ t ∈ T, t < 64) ∧ T.length ≤ xs.length ∧ L = [own 1 r T.length (nvs T)]) := by
 refine fun11.spec rfl ?_
 conv=>whnf
 refine LoopG.mk (fun mm e L => ∃ (i : Nat) (T : List Nat) (ov : Value), i ≤ xs.length ∧ mm = xs.length - i ∧ SlV ov T.length ∧ (∀ t ∈ T, t < 64) ∧ T.length ≤ i ∧ e = [(0, lv), (2, .slice none 0 0), (3, ov), (4, .int .i64 i)] ∧ L = [own 1 ov T.length (nvs T)]) xs.length
  [(0, lv), (2, .slice none 0 0), (3, .slice none 0 0), (4, .int .i64 0)] [own 1 (.slice none 0 0) 0 (nvs [])] ⟨rfl, rfl, rfl, rfl, trivial⟩ (fun w G hs => Sat.own_nil hs) ⟨0, [], .slice none 0 0, by omega, rfl, .inl ⟨rfl, rfl⟩, by simp, by simp, rfl, rfl⟩ ?_
 rintro mm e L ⟨i, T, ov, hi, rfl, hov, ht, hlen, rfl, rfl⟩
 conv=>whnf
 refine LenG.rd hr ?_
 conv=>whnf
 refine CondG.dec (fun h1 => ?_) (fun h1 => ?_)
 ·have hil : i < xs.length := by omega
  obtain ⟨x, hxi⟩ : ∃ x, x = xs[i] := ⟨_, rfl⟩
  have hxw : x.wf := by rw [hxi]; exact hx _ (List.getElem_mem hil)
  have h66 : x.cells.length = 66 := StepD.cells_len hxw
  have hrd : ∀ M : List HP, RdS (own 1 ov T.length (nvs T) :: M) ov T.length (nvs T) := fun M => own_rd hov (by rw [nvs_len, Nat.mul_one])
  conv=>whnf
  refine IdxG.rd hr (by omega) fun cb o hcc => ?_
  have hxc : CelN F cb (o + ((i : Nat) : Int).toNat * 66) x.cells := hcc.part (by rw [h66, Int.toNat_natCast, hxi]; exact flat_get (fun y h => StepD.cells_len (hx y h)) hil)
  clear hcc
  conv=>whnf
  refine LoadG.atF (v := .int .i64 x.tok) (hxc.one (i := 1) rfl) ?_
  clear hxc
  conv=>whnf
  by_cases h5 : x.tok < 0
  ·repeat((first|(with_reducible first|refine .tt ?_|refine .ff ?_)|refine .decT (by assumption) ?_|refine .decF (by assumption) ?_);conv=>whnf)
   rw [decide_eq_true h5]
   conv=>whnf
   refine LoopG.mk (fun mm e L => ∃ (q : Nat) (d : Bool), q ≤ T.length ∧ mm = T.length - q ∧ (d = false → 0 ≤ x.tok ∧ x.tok ≤ 63) ∧
     e = [(0, lv), (2, .slice none 0 0), (3, ov), (4, .int .i64 i), (5, .bool d), (6, .int .i64 q)] ∧ L = [own 1 ov T.length (nvs T)]) T.length
    [(0, lv), (2, .slice none 0 0), (3, ov), (4, .int .i64 i), (5, .bool true), (6, .int .i64 0)] _ ⟨rfl, rfl, rfl, rfl, rfl, rfl, trivial⟩ (Ent.refl _) ⟨0, true, by omega, rfl, (fun h => absurd h (by decide)), rfl, rfl⟩ ?_
   rintro mm e L ⟨q, d, hq, rfl, hdd, rfl, rfl⟩
   conv=>whnf
   refine LenG.sl hov ?_
   conv=>whnf
   refine CondG.dec (fun h3 => ?_) (fun h3 => ?_)
   ·have hql : q < T.length := by omega
    cases d with
    | true =>
     conv=>whnf
     refine DrawG.mk 14 [own 1 ov T.length (nvs T)] [] (Ent.refl _) ?_
     conv=>whnf
     refine .take 0 ?_
     conv=>whnf
     refine ⟨rfl, ?_⟩
     conv=>whnf
     refine .take 1 ?_
     conv=>whnf
     refine ⟨rfl, ?_⟩
     conv=>whnf
     refine .take 2 ?_
     conv=>whnf
     refine ⟨rfl, ?_⟩
     (conv=>whnf);refine .tt ?_;(conv=>whnf)
     refine .take 3 ?_
     conv=>whnf
     refine ⟨rfl, ?_⟩
     (conv=>whnf);refine .tt ?_;(conv=>whnf)
     refine .take 4 ?_
     conv=>whnf
     refine ⟨rfl, ?_⟩
     (conv=>whnf);refine .tt ?_;(conv=>whnf)
     refine .take 5 ?_
     conv=>whnf
     refine ⟨rfl, ?_⟩
     (conv=>whnf);refine .tt ?_;(conv=>whnf)
     refine .take 6 ?_
     conv=>whnf
     refine ⟨rfl, ?_⟩
     (conv=>whnf);refine .tt ?_;(conv=>whnf)
     refine .take 7 ?_
     conv=>whnf
     refine ⟨rfl, ?_⟩
     (conv=>whnf);refine .tt ?_;(conv=>whnf)
     refine .take 8 ?_
     conv=>whnf
     refine ⟨rfl, ?_⟩
     (conv=>whnf);refine .tt ?_;(conv=>whnf)
     refine .take 9 ?_
     conv=>whnf
     refine ⟨rfl, ?_⟩
     (conv=>whnf);refine .tt ?_;(conv=>whnf)
     refine .take 10 ?_
     conv=>whnf
     refine ⟨rfl, ?_⟩
     (conv=>whnf);refine .tt ?_;(conv=>whnf)
     refine .take 11 ?_
     conv=>whnf
     refine ⟨rfl, ?_⟩
     (conv=>whnf);refine .tt ?_;(conv=>whnf)
     refine .take 12 ?_
     conv=>whnf
     refine ⟨rfl, ?_⟩
     (conv=>whnf);refine .tt ?_;(conv=>whnf)
     refine .all ?_
     conv=>whnf
     refine ⟨by decide, ?_⟩
     conv=>whnf
     refine ⟨rfl, ?_⟩
     conv=>whnf
     refine ArithG.i64' ((q + 1 : Nat) : Int) (by omega) (by omega) ?_
     conv=>whnf
     exact ⟨T.length - (q + 1), [(0, lv), (2, .slice none 0 0), (3, ov), (4, .int .i64 i), (5, .bool true), (6, .int .i64 ((q + 1 : Nat) : Int))], _, by omega, ⟨rfl, rfl, rfl, rfl, rfl, rfl, trivial⟩, Ent.refl _, q + 1, true, by omega, rfl, (fun h => absurd h (by decide)), rfl, rfl⟩
    | false =>
     have hgood := hdd rfl
     conv=>whnf
     refine DrawG.mk 14 [own 1 ov T.length (nvs T)] [] (Ent.refl _) ?_
     conv=>whnf
     refine .take 0 ?_
     conv=>whnf
     refine ⟨rfl, ?_⟩
     conv=>whnf
     refine .take 1 ?_
     conv=>whnf
     refine ⟨rfl, ?_⟩
     conv=>whnf
     refine .take 2 ?_
     conv=>whnf
     refine ⟨rfl, ?_⟩
     (conv=>whnf);refine .ff ?_;(conv=>whnf)
     refine .take 3 ?_
     conv=>whnf
     refine ⟨rfl, ?_⟩
     (conv=>whnf);refine .ff ?_;(conv=>whnf)
     refine .take 4 ?_
     conv=>whnf
     refine ⟨rfl, ?_⟩
     (conv=>whnf);refine .ff ?_;(conv=>whnf)
     refine IdxG.rd (hrd F) (by omega) fun cb o hcc => ?_
     conv=>whnf
     refine .take 5 ?_
     conv=>whnf
     refine ⟨rfl, ?_⟩
     (conv=>whnf);refine .ff ?_;(conv=>whnf)
     refine LoadG.atG (v := .int .i64 (T[q] : Nat)) (hcc.one (i := ((q : Nat) : Int).toNat * 1) (by rw [Int.toNat_natCast, Nat.mul_one]; exact nvs_get hql)) ?_
     conv=>whnf
     refine .take 6 ?_
     conv=>whnf
     refine ⟨rfl, ?_⟩
     (conv=>whnf);refine .ff ?_;(conv=>whnf)
     refine .take 7 ?_
     conv=>whnf
     refine ⟨rfl, ?_⟩
     (conv=>whnf);refine .ff ?_;(conv=>whnf)
     refine .take 8 ?_
     conv=>whnf
     refine ⟨rfl, ?_⟩
     (conv=>whnf);refine .ff ?_;(conv=>whnf)
     refine IdxG.rd hr (by omega) fun cb o hcc => ?_
     have hxc : CelN F cb (o + ((i : Nat) : Int).toNat * 66) x.cells := hcc.part (by rw [h66, Int.toNat_natCast, hxi]; exact flat_get (fun y h => StepD.cells_len (hx y h)) hil)
     clear hcc
     conv=>whnf
     refine .take 9 ?_
     conv=>whnf
     refine ⟨rfl, ?_⟩
     (conv=>whnf);refine .ff ?_;(conv=>whnf)
     refine .take 10 ?_
     conv=>whnf
     refine ⟨rfl, ?_⟩
     (conv=>whnf);refine .ff ?_;(conv=>whnf)
     refine LoadG.atF (v := .int .i64 x.tok) (hxc.one (i := 1) rfl) ?_
     clear hxc
     conv=>whnf
     refine .take 11 ?_
     conv=>whnf
     refine ⟨rfl, ?_⟩
     (conv=>whnf);refine .ff ?_;(conv=>whnf)
     refine .take 12 ?_
     conv=>whnf
     refine ⟨rfl, ?_⟩
     (conv=>whnf);refine .ff ?_;(conv=>whnf)
     refine .all ?_
     conv=>whnf
     refine ⟨by decide, ?_⟩
     conv=>whnf
     refine ⟨rfl, ?_⟩
     conv=>whnf
     refine ArithG.i64' ((q + 1 : Nat) : Int) (by omega) (by omega) ?_
     conv=>whnf
     exact ⟨T.length - (q + 1), [(0, lv), (2, .slice none 0 0), (3, ov), (4, .int .i64 i), (5, .bool (decide ((T[q] : Int) = x.tok))), (6, .int .i64 ((q + 1 : Nat) : Int))], _, by omega, ⟨rfl, rfl, rfl, rfl, rfl, rfl, trivial⟩, Ent.refl _, q + 1, (decide ((T[q] : Int) = x.tok)), by omega, rfl, (fun _ => hgood), rfl, rfl⟩
   ·cases d with
    | true =>
     (conv=>whnf);refine .nff ?_;(conv=>whnf)
     refine ArithG.i64' ((i + 1 : Nat) : Int) (by omega) (by omega) ?_
     conv=>whnf
     exact ⟨xs.length - (i + 1), [(0, lv), (2, .slice none 0 0), (3, ov), (4, .int .i64 ((i + 1 : Nat) : Int))], _, by omega, ⟨rfl, rfl, rfl, rfl, trivial⟩, Ent.refl _, i + 1, T, ov, by omega, rfl, hov, ht, by omega, rfl, rfl⟩
    | false =>
     have hgood := hdd rfl
     (conv=>whnf);refine .ntt ?_;(conv=>whnf)
     refine IdxG.rd hr (by omega) fun cb o hcc => ?_
     have hxc : CelN F cb (o + ((i : Nat) : Int).toNat * 66) x.cells := hcc.part (by rw [h66, Int.toNat_natCast, hxi]; exact flat_get (fun y h => StepD.cells_len (hx y h)) hil)
     clear hcc
     conv=>whnf
     refine LoadG.atF (v := .int .i64 x.tok) (hxc.one (i := 1) rfl) ?_
     clear hxc
     conv=>whnf
     obtain ⟨t, het⟩ : ∃ t : Nat, x.tok = (t : Int) := ⟨x.tok.toNat, by omega⟩
     refine BuildG.of (cs := nvs [t]) (by rw [het]; rfl) ?_
     conv=>whnf
     intro b1
     conv=>whnf
     refine DoesG.ent (Ent.front 1 rfl) ?_
     refine app_own intsN 31 (m := 1) (ys := nvs [t]) (.mk _ _ _ _ _ (Nat.le_refl _) (.tl (.left .all _))) rfl (nvs_one _) (by simp only [maxLen]; omega) (by omega) fun ov2 hov2 hl2 _ => ?_
     have eL : own 1 ov2 (T.length + 1) (nvs T ++ nvs [t]) = own 1 ov2 (T ++ [t]).length (nvs (T ++ [t])) := by simp [nvs]
     rw [eL]
     conv=>whnf
     refine ArithG.i64' ((i + 1 : Nat) : Int) (by omega) (by omega) ?_
     conv=>whnf
     refine ⟨xs.length - (i + 1), [(0, lv), (2, .slice none 0 0), (3, ov2), (4, .int .i64 ((i + 1 : Nat) : Int))], _, by omega, ⟨rfl, rfl, rfl, rfl, trivial⟩, Ent.sel (T := []) (A := [_, _]) [0] rfl, i + 1, T ++ [t], ov2, by omega, rfl, by rw [List.length_append]; exact hov2, ?_, by rw [List.length_append, List.length_singleton]; omega, rfl, rfl⟩
     intro u hu
     rcases List.mem_append.1 hu with h | h
     ·exact ht u h
     ·rw [List.mem_singleton.1 h]; omega
  ·repeat((first|(with_reducible first|refine .tt ?_|refine .ff ?_)|refine .decT (by assumption) ?_|refine .decF (by assumption) ?_);conv=>whnf)
   refine IdxG.rd hr (by omega) fun cb o hcc => ?_
   have hxc : CelN F cb (o + ((i : Nat) : Int).toNat * 66) x.cells := hcc.part (by rw [h66, Int.toNat_natCast, hxi]; exact flat_get (fun y h => StepD.cells_len (hx y h)) hil)
   clear hcc
   (conv=>whnf);refine .ff ?_;(conv=>whnf);refine .ff ?_;(conv=>whnf)
   refine LoadG.atF (v := .int .i64 x.tok) (hxc.one (i := 1) rfl) ?_
   clear hxc
   (conv=>whnf);refine .ff ?_;(conv=>whnf);refine .ff ?_;(conv=>whnf)
   by_cases h6 : 63 < x.tok
   ·skip
    rw [decide_eq_false h5, decide_eq_true h6]
    conv=>whnf
    refine LoopG.mk (fun mm e L => ∃ (q : Nat) (d : Bool), q ≤ T.length ∧ mm = T.length - q ∧ (d = false → 0 ≤ x.tok ∧ x.tok ≤ 63) ∧
      e = [(0, lv), (2, .slice none 0 0), (3, ov), (4, .int .i64 i), (5, .bool d), (6, .int .i64 q)] ∧ L = [own 1 ov T.length (nvs T)]) T.length
     [(0, lv), (2, .slice none 0 0), (3, ov), (4, .int .i64 i), (5, .bool true), (6, .int .i64 0)] _ ⟨rfl, rfl, rfl, rfl, rfl, rfl, trivial⟩ (Ent.refl _) ⟨0, true, by omega, rfl, (fun h => absurd h (by decide)), rfl, rfl⟩ ?_
    rintro mm e L ⟨q, d, hq, rfl, hdd, rfl, rfl⟩
    conv=>whnf
    refine LenG.sl hov ?_
    conv=>whnf
    refine CondG.dec (fun h3 => ?_) (fun h3 => ?_)
    ·have hql : q < T.length := by omega
     cases d with
     | true =>
      conv=>whnf
      refine DrawG.mk 14 [own 1 ov T.length (nvs T)] [] (Ent.refl _) ?_
      conv=>whnf
      refine .take 0 ?_
      conv=>whnf
      refine ⟨rfl, ?_⟩
      conv=>whnf
      refine .take 1 ?_
      conv=>whnf
      refine ⟨rfl, ?_⟩
      conv=>whnf
      refine .take 2 ?_
      conv=>whnf
      refine ⟨rfl, ?_⟩
      (conv=>whnf);refine .tt ?_;(conv=>whnf)
      refine .take 3 ?_
      conv=>whnf
      refine ⟨rfl, ?_⟩
      (conv=>whnf);refine .tt ?_;(conv=>whnf)
      refine .take 4 ?_
      conv=>whnf
      refine ⟨rfl, ?_⟩
      (conv=>whnf);refine .tt ?_;(conv=>whnf)
      refine .take 5 ?_
      conv=>whnf
      refine ⟨rfl, ?_⟩
      (conv=>whnf);refine .tt ?_;(conv=>whnf)
      refine .take 6 ?_
      conv=>whnf
      refine ⟨rfl, ?_⟩
      (conv=>whnf);refine .tt ?_;(conv=>whnf)
      refine .take 7 ?_
      conv=>whnf
      refine ⟨rfl, ?_⟩
      (conv=>whnf);refine .tt ?_;(conv=>whnf)
      refine .take 8 ?_
      conv=>whnf
      refine ⟨rfl, ?_⟩
      (conv=>whnf);refine .tt ?_;(conv=>whnf)
      refine .take 9 ?_
      conv=>whnf
      refine ⟨rfl, ?_⟩
      (conv=>whnf);refine .tt ?_;(conv=>whnf)
      refine .take 10 ?_
      conv=>whnf
      refine ⟨rfl, ?_⟩
      (conv=>whnf);refine .tt ?_;(conv=>whnf)
      refine .take 11 ?_
      conv=>whnf
      refine ⟨rfl, ?_⟩
      (conv=>whnf);refine .tt ?_;(conv=>whnf)
      refine .take 12 ?_
      conv=>whnf
      refine ⟨rfl, ?_⟩
      (conv=>whnf);refine .tt ?_;(conv=>whnf)
      refine .all ?_
      conv=>whnf
      refine ⟨by decide, ?_⟩
      conv=>whnf
      refine ⟨rfl, ?_⟩
      conv=>whnf
      refine ArithG.i64' ((q + 1 : Nat) : Int) (by omega) (by omega) ?_
      conv=>whnf
      exact ⟨T.length - (q + 1), [(0, lv), (2, .slice none 0 0), (3, ov), (4, .int .i64 i), (5, .bool true), (6, .int .i64 ((q + 1 : Nat) : Int))], _, by omega, ⟨rfl, rfl, rfl, rfl, rfl, rfl, trivial⟩, Ent.refl _, q + 1, true, by omega, rfl, (fun h => absurd h (by decide)), rfl, rfl⟩
     | false =>
      have hgood := hdd rfl
      conv=>whnf
      refine DrawG.mk 14 [own 1 ov T.length (nvs T)] [] (Ent.refl _) ?_
      conv=>whnf
      refine .take 0 ?_
      conv=>whnf
      refine ⟨rfl, ?_⟩
      conv=>whnf
      refine .take 1 ?_
      conv=>whnf
      refine ⟨rfl, ?_⟩
      conv=>whnf
      refine .take 2 ?_
      conv=>whnf
      refine ⟨rfl, ?_⟩
      (conv=>whnf);refine .ff ?_;(conv=>whnf)
      refine .take 3 ?_
      conv=>whnf
      refine ⟨rfl, ?_⟩
      (conv=>whnf);refine .ff ?_;(conv=>whnf)
      refine .take 4 ?_
      conv=>whnf
      refine ⟨rfl, ?_⟩
      (conv=>whnf);refine .ff ?_;(conv=>whnf)
      refine IdxG.rd (hrd F) (by omega) fun cb o hcc => ?_
      conv=>whnf
      refine .take 5 ?_
      conv=>whnf
      refine ⟨rfl, ?_⟩
      (conv=>whnf);refine .ff ?_;(conv=>whnf)
      refine LoadG.atG (v := .int .i64 (T[q] : Nat)) (hcc.one (i := ((q : Nat) : Int).toNat * 1) (by rw [Int.toNat_natCast, Nat.mul_one]; exact nvs_get hql)) ?_
      conv=>whnf
      refine .take 6 ?_
      conv=>whnf
      refine ⟨rfl, ?_⟩
      (conv=>whnf);refine .ff ?_;(conv=>whnf)
      refine .take 7 ?_
      conv=>whnf
      refine ⟨rfl, ?_⟩
      (conv=>whnf);refine .ff ?_;(conv=>whnf)
      refine .take 8 ?_
      conv=>whnf
      refine ⟨rfl, ?_⟩
      (conv=>whnf);refine .ff ?_;(conv=>whnf)
      refine IdxG.rd hr (by omega) fun cb o hcc => ?_
      have hxc : CelN F cb (o + ((i : Nat) : Int).toNat * 66) x.cells := hcc.part (by rw [h66, Int.toNat_natCast, hxi]; exact flat_get (fun y h => StepD.cells_len (hx y h)) hil)
      clear hcc
      conv=>whnf
      refine .take 9 ?_
      conv=>whnf
      refine ⟨rfl, ?_⟩
      (conv=>whnf);refine .ff ?_;(conv=>whnf)
      refine .take 10 ?_
      conv=>whnf
      refine ⟨rfl, ?_⟩
      (conv=>whnf);refine .ff ?_;(conv=>whnf)
      refine LoadG.atF (v := .int .i64 x.tok) (hxc.one (i := 1) rfl) ?_
      clear hxc
      conv=>whnf
      refine .take 11 ?_
      conv=>whnf
      refine ⟨rfl, ?_⟩
      (conv=>whnf);refine .ff ?_;(conv=>whnf)
      refine .take 12 ?_
      conv=>whnf
      refine ⟨rfl, ?_⟩
      (conv=>whnf);refine .ff ?_;(conv=>whnf)
      refine .all ?_
      conv=>whnf
      refine ⟨by decide, ?_⟩
      conv=>whnf
      refine ⟨rfl, ?_⟩
      conv=>whnf
      refine ArithG.i64' ((q + 1 : Nat) : Int) (by omega) (by omega) ?_
      conv=>whnf
      exact ⟨T.length - (q + 1), [(0, lv), (2, .slice none 0 0), (3, ov), (4, .int .i64 i), (5, .bool (decide ((T[q] : Int) = x.tok))), (6, .int .i64 ((q + 1 : Nat) : Int))], _, by omega, ⟨rfl, rfl, rfl, rfl, rfl, rfl, trivial⟩, Ent.refl _, q + 1, (decide ((T[q] : Int) = x.tok)), by omega, rfl, (fun _ => hgood), rfl, rfl⟩
    ·cases d with
     | true =>
      (conv=>whnf);refine .nff ?_;(conv=>whnf)
      refine ArithG.i64' ((i + 1 : Nat) : Int) (by omega) (by omega) ?_
      conv=>whnf
      exact ⟨xs.length - (i + 1), [(0, lv), (2, .slice none 0 0), (3, ov), (4, .int .i64 ((i + 1 : Nat) : Int))], _, by omega, ⟨rfl, rfl, rfl, rfl, trivial⟩, Ent.refl _, i + 1, T, ov, by omega, rfl, hov, ht, by omega, rfl, rfl⟩
     | false =>
      have hgood := hdd rfl
      (conv=>whnf);refine .ntt ?_;(conv=>whnf)
      refine IdxG.rd hr (by omega) fun cb o hcc => ?_
      have hxc : CelN F cb (o + ((i : Nat) : Int).toNat * 66) x.cells := hcc.part (by rw [h66, Int.toNat_natCast, hxi]; exact flat_get (fun y h => StepD.cells_len (hx y h)) hil)
      clear hcc
      conv=>whnf
      refine LoadG.atF (v := .int .i64 x.tok) (hxc.one (i := 1) rfl) ?_
      clear hxc
      conv=>whnf
      obtain ⟨t, het⟩ : ∃ t : Nat, x.tok = (t : Int) := ⟨x.tok.toNat, by omega⟩
      refine BuildG.of (cs := nvs [t]) (by rw [het]; rfl) ?_
      conv=>whnf
      intro b1
      conv=>whnf
      refine DoesG.ent (Ent.front 1 rfl) ?_
      refine app_own intsN 31 (m := 1) (ys := nvs [t]) (.mk _ _ _ _ _ (Nat.le_refl _) (.tl (.left .all _))) rfl (nvs_one _) (by simp only [maxLen]; omega) (by omega) fun ov2 hov2 hl2 _ => ?_
      have eL : own 1 ov2 (T.length + 1) (nvs T ++ nvs [t]) = own 1 ov2 (T ++ [t]).length (nvs (T ++ [t])) := by simp [nvs]
      rw [eL]
      conv=>whnf
      refine ArithG.i64' ((i + 1 : Nat) : Int) (by omega) (by omega) ?_
      conv=>whnf
      refine ⟨xs.length - (i + 1), [(0, lv), (2, .slice none 0 0), (3, ov2), (4, .int .i64 ((i + 1 : Nat) : Int))], _, by omega, ⟨rfl, rfl, rfl, rfl, trivial⟩, Ent.sel (T := []) (A := [_, _]) [0] rfl, i + 1, T ++ [t], ov2, by omega, rfl, by rw [List.length_append]; exact hov2, ?_, by rw [List.length_append, List.length_singleton]; omega, rfl, rfl⟩
      intro u hu
      rcases List.mem_append.1 hu with h | h
      ·exact ht u h
      ·rw [List.mem_singleton.1 h]; omega
   ·skip
    rw [decide_eq_false h5, decide_eq_false h6]
    conv=>whnf
    refine LoopG.mk (fun mm e L => ∃ (q : Nat) (d : Bool), q ≤ T.length ∧ mm = T.length - q ∧ (d = false → 0 ≤ x.tok ∧ x.tok ≤ 63) ∧
      e = [(0, lv), (2, .slice none 0 0), (3, ov), (4, .int .i64 i), (5, .bool d), (6, .int .i64 q)] ∧ L = [own 1 ov T.length (nvs T)]) T.length
     [(0, lv), (2, .slice none 0 0), (3, ov), (4, .int .i64 i), (5, .bool false), (6, .int .i64 0)] _ ⟨rfl, rfl, rfl, rfl, rfl, rfl, trivial⟩ (Ent.refl _) ⟨0, false, by omega, rfl, (fun _ => ⟨by omega, by omega⟩), rfl, rfl⟩ ?_
    rintro mm e L ⟨q, d, hq, rfl, hdd, rfl, rfl⟩
    conv=>whnf
    refine LenG.sl hov ?_
    conv=>whnf
    refine CondG.dec (fun h3 => ?_) (fun h3 => ?_)
    ·have hql : q < T.length := by omega
     cases d with
     | true =>
      conv=>whnf
      refine DrawG.mk 14 [own 1 ov T.length (nvs T)] [] (Ent.refl _) ?_
      conv=>whnf
      refine .take 0 ?_
      conv=>whnf
      refine ⟨rfl, ?_⟩
      conv=>whnf
      refine .take 1 ?_
      conv=>whnf
      refine ⟨rfl, ?_⟩
      conv=>whnf
      refine .take 2 ?_
      conv=>whnf
      refine ⟨rfl, ?_⟩
      (conv=>whnf);refine .tt ?_;(conv=>whnf)
      refine .take 3 ?_
      conv=>whnf
      refine ⟨rfl, ?_⟩
      (conv=>whnf);refine .tt ?_;(conv=>whnf)
      refine .take 4 ?_
      conv=>whnf
      refine ⟨rfl, ?_⟩
      (conv=>whnf);refine .tt ?_;(conv=>whnf)
      refine .take 5 ?_
      conv=>whnf
      refine ⟨rfl, ?_⟩
      (conv=>whnf);refine .tt ?_;(conv=>whnf)
      refine .take 6 ?_
      conv=>whnf
      refine ⟨rfl, ?_⟩
      (conv=>whnf);refine .tt ?_;(conv=>whnf)
      refine .take 7 ?_
      conv=>whnf
      refine ⟨rfl, ?_⟩
      (conv=>whnf);refine .tt ?_;(conv=>whnf)
      refine .take 8 ?_
      conv=>whnf
      refine ⟨rfl, ?_⟩
      (conv=>whnf);refine .tt ?_;(conv=>whnf)
      refine .take 9 ?_
      conv=>whnf
      refine ⟨rfl, ?_⟩
      (conv=>whnf);refine .tt ?_;(conv=>whnf)
      refine .take 10 ?_
      conv=>whnf
      refine ⟨rfl, ?_⟩
      (conv=>whnf);refine .tt ?_;(conv=>whnf)
      refine .take 11 ?_
      conv=>whnf
      refine ⟨rfl, ?_⟩
      (conv=>whnf);refine .tt ?_;(conv=>whnf)
      refine .take 12 ?_
      conv=>whnf
      refine ⟨rfl, ?_⟩
      (conv=>whnf);refine .tt ?_;(conv=>whnf)
      refine .all ?_
      conv=>whnf
      refine ⟨by decide, ?_⟩
      conv=>whnf
      refine ⟨rfl, ?_⟩
      conv=>whnf
      refine ArithG.i64' ((q + 1 : Nat) : Int) (by omega) (by omega) ?_
      conv=>whnf
      exact ⟨T.length - (q + 1), [(0, lv), (2, .slice none 0 0), (3, ov), (4, .int .i64 i), (5, .bool true), (6, .int .i64 ((q + 1 : Nat) : Int))], _, by omega, ⟨rfl, rfl, rfl, rfl, rfl, rfl, trivial⟩, Ent.refl _, q + 1, true, by omega, rfl, (fun h => absurd h (by decide)), rfl, rfl⟩
     | false =>
      have hgood := hdd rfl
      conv=>whnf
      refine DrawG.mk 14 [own 1 ov T.length (nvs T)] [] (Ent.refl _) ?_
      conv=>whnf
      refine .take 0 ?_
      conv=>whnf
      refine ⟨rfl, ?_⟩
      conv=>whnf
      refine .take 1 ?_
      conv=>whnf
      refine ⟨rfl, ?_⟩
      conv=>whnf
      refine .take 2 ?_
      conv=>whnf
      refine ⟨rfl, ?_⟩
      (conv=>whnf);refine .ff ?_;(conv=>whnf)
      refine .take 3 ?_
      conv=>whnf
      refine ⟨rfl, ?_⟩
      (conv=>whnf);refine .ff ?_;(conv=>whnf)
      refine .take 4 ?_
      conv=>whnf
      refine ⟨rfl, ?_⟩
      (conv=>whnf);refine .ff ?_;(conv=>whnf)
      refine IdxG.rd (hrd F) (by omega) fun cb o hcc => ?_
      conv=>whnf
      refine .take 5 ?_
      conv=>whnf
      refine ⟨rfl, ?_⟩
      (conv=>whnf);refine .ff ?_;(conv=>whnf)
      refine LoadG.atG (v := .int .i64 (T[q] : Nat)) (hcc.one (i := ((q : Nat) : Int).toNat * 1) (by rw [Int.toNat_natCast, Nat.mul_one]; exact nvs_get hql)) ?_
      conv=>whnf
      refine .take 6 ?_
      conv=>whnf
      refine ⟨rfl, ?_⟩
      (conv=>whnf);refine .ff ?_;(conv=>whnf)
      refine .take 7 ?_
      conv=>whnf
      refine ⟨rfl, ?_⟩
      (conv=>whnf);refine .ff ?_;(conv=>whnf)
      refine .take 8 ?_
      conv=>whnf
      refine ⟨rfl, ?_⟩
      (conv=>whnf);refine .ff ?_;(conv=>whnf)
      refine IdxG.rd hr (by omega) fun cb o hcc => ?_
      have hxc : CelN F cb (o + ((i : Nat) : Int).toNat * 66) x.cells := hcc.part (by rw [h66, Int.toNat_natCast, hxi]; exact flat_get (fun y h => StepD.cells_len (hx y h)) hil)
      clear hcc
      conv=>whnf
      refine .take 9 ?_
      conv=>whnf
      refine ⟨rfl, ?_⟩
      (conv=>whnf);refine .ff ?_;(conv=>whnf)
      refine .take 10 ?_
      conv=>whnf
      refine ⟨rfl, ?_⟩
      (conv=>whnf);refine .ff ?_;(conv=>whnf)
      refine LoadG.atF (v := .int .i64 x.tok) (hxc.one (i := 1) rfl) ?_
      clear hxc
      conv=>whnf
      refine .take 11 ?_
      conv=>whnf
      refine ⟨rfl, ?_⟩
      (conv=>whnf);refine .ff ?_;(conv=>whnf)
      refine .take 12 ?_
      conv=>whnf
      refine ⟨rfl, ?_⟩
      (conv=>whnf);refine .ff ?_;(conv=>whnf)
      refine .all ?_
      conv=>whnf
      refine ⟨by decide, ?_⟩
      conv=>whnf
      refine ⟨rfl, ?_⟩
      conv=>whnf
      refine ArithG.i64' ((q + 1 : Nat) : Int) (by omega) (by omega) ?_
      conv=>whnf
      exact ⟨T.length - (q + 1), [(0, lv), (2, .slice none 0 0), (3, ov), (4, .int .i64 i), (5, .bool (decide ((T[q] : Int) = x.tok))), (6, .int .i64 ((q + 1 : Nat) : Int))], _, by omega, ⟨rfl, rfl, rfl, rfl, rfl, rfl, trivial⟩, Ent.refl _, q + 1, (decide ((T[q] : Int) = x.tok)), by omega, rfl, (fun _ => hgood), rfl, rfl⟩
    ·cases d with
     | true =>
      (conv=>whnf);refine .nff ?_;(conv=>whnf)
      refine ArithG.i64' ((i + 1 : Nat) : Int) (by omega) (by omega) ?_
      conv=>whnf
      exact ⟨xs.length - (i + 1), [(0, lv), (2, .slice none 0 0), (3, ov), (4, .int .i64 ((i + 1 : Nat) : Int))], _, by omega, ⟨rfl, rfl, rfl, rfl, trivial⟩, Ent.refl _, i + 1, T, ov, by omega, rfl, hov, ht, by omega, rfl, rfl⟩
     | false =>
      have hgood := hdd rfl
      (conv=>whnf);refine .ntt ?_;(conv=>whnf)
      refine IdxG.rd hr (by omega) fun cb o hcc => ?_
      have hxc : CelN F cb (o + ((i : Nat) : Int).toNat * 66) x.cells := hcc.part (by rw [h66, Int.toNat_natCast, hxi]; exact flat_get (fun y h => StepD.cells_len (hx y h)) hil)
      clear hcc
      conv=>whnf
      refine LoadG.atF (v := .int .i64 x.tok) (hxc.one (i := 1) rfl) ?_
      clear hxc
      conv=>whnf
      obtain ⟨t, het⟩ : ∃ t : Nat, x.tok = (t : Int) := ⟨x.tok.toNat, by omega⟩
      refine BuildG.of (cs := nvs [t]) (by rw [het]; rfl) ?_
      conv=>whnf
      intro b1
      conv=>whnf
      refine DoesG.ent (Ent.front 1 rfl) ?_
      refine app_own intsN 31 (m := 1) (ys := nvs [t]) (.mk _ _ _ _ _ (Nat.le_refl _) (.tl (.left .all _))) rfl (nvs_one _) (by simp only [maxLen]; omega) (by omega) fun ov2 hov2 hl2 _ => ?_
      have eL : own 1 ov2 (T.length + 1) (nvs T ++ nvs [t]) = own 1 ov2 (T ++ [t]).length (nvs (T ++ [t])) := by simp [nvs]
      rw [eL]
      conv=>whnf
      refine ArithG.i64' ((i + 1 : Nat) : Int) (by omega) (by omega) ?_
      conv=>whnf
      refine ⟨xs.length - (i + 1), [(0, lv), (2, .slice none 0 0), (3, ov2), (4, .int .i64 ((i + 1 : Nat) : Int))], _, by omega, ⟨rfl, rfl, rfl, rfl, trivial⟩, Ent.sel (T := []) (A := [_, _]) [0] rfl, i + 1, T ++ [t], ov2, by omega, rfl, by rw [List.length_append]; exact hov2, ?_, by rw [List.length_append, List.length_singleton]; omega, rfl, rfl⟩
      intro u hu
      rcases List.mem_append.1 hu with h | h
      ·exact ht u h
      ·rw [List.mem_singleton.1 h]; omega
 ·have hil : i = xs.length := by omega
  conv=>whnf
  exact ret_here ⟨T, hov, ht, by omega, rfl⟩
end Go.Proofs.YtnbcbdlbejdkpaaGreatDoor
namespace Go.Proofs.YtnbcbdlbejdkpaaGreatDoor
open Go Go.Sl
theorem widesB : ElT Tryz.prog 42 38 4 32 := .of (by kernel_rfl)
theorem toksB : ElT Tryz.prog 41 48 6 40 := .of (by kernel_rfl)
theorem flat_take66 {xs : List StepD} (hx : ∀ x ∈ xs, x.wf) (k : Nat) : (xs.flatMap StepD.cells).take ((xs.take k).length * 66) = (xs.take k).flatMap StepD.cells := by
 have e : xs.flatMap StepD.cells = (xs.take k).flatMap StepD.cells ++ (xs.drop k).flatMap StepD.cells := by rw [← List.flatMap_append, List.take_append_drop]
 have l : ((xs.take k).flatMap StepD.cells).length = (xs.take k).length * 66 := flat_len fun x h => StepD.cells_len (hx x (List.mem_of_mem_take h))
 rw [e, ← l, List.take_left]
def someV (k : Nat) : Value → Value
 | .slice a n c => if k < n then .slice a k c else .slice a n c
 | v => v
theorem someV_rd {F : List HP} {lv : Value} {xs : List StepD} (hx : ∀ x ∈ xs, x.wf) (k : Nat) (hr : RdS F lv xs.length (xs.flatMap StepD.cells)) : RdS F (someV k lv) (xs.take k).length ((xs.take k).flatMap StepD.cells) := by
 have e2 := flat_take66 hx k
 rcases Nat.lt_or_ge k xs.length with h | h
 ·have e1 : (xs.take k).length = k := by rw [List.length_take]; omega
  rw [e1] at e2 ⊢
  rw [← e2]
  have hl : (xs.flatMap StepD.cells).length = xs.length * 66 := flat_len fun x h => StepD.cells_len (hx x h)
  generalize hn : xs.length = n at hr h hl
  generalize xs.flatMap StepD.cells = cs at hr hl
  clear e2 e1
  cases hr with
  | nil => omega
  | zero a cap => omega
  | mk b o _ cap _ hc hcel =>
   rw [someV, if_pos h]
   refine .mk b o k cap _ (by omega) (hcel.part (i := 0) ?_)
   have : (cs.take (k * 66)).length = k * 66 := by rw [List.length_take, hl]; exact Nat.min_eq_left (Nat.mul_le_mul_right _ (by omega))
   rw [this, List.drop_zero]
 ·rw [List.take_of_length_le h]
  obtain ⟨a, c, rfl⟩ := hr.len
  rw [someV, if_neg (by omega)]
  exact hr
theorem some_spec (F : List HP) (lv : Value) (xs : List StepD) (k : Nat) (hk : k < 1000) (hr : RdS F lv xs.length (xs.flatMap StepD.cells)) :
  SpecF Tryz.prog 9 [lv, .int .i64 k] F [] (fun r L => r = someV k lv ∧ L = []) := by
 refine fun9.spec rfl ?_
 conv=>whnf
 refine LenG.rd hr ?_
 conv=>whnf
 refine CondG.dec (fun h1 => ?_) (fun h1 => ?_)
 ·conv=>whnf
  refine SlcG.rd hr fun a cap hv hc => ?_
  conv=>whnf
  refine SideG.of (by omega) ?_
  conv=>whnf
  refine SliceG.zero ?_
  conv=>whnf
  refine ret_here ⟨?_, rfl⟩
  rw [hv, someV, if_pos (by omega)]
  rfl
 ·conv=>whnf
  refine ret_here ⟨?_, rfl⟩
  obtain ⟨a, c, hv⟩ := hr.len
  rw [hv, someV, if_neg (by omega)]
  rfl
theorem wides_spec (F : List HP) (va vb : Value) (l : List (List Nat)) (h4 : ∀ w ∈ l, w.length = 4) (hl : l.length ≤ 1099511627776) (hA : RdS F va l.length (l.flatMap uvs)) (hB : RdS F vb l.length (l.flatMap uvs)) :
  SpecF Tryz.prog 51 [va, vb] F [] (fun r L => r = .bool true ∧ L = []) := by
 have hu4 : ∀ w ∈ l, (uvs w).length = 4 := fun w h => by rw [uvs_len, h4 w h]
 refine fun51.spec rfl ?_
 conv=>whnf
 refine LenG.rd hA ?_
 conv=>whnf
 refine LenG.rd hB ?_
 conv=>whnf
 refine CondG.ndec (fun h => absurd rfl h) (fun _ => ?_)
 conv=>whnf
 refine LoopG.mk (fun mm e L => ∃ q : Nat, q ≤ l.length ∧ mm = l.length - q ∧ e = [(0, va), (1, vb), (4, .bool false), (5, .int .i64 q)] ∧ L = []) l.length
  [(0, va), (1, vb), (4, .bool false), (5, .int .i64 0)] _ ⟨rfl, rfl, rfl, rfl, trivial⟩ (Ent.refl _) ⟨0, by omega, rfl, rfl, rfl⟩ ?_
 rintro mm e L ⟨q, hq, rfl, rfl, rfl⟩
 conv=>whnf
 refine LenG.rd hA ?_
 conv=>whnf
 refine CondG.dec (fun h1 => ?_) (fun h1 => ?_)
 ·have hql : q < l.length := by omega
  have hw4 : l[q].length = 4 := h4 _ (List.getElem_mem hql)
  conv=>whnf
  refine DrawG.mk 9 [] [] (Ent.refl _) ?_
  conv=>whnf
  refine .take 0 ?_
  conv=>whnf
  refine ⟨rfl, ?_⟩
  conv=>whnf
  refine .take 1 ?_
  conv=>whnf
  refine ⟨rfl, ?_⟩
  conv=>whnf
  refine .take 2 ?_
  conv=>whnf
  refine ⟨rfl, ?_⟩
  conv=>whnf
  refine IdxG.rd hA (by omega) fun cb o hcc => ?_
  conv=>whnf
  refine .take 3 ?_
  conv=>whnf
  refine ⟨rfl, ?_⟩
  conv=>whnf
  refine LoadNG.atF (vs := uvs l[q]) (hu4 _ (List.getElem_mem hql)) (hcc.part (by rw [hu4 _ (List.getElem_mem hql), Int.toNat_natCast]; exact flat_get hu4 hql)) ?_
  clear hcc
  conv=>whnf
  refine .take 4 ?_
  conv=>whnf
  refine ⟨rfl, ?_⟩
  conv=>whnf
  refine .take 5 ?_
  conv=>whnf
  refine ⟨rfl, ?_⟩
  conv=>whnf
  refine .take 6 ?_
  conv=>whnf
  refine ⟨rfl, ?_⟩
  conv=>whnf
  refine IdxG.rd hB (by omega) fun cb o hcc => ?_
  conv=>whnf
  refine .take 7 ?_
  conv=>whnf
  refine ⟨rfl, ?_⟩
  conv=>whnf
  refine LoadNG.atF (vs := uvs l[q]) (hu4 _ (List.getElem_mem hql)) (hcc.part (by rw [hu4 _ (List.getElem_mem hql), Int.toNat_natCast]; exact flat_get hu4 hql)) ?_
  clear hcc
  conv=>whnf
  refine .all ?_
  conv=>whnf
  refine ⟨by decide, ?_⟩
  conv=>whnf
  refine DoesG.eqv 8 (List.replicate 4 (.int .u64)) (by kernel_rfl) (by decide) (by kernel_rfl) (by kernel_rfl) (wt_uvs hw4) (wt_uvs hw4) ?_
  conv=>whnf
  refine ⟨rfl, ?_⟩
  conv=>whnf
  refine CondG.split (fun h => absurd h (by simp)) (fun _ => ?_)
  conv=>whnf
  refine ArithG.i64' ((q + 1 : Nat) : Int) (by omega) (by omega) ?_
  conv=>whnf
  exact ⟨l.length - (q + 1), [(0, va), (1, vb), (4, .bool false), (5, .int .i64 ((q + 1 : Nat) : Int))], _, by omega, ⟨rfl, rfl, rfl, rfl, trivial⟩, Ent.refl _, q + 1, by omega, rfl, rfl, rfl⟩
 ·conv=>whnf
  exact ret_here ⟨rfl, rfl⟩
theorem same_spec (F : List HP) (v1 v2 v3 u1 u2 u3 : Value) (D : List TokD) (B A : List (List Nat)) (hd : ∀ d ∈ D, d.sup.length = 4) (hb : ∀ w ∈ B, w.length = 4) (ha : ∀ w ∈ A, w.length = 4) (hDl : D.length ≤ 1099511627776) (hBl : B.length ≤ 1099511627776) (hAl : A.length ≤ 1099511627776)
  (h1 : RdS F v1 D.length (D.flatMap TokD.cells)) (h2 : RdS F v2 B.length (B.flatMap uvs)) (h3 : RdS F v3 A.length (A.flatMap uvs)) (k1 : RdS F u1 D.length (D.flatMap TokD.cells)) (k2 : RdS F u2 B.length (B.flatMap uvs)) (k3 : RdS F u3 A.length (A.flatMap uvs)) :
  SpecF Tryz.prog 15 [.agg ⟨[v1, v2, v3, .bool true]⟩, .agg ⟨[u1, u2, u3, .bool true]⟩] F [] (fun r L => r = .bool true ∧ L = []) := by
 have h6 : ∀ d ∈ D, d.cells.length = 6 := fun d h => TokD.cells_len (hd d h)
 refine fun15.spec rfl ?_
 conv=>whnf
 intro b2
 conv=>whnf
 intro b3
 conv=>whnf
 refine LoadG.at (v := v1) (.tl (.here rfl)) ?_
 conv=>whnf
 refine LenG.rd h1 ?_
 conv=>whnf
 refine LoadG.at (v := u1) (.here rfl) ?_
 conv=>whnf
 refine LenG.rd k1 ?_
 conv=>whnf
 refine CondG.ndec (fun h => absurd rfl h) (fun _ => ?_)
 conv=>whnf
 refine LoopG.mk (fun mm e L => ∃ q : Nat, q ≤ D.length ∧ mm = D.length - q ∧ e = [(2, .pointer (some ⟨b2, 0, none⟩)), (3, .pointer (some ⟨b3, 0, none⟩)), (4, .bool false), (5, .int .i64 q)] ∧ L = [cel b3 44 [u1, u2, u3, .bool true], cel b2 44 [v1, v2, v3, .bool true]]) D.length
  [(2, .pointer (some ⟨b2, 0, none⟩)), (3, .pointer (some ⟨b3, 0, none⟩)), (4, .bool false), (5, .int .i64 0)] _ ⟨rfl, rfl, rfl, rfl, trivial⟩ (Ent.refl _) ⟨0, by omega, rfl, rfl, rfl⟩ ?_
 rintro mm e L ⟨q, hq, rfl, rfl, rfl⟩
 conv=>whnf
 refine LoadG.at (v := v1) (.tl (.here rfl)) ?_
 conv=>whnf
 refine LenG.rd h1 ?_
 conv=>whnf
 refine CondG.dec (fun h1' => ?_) (fun h1' => ?_)
 ·have hql : q < D.length := by omega
  have hw4 : D[q].sup.length = 4 := hd _ (List.getElem_mem hql)
  have hq6 : D[q].cells.length = 6 := TokD.cells_len hw4
  conv=>whnf
  refine DrawG.mk 11 [cel b3 44 [u1, u2, u3, .bool true], cel b2 44 [v1, v2, v3, .bool true]] [] (Ent.refl _) ?_
  conv=>whnf
  refine .take 0 ?_
  conv=>whnf
  refine ⟨rfl, ?_⟩
  conv=>whnf
  refine .take 1 ?_
  conv=>whnf
  refine ⟨rfl, ?_⟩
  conv=>whnf
  refine LoadG.at (v := v1) (.tl (.here rfl)) ?_
  conv=>whnf
  refine .take 2 ?_
  conv=>whnf
  refine ⟨rfl, ?_⟩
  conv=>whnf
  refine .take 3 ?_
  conv=>whnf
  refine ⟨rfl, ?_⟩
  conv=>whnf
  refine IdxG.rd h1 (by omega) fun cb o hcc => ?_
  conv=>whnf
  refine .take 4 ?_
  conv=>whnf
  refine ⟨rfl, ?_⟩
  conv=>whnf
  refine LoadNG.atF (vs := D[q].cells) hq6 (hcc.part (by rw [hq6, Int.toNat_natCast]; exact flat_get h6 hql)) ?_
  clear hcc
  conv=>whnf
  refine .take 5 ?_
  conv=>whnf
  refine ⟨rfl, ?_⟩
  conv=>whnf
  refine .take 6 ?_
  conv=>whnf
  refine ⟨rfl, ?_⟩
  conv=>whnf
  refine LoadG.at (v := u1) (.here rfl) ?_
  conv=>whnf
  refine .take 7 ?_
  conv=>whnf
  refine ⟨rfl, ?_⟩
  conv=>whnf
  refine .take 8 ?_
  conv=>whnf
  refine ⟨rfl, ?_⟩
  conv=>whnf
  refine IdxG.rd k1 (by omega) fun cb o hcc => ?_
  conv=>whnf
  refine .take 9 ?_
  conv=>whnf
  refine ⟨rfl, ?_⟩
  conv=>whnf
  refine LoadNG.atF (vs := D[q].cells) hq6 (hcc.part (by rw [hq6, Int.toNat_natCast]; exact flat_get h6 hql)) ?_
  clear hcc
  conv=>whnf
  refine .all ?_
  conv=>whnf
  refine ⟨by decide, ?_⟩
  conv=>whnf
  refine DoesG.eqv 8 tokK (by kernel_rfl) (by decide) (by kernel_rfl) (by kernel_rfl) (TokD.wt hw4) (TokD.wt hw4) ?_
  conv=>whnf
  refine ⟨rfl, ?_⟩
  conv=>whnf
  refine CondG.split (fun h => absurd h (by simp)) (fun _ => ?_)
  conv=>whnf
  refine ArithG.i64' ((q + 1 : Nat) : Int) (by omega) (by omega) ?_
  conv=>whnf
  exact ⟨D.length - (q + 1), [(2, .pointer (some ⟨b2, 0, none⟩)), (3, .pointer (some ⟨b3, 0, none⟩)), (4, .bool false), (5, .int .i64 ((q + 1 : Nat) : Int))], _, by omega, ⟨rfl, rfl, rfl, rfl, trivial⟩, Ent.refl _, q + 1, by omega, rfl, rfl, rfl⟩
 ·conv=>whnf
  refine LoadG.at (v := (.bool true)) (.tl (.here rfl)) ?_
  (conv=>whnf);refine .tt ?_;(conv=>whnf);refine .tt ?_;(conv=>whnf)
  refine LoadG.at (v := (.bool true)) (.here rfl) ?_
  (conv=>whnf);refine .tt ?_;(conv=>whnf);refine .tt ?_;(conv=>whnf);refine .tt ?_;(conv=>whnf)
  refine LoadG.at (v := v2) (.tl (.here rfl)) ?_
  (conv=>whnf);refine .tt ?_;(conv=>whnf);refine .tt ?_;(conv=>whnf)
  refine LoadG.at (v := u2) (.here rfl) ?_
  (conv=>whnf);refine .tt ?_;(conv=>whnf)
  refine CallG.pure (wides_spec _ v2 u2 B hb hBl (.right h2 _) (.right k2 _)) ?_
  rintro _ _ ⟨rfl, rfl⟩
  (conv=>whnf);refine .tt ?_;(conv=>whnf);refine .tt ?_;(conv=>whnf);refine .tt ?_;(conv=>whnf)
  refine LoadG.at (v := v3) (.tl (.here rfl)) ?_
  (conv=>whnf);refine .tt ?_;(conv=>whnf);refine .tt ?_;(conv=>whnf)
  refine LoadG.at (v := u3) (.here rfl) ?_
  (conv=>whnf);refine .tt ?_;(conv=>whnf)
  refine CallG.pure (wides_spec _ v3 u3 A ha hAl (.right h3 _) (.right k3 _)) ?_
  rintro _ _ ⟨rfl, rfl⟩
  (conv=>whnf);refine .tt ?_;(conv=>whnf)
  exact ⟨[], Ent.dropL [] _, rfl, rfl⟩
section
theorem fill_oneR {z m : List Value} {n : Nat} (hm : m.length = n) (hz : z.length = n) : fillL z [(0, n, .agg ⟨m⟩)] = some m := by
 have e1 := fill_part (a := []) (m := z) (m' := m) (c := []) (v := .agg ⟨m⟩) (ps := []) (off := 0) (n := n) rfl hz rfl hm
 rw [List.append_nil, List.append_nil, List.nil_append, List.nil_append] at e1
 exact e1.trans rfl
theorem own_nils (L : List HP) : Ent L (own 6 (.slice none 0 0) 0 [] :: own 4 (.slice none 0 0) 0 [] :: own 4 (.slice none 0 0) 0 [] :: L) := fun w G hs => Sat.own_nil (Sat.own_nil (Sat.own_nil hs))
variable {find : ByteArray → List Nat × Int}
theorem read_at (F : List HP) (s : Nat) (src : Value) (V : View) (n : Nat) (hs : SrcG Tryz.prog F src find) (ho : SrcOk find) {m : Md} (hm : Led V m) (W : List (List Nat)) (T : List Nat) (wv tv : Value)
  (hW : RdS F wv W.length (W.flatMap bvs)) (hT : RdS F tv T.length (nvs T)) (hadr : ∀ a ∈ W, adr a) (ht : ∀ t ∈ T, t < 64) (hWl : W.length ≤ 64) (hTl : T.length ≤ 64) :
  SpecF Tryz.prog 13 [.pointer (some ⟨s, 0, none⟩), wv, tv] F [stP 118 s src find V n] (fun r L => ∃ v1 v2 v3, SlV v1 (bookT V T).length ∧ SlV v2 (bookB V T W).length ∧ SlV v3 (bookA V T W).length ∧ (bookB V T W).length ≤ 4096 ∧ (bookA V T W).length ≤ 262144 ∧
   r = .agg ⟨[v1, v2, v3, .bool true]⟩ ∧ L = [stP 118 s src find V n, own 6 v1 (bookT V T).length ((bookT V T).flatMap TokD.cells), own 4 v2 (bookB V T W).length ((bookB V T W).flatMap uvs), own 4 v3 (bookA V T W).length ((bookA V T W).flatMap uvs)]) := by
 refine fun13.spec rfl ?_
 conv=>whnf
 intro b6
 conv=>whnf
 refine BuildG.of (cs := [.slice none 0 0, .slice none 0 0, .slice none 0 0, .bool true]) rfl ?_
 conv=>whnf
 intro b7
 conv=>whnf
 refine StoreG.at rfl (Upd.whole rfl (by simp [Value.oneCell'])) ?_
 conv=>whnf
 refine LoopG.mk (fun mm e L => ∃ (i : Nat) (v1 v2 v3 : Value), i ≤ T.length ∧ mm = T.length - i ∧ SlV v1 (bookT V (T.take i)).length ∧ SlV v2 (bookB V (T.take i) W).length ∧ SlV v3 (bookA V (T.take i) W).length ∧ (bookB V (T.take i) W).length ≤ 64 * i ∧ (bookA V (T.take i) W).length ≤ 4096 * i ∧
   e = [(0, .pointer (some ⟨s, 0, none⟩)), (1, wv), (2, tv), (6, .pointer (some ⟨b6, 0, none⟩)), (7, .pointer (some ⟨b7, 0, none⟩)), (8, .int .i64 i)] ∧
   L = [stP 118 s src find V n, own 6 v1 (bookT V (T.take i)).length ((bookT V (T.take i)).flatMap TokD.cells), own 4 v2 (bookB V (T.take i) W).length ((bookB V (T.take i) W).flatMap uvs), own 4 v3 (bookA V (T.take i) W).length ((bookA V (T.take i) W).flatMap uvs), cel b7 44 [v1, v2, v3, .bool true], cel b6 44 [.slice none 0 0, .slice none 0 0, .slice none 0 0, .bool false]]) T.length
  [(0, .pointer (some ⟨s, 0, none⟩)), (1, wv), (2, tv), (6, .pointer (some ⟨b6, 0, none⟩)), (7, .pointer (some ⟨b7, 0, none⟩)), (8, .int .i64 0)] _ ⟨rfl, rfl, rfl, rfl, rfl, rfl, trivial⟩ ((own_nils _).trans (Ent.sel (T := []) (A := [_, _, _, _, _, _]) [5, 0, 1, 2, 3, 4] rfl)) ⟨0, .slice none 0 0, .slice none 0 0, .slice none 0 0, by omega, rfl, .inl ⟨rfl, rfl⟩, .inl ⟨rfl, rfl⟩, .inl ⟨rfl, rfl⟩, Nat.le_refl _, Nat.le_refl _, rfl, rfl⟩ ?_
 rintro mm e L ⟨i, v1, v2, v3, hi, rfl, hv1, hv2, hv3, hBl, hAl, rfl, rfl⟩
 conv=>whnf
 refine LenG.rd hT ?_
 conv=>whnf
 refine CondG.dec (fun h1 => ?_) (fun h1 => ?_)
 ·have hil : i < T.length := by omega
  obtain ⟨t, het⟩ : ∃ t, t = T[i] := ⟨_, rfl⟩
  have ht64 : t < 64 := by rw [het]; exact ht _ (List.getElem_mem hil)
  have hbeg : begE (t : Int) = 0 := by unfold begE; rw [if_neg (by omega)]
  have htake : T.take (i + 1) = T.take i ++ [t] := by rw [List.take_succ_eq_append_getElem hil, het]
  have hcode : (tokenL V (t : Int)).2 = 0 := by rw [hm.tokenM, tokenM, if_neg (by rw [hbeg]; decide)]
  have hd6 : (tokenL V (t : Int)).1.cells.length = 6 := TokD.cells_len (tokenL_ok V _).len
  have hDl : (bookT V (T.take i)).length ≤ 64 := by rw [bookT_len, List.length_take]; omega
  conv=>whnf
  refine IdxG.rd hT (by omega) fun cb o hcc => ?_
  conv=>whnf
  refine LoadG.atF (v := .int .i64 t) (hcc.one (i := ((i : Nat) : Int).toNat * 1) (by rw [Int.toNat_natCast, Nat.mul_one, het]; exact nvs_get hil)) ?_
  clear hcc
  conv=>whnf
  refine CallG.of (pre := [stP 118 s src find V n]) (token_at _ s src V n t (hs.left _) ho) (Ent.front 0 rfl) ?_
  rintro _ _ ⟨rfl, rfl⟩
  rw [hcode]
  conv=>whnf
  intro b9
  conv=>whnf
  refine StoreG.at hd6 (Upd.whole (by rw [hd6]; rfl) (TokD.cells_one _)) ?_
  conv=>whnf
  refine LoadG.at (v := .bool true) (.tl (.tl (.tl (.tl (.tl (.here rfl)))))) ?_
  (conv=>whnf);refine .tt ?_;(conv=>whnf);refine .tt ?_;(conv=>whnf);refine .tt ?_;(conv=>whnf)
  refine StoreG.at rfl (.tl (.tl (.tl (.tl (.tl (Upd.here (by simp) rfl)))))) ?_
  conv=>whnf
  refine LoadG.at (v := v1) (.tl (.tl (.tl (.tl (.tl (.here rfl)))))) ?_
  conv=>whnf
  refine LoadNG.at (vs := (tokenL V (t : Int)).1.cells) hd6 .all ?_
  conv=>whnf
  refine BuildG.of (cs := (tokenL V (t : Int)).1.cells) (fill_oneR hd6 rfl) ?_
  conv=>whnf
  intro b10
  conv=>whnf
  refine DoesG.ent (Ent.front 3 rfl) ?_
  refine app_own toksB 41 (m := 1) (ys := (tokenL V (t : Int)).1.cells) (.mk _ _ _ _ _ (Nat.le_refl _) (.tl (.left .all _))) (by rw [hd6]) (TokD.cells_one _) (by simp only [maxLen]; omega) (by omega) fun v1' hv1' _ _ => ?_
  obtain ⟨a1, c1, rfl⟩ := hv1'.len
  conv=>whnf
  refine StoreG.at rfl (.tl (.tl (.tl (.tl (.tl (.tl (Upd.here (by simp) rfl))))))) ?_
  conv=>whnf
  obtain ⟨w1, hw1⟩ : ∃ w, w = Value.slice a1 ((bookT V (T.take i)).length + 1) c1 := ⟨_, rfl⟩
  rw [← hw1] at hv1'
  rw [← hw1]
  clear hw1
  have eD : own 6 w1 ((bookT V (T.take i)).length + 1) ((bookT V (T.take i)).flatMap TokD.cells ++ (tokenL V (t : Int)).1.cells) = own 6 w1 (bookT V (T.take (i + 1))).length ((bookT V (T.take (i + 1))).flatMap TokD.cells) := by
   rw [htake, bookT, bookT, List.map_append, List.length_append, List.flatMap_append]
   simp
  have hv1n : SlV w1 (bookT V (T.take (i + 1))).length := by
   rw [bookT_len, List.length_take] at hv1' ⊢
   rw [show min (i + 1) T.length = min i T.length + 1 by omega]
   exact hv1'
  rw [eD]
  clear eD hv1' hv1
  obtain ⟨D, hD⟩ : ∃ D, D = bookT V (T.take (i + 1)) := ⟨_, rfl⟩
  obtain ⟨B0, hB0⟩ : ∃ B, B = bookB V (T.take i) W := ⟨_, rfl⟩
  obtain ⟨A0, hA0⟩ : ∃ A, A = bookA V (T.take i) W := ⟨_, rfl⟩
  rw [← hB0] at hv2 hBl
  rw [← hA0] at hv3 hAl
  rw [← hD] at hv1n
  rw [← hD, ← hB0, ← hA0]
  refine LoopG.mk (fun mm e L => ∃ (j : Nat) (v2 v3 : Value) (B A : List (List Nat)), j ≤ W.length ∧ mm = W.length - j ∧ SlV v2 B.length ∧ SlV v3 A.length ∧ B.length ≤ 64 * i + j ∧ A.length ≤ 4096 * i + 64 * j ∧ B = B0 ++ (W.take j).map (fun a => (balL V t a).1) ∧ A = A0 ++ (W.take j).flatMap (fun a => W.map fun b => (allowedL V t a b).1) ∧
    e = [(0, .pointer (some ⟨s, 0, none⟩)), (1, wv), (2, tv), (6, .pointer (some ⟨b6, 0, none⟩)), (7, .pointer (some ⟨b7, 0, none⟩)), (8, .int .i64 i), (11, .int .i64 j)] ∧
    L = [stP 118 s src find V n, own 6 w1 D.length (D.flatMap TokD.cells), own 4 v2 B.length (B.flatMap uvs), own 4 v3 A.length (A.flatMap uvs), cel b7 44 [w1, v2, v3, .bool true], cel b6 44 [.slice none 0 0, .slice none 0 0, .slice none 0 0, .bool false]]) W.length
   [(0, .pointer (some ⟨s, 0, none⟩)), (1, wv), (2, tv), (6, .pointer (some ⟨b6, 0, none⟩)), (7, .pointer (some ⟨b7, 0, none⟩)), (8, .int .i64 i), (11, .int .i64 0)] _ ⟨rfl, rfl, rfl, rfl, rfl, rfl, rfl, trivial⟩ (Ent.sel (T := []) (A := [_, _, _, _, _, _, _, _]) [3, 0, 4, 5, 6, 7] rfl) ⟨0, v2, v3, B0, A0, by omega, rfl, hv2, hv3, by omega, by omega, by simp, by simp, rfl, rfl⟩ ?_
  clear hv2 hv3 hBl hAl v2 v3
  rintro mm e L ⟨j, v2, v3, B, A, hj, rfl, hv2, hv3, hBl, hAl, hB, hA, rfl, rfl⟩
  conv=>whnf
  refine LenG.rd hW ?_
  conv=>whnf
  refine CondG.dec (fun h2 => ?_) (fun h2 => ?_)
  ·have hjl : j < W.length := by omega
   have haj : adr W[j] := hadr _ (List.getElem_mem hjl)
   have h20 : (bvs W[j]).length = 20 := by rw [bvs_len, haj.1]
   have hbc : (balL V (t : Int) W[j]).2 = 0 := by rw [hm.balM _ haj, Sl.balM, if_neg (by rw [hbeg]; decide)]
   have hu4 : (uvs (balL V (t : Int) W[j]).1).length = 4 := by rw [uvs_len, balL_len]
   conv=>whnf
   refine DrawG.mk 16 [] _ (by rw [List.append_nil]; exact Ent.refl _) ?_
   conv=>whnf
   refine .take 0 ?_
   conv=>whnf
   refine ⟨rfl, ?_⟩
   conv=>whnf
   refine .take 1 ?_
   conv=>whnf
   refine ⟨rfl, ?_⟩
   conv=>whnf
   refine .take 2 ?_
   conv=>whnf
   refine ⟨rfl, ?_⟩
   conv=>whnf
   refine .take 3 ?_
   conv=>whnf
   refine ⟨rfl, ?_⟩
   conv=>whnf
   refine IdxG.rd hT (by omega) fun cb o hcc => ?_
   conv=>whnf
   refine .take 4 ?_
   conv=>whnf
   refine ⟨rfl, ?_⟩
   conv=>whnf
   refine LoadG.atF (v := .int .i64 t) (hcc.one (i := ((i : Nat) : Int).toNat * 1) (by rw [Int.toNat_natCast, Nat.mul_one, het]; exact nvs_get hil)) ?_
   clear hcc
   conv=>whnf
   refine .take 5 ?_
   conv=>whnf
   refine ⟨rfl, ?_⟩
   conv=>whnf
   refine .take 6 ?_
   conv=>whnf
   refine ⟨rfl, ?_⟩
   conv=>whnf
   refine .take 7 ?_
   conv=>whnf
   refine ⟨rfl, ?_⟩
   conv=>whnf
   refine IdxG.rd hW (by omega) fun cb o hcc => ?_
   conv=>whnf
   refine .take 8 ?_
   conv=>whnf
   refine ⟨rfl, ?_⟩
   conv=>whnf
   refine LoadNG.atF (vs := bvs W[j]) h20 (hcc.part (by rw [h20, Int.toNat_natCast]; exact flat_get (fun a h => by rw [bvs_len, (hadr a h).1]) hjl)) ?_
   clear hcc
   conv=>whnf
   refine .all ?_
   conv=>whnf
   refine ⟨by decide, ?_, ?_⟩
   ·conv=>whnf
    refine CallG.of (pre := [stP 118 s src find V n]) (balance_at _ s src V n t W[j] haj.1 (hs.left _) ho) (Ent.front 0 rfl) ?_
    rintro _ _ ⟨rfl, rfl⟩
    rw [hbc]
    conv=>whnf
    refine .take 10 ?_
    conv=>whnf
    refine ⟨rfl, ?_⟩
    conv=>whnf
    refine .take 11 ?_
    conv=>whnf
    refine ⟨rfl, ?_⟩
    conv=>whnf
    refine .take 12 ?_
    conv=>whnf
    refine ⟨rfl, ?_⟩
    conv=>whnf
    refine .all ?_
    conv=>whnf
    refine ⟨by decide, ?_⟩
    conv=>whnf
    intro b12
    conv=>whnf
    refine .all ?_
    conv=>whnf
    refine ⟨by decide, ?_⟩
    conv=>whnf
    refine StoreG.ent (Ent.refl _) ?_
    refine StoreG.at hu4 (Upd.whole (by rw [hu4]; rfl) (uvs_one _)) ?_
    conv=>whnf
    refine .all ?_
    conv=>whnf
    refine ⟨by decide, ?_⟩
    conv=>whnf
    refine ⟨rfl, ?_⟩
    conv=>whnf
    refine LoadG.at (v := .bool true) (.tl (.tl (.tl (.tl (.tl (.here rfl)))))) ?_
    (conv=>whnf);refine .tt ?_;(conv=>whnf);refine .tt ?_;(conv=>whnf);refine .tt ?_;(conv=>whnf)
    refine StoreG.at rfl (.tl (.tl (.tl (.tl (.tl (Upd.here (by simp) rfl)))))) ?_
    conv=>whnf
    refine LoadG.at (v := v2) (.tl (.tl (.tl (.tl (.tl (.here rfl)))))) ?_
    conv=>whnf
    refine LoadNG.at (vs := uvs (balL V (t : Int) W[j]).1) hu4 .all ?_
    conv=>whnf
    refine BuildG.of (cs := uvs (balL V (t : Int) W[j]).1) (fill_oneR hu4 rfl) ?_
    conv=>whnf
    intro b13
    conv=>whnf
    refine DoesG.ent (Ent.front 4 rfl) ?_
    refine app_own widesB 42 (m := 1) (ys := uvs (balL V (t : Int) W[j]).1) (.mk _ _ _ _ _ (Nat.le_refl _) (.tl (.left .all _))) (by rw [hu4]) (uvs_one _) (by simp only [maxLen]; omega) (by omega) fun v2' hv2' _ _ => ?_
    obtain ⟨a2, c2, rfl⟩ := hv2'.len
    conv=>whnf
    refine StoreG.at rfl (.tl (.tl (.tl (.tl (.tl (.tl (Upd.here (by simp) rfl))))))) ?_
    conv=>whnf
    obtain ⟨w2, hw2⟩ : ∃ w, w = Value.slice a2 (B.length + 1) c2 := ⟨_, rfl⟩
    rw [← hw2] at hv2'
    rw [← hw2]
    clear hw2
    have eB : own 4 w2 (B.length + 1) (B.flatMap uvs ++ uvs (balL V (t : Int) W[j]).1) = own 4 w2 (B ++ [(balL V (t : Int) W[j]).1]).length ((B ++ [(balL V (t : Int) W[j]).1]).flatMap uvs) := by simp
    rw [eB]
    clear eB
    refine LoopG.mk (fun mm e L => ∃ (q : Nat) (v3 : Value) (A' : List (List Nat)), q ≤ W.length ∧ mm = W.length - q ∧ SlV v3 A'.length ∧ A'.length ≤ 4096 * i + 64 * j + q ∧ A' = A ++ (W.take q).map (fun b => (allowedL V t W[j] b).1) ∧
      e = [(0, .pointer (some ⟨s, 0, none⟩)), (1, wv), (2, tv), (6, .pointer (some ⟨b6, 0, none⟩)), (7, .pointer (some ⟨b7, 0, none⟩)), (8, .int .i64 i), (11, .int .i64 j), (14, .int .i64 q)] ∧
      L = [stP 118 s src find V n, own 6 w1 D.length (D.flatMap TokD.cells), own 4 w2 (B ++ [(balL V (t : Int) W[j]).1]).length ((B ++ [(balL V (t : Int) W[j]).1]).flatMap uvs), own 4 v3 A'.length (A'.flatMap uvs), cel b7 44 [w1, w2, v3, .bool true], cel b6 44 [.slice none 0 0, .slice none 0 0, .slice none 0 0, .bool false]]) W.length
     [(0, .pointer (some ⟨s, 0, none⟩)), (1, wv), (2, tv), (6, .pointer (some ⟨b6, 0, none⟩)), (7, .pointer (some ⟨b7, 0, none⟩)), (8, .int .i64 i), (11, .int .i64 j), (14, .int .i64 0)] _ ⟨rfl, rfl, rfl, rfl, rfl, rfl, rfl, rfl, trivial⟩ (Ent.sel (T := []) (A := [_, _, _, _, _, _, _, _]) [3, 4, 0, 5, 6, 7] rfl) ⟨0, v3, A, by omega, rfl, hv3, by omega, by simp, rfl, rfl⟩ ?_
    clear hv3 hAl
    rintro mm e L ⟨q, v3, A', hq, rfl, hv3, hAl, hA', rfl, rfl⟩
    conv=>whnf
    refine LenG.rd hW ?_
    conv=>whnf
    refine CondG.dec (fun h3 => ?_) (fun h3 => ?_)
    ·have hql : q < W.length := by omega
     have haq : adr W[q] := hadr _ (List.getElem_mem hql)
     have k20 : (bvs W[q]).length = 20 := by rw [bvs_len, haq.1]
     have hac : (allowedL V (t : Int) W[j] W[q]).2 = 0 := by rw [hm.allowedM _ haj haq, Sl.allowedM, if_neg (by rw [hbeg]; decide)]
     have ha4 : (uvs (allowedL V (t : Int) W[j] W[q]).1).length = 4 := by rw [uvs_len, allowedL_len]
     conv=>whnf
     refine DrawG.mk 20 [] _ (by rw [List.append_nil]; exact Ent.refl _) ?_
     conv=>whnf
     refine .take 0 ?_
     conv=>whnf
     refine ⟨rfl, ?_⟩
     conv=>whnf
     refine .take 1 ?_
     conv=>whnf
     refine ⟨rfl, ?_⟩
     conv=>whnf
     refine .take 2 ?_
     conv=>whnf
     refine ⟨rfl, ?_⟩
     conv=>whnf
     refine .take 3 ?_
     conv=>whnf
     refine ⟨rfl, ?_⟩
     conv=>whnf
     refine IdxG.rd hT (by omega) fun cb o hcc => ?_
     conv=>whnf
     refine .take 4 ?_
     conv=>whnf
     refine ⟨rfl, ?_⟩
     conv=>whnf
     refine LoadG.atF (v := .int .i64 t) (hcc.one (i := ((i : Nat) : Int).toNat * 1) (by rw [Int.toNat_natCast, Nat.mul_one, het]; exact nvs_get hil)) ?_
     clear hcc
     conv=>whnf
     refine .take 5 ?_
     conv=>whnf
     refine ⟨rfl, ?_⟩
     conv=>whnf
     refine .take 6 ?_
     conv=>whnf
     refine ⟨rfl, ?_⟩
     conv=>whnf
     refine .take 7 ?_
     conv=>whnf
     refine ⟨rfl, ?_⟩
     conv=>whnf
     refine IdxG.rd hW (by omega) fun cb o hcc => ?_
     conv=>whnf
     refine .take 8 ?_
     conv=>whnf
     refine ⟨rfl, ?_⟩
     conv=>whnf
     refine LoadNG.atF (vs := bvs W[j]) h20 (hcc.part (by rw [h20, Int.toNat_natCast]; exact flat_get (fun a h => by rw [bvs_len, (hadr a h).1]) hjl)) ?_
     clear hcc
     conv=>whnf
     refine .take 9 ?_
     conv=>whnf
     refine ⟨rfl, ?_⟩
     conv=>whnf
     refine .take 10 ?_
     conv=>whnf
     refine ⟨rfl, ?_⟩
     conv=>whnf
     refine .take 11 ?_
     conv=>whnf
     refine ⟨rfl, ?_⟩
     conv=>whnf
     refine IdxG.rd hW (by omega) fun cb o hcc => ?_
     conv=>whnf
     refine .take 12 ?_
     conv=>whnf
     refine ⟨rfl, ?_⟩
     conv=>whnf
     refine LoadNG.atF (vs := bvs W[q]) k20 (hcc.part (by rw [k20, Int.toNat_natCast]; exact flat_get (fun a h => by rw [bvs_len, (hadr a h).1]) hql)) ?_
     clear hcc
     conv=>whnf
     refine .all ?_
     conv=>whnf
     refine ⟨by decide, ?_, ?_⟩
     ·conv=>whnf
      refine CallG.of (pre := [stP 118 s src find V n]) (allowed_at _ s src V n t W[j] W[q] haj.1 haq.1 (hs.left _) ho) (Ent.front 0 rfl) ?_
      rintro _ _ ⟨rfl, rfl⟩
      rw [hac]
      conv=>whnf
      refine .take 14 ?_
      conv=>whnf
      refine ⟨rfl, ?_⟩
      conv=>whnf
      refine .take 15 ?_
      conv=>whnf
      refine ⟨rfl, ?_⟩
      conv=>whnf
      refine .take 16 ?_
      conv=>whnf
      refine ⟨rfl, ?_⟩
      conv=>whnf
      refine .all ?_
      conv=>whnf
      refine ⟨by decide, ?_⟩
      conv=>whnf
      intro b15
      conv=>whnf
      refine .all ?_
      conv=>whnf
      refine ⟨by decide, ?_⟩
      conv=>whnf
      refine StoreG.ent (Ent.refl _) ?_
      refine StoreG.at ha4 (Upd.whole (by rw [ha4]; rfl) (uvs_one _)) ?_
      conv=>whnf
      refine .all ?_
      conv=>whnf
      refine ⟨by decide, ?_⟩
      conv=>whnf
      refine ⟨rfl, ?_⟩
      conv=>whnf
      refine LoadG.at (v := .bool true) (.tl (.tl (.tl (.tl (.tl (.here rfl)))))) ?_
      (conv=>whnf);refine .tt ?_;(conv=>whnf);refine .tt ?_;(conv=>whnf);refine .tt ?_;(conv=>whnf)
      refine StoreG.at rfl (.tl (.tl (.tl (.tl (.tl (Upd.here (by simp) rfl)))))) ?_
      conv=>whnf
      refine LoadG.at (v := v3) (.tl (.tl (.tl (.tl (.tl (.here rfl)))))) ?_
      conv=>whnf
      refine LoadNG.at (vs := uvs (allowedL V (t : Int) W[j] W[q]).1) ha4 .all ?_
      conv=>whnf
      refine BuildG.of (cs := uvs (allowedL V (t : Int) W[j] W[q]).1) (fill_oneR ha4 rfl) ?_
      conv=>whnf
      intro b16
      conv=>whnf
      refine DoesG.ent (Ent.front 5 rfl) ?_
      refine app_own widesB 42 (m := 1) (ys := uvs (allowedL V (t : Int) W[j] W[q]).1) (.mk _ _ _ _ _ (Nat.le_refl _) (.tl (.left .all _))) (by rw [ha4]) (uvs_one _) (by simp only [maxLen]; omega) (by omega) fun v3' hv3' _ _ => ?_
      obtain ⟨a3, c3, rfl⟩ := hv3'.len
      conv=>whnf
      refine StoreG.at rfl (.tl (.tl (.tl (.tl (.tl (.tl (Upd.here (by simp) rfl))))))) ?_
      conv=>whnf
      refine ArithG.i64' ((q + 1 : Nat) : Int) (by omega) (by omega) ?_
      conv=>whnf
      have eA : own 4 (.slice a3 (A'.length + 1) c3) (A'.length + 1) (A'.flatMap uvs ++ uvs (allowedL V (t : Int) W[j] W[q]).1) = own 4 (.slice a3 (A'.length + 1) c3) (A' ++ [(allowedL V (t : Int) W[j] W[q]).1]).length ((A' ++ [(allowedL V (t : Int) W[j] W[q]).1]).flatMap uvs) := by simp
      rw [eA]
      exact ⟨W.length - (q + 1), [(0, .pointer (some ⟨s, 0, none⟩)), (1, wv), (2, tv), (6, .pointer (some ⟨b6, 0, none⟩)), (7, .pointer (some ⟨b7, 0, none⟩)), (8, .int .i64 i), (11, .int .i64 j), (14, .int .i64 ((q + 1 : Nat) : Int))], _, by omega, ⟨rfl, rfl, rfl, rfl, rfl, rfl, rfl, rfl, trivial⟩, Ent.sel (T := []) (A := [_, _, _, _, _, _, _, _]) [3, 4, 5, 0, 6, 7] rfl, q + 1, .slice a3 (A'.length + 1) c3, A' ++ [(allowedL V (t : Int) W[j] W[q]).1], by omega, rfl, (by rw [List.length_append]; exact hv3'), (by rw [List.length_append, List.length_singleton]; omega), (by rw [hA', List.take_succ_eq_append_getElem hql, List.map_append, List.append_assoc]; rfl), rfl, rfl⟩
     ·conv=>whnf
      intro b15
      conv=>whnf
      refine .all ?_
      conv=>whnf
      refine ⟨by decide, ?_⟩
      conv=>whnf
      refine CallG.of (pre := [stP 118 s src find V n]) (allowed_at _ s src V n t W[j] W[q] haj.1 haq.1 (hs.left _) ho) (Ent.front 1 rfl) ?_
      rintro _ _ ⟨rfl, rfl⟩
      rw [hac]
      conv=>whnf
      refine .take 14 ?_
      conv=>whnf
      refine ⟨rfl, ?_⟩
      conv=>whnf
      refine .take 15 ?_
      conv=>whnf
      refine ⟨rfl, ?_⟩
      conv=>whnf
      refine .take 16 ?_
      conv=>whnf
      refine ⟨rfl, ?_⟩
      conv=>whnf
      refine .all ?_
      conv=>whnf
      refine ⟨by decide, ?_⟩
      conv=>whnf
      refine StoreG.ent (Ent.front 1 rfl) ?_
      refine StoreG.at ha4 (Upd.whole (by rw [ha4]; rfl) (uvs_one _)) ?_
      conv=>whnf
      refine .all ?_
      conv=>whnf
      refine ⟨by decide, ?_⟩
      conv=>whnf
      refine ⟨rfl, ?_⟩
      conv=>whnf
      refine LoadG.at (v := .bool true) (.tl (.tl (.tl (.tl (.tl (.here rfl)))))) ?_
      (conv=>whnf);refine .tt ?_;(conv=>whnf);refine .tt ?_;(conv=>whnf);refine .tt ?_;(conv=>whnf)
      refine StoreG.at rfl (.tl (.tl (.tl (.tl (.tl (Upd.here (by simp) rfl)))))) ?_
      conv=>whnf
      refine LoadG.at (v := v3) (.tl (.tl (.tl (.tl (.tl (.here rfl)))))) ?_
      conv=>whnf
      refine LoadNG.at (vs := uvs (allowedL V (t : Int) W[j] W[q]).1) ha4 .all ?_
      conv=>whnf
      refine BuildG.of (cs := uvs (allowedL V (t : Int) W[j] W[q]).1) (fill_oneR ha4 rfl) ?_
      conv=>whnf
      intro b16
      conv=>whnf
      refine DoesG.ent (Ent.front 5 rfl) ?_
      refine app_own widesB 42 (m := 1) (ys := uvs (allowedL V (t : Int) W[j] W[q]).1) (.mk _ _ _ _ _ (Nat.le_refl _) (.tl (.left .all _))) (by rw [ha4]) (uvs_one _) (by simp only [maxLen]; omega) (by omega) fun v3' hv3' _ _ => ?_
      obtain ⟨a3, c3, rfl⟩ := hv3'.len
      conv=>whnf
      refine StoreG.at rfl (.tl (.tl (.tl (.tl (.tl (.tl (Upd.here (by simp) rfl))))))) ?_
      conv=>whnf
      refine ArithG.i64' ((q + 1 : Nat) : Int) (by omega) (by omega) ?_
      conv=>whnf
      have eA : own 4 (.slice a3 (A'.length + 1) c3) (A'.length + 1) (A'.flatMap uvs ++ uvs (allowedL V (t : Int) W[j] W[q]).1) = own 4 (.slice a3 (A'.length + 1) c3) (A' ++ [(allowedL V (t : Int) W[j] W[q]).1]).length ((A' ++ [(allowedL V (t : Int) W[j] W[q]).1]).flatMap uvs) := by simp
      rw [eA]
      exact ⟨W.length - (q + 1), [(0, .pointer (some ⟨s, 0, none⟩)), (1, wv), (2, tv), (6, .pointer (some ⟨b6, 0, none⟩)), (7, .pointer (some ⟨b7, 0, none⟩)), (8, .int .i64 i), (11, .int .i64 j), (14, .int .i64 ((q + 1 : Nat) : Int))], _, by omega, ⟨rfl, rfl, rfl, rfl, rfl, rfl, rfl, rfl, trivial⟩, Ent.sel (T := []) (A := [_, _, _, _, _, _, _, _]) [3, 4, 5, 0, 6, 7] rfl, q + 1, .slice a3 (A'.length + 1) c3, A' ++ [(allowedL V (t : Int) W[j] W[q]).1], by omega, rfl, (by rw [List.length_append]; exact hv3'), (by rw [List.length_append, List.length_singleton]; omega), (by rw [hA', List.take_succ_eq_append_getElem hql, List.map_append, List.append_assoc]; rfl), rfl, rfl⟩
    ·have hqe : q = W.length := by omega
     rw [hqe, List.take_length] at hA'
     conv=>whnf
     refine ArithG.i64' ((j + 1 : Nat) : Int) (by omega) (by omega) ?_
     conv=>whnf
     exact ⟨W.length - (j + 1), [(0, .pointer (some ⟨s, 0, none⟩)), (1, wv), (2, tv), (6, .pointer (some ⟨b6, 0, none⟩)), (7, .pointer (some ⟨b7, 0, none⟩)), (8, .int .i64 i), (11, .int .i64 ((j + 1 : Nat) : Int))], _, by omega, ⟨rfl, rfl, rfl, rfl, rfl, rfl, rfl, trivial⟩, Ent.refl _, j + 1, w2, v3, B ++ [(balL V (t : Int) W[j]).1], A', by omega, rfl, (by rw [List.length_append]; exact hv2'), hv3, (by rw [List.length_append, List.length_singleton]; omega), (by omega),
      (by rw [hB, List.take_succ_eq_append_getElem hjl, List.map_append, List.append_assoc]; rfl), (by rw [hA', hA, List.take_succ_eq_append_getElem hjl, List.flatMap_append, List.append_assoc]; simp), rfl, rfl⟩
   ·conv=>whnf
    intro b12
    conv=>whnf
    refine .all ?_
    conv=>whnf
    refine ⟨by decide, ?_⟩
    conv=>whnf
    refine CallG.of (pre := [stP 118 s src find V n]) (balance_at _ s src V n t W[j] haj.1 (hs.left _) ho) (Ent.front 1 rfl) ?_
    rintro _ _ ⟨rfl, rfl⟩
    rw [hbc]
    conv=>whnf
    refine .take 10 ?_
    conv=>whnf
    refine ⟨rfl, ?_⟩
    conv=>whnf
    refine .take 11 ?_
    conv=>whnf
    refine ⟨rfl, ?_⟩
    conv=>whnf
    refine .take 12 ?_
    conv=>whnf
    refine ⟨rfl, ?_⟩
    conv=>whnf
    refine .all ?_
    conv=>whnf
    refine ⟨by decide, ?_⟩
    conv=>whnf
    refine StoreG.ent (Ent.front 1 rfl) ?_
    refine StoreG.at hu4 (Upd.whole (by rw [hu4]; rfl) (uvs_one _)) ?_
    conv=>whnf
    refine .all ?_
    conv=>whnf
    refine ⟨by decide, ?_⟩
    conv=>whnf
    refine ⟨rfl, ?_⟩
    conv=>whnf
    refine LoadG.at (v := .bool true) (.tl (.tl (.tl (.tl (.tl (.here rfl)))))) ?_
    (conv=>whnf);refine .tt ?_;(conv=>whnf);refine .tt ?_;(conv=>whnf);refine .tt ?_;(conv=>whnf)
    refine StoreG.at rfl (.tl (.tl (.tl (.tl (.tl (Upd.here (by simp) rfl)))))) ?_
    conv=>whnf
    refine LoadG.at (v := v2) (.tl (.tl (.tl (.tl (.tl (.here rfl)))))) ?_
    conv=>whnf
    refine LoadNG.at (vs := uvs (balL V (t : Int) W[j]).1) hu4 .all ?_
    conv=>whnf
    refine BuildG.of (cs := uvs (balL V (t : Int) W[j]).1) (fill_oneR hu4 rfl) ?_
    conv=>whnf
    intro b13
    conv=>whnf
    refine DoesG.ent (Ent.front 4 rfl) ?_
    refine app_own widesB 42 (m := 1) (ys := uvs (balL V (t : Int) W[j]).1) (.mk _ _ _ _ _ (Nat.le_refl _) (.tl (.left .all _))) (by rw [hu4]) (uvs_one _) (by simp only [maxLen]; omega) (by omega) fun v2' hv2' _ _ => ?_
    obtain ⟨a2, c2, rfl⟩ := hv2'.len
    conv=>whnf
    refine StoreG.at rfl (.tl (.tl (.tl (.tl (.tl (.tl (Upd.here (by simp) rfl))))))) ?_
    conv=>whnf
    obtain ⟨w2, hw2⟩ : ∃ w, w = Value.slice a2 (B.length + 1) c2 := ⟨_, rfl⟩
    rw [← hw2] at hv2'
    rw [← hw2]
    clear hw2
    have eB : own 4 w2 (B.length + 1) (B.flatMap uvs ++ uvs (balL V (t : Int) W[j]).1) = own 4 w2 (B ++ [(balL V (t : Int) W[j]).1]).length ((B ++ [(balL V (t : Int) W[j]).1]).flatMap uvs) := by simp
    rw [eB]
    clear eB
    refine LoopG.mk (fun mm e L => ∃ (q : Nat) (v3 : Value) (A' : List (List Nat)), q ≤ W.length ∧ mm = W.length - q ∧ SlV v3 A'.length ∧ A'.length ≤ 4096 * i + 64 * j + q ∧ A' = A ++ (W.take q).map (fun b => (allowedL V t W[j] b).1) ∧
      e = [(0, .pointer (some ⟨s, 0, none⟩)), (1, wv), (2, tv), (6, .pointer (some ⟨b6, 0, none⟩)), (7, .pointer (some ⟨b7, 0, none⟩)), (8, .int .i64 i), (11, .int .i64 j), (14, .int .i64 q)] ∧
      L = [stP 118 s src find V n, own 6 w1 D.length (D.flatMap TokD.cells), own 4 w2 (B ++ [(balL V (t : Int) W[j]).1]).length ((B ++ [(balL V (t : Int) W[j]).1]).flatMap uvs), own 4 v3 A'.length (A'.flatMap uvs), cel b7 44 [w1, w2, v3, .bool true], cel b6 44 [.slice none 0 0, .slice none 0 0, .slice none 0 0, .bool false]]) W.length
     [(0, .pointer (some ⟨s, 0, none⟩)), (1, wv), (2, tv), (6, .pointer (some ⟨b6, 0, none⟩)), (7, .pointer (some ⟨b7, 0, none⟩)), (8, .int .i64 i), (11, .int .i64 j), (14, .int .i64 0)] _ ⟨rfl, rfl, rfl, rfl, rfl, rfl, rfl, rfl, trivial⟩ (Ent.sel (T := []) (A := [_, _, _, _, _, _, _, _]) [3, 4, 0, 5, 6, 7] rfl) ⟨0, v3, A, by omega, rfl, hv3, by omega, by simp, rfl, rfl⟩ ?_
    clear hv3 hAl
    rintro mm e L ⟨q, v3, A', hq, rfl, hv3, hAl, hA', rfl, rfl⟩
    conv=>whnf
    refine LenG.rd hW ?_
    conv=>whnf
    refine CondG.dec (fun h3 => ?_) (fun h3 => ?_)
    ·have hql : q < W.length := by omega
     have haq : adr W[q] := hadr _ (List.getElem_mem hql)
     have k20 : (bvs W[q]).length = 20 := by rw [bvs_len, haq.1]
     have hac : (allowedL V (t : Int) W[j] W[q]).2 = 0 := by rw [hm.allowedM _ haj haq, Sl.allowedM, if_neg (by rw [hbeg]; decide)]
     have ha4 : (uvs (allowedL V (t : Int) W[j] W[q]).1).length = 4 := by rw [uvs_len, allowedL_len]
     conv=>whnf
     refine DrawG.mk 20 [] _ (by rw [List.append_nil]; exact Ent.refl _) ?_
     conv=>whnf
     refine .take 0 ?_
     conv=>whnf
     refine ⟨rfl, ?_⟩
     conv=>whnf
     refine .take 1 ?_
     conv=>whnf
     refine ⟨rfl, ?_⟩
     conv=>whnf
     refine .take 2 ?_
     conv=>whnf
     refine ⟨rfl, ?_⟩
     conv=>whnf
     refine .take 3 ?_
     conv=>whnf
     refine ⟨rfl, ?_⟩
     conv=>whnf
     refine IdxG.rd hT (by omega) fun cb o hcc => ?_
     conv=>whnf
     refine .take 4 ?_
     conv=>whnf
     refine ⟨rfl, ?_⟩
     conv=>whnf
     refine LoadG.atF (v := .int .i64 t) (hcc.one (i := ((i : Nat) : Int).toNat * 1) (by rw [Int.toNat_natCast, Nat.mul_one, het]; exact nvs_get hil)) ?_
     clear hcc
     conv=>whnf
     refine .take 5 ?_
     conv=>whnf
     refine ⟨rfl, ?_⟩
     conv=>whnf
     refine .take 6 ?_
     conv=>whnf
     refine ⟨rfl, ?_⟩
     conv=>whnf
     refine .take 7 ?_
     conv=>whnf
     refine ⟨rfl, ?_⟩
     conv=>whnf
     refine IdxG.rd hW (by omega) fun cb o hcc => ?_
     conv=>whnf
     refine .take 8 ?_
     conv=>whnf
     refine ⟨rfl, ?_⟩
     conv=>whnf
     refine LoadNG.atF (vs := bvs W[j]) h20 (hcc.part (by rw [h20, Int.toNat_natCast]; exact flat_get (fun a h => by rw [bvs_len, (hadr a h).1]) hjl)) ?_
     clear hcc
     conv=>whnf
     refine .take 9 ?_
     conv=>whnf
     refine ⟨rfl, ?_⟩
     conv=>whnf
     refine .take 10 ?_
     conv=>whnf
     refine ⟨rfl, ?_⟩
     conv=>whnf
     refine .take 11 ?_
     conv=>whnf
     refine ⟨rfl, ?_⟩
     conv=>whnf
     refine IdxG.rd hW (by omega) fun cb o hcc => ?_
     conv=>whnf
     refine .take 12 ?_
     conv=>whnf
     refine ⟨rfl, ?_⟩
     conv=>whnf
     refine LoadNG.atF (vs := bvs W[q]) k20 (hcc.part (by rw [k20, Int.toNat_natCast]; exact flat_get (fun a h => by rw [bvs_len, (hadr a h).1]) hql)) ?_
     clear hcc
     conv=>whnf
     refine .all ?_
     conv=>whnf
     refine ⟨by decide, ?_, ?_⟩
     ·conv=>whnf
      refine CallG.of (pre := [stP 118 s src find V n]) (allowed_at _ s src V n t W[j] W[q] haj.1 haq.1 (hs.left _) ho) (Ent.front 0 rfl) ?_
      rintro _ _ ⟨rfl, rfl⟩
      rw [hac]
      conv=>whnf
      refine .take 14 ?_
      conv=>whnf
      refine ⟨rfl, ?_⟩
      conv=>whnf
      refine .take 15 ?_
      conv=>whnf
      refine ⟨rfl, ?_⟩
      conv=>whnf
      refine .take 16 ?_
      conv=>whnf
      refine ⟨rfl, ?_⟩
      conv=>whnf
      refine .all ?_
      conv=>whnf
      refine ⟨by decide, ?_⟩
      conv=>whnf
      intro b15
      conv=>whnf
      refine .all ?_
      conv=>whnf
      refine ⟨by decide, ?_⟩
      conv=>whnf
      refine StoreG.ent (Ent.refl _) ?_
      refine StoreG.at ha4 (Upd.whole (by rw [ha4]; rfl) (uvs_one _)) ?_
      conv=>whnf
      refine .all ?_
      conv=>whnf
      refine ⟨by decide, ?_⟩
      conv=>whnf
      refine ⟨rfl, ?_⟩
      conv=>whnf
      refine LoadG.at (v := .bool true) (.tl (.tl (.tl (.tl (.tl (.here rfl)))))) ?_
      (conv=>whnf);refine .tt ?_;(conv=>whnf);refine .tt ?_;(conv=>whnf);refine .tt ?_;(conv=>whnf)
      refine StoreG.at rfl (.tl (.tl (.tl (.tl (.tl (Upd.here (by simp) rfl)))))) ?_
      conv=>whnf
      refine LoadG.at (v := v3) (.tl (.tl (.tl (.tl (.tl (.here rfl)))))) ?_
      conv=>whnf
      refine LoadNG.at (vs := uvs (allowedL V (t : Int) W[j] W[q]).1) ha4 .all ?_
      conv=>whnf
      refine BuildG.of (cs := uvs (allowedL V (t : Int) W[j] W[q]).1) (fill_oneR ha4 rfl) ?_
      conv=>whnf
      intro b16
      conv=>whnf
      refine DoesG.ent (Ent.front 5 rfl) ?_
      refine app_own widesB 42 (m := 1) (ys := uvs (allowedL V (t : Int) W[j] W[q]).1) (.mk _ _ _ _ _ (Nat.le_refl _) (.tl (.left .all _))) (by rw [ha4]) (uvs_one _) (by simp only [maxLen]; omega) (by omega) fun v3' hv3' _ _ => ?_
      obtain ⟨a3, c3, rfl⟩ := hv3'.len
      conv=>whnf
      refine StoreG.at rfl (.tl (.tl (.tl (.tl (.tl (.tl (Upd.here (by simp) rfl))))))) ?_
      conv=>whnf
      refine ArithG.i64' ((q + 1 : Nat) : Int) (by omega) (by omega) ?_
      conv=>whnf
      have eA : own 4 (.slice a3 (A'.length + 1) c3) (A'.length + 1) (A'.flatMap uvs ++ uvs (allowedL V (t : Int) W[j] W[q]).1) = own 4 (.slice a3 (A'.length + 1) c3) (A' ++ [(allowedL V (t : Int) W[j] W[q]).1]).length ((A' ++ [(allowedL V (t : Int) W[j] W[q]).1]).flatMap uvs) := by simp
      rw [eA]
      exact ⟨W.length - (q + 1), [(0, .pointer (some ⟨s, 0, none⟩)), (1, wv), (2, tv), (6, .pointer (some ⟨b6, 0, none⟩)), (7, .pointer (some ⟨b7, 0, none⟩)), (8, .int .i64 i), (11, .int .i64 j), (14, .int .i64 ((q + 1 : Nat) : Int))], _, by omega, ⟨rfl, rfl, rfl, rfl, rfl, rfl, rfl, rfl, trivial⟩, Ent.sel (T := []) (A := [_, _, _, _, _, _, _, _]) [3, 4, 5, 0, 6, 7] rfl, q + 1, .slice a3 (A'.length + 1) c3, A' ++ [(allowedL V (t : Int) W[j] W[q]).1], by omega, rfl, (by rw [List.length_append]; exact hv3'), (by rw [List.length_append, List.length_singleton]; omega), (by rw [hA', List.take_succ_eq_append_getElem hql, List.map_append, List.append_assoc]; rfl), rfl, rfl⟩
     ·conv=>whnf
      intro b15
      conv=>whnf
      refine .all ?_
      conv=>whnf
      refine ⟨by decide, ?_⟩
      conv=>whnf
      refine CallG.of (pre := [stP 118 s src find V n]) (allowed_at _ s src V n t W[j] W[q] haj.1 haq.1 (hs.left _) ho) (Ent.front 1 rfl) ?_
      rintro _ _ ⟨rfl, rfl⟩
      rw [hac]
      conv=>whnf
      refine .take 14 ?_
      conv=>whnf
      refine ⟨rfl, ?_⟩
      conv=>whnf
      refine .take 15 ?_
      conv=>whnf
      refine ⟨rfl, ?_⟩
      conv=>whnf
      refine .take 16 ?_
      conv=>whnf
      refine ⟨rfl, ?_⟩
      conv=>whnf
      refine .all ?_
      conv=>whnf
      refine ⟨by decide, ?_⟩
      conv=>whnf
      refine StoreG.ent (Ent.front 1 rfl) ?_
      refine StoreG.at ha4 (Upd.whole (by rw [ha4]; rfl) (uvs_one _)) ?_
      conv=>whnf
      refine .all ?_
      conv=>whnf
      refine ⟨by decide, ?_⟩
      conv=>whnf
      refine ⟨rfl, ?_⟩
      conv=>whnf
      refine LoadG.at (v := .bool true) (.tl (.tl (.tl (.tl (.tl (.here rfl)))))) ?_
      (conv=>whnf);refine .tt ?_;(conv=>whnf);refine .tt ?_;(conv=>whnf);refine .tt ?_;(conv=>whnf)
      refine StoreG.at rfl (.tl (.tl (.tl (.tl (.tl (Upd.here (by simp) rfl)))))) ?_
      conv=>whnf
      refine LoadG.at (v := v3) (.tl (.tl (.tl (.tl (.tl (.here rfl)))))) ?_
      conv=>whnf
      refine LoadNG.at (vs := uvs (allowedL V (t : Int) W[j] W[q]).1) ha4 .all ?_
      conv=>whnf
      refine BuildG.of (cs := uvs (allowedL V (t : Int) W[j] W[q]).1) (fill_oneR ha4 rfl) ?_
      conv=>whnf
      intro b16
      conv=>whnf
      refine DoesG.ent (Ent.front 5 rfl) ?_
      refine app_own widesB 42 (m := 1) (ys := uvs (allowedL V (t : Int) W[j] W[q]).1) (.mk _ _ _ _ _ (Nat.le_refl _) (.tl (.left .all _))) (by rw [ha4]) (uvs_one _) (by simp only [maxLen]; omega) (by omega) fun v3' hv3' _ _ => ?_
      obtain ⟨a3, c3, rfl⟩ := hv3'.len
      conv=>whnf
      refine StoreG.at rfl (.tl (.tl (.tl (.tl (.tl (.tl (Upd.here (by simp) rfl))))))) ?_
      conv=>whnf
      refine ArithG.i64' ((q + 1 : Nat) : Int) (by omega) (by omega) ?_
      conv=>whnf
      have eA : own 4 (.slice a3 (A'.length + 1) c3) (A'.length + 1) (A'.flatMap uvs ++ uvs (allowedL V (t : Int) W[j] W[q]).1) = own 4 (.slice a3 (A'.length + 1) c3) (A' ++ [(allowedL V (t : Int) W[j] W[q]).1]).length ((A' ++ [(allowedL V (t : Int) W[j] W[q]).1]).flatMap uvs) := by simp
      rw [eA]
      exact ⟨W.length - (q + 1), [(0, .pointer (some ⟨s, 0, none⟩)), (1, wv), (2, tv), (6, .pointer (some ⟨b6, 0, none⟩)), (7, .pointer (some ⟨b7, 0, none⟩)), (8, .int .i64 i), (11, .int .i64 j), (14, .int .i64 ((q + 1 : Nat) : Int))], _, by omega, ⟨rfl, rfl, rfl, rfl, rfl, rfl, rfl, rfl, trivial⟩, Ent.sel (T := []) (A := [_, _, _, _, _, _, _, _]) [3, 4, 5, 0, 6, 7] rfl, q + 1, .slice a3 (A'.length + 1) c3, A' ++ [(allowedL V (t : Int) W[j] W[q]).1], by omega, rfl, (by rw [List.length_append]; exact hv3'), (by rw [List.length_append, List.length_singleton]; omega), (by rw [hA', List.take_succ_eq_append_getElem hql, List.map_append, List.append_assoc]; rfl), rfl, rfl⟩
    ·have hqe : q = W.length := by omega
     rw [hqe, List.take_length] at hA'
     conv=>whnf
     refine ArithG.i64' ((j + 1 : Nat) : Int) (by omega) (by omega) ?_
     conv=>whnf
     exact ⟨W.length - (j + 1), [(0, .pointer (some ⟨s, 0, none⟩)), (1, wv), (2, tv), (6, .pointer (some ⟨b6, 0, none⟩)), (7, .pointer (some ⟨b7, 0, none⟩)), (8, .int .i64 i), (11, .int .i64 ((j + 1 : Nat) : Int))], _, by omega, ⟨rfl, rfl, rfl, rfl, rfl, rfl, rfl, trivial⟩, Ent.refl _, j + 1, w2, v3, B ++ [(balL V (t : Int) W[j]).1], A', by omega, rfl, (by rw [List.length_append]; exact hv2'), hv3, (by rw [List.length_append, List.length_singleton]; omega), (by omega),
      (by rw [hB, List.take_succ_eq_append_getElem hjl, List.map_append, List.append_assoc]; rfl), (by rw [hA', hA, List.take_succ_eq_append_getElem hjl, List.flatMap_append, List.append_assoc]; simp), rfl, rfl⟩
  ·have hje : j = W.length := by omega
   rw [hje, List.take_length] at hB hA
   conv=>whnf
   refine ArithG.i64' ((i + 1 : Nat) : Int) (by omega) (by omega) ?_
   conv=>whnf
   have eB : B = bookB V (T.take (i + 1)) W := by rw [hB, hB0, htake, bookB, bookB, List.flatMap_append]; simp
   have eA : A = bookA V (T.take (i + 1)) W := by rw [hA, hA0, htake, bookA, bookA, List.flatMap_append]; simp
   rw [eB, eA, hD]
   rw [eB] at hv2 hBl
   rw [eA] at hv3 hAl
   rw [hD] at hv1n
   exact ⟨T.length - (i + 1), [(0, .pointer (some ⟨s, 0, none⟩)), (1, wv), (2, tv), (6, .pointer (some ⟨b6, 0, none⟩)), (7, .pointer (some ⟨b7, 0, none⟩)), (8, .int .i64 ((i + 1 : Nat) : Int))], _, by omega, ⟨rfl, rfl, rfl, rfl, rfl, rfl, trivial⟩, Ent.refl _, i + 1, w1, v2, v3, by omega, rfl, hv1n, hv2, hv3, by omega, by omega, rfl, rfl⟩
 ·have hil : i = T.length := by omega
  rw [hil, List.take_length] at hv1 hv2 hv3 hBl hAl ⊢
  have hone : ∀ u ∈ [v1, v2, v3, Value.bool true], u.oneCell' = true := by
   obtain ⟨a1, c1, e1⟩ := hv1.len
   obtain ⟨a2, c2, e2⟩ := hv2.len
   obtain ⟨a3, c3, e3⟩ := hv3.len
   rw [e1, e2, e3]
   simp [Value.oneCell']
  conv=>whnf
  refine LoadNG.at (vs := [v1, v2, v3, .bool true]) rfl (.tl (.tl (.tl (.tl .all)))) ?_
  conv=>whnf
  refine StoreG.at rfl (.tl (.tl (.tl (.tl (.tl (Upd.whole rfl hone)))))) ?_
  conv=>whnf
  refine LoadNG.at (vs := [v1, v2, v3, .bool true]) rfl (.tl (.tl (.tl (.tl (.tl .all))))) ?_
  conv=>whnf
  exact ⟨_, Ent.sel (T := []) (A := [_, _, _, _, _, _]) [0, 1, 2, 3] rfl, v1, v2, v3, hv1, hv2, hv3, by omega, by omega, rfl, rfl⟩
end
end Go.Proofs.YtnbcbdlbejdkpaaGreatDoor
