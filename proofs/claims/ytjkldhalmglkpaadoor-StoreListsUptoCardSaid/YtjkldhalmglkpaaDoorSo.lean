import Derived.Test.YtjkldhalmglkpaaDoorTb
import Derived.Test.YtjkldhalmglkpaaDoorZAk
import Derived.Test.YtjkldhalmglkpaaDoorIter
import Derived.Test.YtjkldhalmglkpaaDoorZKy
import Derived.Test.YtjkldhalmglkpaaDoorGp
import Derived.Test.YtjkldhalmglkpaaDoorZCh
import Derived.Test.YtjkldhalmglkpaaDoorSn
import Derived.Test.YtjkldhalmglkpaaDoorZPa
namespace Go.Proofs.YtjkldhalmglkpaaDoor
open Go Go.Sl
theorem intsK : ElT Tryd.prog 93 3 1 8 := .of (by kernel_rfl)
section
variable {find : ByteArray → List Nat × Int}
theorem mark_k (F : List HP) (s : Nat) (src : Value) (V : View) (n a : Nat) (hn : n ≤ 4398046511104) (hh : V.hist.length ≤ 4398046511104) :
 SpecF Tryd.prog 30 [.pointer (some ⟨s, 0, none⟩)] F [stK 95 s src find V n a] (fun r L => r = .int .i64 V.hist.length ∧ L = [stK 95 s src find ⟨V.now, V.hist ++ [V.now]⟩ n a]) := by
 refine SpecF.unpack0 fun c hc => ?_
 refine SpecF.ownV 3 rfl fun hsv _ => ?_
 refine SpecF.ownV 4 rfl fun hmv hml => ?_
 have hst := hc.atV.steps
 have hmk := hc.atV.marks
 refine fun30.spec rfl ?_
 conv=>whnf
 refine DrawG.mk 14 (cel s 95 [src, .map (some c.hb), .map (some c.nb), c.sv, c.mv] :: mapS c.hb (kvM c.has) :: mapS c.nb (kvM c.now) :: own 3 c.sv c.steps.length (stepsC c.steps) :: (kvS c.has ++ (kvS c.now ++ stepsS c.steps))) [own 1 c.mv c.marks.length (c.marks.map fun n : Nat => Value.int .i64 n)] (Ent.front 4 rfl) ?_
 conv=>whnf
 refine .take 0 ?_
 conv=>whnf
 refine ⟨rfl, ?_⟩
 conv=>whnf
 refine .take 1 ?_
 conv=>whnf
 refine ⟨rfl, ?_⟩
 conv=>whnf
 refine .take 2 ?_
 conv=>whnf
 refine ⟨rfl, ?_⟩
 conv=>whnf
 refine .take 3 ?_
 conv=>whnf
 refine ⟨rfl, ?_⟩
 conv=>whnf
 refine .take 4 ?_
 conv=>whnf
 refine ⟨rfl, ?_⟩
 conv=>whnf
 refine LoadG.at (.here rfl) ?_
 conv=>whnf
 refine .take 5 ?_
 conv=>whnf
 refine ⟨rfl, ?_⟩
 conv=>whnf
 refine .take 6 ?_
 conv=>whnf
 refine ⟨rfl, ?_⟩
 conv=>whnf
 refine .take 7 ?_
 conv=>whnf
 refine ⟨rfl, ?_⟩
 conv=>whnf
 refine .take 8 ?_
 conv=>whnf
 refine ⟨rfl, ?_⟩
 conv=>whnf
 refine LoadG.at (.here rfl) ?_
 conv=>whnf
 refine .take 9 ?_
 conv=>whnf
 refine ⟨rfl, ?_⟩
 conv=>whnf
 refine LenG.sl hsv ?_
 conv=>whnf
 refine .all ?_
 conv=>whnf
 refine ⟨by decide, ?_⟩
 conv=>whnf
 refine BuildG.of rfl ?_
 conv=>whnf
 intro b
 conv=>whnf
 refine .all ?_
 conv=>whnf
 refine ⟨by decide, ?_⟩
 conv=>whnf
 refine DoesG.ent (Ent.front 1 rfl) ?_
 refine app_own intsK 93 (m := 1) (ys := [.int .i64 c.steps.length]) (.mk _ _ _ _ _ (Nat.le_refl _) (.tl (.left .all _))) rfl (by simp [Value.oneCell']) (by simp only [maxLen]; omega) (by omega) fun mv hmv' hml' _ => ?_
 conv=>whnf
 refine .all ?_
 conv=>whnf
 refine ⟨by decide, ?_⟩
 conv=>whnf
 refine .all ?_
 conv=>whnf
 refine ⟨by decide, ?_⟩
 conv=>whnf
 refine .all ?_
 conv=>whnf
 refine ⟨by decide, ?_⟩
 conv=>whnf
 refine ⟨rfl, ?_⟩
 obtain ⟨ma, mc, rfl⟩ := hmv'.len
 conv=>whnf
 refine StoreG.at rfl (Upd.tl (Upd.tl (Upd.here (by simp) rfl))) ?_
 conv=>whnf
 refine ⟨rfl, ?_⟩
 conv=>whnf
 refine LoadG.at (.tl (.tl (.here rfl))) ?_
 conv=>whnf
 refine LenG.lit ?_
 conv=>whnf
 refine ArithG.i64' (V.hist.length : Int) (by rw [hmk]; omega) (by omega) ?_
 conv=>whnf
 obtain ⟨c', hc'⟩ : ∃ z, z = { c with marks := c.marks ++ [c.steps.length], mv := .slice ma (c.marks.length + 1) mc } := ⟨_, rfl⟩
 have hat : AtK find ⟨V.now, V.hist ++ [V.now]⟩ n a c' := hc.mark (by rw [hc']) (by rw [hc']) (by rw [hc']) (by rw [hc']) (by rw [hc']; exact ⟨hc.atV.wf.has, hc.atV.wf.now, hc.atV.wf.steps⟩)
 refine ⟨_, ?_, rfl, rfl⟩
 refine Ent.trans ?_ (Ent.pack0 (ls := fun c => StC.pieces 95 s src c) hat)
 rw [hc']
 simp only [StC.pieces, List.length_append, List.length_cons, List.length_nil, List.map_append, List.map_cons, List.map_nil]
 exact Ent.sel (T := kvS c.has ++ (kvS c.now ++ stepsS c.steps)) (A := [_, _, _, _, _, _]) [2, 3, 4, 5, 0] rfl
theorem back_k (F : List HP) (s : Nat) (src : Value) (V : View) (n a : Nat) (hn : n ≤ 4398046511104) (hh : V.hist.length ≤ 4398046511104) (m : Int) (hm1 : -9223372036854775808 ≤ m) (hm2 : m ≤ 9223372036854775807) :
 SpecF Tryd.prog 31 [.pointer (some ⟨s, 0, none⟩), .int .i64 m] F [stK 95 s src find V n a] (fun r L => r = .int .i64 (backE V m) ∧ L = [stK 95 s src find (backV V m) n a]) := by
 refine SpecF.unpack0 fun c hc => ?_
 refine SpecF.ownV 3 rfl fun hsv hsl => ?_
 refine SpecF.ownV 4 rfl fun hmv hml => ?_
 have hst := hc.atV.steps
 have hmk := hc.atV.marks
 obtain ⟨sa, sc, hsv2⟩ := hsv.len
 obtain ⟨ma, mc, hmv2⟩ := hmv.len
 refine fun31.spec rfl ?_
 conv=>whnf
 refine CondG.dec (fun h1 => ?_) (fun h1 => ?_)
 ·have e1 : backE V m = 72 := by unfold backE; rw [if_pos (.inl h1)]
  have e2 : backV V m = V := by unfold backV; rw [if_pos (.inl h1)]
  rw [e1, e2]
  (conv=>whnf);refine .tt ?_;(conv=>whnf);refine .tt ?_;(conv=>whnf);refine .tt ?_;(conv=>whnf);refine .tt ?_;(conv=>whnf);refine .tt ?_;(conv=>whnf);refine .tt ?_;(conv=>whnf);refine .tt ?_;(conv=>whnf);refine .tt ?_;(conv=>whnf)
  exact ⟨_, Ent.pack0 (ls := fun c => StC.pieces 95 s src c) hc, rfl, rfl⟩
 (conv=>whnf);refine .ff ?_;(conv=>whnf);refine .ff ?_;(conv=>whnf);refine .ff ?_;(conv=>whnf);refine .ff ?_;(conv=>whnf)
 refine LoadG.at (.here rfl) ?_
 (conv=>whnf);refine .ff ?_;(conv=>whnf)
 refine LenG.sl hmv ?_
 (conv=>whnf);refine .ff ?_;(conv=>whnf);refine .ff ?_;(conv=>whnf)
 refine CondG.dec (fun h2 => ?_) (fun h2 => ?_)
 ·have e1 : backE V m = 72 := by unfold backE; rw [if_pos (.inr (by omega))]
  have e2 : backV V m = V := by unfold backV; rw [if_pos (.inr (by omega))]
  rw [e1, e2]
  conv=>whnf
  exact ⟨_, Ent.pack0 (ls := fun c => StC.pieces 95 s src c) hc, rfl, rfl⟩
 have hlt : m.toNat < c.marks.length := by omega
 obtain ⟨k, rfl⟩ : ∃ k : Nat, m = k := ⟨m.toNat, (Int.toNat_of_nonneg (by omega)).symm⟩
 rw [Int.toNat_natCast] at hlt
 obtain ⟨at_, hat⟩ : ∃ a, c.marks[k]? = some a := ⟨c.marks[k], List.getElem?_eq_getElem hlt⟩
 have hle : at_ ≤ c.steps.length := by
  have hlt2 : k < V.hist.length := by rw [← hmk]; exact hlt
  exact (hc.atV.hist k at_ _ hat (List.getElem?_eq_getElem hlt2)).1
 conv=>whnf
 refine LoadG.at (.here rfl) ?_
 conv=>whnf
 refine IdxG.rd (L := c.pieces 95 s src) (.tl (.tl (.tl (.tl (own_rd hmv hml))))) (by omega) fun b o hcl => ?_
 conv=>whnf
 refine LoadG.at (hcl.one (u := .int .i64 at_) (by rw [Int.toNat_natCast, Nat.mul_one, List.getElem?_map, hat]; rfl)) ?_
 conv=>whnf
 refine LoadG.at (.here rfl) ?_
 conv=>whnf
 refine LenG.sl hsv ?_
 conv=>whnf
 refine ArithG.i64 (by omega) ?_
 conv=>whnf
 refine LoopG.mk (fun i ev L => ∃ (nw : List (KV ByteArray)), at_ ≤ i ∧ i ≤ c.steps.length ∧ nowFun nw = undoTo c.steps i c.nowF ∧ (∀ p ∈ nw, SlV p.2.1 p.2.2.length ∧ p.2.2.length ≤ 4096) ∧
  ev = [(0, .pointer (some ⟨s, 0, none⟩)), (1, .int .i64 k), (4, .int .i64 0), (5, .int .i64 at_), (6, .int .i64 ((i : Int) - 1))] ∧ L = ({ c with now := nw } : StC).pieces 95 s src) c.steps.length
  [(0, .pointer (some ⟨s, 0, none⟩)), (1, .int .i64 k), (4, .int .i64 0), (5, .int .i64 at_), (6, .int .i64 ((c.steps.length : Int) - 1))] _ ⟨rfl, rfl, rfl, rfl, rfl, trivial⟩ (Ent.refl _)
  ⟨c.now, hle, Nat.le_refl _, (undoTo_all (Nat.le_refl _) _).symm, hc.atV.wf.now, rfl, rfl⟩ ?_
 rintro i ev L ⟨nw, hi1, hi2, hnw, hwn, rfl, rfl⟩
 conv=>whnf
 refine CondG.dec (fun h3 => ?_) (fun h3 => ?_)
 ·obtain ⟨j, rfl⟩ : ∃ j, i = j + 1 := ⟨i - 1, by omega⟩
  obtain ⟨x, hx⟩ : ∃ x, c.steps[j]? = some x := ⟨c.steps[j], List.getElem?_eq_getElem (by omega)⟩
  have hxm := List.mem_of_getElem? hx
  obtain ⟨hxs, hxl⟩ := hc.atV.wf.steps x hxm
  have hback : nowFun (backK x nw) = undoTo c.steps j c.nowF := by rw [backK_fun, hnw, ← undoTo_step hx]
  conv=>whnf
  refine LoadG.at (.here rfl) ?_
  conv=>whnf
  refine IdxG.rd (L := ({ c with now := nw } : StC).pieces 95 s src) (n := c.steps.length) (cs := stepsC c.steps) (.tl (.tl (.tl (own_rd hsv hsl)))) (by omega) fun b o hcl => ?_
  conv=>whnf
  have hjn : (((j + 1 : Nat) : Int) - 1).toNat = j := by omega
  refine LoadNG.at (vs := x.cells) rfl (by rw [hjn]; exact hcl.part (i := j * 3) (stepsC_at hx)) ?_
  conv=>whnf
  intro b7
  conv=>whnf
  obtain ⟨xa, xc, hxw⟩ := hxs.len
  refine StoreG.at (cs := x.cells) rfl (Upd.whole (by rfl) (by simp [StepC.cells, Value.oneCell', hxw])) ?_
  conv=>whnf
  refine LoadG.at (v := .bool x.laid) (.here rfl) ?_
  conv=>whnf
  refine CondG.split (fun hld => ?_) (fun hld => ?_)
  ·conv=>whnf
   refine DrawG.mk 8 _ [] (Ent.refl _) ?_
   conv=>whnf
   refine .take 0 ?_
   conv=>whnf
   refine ⟨rfl, ?_⟩
   conv=>whnf
   refine .take 1 ?_
   conv=>whnf
   refine ⟨rfl, ?_⟩
   conv=>whnf
   refine .take 2 ?_
   conv=>whnf
   refine ⟨rfl, ?_⟩
   conv=>whnf
   refine .take 3 ?_
   conv=>whnf
   refine ⟨rfl, ?_⟩
   conv=>whnf
   refine LoadG.at (.tl (.here rfl)) ?_
   conv=>whnf
   refine .take 4 ?_
   conv=>whnf
   refine ⟨rfl, ?_⟩
   conv=>whnf
   refine .take 5 ?_
   conv=>whnf
   refine ⟨rfl, ?_⟩
   conv=>whnf
   refine LoadG.at (v := .string x.key) (.here rfl) ?_
   conv=>whnf
   refine .take 6 ?_
   conv=>whnf
   refine ⟨rfl, ?_⟩
   conv=>whnf
   refine .take 7 ?_
   conv=>whnf
   refine ⟨rfl, ?_⟩
   conv=>whnf
   refine LoadG.at (v := x.was) (.here rfl) ?_
   conv=>whnf
   refine .all ?_
   conv=>whnf
   refine ⟨by decide, ?_⟩
   conv=>whnf
   refine ⟨rfl, ?_⟩
   conv=>whnf
   refine DoesG.ent (Ent.front 3 rfl) ?_
   refine DoesG.upd strT mapT trivial ?_
   rw [putM_kv nw x.key x.was x.bs]
   conv=>whnf
   refine ⟨rfl, ?_⟩
   conv=>whnf
   refine ArithG.i64' ((j : Int) - 1) (by omega) (by omega) ?_
   conv=>whnf
   refine ⟨j, [(0, .pointer (some ⟨s, 0, none⟩)), (1, .int .i64 k), (4, .int .i64 0), (5, .int .i64 at_), (6, .int .i64 ((j : Int) - 1))], ({ c with now := putK nw x.key x.was x.bs } : StC).pieces 95 s src, by omega, ⟨rfl, rfl, rfl, rfl, rfl, trivial⟩, ?_, putK nw x.key x.was x.bs, by omega, by omega, ?_, putK_all hwn ⟨hxs, hxl⟩, rfl, rfl⟩
   ·refine (Ent.under (Ent.under (back_put hxm) (kvS c.has)) [_, _, _, _, _, _]).trans ?_
    exact Ent.sel (T := kvS c.has ++ (kvS (putK nw x.key x.was x.bs) ++ stepsS c.steps)) (A := [_, _, _, _, _, _]) [2, 3, 0, 4, 5] rfl
   ·rw [← hback]
    unfold backK
    rw [if_pos hld]
  ·conv=>whnf
   refine DrawG.mk 7 (cel b7 100 x.cells :: cel s 95 [src, .map (some c.hb), .map (some c.nb), c.sv, c.mv] :: mapS c.hb (kvM c.has) :: own 3 c.sv c.steps.length (stepsC c.steps) :: own 1 c.mv c.marks.length (c.marks.map fun n : Nat => Value.int .i64 n) :: (kvS c.has ++ (kvS nw ++ stepsS c.steps))) [mapS c.nb (kvM nw)] (Ent.front 3 rfl) ?_
   conv=>whnf
   refine .take 0 ?_
   conv=>whnf
   refine ⟨rfl, ?_⟩
   conv=>whnf
   refine .take 1 ?_
   conv=>whnf
   refine ⟨rfl, ?_⟩
   conv=>whnf
   refine .take 2 ?_
   conv=>whnf
   refine ⟨rfl, ?_⟩
   conv=>whnf
   refine .take 3 ?_
   conv=>whnf
   refine ⟨rfl, ?_⟩
   conv=>whnf
   refine LoadG.at (.tl (.here rfl)) ?_
   conv=>whnf
   refine .take 4 ?_
   conv=>whnf
   refine ⟨rfl, ?_⟩
   conv=>whnf
   refine .take 5 ?_
   conv=>whnf
   refine ⟨rfl, ?_⟩
   conv=>whnf
   refine LoadG.at (v := .string x.key) (.here rfl) ?_
   conv=>whnf
   refine .all ?_
   conv=>whnf
   refine ⟨by decide, ?_⟩
   conv=>whnf
   refine DoesG.delM strT mapT trivial ?_
   rw [delM_kv nw x.key]
   conv=>whnf
   refine ⟨rfl, ?_⟩
   conv=>whnf
   refine ArithG.i64' ((j : Int) - 1) (by omega) (by omega) ?_
   conv=>whnf
   refine ⟨j, [(0, .pointer (some ⟨s, 0, none⟩)), (1, .int .i64 k), (4, .int .i64 0), (5, .int .i64 at_), (6, .int .i64 ((j : Int) - 1))], ({ c with now := delK nw x.key } : StC).pieces 95 s src, by omega, ⟨rfl, rfl, rfl, rfl, rfl, trivial⟩, ?_, delK nw x.key, by omega, by omega, ?_, fun p hp => hwn p (List.mem_filter.1 hp).1, rfl, rfl⟩
   ·refine (Ent.under (Ent.under (kvS_del (x := x.key)) (kvS c.has)) [_, _, _, _, _, _]).trans ?_
    exact Ent.sel (T := kvS c.has ++ (kvS (delK nw x.key) ++ stepsS c.steps)) (A := [_, _, _, _, _, _]) [2, 3, 0, 4, 5] rfl
   ·rw [← hback]
    unfold backK
    rw [if_neg (by simp [hld])]
 ·obtain rfl : at_ = i := by omega
  conv=>whnf
  refine LoadG.at (.here rfl) ?_
  rw [hsv2]
  rw [hsv2] at hsv
  conv=>whnf
  refine SlcG.lit ?_
  have hcap : c.steps.length ≤ sc := by
   rcases hsv with ⟨h, h0⟩ | ⟨g, cap, h, hn⟩
   ·omega
   ·cases h; exact hn
  conv=>whnf
  refine SideG.of (by omega) ?_
  conv=>whnf
  refine SliceG.zero ?_
  conv=>whnf
  refine StoreG.at rfl (Upd.here (by simp) rfl) ?_
  conv=>whnf
  refine LoadG.at (.here rfl) ?_
  rw [hmv2]
  rw [hmv2] at hmv
  conv=>whnf
  refine ArithG.i64' ((k + 1 : Nat) : Int) (by omega) (by omega) ?_
  conv=>whnf
  refine SlcG.lit ?_
  have hcap2 : c.marks.length ≤ mc := by
   rcases hmv with ⟨h, h0⟩ | ⟨g, cap, h, hn⟩
   ·omega
   ·cases h; exact hn
  conv=>whnf
  refine SideG.of (by omega) ?_
  conv=>whnf
  refine SliceG.zero ?_
  conv=>whnf
  refine StoreG.at rfl (Upd.here (by simp) rfl) ?_
  conv=>whnf
  have hkl : k < V.hist.length := by rw [← hmk]; exact hlt
  have e1 : backE V k = 0 := by unfold backE; rw [if_neg (by omega)]
  obtain ⟨c', hc'⟩ : ∃ z, z = ({ c with now := nw, steps := c.steps.take at_, marks := c.marks.take (k + 1), sv := .slice sa at_ sc, mv := .slice ma (k + 1) mc } : StC) := ⟨_, rfl⟩
  have hg : Gone c k at_ c' := by
   rw [hc']
   exact ⟨rfl, hnw, rfl, rfl, ⟨hc.atV.wf.has, hwn, fun x hx => hc.atV.wf.steps x (List.mem_of_mem_take hx)⟩⟩
  obtain ⟨f, hf, hat2⟩ := hc.back hat hg
  have e2 : backV V k = ⟨f, V.hist.take (k + 1)⟩ := by
   unfold backV
   rw [if_neg (by omega), Int.toNat_natCast, hf]
  rw [e1, e2]
  refine ⟨_, ?_, rfl, rfl⟩
  refine Ent.trans ?_ (Ent.pack0 (ls := fun c => StC.pieces 95 s src c) hat2)
  rw [hc']
  have a1 : (c.steps.take at_).length = at_ := by rw [List.length_take]; omega
  have a2 : (c.marks.take (k + 1)).length = k + 1 := by rw [List.length_take]; omega
  simp only [StC.pieces, a1, a2]
  rw [← stepsC_take, List.map_take]
  refine (Ent.under (own_take hle) [_, _, _]).trans ?_
  refine (Ent.under (own_take (k := k + 1) (by omega)) [_, _, _, _]).trans ?_
  rw [Nat.mul_one]
  exact Ent.under (Ent.under (Ent.under steps_take (kvS nw)) (kvS c.has)) [_, _, _, _, _]
end
end Go.Proofs.YtjkldhalmglkpaaDoor
namespace Go.Proofs.YtjkldhalmglkpaaDoor
open Go Go.Sl Go.RowKit Go.Maps Go.Sort Go.Shelf
theorem keys_spec (F : List HP) (mb : Option Nat) : SpecF Tryd.prog 57 [.map mb] F [] (fun r L => ∃ g, r = .func (.func 79) #[] #[.pointer (some ⟨g, 0, none⟩)] ∧ L = [blk g (.cells #[.map mb] 84)]) := fun w hs => by
 refine (callsIn_wide.1 (Tryd.maps_Keys_57 mb w)).mono ?_
 rintro e w' ⟨rfl, rfl⟩
 exact ⟨_, _, rfl, ⟨w.heap.size, rfl, rfl⟩, Ext.alloc _ _, Sat.alloc hs _⟩
theorem sorted_spec (F : List HP) (g b : Nat) (m : List (ByteArray × Value)) (hm : m.length ≤ 8796093022207) (hk : ∀ p ∈ m, p.1.size ≤ maxLen) :
 SpecF Tryd.prog 56 [.func (.func 79) #[] #[.pointer (some ⟨g, 0, none⟩)]] F [blk g (.cells #[.map (some b)] 84), mapS b m] (fun r L => ∃ ss : List (List UInt8), SlV r ss.length ∧ ss.Perm (m.map fun p => p.1.data.toList) ∧
  L = [own 1 r ss.length ((ss.mergeSort leB).map encStr), blk g (.cells #[.map (some b)] 84), mapS b m]) := fun w hs => by
 obtain ⟨o, ho, hM⟩ := (MapG.tl (p := blk g (.cells #[.map (some b)] 84)) (MapG.here (L := F))) w hs
 have hg : w.heap[g]? = some (.cells #[.map (some b)] 84) := hs.blk_heap
 obtain ⟨D0, hown, hperm, hsize⟩ := owns_of (H := Unit) (P := Tryd.prog) (k := 9) (by kernel_rfl) ho hM (by simp only [maxLen]; omega) hk
 have hcell : w.cell? ⟨g, 0, none⟩ = some (.map (some b)) := cell_of_heap hg rfl
 have hseq : SeqGives Fence.wide 2 Tryd.prog 79 #[.pointer (some ⟨g, 0, none⟩)] encStr (fun ss => ss.Perm (strKeys D0)) (Maps.size D0) w :=
  AnyZ.keys_gives (ρ := Tryd.keys57_ren) { Tryd.keys57 with } Fence.wide _ trivial rfl (by omega) g b m.length D0 w ((Array.getElem?_eq_some_iff.1 hg).1) hcell hown
 refine (callsIn_wide.1 (AnyZ.sorted_in Tryd.sorted56 Fence.wide 5 trivial trivial trivial trivial rfl (by omega) (Tryd.sorts56 _) (enters_of Tryd.func78 (by kernel_rfl) rfl) 79 #[.pointer (some ⟨g, 0, none⟩)] trivial (enters_of Tryd.func79 (by kernel_rfl) rfl) _ _ (by rw [hsize]; simp only [maxLen]; omega) (by rw [hsize]; omega) w hseq)).mono ?_
 rintro e w' ⟨v, ss, rfl, hS, hrow, _, hb⟩
 obtain ⟨h1, h2⟩ := Sat.ownRow hs hb.block hrow
 exact ⟨v, _, rfl, ⟨ss, h2, hS.trans hperm, rfl⟩, ⟨hb.os, hb.tape, hb.output, hb.size⟩, h1⟩
end Go.Proofs.YtjkldhalmglkpaaDoor
namespace Go.Proofs.YtjkldhalmglkpaaDoor
open Go Go.Sl Go.Sort
section
variable {find : ByteArray → List Nat × Int}
theorem get_k (F : List HP) (s : Nat) (src : Value) (V : View) (n a : Nat) (key : ByteArray) (hs : SrcG Tryd.prog F src find) (ho : SrcOk find) (hk : mayI key 0 = 0) :
 SpecF Tryd.prog 25 [.pointer (some ⟨s, 0, none⟩), .string key] F [stK 95 s src find V n a] (fun r L => ∃ x, SlV x (V key).length ∧ (V key).length ≤ 4096 ∧ r = .tuple #[x, .int .i64 0] ∧ L = [own 1 x (V key).length (bvs (V key)), stK 95 s src find V n (a + 1)]) :=
 SpecF.unpack0 fun c hc => (get_spec F s src c key find hs (fun k => by have := ho.len k; omega) hc.atV.wf).turn fun v L h => by
  rcases h with ⟨h1, _⟩ | ⟨_, h2, _⟩ | ⟨_, _, c', x, hc', hx, rfl, rfl⟩
  ·exact absurd hk h1
  ·exact absurd (ho.ask hk) h2
  ·have ht := (hc'.tells hc.atV.wf).trans (hc.atV.lv key)
   have h4 := (StC.rd (T := 0) (s := 0) (src := .nilIface) (key := key) (hc'.wf hc.atV.wf)).2.2
   rw [ht] at hx h4 ⊢
   exact ⟨_, ⟨x, hx, h4, rfl, rfl⟩, Ent.under (Ent.pack0 (ls := fun c => StC.pieces 95 s src c) (hc.ask hk hc')) [_]⟩
theorem mayI_size {k : ByteArray} (h : mayI k 0 = 0) : k.size ≤ maxLen := by
 unfold mayI at h
 split at h
 ·cases h
 ·simp only [maxLen]
  omega
theorem touched_c (F : List HP) (s : Nat) (src : Value) (c : StC) (hm : c.has.length ≤ 8796093022207) (hk : ∀ p ∈ c.has, mayI p.1 0 = 0) :
 SpecF Tryd.prog 34 [.pointer (some ⟨s, 0, none⟩)] F (c.pieces 95 s src) (fun r L => ∃ ss : List (List UInt8), SlV r ss.length ∧ ss.Perm (c.has.map fun p => p.1.data.toList) ∧ L = own 1 r ss.length ((ss.mergeSort leB).map encStr) :: c.pieces 95 s src) := by
 refine fun34.spec rfl ?_
 conv=>whnf
 refine LoadG.at (.here rfl) ?_
 conv=>whnf
 refine CallG.pure (keys_spec _ _) ?_
 rintro _ _ ⟨g, rfl, rfl⟩
 conv=>whnf
 refine CallG.of (pre := [blk g (.cells #[.map (some c.hb)] 84), mapS c.hb (kvM c.has)]) (rest := cel s 95 [src, .map (some c.hb), .map (some c.nb), c.sv, c.mv] :: mapS c.nb (kvM c.now) :: own 3 c.sv c.steps.length (stepsC c.steps) :: own 1 c.mv c.marks.length (c.marks.map fun n : Nat => Value.int .i64 n) :: (kvS c.has ++ (kvS c.now ++ stepsS c.steps)))
  (sorted_spec _ g c.hb (kvM c.has) (by rw [kvM, List.length_map]; exact hm) (fun p hp => by
   obtain ⟨q, hq, rfl⟩ := List.mem_map.1 hp
   exact mayI_size (hk q hq))) (Ent.sel (T := kvS c.has ++ (kvS c.now ++ stepsS c.steps)) (A := [_, _, _, _, _, _]) [0, 2, 1, 3, 4, 5] rfl) ?_
 rintro v _ ⟨ss, hv, hp, rfl⟩
 conv=>whnf
 exact ⟨_, Ent.sel (T := kvS c.has ++ (kvS c.now ++ stepsS c.steps)) (A := [_, _, _, _, _, _, _]) [0, 3, 2, 4, 5, 6] rfl, ss, hv, by rw [kvM, List.map_map] at hp; exact hp, rfl⟩
end
end Go.Proofs.YtjkldhalmglkpaaDoor
namespace Go.Proofs.YtjkldhalmglkpaaDoor
open Go Go.Sl Go.Sort
theorem changesT : ElT Tryd.prog 63 66 3 64 := .of (by kernel_rfl)
theorem equal_spec (F : List HP) (va vb : Value) (a b : List Nat) (ha : RdS F va a.length (bvs a)) (hb : RdS F vb b.length (bvs b)) :
 SpecF Tryd.prog 55 [va, vb] F [] (fun r L => r = .bool (decide (strB a = strB b)) ∧ L = []) := by
 refine fun55.spec rfl ?_
 conv=>whnf
 refine DoesG.toStr (e := 5) (bs := a) (by kernel_rfl) (by kernel_rfl) (by kernel_rfl) (.right ha []) rfl ?_
 conv=>whnf
 refine DoesG.toStr (e := 5) (bs := b) (by kernel_rfl) (by kernel_rfl) (by kernel_rfl) (.right hb []) rfl ?_
 conv=>whnf
 exact ret_here ⟨rfl, rfl⟩
theorem hasV_rd {T s : Nat} {src : Value} {c : StC} (hw : c.wf) (k : ByteArray) : RdS (c.pieces T s src) (hasV c k) (hasL c k).length (bvs (hasL c k)) ∧ SlV (hasV c k) (hasL c k).length ∧ (hasL c k).length ≤ 4096 := by
 unfold hasV hasL
 cases h3 : getK c.has k with
 | some p =>
  have hm := getK_mem h3
  have h2 := hw.has _ hm
  exact ⟨.tl (.tl (.tl (.tl (.tl (kvS_rd (q := (k, p)) hm h2.1))))), h2.1, h2.2⟩
 | none => exact ⟨.nil, .inl ⟨rfl, rfl⟩, Nat.zero_le _⟩
theorem turn_perm {n o q : HP} {P S : List HP} : (n :: o :: (P ++ (q :: S))).Perm (q :: ((S ++ [o, n]) ++ P)) := by
 refine (List.perm_middle (l₁ := n :: o :: P)).trans (List.Perm.cons _ ?_)
 refine (List.perm_append_comm (l₁ := n :: o :: P) (l₂ := S)).trans ?_
 rw [List.append_assoc]
 exact List.Perm.append_left S (List.Perm.swap _ _ _)
theorem changes_c (F : List HP) (s : Nat) (src : Value) (c : StC) (hw : c.wf) (hm : c.has.length ≤ 3500000000000) (hk : ∀ p ∈ c.has, mayI p.1 0 = 0) :
 SpecF Tryd.prog 32 [.pointer (some ⟨s, 0, none⟩)] F (c.pieces 95 s src) (fun r L => ∃ (ss : List (List UInt8)) (l : List ChD), ss.Perm (c.has.map fun p => p.1.data.toList) ∧ SlV r l.length ∧ (∀ d ∈ l, SlV d.ov d.old.length ∧ SlV d.nv d.new.length) ∧
  l.map (fun d => (d.key, d.old, d.new)) = (((ss.mergeSort leB).map strOfB).filter (turned c)).map (fun k => (k, hasL c k, c.val k)) ∧ L = c.pieces 95 s src ++ (own 3 r l.length (l.flatMap ChD.cells) :: chS l)) := by
 refine fun32.spec rfl ?_
 conv=>whnf
 refine CallG.of (rest := []) (touched_c _ s src c (by omega) hk) (by rw [List.append_nil]; exact Ent.refl _) ?_
 rintro kv _ ⟨ss, hkv, hp, rfl⟩
 obtain ⟨K, hK⟩ : ∃ K, K = (ss.mergeSort leB).map strOfB := ⟨_, rfl⟩
 have hKl : K.length = ss.length := by rw [hK, List.length_map, List.length_mergeSort]
 have hcs : (ss.mergeSort leB).map encStr = keysB K := by rw [hK, keysB, List.map_map]; rfl
 rw [hcs, ← hKl, List.append_nil]
 rw [← hKl] at hkv
 have hKn : K.length ≤ 3500000000000 := by
  have := hp.length_eq
  rw [List.length_map] at this
  omega
 conv=>whnf
 refine LenG.sl hkv ?_
 conv=>whnf
 have kB : ∀ i (h : i < K.length), (keysB K)[i]? = some (.string K[i]) := fun i h => by rw [keysB, List.getElem?_map, List.getElem?_eq_getElem h]; rfl
 have kBl : (keysB K).length = K.length * 1 := by rw [keysB, List.length_map, Nat.mul_one]
 refine LoopG.mk (fun mm e L => ∃ (i : Nat) (l : List ChD) (v : Value), i ≤ K.length ∧ mm = K.length - i ∧ SlV v l.length ∧ l.length ≤ i ∧ (∀ d ∈ l, SlV d.ov d.old.length ∧ SlV d.nv d.new.length) ∧ l.map (fun d => (d.key, d.old, d.new)) = ((K.take i).filter (turned c)).map (fun k => (k, hasL c k, c.val k)) ∧
  e = [(0, .pointer (some ⟨s, 0, none⟩)), (2, .slice none 0 0), (3, v), (8, kv), (9, .int .i64 K.length), (10, .int .i64 i)] ∧ L = own 3 v l.length (l.flatMap ChD.cells) :: own 1 kv K.length (keysB K) :: (chS l ++ c.pieces 95 s src)) K.length
  [(0, .pointer (some ⟨s, 0, none⟩)), (2, .slice none 0 0), (3, .slice none 0 0), (8, kv), (9, .int .i64 K.length), (10, .int .i64 0)] (own 3 (.slice none 0 0) 0 [] :: own 1 kv K.length (keysB K) :: (chS [] ++ c.pieces 95 s src)) ⟨rfl, rfl, rfl, rfl, rfl, rfl, trivial⟩ (fun w G hs => Sat.own_nil hs)
  ⟨0, [], .slice none 0 0, by omega, rfl, .inl ⟨rfl, rfl⟩, Nat.le_refl _, fun d hd => absurd hd (List.not_mem_nil), by simp, rfl, rfl⟩ ?_
 rintro mm e L ⟨i, l, v, hi, rfl, hv, hll, hsv, hmap, rfl, rfl⟩
 conv=>whnf
 refine CondG.dec (fun h1 => ?_) (fun h1 => ?_)
 ·have hil : i < K.length := by omega
  obtain ⟨k, hkk⟩ : ∃ k, k = K[i] := ⟨_, rfl⟩
  obtain ⟨hrd, hsl, hle⟩ := StC.rd (T := 95) (s := s) (src := src) (key := k) hw
  have ehv : (Option.map (fun x : Value × List Nat => x.fst) (getK c.has k)).getD (.slice none 0 0) = hasV c k := rfl
  obtain ⟨hrd2, hsl2, hle2⟩ := hasV_rd (T := 95) (s := s) (src := src) hw k
  conv=>whnf
  refine IdxG.rd (L := own 1 kv K.length (keysB K) :: (chS l ++ c.pieces 95 s src)) (own_rd hkv kBl) (by omega) fun cb o hcc => ?_
  conv=>whnf
  refine LoadG.at (v := .string k) (.tl (hcc.one (i := ((i : Nat) : Int).toNat * 1) (by rw [Int.toNat_natCast, Nat.mul_one, hkk]; exact kB i hil))) ?_
  clear hcc
  conv=>whnf
  obtain ⟨A, hA⟩ : ∃ A, A = own 3 v l.length (l.flatMap ChD.cells) :: own 1 kv K.length (keysB K) :: chS l := ⟨_, rfl⟩
  have hEnt : Ent (own 3 v l.length (l.flatMap ChD.cells) :: own 1 kv K.length (keysB K) :: (chS l ++ c.pieces 95 s src)) (c.pieces 95 s src ++ A) := by
   rw [hA]
   exact Ent.perm (List.perm_append_comm (l₁ := own 3 v l.length (l.flatMap ChD.cells) :: own 1 kv K.length (keysB K) :: chS l) (l₂ := c.pieces 95 s src))
  refine CallG.of (pre := []) (rest := c.pieces 95 s src ++ A) (by rw [List.append_assoc]; exact value_spec (A ++ F) s src c k []) hEnt ?_
  rintro _ _ ⟨rfl, rfl⟩
  conv=>whnf
  refine LoadG.at (.here rfl) ?_
  conv=>whnf
  refine DoesG.look strT mapT zeroB trivial (MapG.left (MapG.left (.tl .here) A) F) false ?_
  rw [getM_kv]
  simp only [Bool.false_eq_true, if_false]
  rw [ehv]
  conv=>whnf
  refine CallG.of (pre := []) (rest := c.pieces 95 s src ++ A) (equal_spec _ (c.valV k) (hasV c k) (c.val k) (hasL c k) ((hrd.left A).left F) ((hrd2.left A).left F)) (Ent.refl _) ?_
  rintro _ _ ⟨rfl, rfl⟩
  conv=>whnf
  refine CondG.split (fun ht => ?_) (fun ht => ?_)
  ·have htk : turned c k = true := ht
   conv=>whnf
   refine LoadG.at (.here rfl) ?_
   conv=>whnf
   refine DoesG.look strT mapT zeroB trivial (MapG.left (MapG.left (.tl .here) A) F) false ?_
   rw [getM_kv]
   simp only [Bool.false_eq_true, if_false]
   rw [ehv]
   conv=>whnf
   refine CallG.of (pre := []) (rest := c.pieces 95 s src ++ A) (clone_spec _ (hasV c k) (hasL c k) (by omega) ((hrd2.left A).left F)) (Ent.refl _) ?_
   rintro ov _ ⟨hov, rfl, _⟩
   conv=>whnf
   refine CallG.of (pre := []) (rest := own 1 ov (hasL c k).length (bvs (hasL c k)) :: (c.pieces 95 s src ++ A)) (clone_spec _ (c.valV k) (c.val k) (by omega) (.tl ((hrd.left A).left F))) (Ent.refl _) ?_
   rintro nv _ ⟨hnv, rfl, _⟩
   obtain ⟨oa, oc, hoe⟩ := hov.len
   obtain ⟨na, nc, hne⟩ := hnv.len
   conv=>whnf
   refine BuildG.of (cs := [.string k, ov, nv]) (by rw [hoe, hne]; rfl) ?_
   conv=>whnf
   refine BuildG.of (cs := [.string k, ov, nv]) (by rw [hoe, hne]; rfl) ?_
   conv=>whnf
   intro b38
   conv=>whnf
   subst hA
   refine DoesG.ent (Ent.perm (List.perm_middle (l₁ := cel b38 66 [.string k, ov, nv] :: own 1 nv (c.val k).length (bvs (c.val k)) :: own 1 ov (hasL c k).length (bvs (hasL c k)) :: c.pieces 95 s src))) ?_
   refine app_ownW changesT 63 (m := 1) (ys := [.string k, ov, nv]) (.mk _ _ _ _ _ (Nat.le_refl _) (.tl (.left .all _))) rfl (by rw [hoe, hne]; simp [Value.oneCell']) (by simp only [maxLen]; omega) (.wide (by omega)) fun v2 hv2 _ _ => ?_
   conv=>whnf
   refine ArithG.i64' ((i + 1 : Nat) : Int) (by omega) (by omega) ?_
   conv=>whnf
   obtain ⟨d, hd⟩ : ∃ d : ChD, d = ⟨k, ov, hasL c k, nv, c.val k⟩ := ⟨_, rfl⟩
   have e1 : own 3 v2 (l.length + 1) (l.flatMap ChD.cells ++ [.string k, ov, nv]) = own 3 v2 (l ++ [d]).length ((l ++ [d]).flatMap ChD.cells) := by simp [hd, ChD.cells]
   have e2 : chS (l ++ [d]) = chS l ++ [own 1 ov (hasL c k).length (bvs (hasL c k)), own 1 nv (c.val k).length (bvs (c.val k))] := by simp [chS, hd]
   rw [e1]
   refine ⟨K.length - (i + 1), [(0, .pointer (some ⟨s, 0, none⟩)), (2, .slice none 0 0), (3, v2), (8, kv), (9, .int .i64 K.length), (10, .int .i64 ((i + 1 : Nat) : Int))], _, by omega, ⟨rfl, rfl, rfl, rfl, rfl, rfl, trivial⟩, ?_, i + 1, l ++ [d], v2, by omega, rfl, by rw [List.length_append]; exact hv2, by rw [List.length_append, List.length_singleton]; omega, fun x hx => ?_, ?_, rfl, rfl⟩
   ·rw [e2]
    refine Ent.cons _ ((Ent.drop _).trans (Ent.perm ?_))
    exact turn_perm
   ·rcases List.mem_append.1 hx with hx | hx
    ·exact hsv x hx
    ·rw [List.mem_singleton.1 hx, hd]
     exact ⟨hov, hnv⟩
   ·rw [List.map_append, hmap, List.take_succ_eq_append_getElem hil, List.filter_append, List.map_append, ← hkk]
    simp [htk, hd]
  ·have htk : turned c k = false := ht
   conv=>whnf
   refine ArithG.i64' ((i + 1 : Nat) : Int) (by omega) (by omega) ?_
   conv=>whnf
   refine ⟨K.length - (i + 1), [(0, .pointer (some ⟨s, 0, none⟩)), (2, .slice none 0 0), (3, v), (8, kv), (9, .int .i64 K.length), (10, .int .i64 ((i + 1 : Nat) : Int))], _, by omega, ⟨rfl, rfl, rfl, rfl, rfl, rfl, trivial⟩, ?_, i + 1, l, v, by omega, rfl, hv, by omega, hsv, ?_, rfl, rfl⟩
   ·rw [hA]
    exact Ent.perm (List.perm_append_comm (l₁ := c.pieces 95 s src) (l₂ := own 3 v l.length (l.flatMap ChD.cells) :: own 1 kv K.length (keysB K) :: chS l))
   ·rw [hmap, List.take_succ_eq_append_getElem hil, List.filter_append, List.map_append, ← hkk]
    simp [htk]
 ·have hil : i = K.length := by omega
  conv=>whnf
  refine ⟨_, ?_, ss, l, hp, hv, hsv, by rw [hmap, hil, List.take_length, hK], rfl⟩
  refine (Ent.cons _ (Ent.drop _)).trans (Ent.perm ?_)
  exact List.perm_append_comm (l₁ := own 3 v l.length (l.flatMap ChD.cells) :: chS l) (l₂ := c.pieces 95 s src)
section
variable {find : ByteArray → List Nat × Int}
end
end Go.Proofs.YtjkldhalmglkpaaDoor
namespace Go.Proofs.YtjkldhalmglkpaaDoor
open Go Go.Sl Go.Sort
theorem bytes_same (F : List HP) (va vb : Value) (a b : List Nat) (ha : RdS F va a.length (bvs a)) (hb : RdS F vb b.length (bvs b)) :
 SpecF Tryd.prog 17 [va, vb] F [] (fun r L => r = .bool (decide (strB a = strB b)) ∧ L = []) := by
 refine fun17.spec rfl ?_
 conv=>whnf
 refine DoesG.toStr (e := 5) (bs := a) (by kernel_rfl) (by kernel_rfl) (by kernel_rfl) (.right ha []) rfl ?_
 conv=>whnf
 refine DoesG.toStr (e := 5) (bs := b) (by kernel_rfl) (by kernel_rfl) (by kernel_rfl) (.right hb []) rfl ?_
 conv=>whnf
 exact ret_here ⟨rfl, rfl⟩
section
variable {find : ByteArray → List Nat × Int}
theorem atK_more {V : View} {n a n' a' : Nat} {c : StC} (h : AtK find V n a c) (hn : n ≤ n') (ha : a ≤ a') : AtK find V n' a' c :=
 ⟨⟨h.atV.lv, h.atV.wf, Nat.le_trans h.atV.steps hn, h.atV.marks, h.atV.rise, h.atV.hist⟩, h.src, Nat.le_trans h.cnt ha⟩
def gotV (V : View) (key : ByteArray) : List Nat := if mayI key 0 = 0 then V key else []
theorem get_e (F : List HP) (s : Nat) (src : Value) (V : View) (n a : Nat) (key : ByteArray) (hs : SrcG Tryd.prog F src find) (ho : SrcOk find) :
 SpecF Tryd.prog 25 [.pointer (some ⟨s, 0, none⟩), .string key] F [stK 95 s src find V n a] (fun r L => ∃ x, SlV x (gotV V key).length ∧ r = .tuple #[x, .int .i64 (mayI key 0)] ∧ L = [own 1 x (gotV V key).length (bvs (gotV V key)), stK 95 s src find V n (a + 1)]) := by
 by_cases hk : mayI key 0 = 0
 ·unfold gotV
  rw [if_pos hk]
  exact (get_k F s src V n a key hs ho hk).turn fun v L ⟨x, hx, _, hr, hL⟩ => ⟨L, ⟨x, hx, by rw [hr, hk], hL⟩, Ent.refl _⟩
 ·unfold gotV
  rw [if_neg hk]
  exact SpecF.unpack0 fun c hc => (get_spec F s src c key find hs (fun k => by have := ho.len k; omega) hc.atV.wf).turn fun v L h => by
   rcases h with ⟨_, rfl, rfl⟩ | ⟨h1, _⟩ | ⟨h1, _⟩
   ·exact ⟨_, ⟨.slice none 0 0, .inl ⟨rfl, rfl⟩, rfl, rfl⟩, fun w G hs => Sat.own_nil (Ent.pack0 (ls := fun c => StC.pieces 95 s src c) (atK_more hc (Nat.le_refl _) (Nat.le_succ _)) w G hs)⟩
   ·exact absurd h1 hk
   ·exact absurd h1 hk
def putV (V : View) (key : ByteArray) (bs : List Nat) : View := if mayI key bs.length = 0 then upd V key bs else V
theorem putV_hist (V : View) (key : ByteArray) (bs : List Nat) : (putV V key bs).hist = V.hist := by
 unfold putV
 split <;> rfl
theorem put_e (F : List HP) (s : Nat) (src : Value) (V : View) (n a : Nat) (key : ByteArray) (v : Value) (bs : List Nat) (hs : SrcG Tryd.prog F src find) (ho : SrcOk find) (hr : RdS F v bs.length (bvs bs)) (hn : n ≤ 4398046511104) :
 SpecF Tryd.prog 28 [.pointer (some ⟨s, 0, none⟩), .string key, v] F [stK 95 s src find V n a] (fun r L => r = .int .i64 (mayI key bs.length) ∧ L = [stK 95 s src find (putV V key bs) (n + 1) (a + 1)]) := by
 refine SpecF.unpack0 fun c hc => (put_spec_r F s src c key v bs find hs (fun k => by have := ho.len k; omega) hc.atV.wf hr (Nat.le_trans hc.atV.steps hn)).turn fun v L h => ?_
 rcases h with ⟨h1, rfl, rfl⟩ | ⟨h1, h2, _⟩ | ⟨h1, _, c', x, sv, hc', hx, rfl, rfl⟩
 ·unfold putV
  rw [if_neg h1]
  exact ⟨_, ⟨rfl, rfl⟩, Ent.pack0 (ls := fun c => StC.pieces 95 s src c) (atK_more hc (Nat.le_succ _) (Nat.le_succ _))⟩
 ·exact absurd (ho.ask (mayI_le h1).2) h2
 ·unfold putV
  obtain ⟨hb, hk0⟩ := mayI_le h1
  rw [if_pos h1, h1]
  exact ⟨_, ⟨rfl, rfl⟩, Ent.pack0 (ls := fun c => StC.pieces 95 s src c) (hc.put hk0 hc' hx hb)⟩
end
def ChRd (F : List HP) (l : List ChD) : Prop := ∀ d ∈ l, RdS F d.ov d.old.length (bvs d.old) ∧ RdS F d.nv d.new.length (bvs d.new)
theorem chC_len (l : List ChD) : (l.flatMap ChD.cells).length = l.length * 3 := flat_len fun _ _ => rfl
theorem chC_at {l : List ChD} {i : Nat} {d : ChD} (h : l[i]? = some d) : (l.flatMap ChD.cells)[i * 3]? = some (.string d.key) ∧ (l.flatMap ChD.cells)[i * 3 + 1]? = some d.ov ∧ (l.flatMap ChD.cells)[i * 3 + 2]? = some d.nv := by
 obtain ⟨h1, rfl⟩ := List.getElem?_eq_some_iff.1 h
 have h2 : ((l.flatMap ChD.cells).drop (i * 3)).take 3 = l[i].cells := flat_get (cells := ChD.cells) (sz := 3) (fun _ _ => rfl) h1
 have h3 : ∀ j, j < 3 → (l.flatMap ChD.cells)[i * 3 + j]? = (l[i].cells)[j]? := fun j hj => by
  rw [← h2, List.getElem?_take, if_pos hj, List.getElem?_drop]
 exact ⟨h3 0 (by decide), h3 1 (by decide), h3 2 (by decide)⟩
theorem changes_same (F : List HP) (va vb : Value) (l m : List ChD) (hn : l.length ≤ 4611686018427387904) (he : l.map (fun d => (d.key, d.old, d.new)) = m.map (fun d => (d.key, d.old, d.new))) (hA : RdS F va l.length (l.flatMap ChD.cells)) (hB : RdS F vb m.length (m.flatMap ChD.cells)) (hra : ChRd F l) (hrb : ChRd F m) :
 SpecF Tryd.prog 35 [va, vb] F [] (fun r L => r = .bool true ∧ L = []) := by
 have hl : l.length = m.length := by
  have := congrArg List.length he
  simpa using this
 refine fun35.spec rfl ?_
 conv=>whnf
 refine LenG.rd hA ?_
 conv=>whnf
 refine LenG.rd hB ?_
 conv=>whnf
 refine CondG.ndec (fun h => absurd (by rw [hl]) h) (fun _ => ?_)
 conv=>whnf
 refine LoopG.mk (fun mm e L => ∃ q : Nat, q ≤ l.length ∧ mm = l.length - q ∧ e = [(0, va), (1, vb), (4, .bool false), (5, .int .i64 q)] ∧ L = []) l.length
  [(0, va), (1, vb), (4, .bool false), (5, .int .i64 0)] _ ⟨rfl, rfl, rfl, rfl, trivial⟩ (Ent.refl _) ⟨0, by omega, rfl, rfl, rfl⟩ ?_
 rintro mm e L ⟨q, hq, rfl, rfl, rfl⟩
 conv=>whnf
 refine LenG.rd hA ?_
 conv=>whnf
 refine CondG.dec (fun h1 => ?_) (fun h1 => ?_)
 ·have hql : q < l.length := by omega
  have hqm : q < m.length := by omega
  obtain ⟨d, hd⟩ : ∃ d, l[q]? = some d := ⟨l[q], List.getElem?_eq_getElem hql⟩
  obtain ⟨f, hf⟩ : ∃ f, m[q]? = some f := ⟨m[q], List.getElem?_eq_getElem hqm⟩
  obtain ⟨d0, d1, d2⟩ := chC_at hd
  obtain ⟨f0, f1, f2⟩ := chC_at hf
  have hdm := List.mem_of_getElem? hd
  have hfm := List.mem_of_getElem? hf
  obtain ⟨ek, eo, en⟩ : d.key = f.key ∧ d.old = f.old ∧ d.new = f.new := by
   have h := congrArg (fun z => z[q]?) he
   simp only [List.getElem?_map, hd, hf, Option.map_some, Option.some.injEq, Prod.mk.injEq] at h
   exact h
  have e1 : (!decide (d.key = d.key)) = false := by simp
  have e2 : decide (strB d.old = strB f.old) = true := by rw [eo]; simp
  have e3 : decide (strB d.new = strB f.new) = true := by rw [en]; simp
  conv=>whnf
  refine DrawG.mk 39 [] [] (Ent.refl _) ?_
  conv=>whnf
  refine .take 0 ?_
  conv=>whnf
  refine ⟨rfl, ?_⟩
  conv=>whnf
  refine .take 1 ?_
  conv=>whnf
  refine ⟨rfl, ?_⟩
  conv=>whnf
  refine .take 2 ?_
  conv=>whnf
  refine ⟨rfl, ?_⟩
  conv=>whnf
  refine IdxG.rd hA (by omega) fun cb o hcc => ?_
  conv=>whnf
  refine .take 3 ?_
  conv=>whnf
  refine ⟨rfl, ?_⟩
  conv=>whnf
  refine .take 4 ?_
  conv=>whnf
  refine ⟨rfl, ?_⟩
  conv=>whnf
  refine LoadG.atF (hcc.one (i := q * 3) (u := (.string d.key)) d0) ?_
  clear hcc
  conv=>whnf
  refine .take 5 ?_
  conv=>whnf
  refine ⟨rfl, ?_⟩
  conv=>whnf
  refine .take 6 ?_
  conv=>whnf
  refine ⟨rfl, ?_⟩
  conv=>whnf
  refine .take 7 ?_
  conv=>whnf
  refine ⟨rfl, ?_⟩
  conv=>whnf
  refine IdxG.rd hB (by omega) fun cb o hcc => ?_
  conv=>whnf
  refine .take 8 ?_
  conv=>whnf
  refine ⟨rfl, ?_⟩
  conv=>whnf
  refine .take 9 ?_
  conv=>whnf
  refine ⟨rfl, ?_⟩
  conv=>whnf
  refine LoadG.atF (hcc.one (i := q * 3) (u := (.string f.key)) f0) ?_
  clear hcc
  conv=>whnf
  refine .take 10 ?_
  conv=>whnf
  refine ⟨rfl, ?_⟩
  conv=>whnf
  rw [← ek, e1]
  refine .take 11 ?_
  conv=>whnf
  refine ⟨rfl, ?_⟩
  conv=>whnf
  refine .take 12 ?_
  conv=>whnf
  refine ⟨rfl, ?_⟩
  (conv=>whnf);refine .ff ?_;(conv=>whnf)
  refine .take 13 ?_
  conv=>whnf
  refine ⟨rfl, ?_⟩
  (conv=>whnf);refine .ff ?_;(conv=>whnf)
  refine .take 14 ?_
  conv=>whnf
  refine ⟨rfl, ?_⟩
  (conv=>whnf);refine .ff ?_;(conv=>whnf)
  refine IdxG.rd hA (by omega) fun cb o hcc => ?_
  conv=>whnf
  refine .take 15 ?_
  conv=>whnf
  refine ⟨rfl, ?_⟩
  (conv=>whnf);refine .ff ?_;(conv=>whnf)
  refine .take 16 ?_
  conv=>whnf
  refine ⟨rfl, ?_⟩
  (conv=>whnf);refine .ff ?_;(conv=>whnf)
  refine LoadG.atF (hcc.one (i := q * 3 + 1) (u := d.ov) d1) ?_
  clear hcc
  conv=>whnf
  refine .take 17 ?_
  conv=>whnf
  refine ⟨rfl, ?_⟩
  (conv=>whnf);refine .ff ?_;(conv=>whnf)
  refine .take 18 ?_
  conv=>whnf
  refine ⟨rfl, ?_⟩
  (conv=>whnf);refine .ff ?_;(conv=>whnf)
  refine .take 19 ?_
  conv=>whnf
  refine ⟨rfl, ?_⟩
  (conv=>whnf);refine .ff ?_;(conv=>whnf)
  refine IdxG.rd hB (by omega) fun cb o hcc => ?_
  conv=>whnf
  refine .take 20 ?_
  conv=>whnf
  refine ⟨rfl, ?_⟩
  (conv=>whnf);refine .ff ?_;(conv=>whnf)
  refine .take 21 ?_
  conv=>whnf
  refine ⟨rfl, ?_⟩
  (conv=>whnf);refine .ff ?_;(conv=>whnf)
  refine LoadG.atF (hcc.one (i := q * 3 + 1) (u := f.ov) f1) ?_
  clear hcc
  conv=>whnf
  refine .all ?_
  conv=>whnf
  refine ⟨by decide, ?_⟩
  (conv=>whnf);refine .ff ?_;(conv=>whnf)
  refine CallG.pure (bytes_same _ d.ov f.ov d.old f.old (hra d hdm).1 (hrb f hfm).1) ?_
  rintro _ _ ⟨rfl, rfl⟩
  rw [e2]
  conv=>whnf
  refine .take 23 ?_
  conv=>whnf
  refine ⟨rfl, ?_⟩
  (conv=>whnf);refine .ff ?_;(conv=>whnf)
  refine .take 24 ?_
  conv=>whnf
  refine ⟨rfl, ?_⟩
  (conv=>whnf);refine .ff ?_;(conv=>whnf)
  refine .take 25 ?_
  conv=>whnf
  refine ⟨rfl, ?_⟩
  conv=>whnf
  refine .take 26 ?_
  conv=>whnf
  refine ⟨rfl, ?_⟩
  (conv=>whnf);refine .nff ?_;(conv=>whnf)
  refine .take 27 ?_
  conv=>whnf
  refine ⟨rfl, ?_⟩
  (conv=>whnf);refine .ff ?_;(conv=>whnf)
  refine .take 28 ?_
  conv=>whnf
  refine ⟨rfl, ?_⟩
  (conv=>whnf);refine .ff ?_;(conv=>whnf)
  refine IdxG.rd hA (by omega) fun cb o hcc => ?_
  conv=>whnf
  refine .take 29 ?_
  conv=>whnf
  refine ⟨rfl, ?_⟩
  (conv=>whnf);refine .ff ?_;(conv=>whnf)
  refine .take 30 ?_
  conv=>whnf
  refine ⟨rfl, ?_⟩
  (conv=>whnf);refine .ff ?_;(conv=>whnf)
  refine LoadG.atF (hcc.one (i := q * 3 + 2) (u := d.nv) d2) ?_
  clear hcc
  conv=>whnf
  refine .take 31 ?_
  conv=>whnf
  refine ⟨rfl, ?_⟩
  (conv=>whnf);refine .ff ?_;(conv=>whnf)
  refine .take 32 ?_
  conv=>whnf
  refine ⟨rfl, ?_⟩
  (conv=>whnf);refine .ff ?_;(conv=>whnf)
  refine .take 33 ?_
  conv=>whnf
  refine ⟨rfl, ?_⟩
  (conv=>whnf);refine .ff ?_;(conv=>whnf)
  refine IdxG.rd hB (by omega) fun cb o hcc => ?_
  conv=>whnf
  refine .take 34 ?_
  conv=>whnf
  refine ⟨rfl, ?_⟩
  (conv=>whnf);refine .ff ?_;(conv=>whnf)
  refine .take 35 ?_
  conv=>whnf
  refine ⟨rfl, ?_⟩
  (conv=>whnf);refine .ff ?_;(conv=>whnf)
  refine LoadG.atF (hcc.one (i := q * 3 + 2) (u := f.nv) f2) ?_
  clear hcc
  conv=>whnf
  refine .all ?_
  conv=>whnf
  refine ⟨by decide, ?_⟩
  (conv=>whnf);refine .ff ?_;(conv=>whnf)
  refine CallG.pure (bytes_same _ d.nv f.nv d.new f.new (hra d hdm).2 (hrb f hfm).2) ?_
  rintro _ _ ⟨rfl, rfl⟩
  rw [e3]
  conv=>whnf
  refine .take 37 ?_
  conv=>whnf
  refine ⟨rfl, ?_⟩
  (conv=>whnf);refine .ff ?_;(conv=>whnf)
  refine .take 38 ?_
  conv=>whnf
  refine ⟨rfl, ?_⟩
  (conv=>whnf);refine .ff ?_;(conv=>whnf)
  refine ⟨rfl, ?_⟩
  (conv=>whnf);refine .nff ?_;(conv=>whnf)
  refine ArithG.i64' ((q + 1 : Nat) : Int) (by omega) (by omega) ?_
  conv=>whnf
  exact ⟨l.length - (q + 1), [(0, va), (1, vb), (4, .bool false), (5, .int .i64 ((q + 1 : Nat) : Int))], _, by omega, ⟨rfl, rfl, rfl, rfl, trivial⟩, Ent.refl _, q + 1, by omega, rfl, rfl, rfl⟩
 ·conv=>whnf
  exact ret_here ⟨rfl, rfl⟩
section
variable {K : List W32} (hk : K.length = 64)
include hk
end
end Go.Proofs.YtjkldhalmglkpaaDoor
