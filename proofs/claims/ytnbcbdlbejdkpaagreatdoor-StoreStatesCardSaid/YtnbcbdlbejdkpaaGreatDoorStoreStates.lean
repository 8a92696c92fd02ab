/-
  StoreStates: the given statement, out of the contract of the law's function.
-/
import Derived.Test.YtnbcbdlbejdkpaaGreatDoorCards
import Derived.Test.YtnbcbdlbejdkpaaGreatDoorTie
import Derived.Test.YtnbcbdlbejdkpaaGreatDoorSs
import Derived.Test.YtnbcbdlbejdkpaaGreatDoorSea
import Derived.WalkKit
import Derived.ProofKit
import Derived.OpenShut
import Derived.Deep.DeepHandedRow
import Derived.Lib.LaidTab
namespace Go.Proofs.YtnbcbdlbejdkpaaGreatDoor.storeStates
open Go.ChangeShapes Go.WideShapes Go.ChangeAt Go.RowKit
open Go Go.Sl
set_option maxRecDepth 100000
/-- What is given of a pair's value. -/
def PairD.ok (W : World) (p : PairD) : Prop := RdS [was W.heap] p.v p.bs.length (bvs p.bs) ∧ p.bs.length ≤ 140737488355328
theorem pair_of {W : World} {H : Type} {enc : TypeId × Value → H} {m : Nat} {cs : List Value} {y : DataW H × List MemPlace} (h0 : DataW.trod enc Tryz.prog W 0 (fun _ => true) true m 103 cs = some y) (hwt : ∀ x ∈ DataW.weights Tryz.prog 103 y.1, x ≤ reachBytes) : ∃ p : PairD, PairD.ok W p ∧ cs = p.cells := by
  obtain ⟨xs, n, rfl, rfl, hlen, hxl, hel⟩ := DataW.trod_struct Tryz.underlying103 h0
  have hxl2 : xs.length = 2 := hxl
  obtain ⟨y0, y1, rfl⟩ : ∃ y0 y1, xs = [y0, y1] := by
    match xs, hxl2 with
    | [a, b], _ => exact ⟨a, b, rfl⟩
  have c0 : Tryz.prog.cellsOf 9 = 1 := by kernel_rfl
  have c1 : Tryz.prog.cellsOf 74 = 1 := by kernel_rfl
  have c2 : Tryz.prog.cellsOf 103 = 2 := by kernel_rfl
  have c3 : Tryz.prog.cellsOf 5 = 1 := by kernel_rfl
  rw [c2] at hlen
  have f0 : DataW.trod enc Tryz.prog W 0 (fun _ => true) true n 9 ((cs.drop 0).take (Tryz.prog.cellsOf 9)) = some y0 := hel 0 _ rfl
  have f1 : DataW.trod enc Tryz.prog W 0 (fun _ => true) true n 74 ((cs.drop 1).take (Tryz.prog.cellsOf 74)) = some y1 := hel 1 _ rfl
  rw [c0] at f0
  rw [c1] at f1
  obtain ⟨key, k1, _, _⟩ := DataW.trod_string Tryz.underlying9 f0
  obtain ⟨v, p1⟩ : ∃ v, (cs.drop 1).take 1 = [v] := by
    rcases DataW.trod_slice Tryz.underlying74 f1 with ⟨h, _⟩ | ⟨_, _, _, _, _, _, _, h, _⟩
    · exact ⟨_, h⟩
    · exact ⟨_, h⟩
  rw [p1] at f1
  obtain ⟨k, ks, hrd, _, hl, he⟩ := rd_trodZ Tryz.underlying74 c3 (by decide) f1
  have hkl : ∀ j, j < k → wtr [.int .u8] ((ks.drop (j * 1)).take 1) := fun j hj => by
    obtain ⟨m, y, _, _, _, _, _, h⟩ := he j hj
    exact trod_flat 4 5 [.int .u8] (by kernel_rfl) _ ⟨m, _, h⟩
  obtain ⟨bs, hn, hb, rfl⟩ := chunks (fun b : Nat => bvs [b]) (fun b => b < 256) 1 (fun b _ => rfl) k ks hl fun j hj => by
    obtain ⟨l, q1, q2, q3⟩ := wtr_u8 (n := 1) (hkl j hj)
    match l, q1 with
    | [b], _ => exact ⟨b, q2 b List.mem_cons_self, q3⟩
  subst hn
  have ef : ∀ l : List Nat, l.flatMap (fun b : Nat => bvs [b]) = bvs l := fun l => by
    induction l with
    | nil => rfl
    | cons b l ih => rw [List.flatMap_cons, ih]; rfl
  rw [ef] at hrd
  have c6 : Tryz.prog.bytesOf 5 = 1 := by kernel_rfl
  have hfit : bs.length ≤ 140737488355328 := by
    rcases Nat.eq_zero_or_pos bs.length with h | h
    · omega
    · obtain ⟨m, y, els, rst, e1, e2, _⟩ := he 0 h
      have hmem : (els.length + rst.length) * Tryz.prog.bytesOf 5 ∈ DataW.weights Tryz.prog 103 (.agg ([y0, y1].map (·.1))) := by
        rw [DataW.weights, Tryz.underlying103]
        simp only [List.map_cons, List.map_nil, DataW.weightsEach, List.mem_append]
        refine .inr (.inl ?_)
        rw [e1]
        show _ ∈ DataW.weights Tryz.prog 74 (.slice els rst)
        rw [DataW.weights, Tryz.underlying74]
        exact List.mem_cons_self
      have := hwt _ hmem
      rw [c6] at this
      simp only [reachBytes] at this
      omega
  refine ⟨⟨key, v, bs⟩, ⟨hrd, hfit⟩, ?_⟩
  match cs, hlen with
  | [a, b], _ =>
    have e1 : [a] = [Value.string key] := k1
    have e2 : [b] = [v] := p1
    rw [List.cons.inj e1 |>.1, List.cons.inj e2 |>.1]
    rfl
/-- What is given of a step's value. -/
def StepS.ok (W : World) (p : StepS) : Prop := RdS [was W.heap] p.v p.bs.length (bvs p.bs) ∧ p.bs.length ≤ 140737488355328 ∧ -9223372036854775808 ≤ p.mark ∧ p.mark ≤ 9223372036854775807
theorem step_of {W : World} {H : Type} {enc : TypeId × Value → H} {m : Nat} {cs : List Value} {y : DataW H × List MemPlace} (h0 : DataW.trod enc Tryz.prog W 0 (fun _ => true) true m 76 cs = some y) (hwt : ∀ x ∈ DataW.weights Tryz.prog 76 y.1, x ≤ reachBytes) : ∃ p : StepS, StepS.ok W p ∧ cs = p.cells := by
  obtain ⟨xs, n, rfl, rfl, hlen, hxl, hel⟩ := DataW.trod_struct Tryz.underlying76 h0
  have hxl2 : xs.length = 4 := hxl
  obtain ⟨y0, y1, y2, y3, rfl⟩ : ∃ y0 y1 y2 y3, xs = [y0, y1, y2, y3] := by
    match xs, hxl2 with
    | [a, b, c, d], _ => exact ⟨a, b, c, d, rfl⟩
  have c0 : Tryz.prog.cellsOf 9 = 1 := by kernel_rfl
  have c1 : Tryz.prog.cellsOf 74 = 1 := by kernel_rfl
  have c2 : Tryz.prog.cellsOf 76 = 4 := by kernel_rfl
  have c3 : Tryz.prog.cellsOf 5 = 1 := by kernel_rfl
  have c4 : Tryz.prog.cellsOf 3 = 1 := by kernel_rfl
  rw [c2] at hlen
  have f0 : DataW.trod enc Tryz.prog W 0 (fun _ => true) true n 3 ((cs.drop 0).take (Tryz.prog.cellsOf 3)) = some y0 := hel 0 _ rfl
  have f1 : DataW.trod enc Tryz.prog W 0 (fun _ => true) true n 9 ((cs.drop 1).take (Tryz.prog.cellsOf 9)) = some y1 := hel 1 _ rfl
  have f2 : DataW.trod enc Tryz.prog W 0 (fun _ => true) true n 74 ((cs.drop 2).take (Tryz.prog.cellsOf 74)) = some y2 := hel 2 _ rfl
  have f3 : DataW.trod enc Tryz.prog W 0 (fun _ => true) true n 3 ((cs.drop 3).take (Tryz.prog.cellsOf 3)) = some y3 := hel 3 _ rfl
  rw [c4] at f0 f3
  rw [c0] at f1
  rw [c1] at f2
  have one : ∀ {d : List Value} {z : DataW H × List MemPlace}, DataW.trod enc Tryz.prog W 0 (fun _ => true) true n 3 d = some z → ∃ k, d = [.int .i64 k] ∧ (-9223372036854775808 ≤ k ∧ k ≤ 9223372036854775807) := fun {d z} h => by
    obtain ⟨c1, cs1, rfl, ⟨w, rfl, hwf⟩, h8⟩ := wtr_cons (trod_flat 4 3 [.int .i64] (by kernel_rfl) _ ⟨n, _, h⟩)
    cases cs1 with
    | nil => exact ⟨w, rfl, (i64_of_wf hwf).1, (i64_of_wf hwf).2⟩
    | cons _ _ => exact h8.elim
  obtain ⟨k0, p0, _⟩ := one f0
  obtain ⟨k3, p3, hk3⟩ := one f3
  obtain ⟨key, k1, _, _⟩ := DataW.trod_string Tryz.underlying9 f1
  obtain ⟨v, p1⟩ : ∃ v, (cs.drop 2).take 1 = [v] := by
    rcases DataW.trod_slice Tryz.underlying74 f2 with ⟨h, _⟩ | ⟨_, _, _, _, _, _, _, h, _⟩
    · exact ⟨_, h⟩
    · exact ⟨_, h⟩
  rw [p1] at f2
  obtain ⟨k, ks, hrd, _, hl, he⟩ := rd_trodZ Tryz.underlying74 c3 (by decide) f2
  have hkl : ∀ j, j < k → wtr [.int .u8] ((ks.drop (j * 1)).take 1) := fun j hj => by
    obtain ⟨m, y, _, _, _, _, _, h⟩ := he j hj
    exact trod_flat 4 5 [.int .u8] (by kernel_rfl) _ ⟨m, _, h⟩
  obtain ⟨bs, hn, hb, rfl⟩ := chunks (fun b : Nat => bvs [b]) (fun b => b < 256) 1 (fun b _ => rfl) k ks hl fun j hj => by
    obtain ⟨l, q1, q2, q3⟩ := wtr_u8 (n := 1) (hkl j hj)
    match l, q1 with
    | [b], _ => exact ⟨b, q2 b List.mem_cons_self, q3⟩
  subst hn
  have ef : ∀ l : List Nat, l.flatMap (fun b : Nat => bvs [b]) = bvs l := fun l => by
    induction l with
    | nil => rfl
    | cons b l ih => rw [List.flatMap_cons, ih]; rfl
  rw [ef] at hrd
  have c6 : Tryz.prog.bytesOf 5 = 1 := by kernel_rfl
  have hfit : bs.length ≤ 140737488355328 := by
    rcases Nat.eq_zero_or_pos bs.length with h | h
    · omega
    · obtain ⟨m, y, els, rst, e1, e2, _⟩ := he 0 h
      have hmem : (els.length + rst.length) * Tryz.prog.bytesOf 5 ∈ DataW.weights Tryz.prog 76 (.agg ([y0, y1, y2, y3].map (·.1))) := by
        rw [DataW.weights, Tryz.underlying76]
        simp only [List.map_cons, List.map_nil, DataW.weightsEach, List.mem_append]
        refine .inr (.inr (.inl ?_))
        rw [e1]
        show _ ∈ DataW.weights Tryz.prog 74 (.slice els rst)
        rw [DataW.weights, Tryz.underlying74]
        exact List.mem_cons_self
      have := hwt _ hmem
      rw [c6] at this
      simp only [reachBytes] at this
      omega
  refine ⟨⟨k0, key, v, bs, k3⟩, ⟨hrd, hfit, hk3.1, hk3.2⟩, ?_⟩
  match cs, hlen with
  | [a, b, c, d], _ =>
    have e0 : [a] = [Value.int .i64 k0] := p0
    have e1 : [b] = [Value.string key] := k1
    have e2 : [c] = [v] := p1
    have e3 : [d] = [Value.int .i64 k3] := p3
    rw [List.cons.inj e0 |>.1, List.cons.inj e1 |>.1, List.cons.inj e2 |>.1, List.cons.inj e3 |>.1]
    rfl
theorem no_of {W : World} {H : Type} {enc : TypeId × Value → H} {m : Nat} {cs : List Value} {y : DataW H × List MemPlace} (h0 : DataW.trod enc Tryz.prog W 0 (fun _ => true) true m 68 cs = some y) : ∃ p : NoD, True ∧ cs = NoD.cells p := by
  obtain ⟨xs, n, rfl, rfl, hlen, hxl, hel⟩ := DataW.trod_struct Tryz.underlying68 h0
  have hxl2 : xs.length = 2 := hxl
  obtain ⟨y0, y1, rfl⟩ : ∃ y0 y1, xs = [y0, y1] := by
    match xs, hxl2 with
    | [a, b], _ => exact ⟨a, b, rfl⟩
  have c0 : Tryz.prog.cellsOf 9 = 1 := by kernel_rfl
  have c1 : Tryz.prog.cellsOf 46 = 1 := by kernel_rfl
  have c2 : Tryz.prog.cellsOf 68 = 2 := by kernel_rfl
  rw [c2] at hlen
  have f0 : DataW.trod enc Tryz.prog W 0 (fun _ => true) true n 9 ((cs.drop 0).take (Tryz.prog.cellsOf 9)) = some y0 := hel 0 _ rfl
  have f1 : DataW.trod enc Tryz.prog W 0 (fun _ => true) true n 46 ((cs.drop 1).take (Tryz.prog.cellsOf 46)) = some y1 := hel 1 _ rfl
  rw [c0] at f0
  rw [c1] at f1
  obtain ⟨key, k1, _, _⟩ := DataW.trod_string Tryz.underlying9 f0
  obtain ⟨k, p1, _, _⟩ := DataW.trod_int Tryz.underlying46 f1
  refine ⟨(key, k), trivial, ?_⟩
  match cs, hlen with
  | [a, b], _ =>
    have e1 : [a] = [Value.string key] := k1
    have e2 : [b] = [Value.int .i64 k] := p1
    rw [List.cons.inj e1 |>.1, List.cons.inj e2 |>.1]
    rfl
theorem pairs_of {W : World} {H : Type} {enc : TypeId × Value → H} {fuel : Nat} {v : Value} {y : DataW H × List MemPlace} (h0 : DataW.trod enc Tryz.prog W 0 (fun _ => true) true fuel 22 [v] = some y) (hwt : ∀ x ∈ DataW.weights Tryz.prog 22 y.1, x ≤ reachBytes) :
    ∃ ls : List PairD, (∀ p ∈ ls, PairD.ok W p) ∧ ls.length ≤ 3518437208882 ∧ RdS [was W.heap] v ls.length (pairsC ls) := by
  have c4 : Tryz.prog.cellsOf 103 = 2 := by kernel_rfl
  have c5 : Tryz.prog.bytesOf 103 = 40 := by kernel_rfl
  obtain ⟨n, cs, hrd, _, hl, he⟩ := rd_trodZ Tryz.underlying22 c4 (by decide) h0
  obtain ⟨ls, hn, hls, rfl⟩ := chunks PairD.cells (PairD.ok W) 2 (fun _ _ => rfl) n cs hl fun i hi => by
    obtain ⟨m, y', els, rst, e1, _, e3, h⟩ := he i hi
    exact pair_of h (fun x hx => hwt x (by
      rw [e1, DataW.weights, Tryz.underlying22]
      exact List.mem_cons_of_mem _ (List.mem_append_left _ (weights_mem (List.mem_of_getElem? e3) x hx))))
  subst hn
  refine ⟨ls, hls, ?_, hrd⟩
  rcases Nat.eq_zero_or_pos ls.length with h | h
  · omega
  · obtain ⟨m, y', els, rst, e1, e2, _⟩ := he 0 h
    have hmem : (els.length + rst.length) * Tryz.prog.bytesOf 103 ∈ DataW.weights Tryz.prog 22 y.1 := by
      rw [e1, DataW.weights, Tryz.underlying22]
      exact List.mem_cons_self
    have := hwt _ hmem
    rw [c5] at this
    simp only [reachBytes] at this
    omega
theorem nos_of {W : World} {H : Type} {enc : TypeId × Value → H} {fuel : Nat} {v : Value} {y : DataW H × List MemPlace} (h0 : DataW.trod enc Tryz.prog W 0 (fun _ => true) true fuel 56 [v] = some y) (hwt : ∀ x ∈ DataW.weights Tryz.prog 56 y.1, x ≤ reachBytes) :
    ∃ ls : List NoD, (∀ p ∈ ls, (fun _ : NoD => True) p) ∧ ls.length ≤ 5864062014806 ∧ RdS [was W.heap] v ls.length (noC ls) := by
  have c4 : Tryz.prog.cellsOf 68 = 2 := by kernel_rfl
  have c5 : Tryz.prog.bytesOf 68 = 24 := by kernel_rfl
  obtain ⟨n, cs, hrd, _, hl, he⟩ := rd_trodZ Tryz.underlying56 c4 (by decide) h0
  obtain ⟨ls, hn, hls, rfl⟩ := chunks NoD.cells ((fun _ => True)) 2 (fun _ _ => rfl) n cs hl fun i hi => by
    obtain ⟨m, y', els, rst, e1, _, e3, h⟩ := he i hi
    exact no_of h
  subst hn
  refine ⟨ls, hls, ?_, hrd⟩
  rcases Nat.eq_zero_or_pos ls.length with h | h
  · omega
  · obtain ⟨m, y', els, rst, e1, e2, _⟩ := he 0 h
    have hmem : (els.length + rst.length) * Tryz.prog.bytesOf 68 ∈ DataW.weights Tryz.prog 56 y.1 := by
      rw [e1, DataW.weights, Tryz.underlying56]
      exact List.mem_cons_self
    have := hwt _ hmem
    rw [c5] at this
    simp only [reachBytes] at this
    omega
theorem steps_of {W : World} {H : Type} {enc : TypeId × Value → H} {fuel : Nat} {v : Value} {y : DataW H × List MemPlace} (h0 : DataW.trod enc Tryz.prog W 0 (fun _ => true) true fuel 57 [v] = some y) (hwt : ∀ x ∈ DataW.weights Tryz.prog 57 y.1, x ≤ reachBytes) :
    ∃ ls : List StepS, (∀ p ∈ ls, StepS.ok W p) ∧ ls.length ≤ 2513169434916 ∧ RdS [was W.heap] v ls.length (ls.flatMap StepS.cells) := by
  have c4 : Tryz.prog.cellsOf 76 = 4 := by kernel_rfl
  have c5 : Tryz.prog.bytesOf 76 = 56 := by kernel_rfl
  obtain ⟨n, cs, hrd, _, hl, he⟩ := rd_trodZ Tryz.underlying57 c4 (by decide) h0
  obtain ⟨ls, hn, hls, rfl⟩ := chunks StepS.cells (StepS.ok W) 4 (fun _ _ => rfl) n cs hl fun i hi => by
    obtain ⟨m, y', els, rst, e1, _, e3, h⟩ := he i hi
    exact step_of h (fun x hx => hwt x (by
      rw [e1, DataW.weights, Tryz.underlying57]
      exact List.mem_cons_of_mem _ (List.mem_append_left _ (weights_mem (List.mem_of_getElem? e3) x hx))))
  subst hn
  refine ⟨ls, hls, ?_, hrd⟩
  rcases Nat.eq_zero_or_pos ls.length with h | h
  · omega
  · obtain ⟨m, y', els, rst, e1, e2, _⟩ := he 0 h
    have hmem : (els.length + rst.length) * Tryz.prog.bytesOf 76 ∈ DataW.weights Tryz.prog 57 y.1 := by
      rw [e1, DataW.weights, Tryz.underlying57]
      exact List.mem_cons_self
    have := hwt _ hmem
    rw [c5] at this
    simp only [reachBytes] at this
    omega
theorem x_of {base : Nat} {W : World} {v : Value} {H : Type} {enc : TypeId × Value → H} {dd : DataW H} {ps : List MemPlace} (hv0 : Value.okWide Tryz.prog W .any base 59 v) (h0 : DataW.Trod enc Tryz.prog W 0 (fun _ => true) true 59 v dd ps) (hwt : ∀ x ∈ DataW.weights Tryz.prog 59 dd, x ≤ reachBytes) :
    ∃ (hv nv sv : Value) (ls : List PairD) (no : List NoD) (xs : List StepS), v = .agg ⟨[hv, nv, sv]⟩ ∧ ((∀ p ∈ ls, PairD.ok W p) ∧ ls.length ≤ 3518437208882 ∧ RdS [was W.heap] hv ls.length (pairsC ls)) ∧ (no.length ≤ 5864062014806 ∧ RdS [was W.heap] nv no.length (noC no)) ∧ ((∀ p ∈ xs, StepS.ok W p) ∧ xs.length ≤ 2513169434916 ∧ RdS [was W.heap] sv xs.length (xs.flatMap StepS.cells)) := by
  unfold Value.okWide at hv0
  rw [Tryz.underlying59] at hv0
  obtain ⟨cs, rfl, hsz, hrow⟩ := hv0
  obtain ⟨fuel, h0⟩ := h0
  obtain ⟨xs, n, rfl, hdd, hlen, hxl, hel⟩ := DataW.trod_struct Tryz.underlying59 h0
  have hxl2 : xs.length = 3 := hxl
  obtain ⟨y0, y1, y2, rfl⟩ : ∃ y0 y1 y2, xs = [y0, y1, y2] := by
    match xs, hxl2 with
    | [a, b, c], _ => exact ⟨a, b, c, rfl⟩
  have c0 : Tryz.prog.cellsOf 22 = 1 := by kernel_rfl
  have c1 : Tryz.prog.cellsOf 56 = 1 := by kernel_rfl
  have c2 : Tryz.prog.cellsOf 57 = 1 := by kernel_rfl
  have c4 : Tryz.prog.cellsOf 59 = 3 := by kernel_rfl
  replace hlen : cs.toList.length = 3 := by rw [← c4]; exact hlen
  have f0 : DataW.trod enc Tryz.prog W 0 (fun _ => true) true n 22 ((cs.toList.drop 0).take (Tryz.prog.cellsOf 22)) = some y0 := hel 0 _ rfl
  have f1 : DataW.trod enc Tryz.prog W 0 (fun _ => true) true n 56 ((cs.toList.drop 1).take (Tryz.prog.cellsOf 56)) = some y1 := hel 1 _ rfl
  have f2 : DataW.trod enc Tryz.prog W 0 (fun _ => true) true n 57 ((cs.toList.drop 2).take (Tryz.prog.cellsOf 57)) = some y2 := hel 2 _ rfl
  rw [c0] at f0
  rw [c1] at f1
  rw [c2] at f2
  obtain ⟨hv, nv, sv, ecs⟩ : ∃ a b c, cs = ⟨[a, b, c]⟩ := by
    obtain ⟨cl⟩ := cs
    match cl, hlen with
    | [a, b, c], _ => exact ⟨a, b, c, rfl⟩
  subst ecs
  have hd2 : dd = .agg ([y0, y1, y2].map (·.1)) := (Prod.mk.inj hdd).1
  rw [hd2, DataW.weights, Tryz.underlying59] at hwt
  simp only [List.map_cons, List.map_nil, DataW.weightsEach, List.mem_append] at hwt
  exact ⟨hv, nv, sv, _, _, _, rfl, (pairs_of f0 (fun x hx => hwt x (.inl hx))).choose_spec, (nos_of f1 (fun x hx => hwt x (.inr (.inl hx)))).choose_spec.2, (steps_of f2 (fun x hx => hwt x (.inr (.inr (.inl hx))))).choose_spec⟩
theorem contract (H : Type) (enc : TypeId × Value → H) (W : World) (base : Nat) (args : Array Value) (ds gs : List (DataW H)) (before : List MemPlace)
    (hval : ∀ (j : Nat) t v, Tryz.f4.params[j]? = some t → args[j]? = some v → Value.okWide Tryz.prog W .any base t v)
    (hW : DataW.Whole enc Tryz.prog Tryz.f4.params.toList Rows.storeStatesSpec.vars false W args.toList ds gs before)
    (hwt : (DataW.weightsEach Tryz.prog (Tryz.f4.params.toList ++ (OpenSpec.ofChange Rows.storeStatesSpec).bare.plain.varTypes Tryz.prog) (ds ++ gs)).all (· ≤ reachBytes) = true) (hL : laidMetH Tryz.prog Rows.storeStatesRow.laid W) :
    Calls Tryz.prog 4 args W fun e W' => ∃ v, e = .returned v ∧ Rows.storeStatesSpec.post enc Tryz.prog Tryz.f4 false true false false W args v W' := by
  have hW' := hW
  obtain ⟨p, q, hA0, hV, rfl, hfz, hnd⟩ := hW
  have hA : DataW.TrodAll enc Tryz.prog W 0 (fun _ => true) true Tryz.f4.params.toList args.toList ds p := hA0
  rw [Tryz.params4] at hA hval hwt
  obtain ⟨v0, vs0, d0, ds0, p0, q0, hargs, rfl, rfl, h0, r0⟩ := trodAll_cons hA
  obtain ⟨rfl, rfl, rfl⟩ := trodAll_nil r0
  obtain rfl : args = #[v0] := by cases args; simp_all
  obtain ⟨rfl, rfl⟩ := trodVars_none hV
  have hall : ∀ x ∈ DataW.weights Tryz.prog 59 d0, x ≤ reachBytes := fun x hx => by
    have h := List.all_eq_true.1 hwt x (by
      show x ∈ DataW.weightsEach Tryz.prog (59 :: _) (d0 :: _)
      rw [DataW.weightsEach]
      exact List.mem_append_left _ hx)
    simpa using h
  obtain ⟨hv, nv, sv, ls, no, xs, rfl, ⟨a1, a2, a3⟩, ⟨b1, b2⟩, ⟨c1, c2, c3⟩⟩ := x_of (hval 0 59 v0 rfl rfl) h0 hall
  have e : Rows.storeStatesRow.laid = [("causeway/digest.steps", Lib.tabData .u32 (tabK K64))] := by kernel_rfl
  have hL1 : laidMet Tryz.prog [("causeway/digest.steps", Lib.tabData .u32 (tabK K64))] W := by rw [e] at hL; exact hL
  have hK : CelN [was W.heap] 0 0 (wvs K64) := words_was (t := 234) (e := 206) (n := 64) hL1 (by kernel_rfl) (by kernel_rfl) (by kernel_rfl) (by kernel_rfl) (by kernel_rfl) (by kernel_rfl)
  refine (states_spec K64_len [was W.heap] hK hv nv sv ls a3 a2 a1 no b2 b1 xs c3 c2 c1 W (Sat.was_here W)).mono fun e W' he => ?_
  obtain ⟨v, L, rfl, rfl, hx, hs⟩ := he
  exact ⟨_, rfl, post_true kids full (by rw [Tryz.params4]; decide +kernel) rfl hW' Tryz.underlying4 (by kernel_rfl) rfl hx (old_of_was hs)⟩

noncomputable def laidWorld (os : Os) : World :=
  { World.holding Tryz.prog os ⟨#[], #[], []⟩ with heap := (((World.holding Tryz.prog os ⟨#[], #[], []⟩).heap).modify 0 (fun
    | .cells _ t frozen => .cells #[.int .u32 1116352408, .int .u32 1899447441, .int .u32 3049323471, .int .u32 3921009573, .int .u32 961987163, .int .u32 1508970993, .int .u32 2453635748, .int .u32 2870763221, .int .u32 3624381080, .int .u32 310598401, .int .u32 607225278, .int .u32 1426881987, .int .u32 1925078388, .int .u32 2162078206, .int .u32 2614888103, .int .u32 3248222580, .int .u32 3835390401, .int .u32 4022224774, .int .u32 264347078, .int .u32 604807628, .int .u32 770255983, .int .u32 1249150122, .int .u32 1555081692, .int .u32 1996064986, .int .u32 2554220882, .int .u32 2821834349, .int .u32 2952996808, .int .u32 3210313671, .int .u32 3336571891, .int .u32 3584528711, .int .u32 113926993, .int .u32 338241895, .int .u32 666307205, .int .u32 773529912, .int .u32 1294757372, .int .u32 1396182291, .int .u32 1695183700, .int .u32 1986661051, .int .u32 2177026350, .int .u32 2456956037, .int .u32 2730485921, .int .u32 2820302411, .int .u32 3259730800, .int .u32 3345764771, .int .u32 3516065817, .int .u32 3600352804, .int .u32 4094571909, .int .u32 275423344, .int .u32 430227734, .int .u32 506948616, .int .u32 659060556, .int .u32 883997877, .int .u32 958139571, .int .u32 1322822218, .int .u32 1537002063, .int .u32 1747873779, .int .u32 1955562222, .int .u32 2024104815, .int .u32 2227730452, .int .u32 2361852424, .int .u32 2428436474, .int .u32 2756734187, .int .u32 3204031479, .int .u32 3329325298] t frozen
    | o => o)) }
theorem laid_met (os : Os) : laidMet Tryz.prog Rows.storeStatesRow.laid ((laidWorld os).forCall (fun _ _ => 0) ⟨#[], #[.agg #[.slice none 0 0, .slice none 0 0, .slice none 0 0]], []⟩).memory :=
  laidMet_of_run' 8 (by kernel_rfl) (by kernel_rfl)
theorem reads (os : Os) {H : Type} (enc : TypeId × Value → H) : ∃ places, DataW.whole enc Tryz.prog ((laidWorld os).forCall (fun _ _ => 0) ⟨#[], #[.agg #[.slice none 0 0, .slice none 0 0, .slice none 0 0]], []⟩).memory Tryz.f4.params.toList Rows.storeStatesSpec.vars false #[.agg #[.slice none 0 0, .slice none 0 0, .slice none 0 0]].toList 8 = some ([.agg [.nil, .nil, .nil]], [], places) :=
  ⟨[], by kernel_rfl⟩
set_option maxRecDepth 100000 in
theorem lifted (os : Os) (started : os.Started) (H : Type) (enc : TypeId × Value → H) (F : Stop.Interp) :
    ReturnsInHanded {} Tryz.checked os 4 .any ((OpenSpec.ofChange Rows.storeStatesSpec).preRow enc Tryz.prog Tryz.f4 Rows.storeStatesRow.domain false Rows.storeStatesRow.laid) (((OpenSpec.ofChange Rows.storeStatesSpec).at F).post enc Tryz.prog Tryz.f4 false true false false) := by
  obtain ⟨places, hx⟩ := reads os enc
  refine returnsInHanded_of_row (C := Tryz.checked) (s := (OpenSpec.ofChange Rows.storeStatesSpec)) own' started (by kernel_rfl) Tryz.func4
    (witness_row_at (enc := enc) (C := Tryz.checked) false (laidWorld os) #[.agg #[.slice none 0 0, .slice none 0 0, .slice none 0 0]] rfl (by kernel_rfl) (by kernel_rfl) (by kernel_rfl)
      (OpenSpec.preRow_of_cond 8 hx (by kernel_rfl) (fun k hk => by cases hk) (by kernel_rfl) (laid_met os))) ?_
  intro W base args ds gs before hval hW hc1 hc2 hc3 hL hc4 hc5
  exact contract H enc W base args ds gs before hval hW hc3 hL
theorem over : Rows.storeStatesRow.holds Tryz.pinned (OpenSpec.ofChange Rows.storeStatesSpec) :=
  OpenClaim.holds_of_cond 4 Tryz.f4 rfl rfl rfl rfl rfl rfl rfl ⟨rfl, rfl, rfl, rfl, rfl⟩ rfl rfl rfl rfl rfl (by kernel_rfl) Tryz.func4 (by kernel_rfl)
    (of_decide_eq_true (by kernel_rfl)) (by unfold Func.isWrapper; first | (rw [if_pos (by decide +kernel)]; kernel_rfl) | (rw [if_neg (by decide +kernel)]; exact ⟨rfl, rfl⟩))
    (fun os started H enc _ F => by rw [OpenClaim.pre_eq_preRow]; exact lifted os started H enc F)
theorem plain (f : FuncId) (fn : Func) (hf : Tryz.pinned.checked.prog.funcNamed "causeway/causewaylaw07.StoreStates" = some f) (hfn : Tryz.pinned.checked.prog.funcs[f]? = some fn) :
    false = Tryz.pinned.checked.prog.looks [] ∧ ∀ (j : Nat) t, fn.params[j]? = some t → Tryz.pinned.checked.prog.wantsStandIn t = false := by
  obtain rfl : f = 4 := Option.some.inj ((show Tryz.prog.funcNamed "causeway/causewaylaw07.StoreStates" = some 4 by kernel_rfl).symm.trans hf) |>.symm
  obtain rfl : fn = Tryz.f4 := (Option.some.inj (Tryz.func4.symm.trans hfn)).symm
  refine ⟨by kernel_rfl, fun j t ht => ?_⟩
  have h : (Tryz.f4.params.toList.all fun t => !Tryz.prog.wantsStandIn t) = true := by kernel_rfl
  have := List.all_eq_true.1 h t (Array.mem_toList_iff.2 (Array.mem_of_getElem? ht))
  show Tryz.prog.wantsStandIn t = false
  simpa using this
theorem storeStates_holds : Rows.StoreStatesCardSaid :=
  Claim7.holds_tied_plain_at .later [] _ _ _ _ over (fun _ h => by cases h) (by kernel_rfl) (fun _ h => by cases h) storeStates_row_tie rfl ⟨rfl, rfl⟩ (by kernel_rfl) rfl plain (by kernel_rfl)
#print axioms storeStates_holds
end Go.Proofs.YtnbcbdlbejdkpaaGreatDoor.storeStates
