import Derived.Test.YtjacolfhlfogkabGreatDoorCards
import Derived.Test.YtjacolfhlfogkabGreatDoorTie
import Derived.Test.YtjacolfhlfogkabGreatDoorKg
import Derived.Test.YtjacolfhlfogkabGreatDoorSea
import Derived.WalkKit
import Derived.ProofKit
import Derived.OpenShut
import Derived.Deep.DeepHandedRow
import Derived.Lib.LaidTab
namespace Go.Proofs.YtjacolfhlfogkabGreatDoor.ticketSome
open Go.ChangeShapes Go.WideShapes Go.ChangeAt Go.RowKit
open Go Go.Sl
set_option maxRecDepth 100000
def PairD.ok (W : World) (p : PairD) : Prop := RdS [was W.heap] p.v p.bs.length (bvs p.bs) ∧ ∀ b ∈ p.bs, b < 256
theorem pair_of {W : World} {H : Type} {enc : TypeId × Value → H} {m : Nat} {cs : List Value} {y : DataW H × List MemPlace} (h0 : DataW.trod enc Tryz.prog W 0 (fun _ => true) true m 99 cs = some y) (hwt : ∀ x ∈ DataW.weights Tryz.prog 99 y.1, x ≤ reachBytes) : ∃ p : PairD, (PairD.ok W p ∧ p.bs.length ≤ 140737488351232) ∧ cs = p.cells := by
  obtain ⟨xs, n, rfl, rfl, hlen, hxl, hel⟩ := DataW.trod_struct Tryz.underlying99 h0
  have hxl2 : xs.length = 2 := hxl
  obtain ⟨y0, y1, rfl⟩ : ∃ y0 y1, xs = [y0, y1] := by
    match xs, hxl2 with
    | [a, b], _ => exact ⟨a, b, rfl⟩
  have c0 : Tryz.prog.cellsOf 9 = 1 := by kernel_rfl
  have c1 : Tryz.prog.cellsOf 97 = 1 := by kernel_rfl
  have c2 : Tryz.prog.cellsOf 99 = 2 := by kernel_rfl
  have c3 : Tryz.prog.cellsOf 5 = 1 := by kernel_rfl
  rw [c2] at hlen
  have f0 : DataW.trod enc Tryz.prog W 0 (fun _ => true) true n 9 ((cs.drop 0).take (Tryz.prog.cellsOf 9)) = some y0 := hel 0 _ rfl
  have f1 : DataW.trod enc Tryz.prog W 0 (fun _ => true) true n 97 ((cs.drop 1).take (Tryz.prog.cellsOf 97)) = some y1 := hel 1 _ rfl
  rw [c0] at f0
  rw [c1] at f1
  obtain ⟨key, k1, _, _⟩ := DataW.trod_string Tryz.underlying9 f0
  obtain ⟨v, p1⟩ : ∃ v, (cs.drop 1).take 1 = [v] := by
    rcases DataW.trod_slice Tryz.underlying97 f1 with ⟨h, _⟩ | ⟨_, _, _, _, _, _, _, h, _⟩
    · exact ⟨_, h⟩
    · exact ⟨_, h⟩
  rw [p1] at f1
  obtain ⟨k, ks, hrd, _, hl, he⟩ := rd_trodZ Tryz.underlying97 c3 (by decide) f1
  have hkl : ∀ j, j < k → wtr [.int .u8] ((ks.drop (j * 1)).take 1) := fun j hj => by
    obtain ⟨m, y, _, _, _, _, _, h⟩ := he j hj
    exact trod_flat 4 5 [.int .u8] (by kernel_rfl) _ ⟨m, _, h⟩
  obtain ⟨bs, hn, hb, rfl⟩ := chunks (fun b : Nat => bvs [b]) (fun b => b < 256) 1 (fun b _ => rfl) k ks hl fun j hj => by
    obtain ⟨l, q1, q2, q3⟩ := wtr_u8 (n := 1) (hkl j hj)
    match l, q1 with
    | [b], _ => exact ⟨b, q2 b List.mem_cons_self, q3⟩
  subst hn
  have ef : ∀ l : List Nat, l.flatMap (fun b : Nat => bvs [b]) = bvs l := fun l => by
    induction l with
    | nil => rfl
    | cons b l ih => rw [List.flatMap_cons, ih]; rfl
  rw [ef] at hrd
  have c6 : Tryz.prog.bytesOf 5 = 1 := by kernel_rfl
  have hk : bs.length ≤ 140737488351232 := by
    rcases Nat.eq_zero_or_pos bs.length with h | h
    · omega
    · obtain ⟨_, _, els, rst, e1, e2, _⟩ := he 0 h
      have hmem : (els.length + rst.length) * Tryz.prog.bytesOf 5 ∈ DataW.weights Tryz.prog 99 (.agg ([y0, y1].map (·.1))) := by
        rw [DataW.weights, Tryz.underlying99]
        simp only [List.map_cons, List.map_nil, DataW.weightsEach, List.mem_append]
        refine .inr (.inl ?_)
        rw [e1]
        show _ ∈ DataW.weights Tryz.prog 97 (.slice els rst)
        rw [DataW.weights, Tryz.underlying97]
        exact List.mem_cons_self
      have := hwt _ hmem
      rw [c6] at this
      simp only [reachBytes] at this
      omega
  refine ⟨⟨key, v, bs⟩, ⟨⟨hrd, hb⟩, hk⟩, ?_⟩
  match cs, hlen with
  | [a, b], _ =>
    have e1 : [a] = [Value.string key] := k1
    have e2 : [b] = [v] := p1
    rw [List.cons.inj e1 |>.1, List.cons.inj e2 |>.1]
    rfl
def stepK9 : List LK := .int .i64 :: .int .i64 :: tickK
theorem step_of {cs : List Value} (h : wtr stepK9 cs) : ∃ x : StepT, x.wf ∧ cs = x.cells := by
  unfold stepK9 tickK at h
  obtain ⟨c1, cs1, rfl, ⟨w, rfl, h2⟩, h8⟩ := wtr_cons h
  obtain ⟨c2, cs2, rfl, ⟨t, rfl, h4⟩, h5⟩ := wtr_cons h8
  obtain ⟨c3, cs3, rfl, ⟨u, rfl, _⟩, h7⟩ := wtr_cons h5
  obtain ⟨c4, cs4, rfl, ⟨e, rfl, h10⟩, h11⟩ := wtr_cons h7
  obtain ⟨h12, h13⟩ := wtr_append h11
  obtain ⟨c5, cs5, hcs5, ⟨k, hk, h14⟩, h15⟩ := wtr_cons h13
  obtain ⟨h16, h17⟩ := wtr_append h15
  obtain ⟨la, a1, a2, a3⟩ := wtr_u8 h12
  obtain ⟨lb, b1, b2, b3⟩ := wtr_u8 h16
  obtain ⟨m, m1, m2, m3⟩ := wtr_u64 h17
  refine ⟨⟨w, t, ⟨u, e, la, k, lb, m⟩⟩, ⟨(i64_of_wf h2).1, (i64_of_wf h2).2, (i64_of_wf h4).1, (i64_of_wf h4).2, ⟨a1, b1, m1⟩, a2, b2, ⟨m1, m2⟩⟩, ?_⟩
  rw [StepT.cells, TicketD.cells, ← a3, ← b3, ← m3, List.take_append_drop, ← hk, ← hcs5, List.take_append_drop]
theorem pairs_of {base : Nat} {W : World} {v : Value} {H : Type} {enc : TypeId × Value → H} {dd : DataW H} {ps : List MemPlace} (hv : Value.okWide Tryz.prog W .any base 22 v) (h0 : DataW.Trod enc Tryz.prog W 0 (fun _ => true) true 22 v dd ps) (hwt : ∀ x ∈ DataW.weights Tryz.prog 22 dd, x ≤ reachBytes) :
    ∃ ls : List PairD, (∀ p ∈ ls, PairD.ok W p) ∧ ls.length ≤ 3518437208882 ∧ RdS [was W.heap] v ls.length (pairsC ls) ∧ ∀ p ∈ ls, p.bs.length ≤ 140737488351232 := by
  obtain ⟨s1, s2⟩ := slice_okWide Tryz.underlying22 hv
  obtain ⟨fuel, h0⟩ := h0
  rw [s1] at h0
  have c5 : Tryz.prog.bytesOf 99 = 40 := by kernel_rfl
  obtain ⟨n, cs, hrd, _, hl, he⟩ := rd_trodG (k := 2) Tryz.underlying22 (by kernel_rfl) (by decide) s2 h0
  obtain ⟨ls, hn, hls, rfl⟩ := chunks PairD.cells (fun p => PairD.ok W p ∧ p.bs.length ≤ 140737488351232) 2 (fun _ _ => rfl) n cs hl fun i hi => by
    obtain ⟨m, y, els, rst, e1, _, e3, h⟩ := he i hi
    exact pair_of h (fun x hx => hwt x (by
      rw [show dd = .slice els rst from e1, DataW.weights, Tryz.underlying22]
      exact List.mem_cons_of_mem _ (List.mem_append_left _ (weights_mem (List.mem_of_getElem? e3) x hx))))
  subst hn
  refine ⟨ls, fun p hp => (hls p hp).1, ?_, hrd, fun p hp => (hls p hp).2⟩
  rcases Nat.eq_zero_or_pos ls.length with h | h
  · omega
  · obtain ⟨m, y, els, rst, e1, e2, _⟩ := he 0 h
    have hmem : (els.length + rst.length) * Tryz.prog.bytesOf 99 ∈ DataW.weights Tryz.prog 22 dd := by
      rw [show dd = .slice els rst from e1, DataW.weights, Tryz.underlying22]
      exact List.mem_cons_self
    have := hwt _ hmem
    rw [c5] at this
    simp only [reachBytes] at this
    omega
theorem steps_of {base : Nat} {W : World} {v : Value} {H : Type} {enc : TypeId × Value → H} {dd : DataW H} {ps : List MemPlace} (hv : Value.okWide Tryz.prog W .any base 23 v) (h0 : DataW.Trod enc Tryz.prog W 0 (fun _ => true) true 23 v dd ps) (hwt : ∀ x ∈ DataW.weights Tryz.prog 23 dd, x ≤ reachBytes) :
    ∃ xs : List StepT, (∀ x ∈ xs, x.wf) ∧ xs.length ≤ 1172812402961 ∧ RdS [was W.heap] v xs.length (xs.flatMap StepT.cells) := by
  obtain ⟨s1, s2⟩ := slice_okWide Tryz.underlying23 hv
  obtain ⟨fuel, h0⟩ := h0
  rw [s1] at h0
  have c5 : Tryz.prog.bytesOf 45 = 120 := by kernel_rfl
  obtain ⟨n, cs, hrd, _, hl, he⟩ := rd_trodG (k := 49) Tryz.underlying23 (by kernel_rfl) (by decide) s2 h0
  obtain ⟨xs, hn, hxs, rfl⟩ := chunks StepT.cells StepT.wf 49 (fun s h => StepT.cells_len h) n cs hl fun i hi => by
    obtain ⟨m, y, _, _, _, _, _, h⟩ := he i hi
    exact step_of (trod_flat 5 45 stepK9 (by kernel_rfl) _ ⟨m, _, h⟩)
  subst hn
  refine ⟨xs, hxs, ?_, hrd⟩
  rcases Nat.eq_zero_or_pos xs.length with h | h
  · omega
  · obtain ⟨m, y, els, rst, e1, e2, _⟩ := he 0 h
    have hmem : (els.length + rst.length) * Tryz.prog.bytesOf 45 ∈ DataW.weights Tryz.prog 23 dd := by
      rw [show dd = .slice els rst from e1, DataW.weights, Tryz.underlying23]
      exact List.mem_cons_self
    have := hwt _ hmem
    rw [c5] at this
    simp only [reachBytes] at this
    omega
theorem contract (H : Type) (enc : TypeId × Value → H) (W : World) (base : Nat) (args : Array Value) (ds gs : List (DataW H)) (before : List MemPlace)
    (hval : ∀ (j : Nat) t v, Tryz.f3.params[j]? = some t → args[j]? = some v → Value.okWide Tryz.prog W .any base t v)
    (hW : DataW.Whole enc Tryz.prog Tryz.f3.params.toList Rows.ticketSomeSpec.vars false W args.toList ds gs before)
    (hwt : (DataW.weightsEach Tryz.prog (Tryz.f3.params.toList ++ (OpenSpec.ofChange Rows.ticketSomeSpec).bare.plain.varTypes Tryz.prog) (ds ++ gs)).all (· ≤ reachBytes) = true) (_hL : laidMetH Tryz.prog Rows.ticketSomeRow.laid W) :
    Calls Tryz.prog 3 args W fun e W' => ∃ v, e = .returned v ∧ Rows.ticketSomeSpec.post enc Tryz.prog Tryz.f3 false true false false W args v W' := by
  have hW' := hW
  obtain ⟨p, q, hA0, hV, rfl, hfz, hnd⟩ := hW
  have hA : DataW.TrodAll enc Tryz.prog W 0 (fun _ => true) true Tryz.f3.params.toList args.toList ds p := hA0
  rw [Tryz.params3] at hA hval hwt
  obtain ⟨v0, vs0, d0, ds0, p0, q0, hargs, rfl, rfl, h0, r0⟩ := trodAll_cons hA
  obtain ⟨v1, vs1, d1, ds1, p1, q1, rfl, rfl, rfl, h1, r1⟩ := trodAll_cons r0
  obtain ⟨rfl, rfl, rfl⟩ := trodAll_nil r1
  obtain rfl : args = #[v0, v1] := by cases args; simp_all
  obtain ⟨rfl, rfl⟩ := trodVars_none hV
  have hall : ∀ x ∈ DataW.weights Tryz.prog 22 d0 ++ DataW.weights Tryz.prog 23 d1, x ≤ reachBytes := fun x hx => by
    have h := List.all_eq_true.1 hwt x (by
      show x ∈ DataW.weightsEach Tryz.prog (22 :: 23 :: _) (d0 :: d1 :: _)
      rw [DataW.weightsEach, DataW.weightsEach, List.mem_append, List.mem_append]
      rcases List.mem_append.1 hx with hx | hx
      · exact .inl hx
      · exact .inr (.inl hx))
    simpa using h
  obtain ⟨ls, hls, hl0, hrd, hlen⟩ := pairs_of (hval 0 22 v0 rfl rfl) h0 (fun x hx => hall x (List.mem_append.2 (.inl hx)))
  obtain ⟨xs, hxs, hx1, hrd2⟩ := steps_of (hval 1 23 v1 rfl rfl) h1 (fun x hx => hall x (List.mem_append.2 (.inr hx)))
  refine (tsome_spec [was W.heap] v0 ls hrd hl0 hls hlen v1 xs hxs hx1 hrd2 W (Sat.was_here W)).mono fun e W' he => ?_
  obtain ⟨v, L, rfl, rfl, hx, hs⟩ := he
  exact ⟨_, rfl, post_true kids full (by rw [Tryz.params3]; decide +kernel) rfl hW' Tryz.underlying4 (by kernel_rfl) rfl hx (old_of_was hs)⟩

noncomputable def laidWorld (os : Os) : World :=
  { World.holding Tryz.prog os ⟨#[], #[], []⟩ with heap := (((World.holding Tryz.prog os ⟨#[], #[], []⟩).heap).modify 0 (fun
    | .cells _ t frozen => .cells #[.int .u32 1116352408, .int .u32 1899447441, .int .u32 3049323471, .int .u32 3921009573, .int .u32 961987163, .int .u32 1508970993, .int .u32 2453635748, .int .u32 2870763221, .int .u32 3624381080, .int .u32 310598401, .int .u32 607225278, .int .u32 1426881987, .int .u32 1925078388, .int .u32 2162078206, .int .u32 2614888103, .int .u32 3248222580, .int .u32 3835390401, .int .u32 4022224774, .int .u32 264347078, .int .u32 604807628, .int .u32 770255983, .int .u32 1249150122, .int .u32 1555081692, .int .u32 1996064986, .int .u32 2554220882, .int .u32 2821834349, .int .u32 2952996808, .int .u32 3210313671, .int .u32 3336571891, .int .u32 3584528711, .int .u32 113926993, .int .u32 338241895, .int .u32 666307205, .int .u32 773529912, .int .u32 1294757372, .int .u32 1396182291, .int .u32 1695183700, .int .u32 1986661051, .int .u32 2177026350, .int .u32 2456956037, .int .u32 2730485921, .int .u32 2820302411, .int .u32 3259730800, .int .u32 3345764771, .int .u32 3516065817, .int .u32 3600352804, .int .u32 4094571909, .int .u32 275423344, .int .u32 430227734, .int .u32 506948616, .int .u32 659060556, .int .u32 883997877, .int .u32 958139571, .int .u32 1322822218, .int .u32 1537002063, .int .u32 1747873779, .int .u32 1955562222, .int .u32 2024104815, .int .u32 2227730452, .int .u32 2361852424, .int .u32 2428436474, .int .u32 2756734187, .int .u32 3204031479, .int .u32 3329325298] t frozen
    | o => o)) }
theorem laid_met (os : Os) : laidMet Tryz.prog Rows.ticketSomeRow.laid ((laidWorld os).forCall (fun _ _ => 0) ⟨#[], #[.slice none 0 0, .slice none 0 0], []⟩).memory :=
  laidMet_of_run' 8 (by kernel_rfl) (by kernel_rfl)
theorem reads (os : Os) {H : Type} (enc : TypeId × Value → H) : ∃ places, DataW.whole enc Tryz.prog ((laidWorld os).forCall (fun _ _ => 0) ⟨#[], #[.slice none 0 0, .slice none 0 0], []⟩).memory Tryz.f3.params.toList Rows.ticketSomeSpec.vars false #[.slice none 0 0, .slice none 0 0].toList 8 = some ([.nil, .nil], [], places) :=
  ⟨[], by kernel_rfl⟩
set_option maxRecDepth 100000 in
theorem lifted (os : Os) (started : os.Started) (H : Type) (enc : TypeId × Value → H) (F : Stop.Interp) :
    ReturnsInHanded {} Tryz.checked os 3 .any ((OpenSpec.ofChange Rows.ticketSomeSpec).preRow enc Tryz.prog Tryz.f3 Rows.ticketSomeRow.domain false Rows.ticketSomeRow.laid) (((OpenSpec.ofChange Rows.ticketSomeSpec).at F).post enc Tryz.prog Tryz.f3 false true false false) := by
  obtain ⟨places, hx⟩ := reads os enc
  refine returnsInHanded_of_row (C := Tryz.checked) (s := (OpenSpec.ofChange Rows.ticketSomeSpec)) own' started (by kernel_rfl) Tryz.func3
    (witness_row_at (enc := enc) (C := Tryz.checked) false (laidWorld os) #[.slice none 0 0, .slice none 0 0] rfl (by kernel_rfl) (by kernel_rfl) (by kernel_rfl)
      (OpenSpec.preRow_of_cond 8 hx (by kernel_rfl) (fun k hk => by cases hk) (by kernel_rfl) (laid_met os))) ?_
  intro W base args ds gs before hval hW hc1 hc2 hc3 hL hc4 hc5
  exact contract H enc W base args ds gs before hval hW hc3 hL
theorem over : Rows.ticketSomeRow.holds Tryz.pinned (OpenSpec.ofChange Rows.ticketSomeSpec) :=
  OpenClaim.holds_of_cond 3 Tryz.f3 rfl rfl rfl rfl rfl rfl rfl ⟨rfl, rfl, rfl, rfl, rfl⟩ rfl rfl rfl rfl rfl (by kernel_rfl) Tryz.func3 (by kernel_rfl)
    (of_decide_eq_true (by kernel_rfl)) (by unfold Func.isWrapper; first | (rw [if_pos (by decide +kernel)]; kernel_rfl) | (rw [if_neg (by decide +kernel)]; exact ⟨rfl, rfl⟩))
    (fun os started H enc _ F => by rw [OpenClaim.pre_eq_preRow]; exact lifted os started H enc F)
theorem plain (f : FuncId) (fn : Func) (hf : Tryz.pinned.checked.prog.funcNamed "causeway/causewaylaw09.TicketSome" = some f) (hfn : Tryz.pinned.checked.prog.funcs[f]? = some fn) :
    false = Tryz.pinned.checked.prog.looks [] ∧ ∀ (j : Nat) t, fn.params[j]? = some t → Tryz.pinned.checked.prog.wantsStandIn t = false := by
  obtain rfl : f = 3 := Option.some.inj ((show Tryz.prog.funcNamed "causeway/causewaylaw09.TicketSome" = some 3 by kernel_rfl).symm.trans hf) |>.symm
  obtain rfl : fn = Tryz.f3 := (Option.some.inj (Tryz.func3.symm.trans hfn)).symm
  refine ⟨by kernel_rfl, fun j t ht => ?_⟩
  have h : (Tryz.f3.params.toList.all fun t => !Tryz.prog.wantsStandIn t) = true := by kernel_rfl
  have := List.all_eq_true.1 h t (Array.mem_toList_iff.2 (Array.mem_of_getElem? ht))
  show Tryz.prog.wantsStandIn t = false
  simpa using this
theorem ticketSome_holds : Rows.TicketSomeCardSaid :=
  Claim7.holds_tied_plain_at .later [] _ _ _ _ over (fun _ h => by cases h) (by kernel_rfl) (fun _ h => by cases h) ticketSome_row_tie rfl ⟨rfl, rfl⟩ (by kernel_rfl) rfl plain (by kernel_rfl)
#print axioms ticketSome_holds
end Go.Proofs.YtjacolfhlfogkabGreatDoor.ticketSome
