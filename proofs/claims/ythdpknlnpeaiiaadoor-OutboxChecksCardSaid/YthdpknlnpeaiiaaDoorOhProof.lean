/-
  OutboxChecks: the given statement, out of the contract of the law's function.
-/
import Derived.Test.YthdpknlnpeaiiaaDoorCards
import Derived.Test.YthdpknlnpeaiiaaDoorTie
import Derived.Test.YthdpknlnpeaiiaaDoorOh
import Derived.Test.YthdpknlnpeaiiaaDoorSea
import Derived.WalkKit
import Derived.ProofKit
import Derived.OpenShut
import Derived.Deep.DeepHandedRow
import Derived.Lib.LaidTab
namespace Go.Proofs.YthdpknlnpeaiiaaDoor.outboxChecks
open Go.ChangeShapes Go.WideShapes Go.ChangeAt Go.RowKit
open Go Go.Sl
set_option maxRecDepth 100000
theorem leaf_of {cs : List Value} (h : wtr leafK cs) : ∃ l : LeafD, l.wf ∧ (∀ b ∈ l.to, b < 256) ∧ wOk l.amt ∧ cs = l.cells := by
  unfold leafK at h
  obtain ⟨c1, cs1, rfl, ⟨e1, rfl, _⟩, h1⟩ := wtr_cons h
  obtain ⟨c2, cs2, rfl, ⟨e2, rfl, _⟩, h2⟩ := wtr_cons h1
  obtain ⟨c3, cs3, rfl, ⟨e3, rfl, _⟩, h3⟩ := wtr_cons h2
  obtain ⟨h6, h7⟩ := wtr_append h3
  obtain ⟨l, l1, l2, l3⟩ := wtr_u8 h6
  obtain ⟨m, m1, m2, m3⟩ := wtr_u64 h7
  refine ⟨⟨e1, e2, e3, l, m⟩, ⟨l1, m1⟩, l2, ⟨m1, m2⟩, ?_⟩
  rw [LeafD.cells, ← l3, ← m3, List.take_append_drop]
theorem list61 {l : List Value} (h : l.length = 61) : l = (l.drop 0).take 32 ++ ((l.drop 32).take 1 ++ ((l.drop 33).take 27 ++ (l.drop 60).take 1)) := by
  rw [List.drop_zero, List.take_of_length_le (l := l.drop 60) (by rw [List.length_drop]; omega)]
  conv => lhs; rw [← List.take_append_drop 32 l, ← List.take_append_drop 1 (l.drop 32), List.drop_drop, ← List.take_append_drop 27 (l.drop 33), List.drop_drop]
theorem shown_of {W : World} {H : Type} {enc : TypeId × Value → H} {m : Nat} {cs : List Value} {y : DataW H × List MemPlace} (h0 : DataW.trod enc Tryd.prog W 0 (fun _ => true) true m 35 cs = some y) (hwt : ∀ x ∈ DataW.weights Tryd.prog 35 y.1, x ≤ reachBytes) :
    ∃ s : ShD, s.wf [was W.heap] ∧ cs = s.cells := by
  obtain ⟨xs, n, rfl, rfl, hlen, hxl, hel⟩ := DataW.trod_struct Tryd.underlying35 h0
  have hxl4 : xs.length = 4 := hxl
  obtain ⟨y0, y1, y2, y3, rfl⟩ : ∃ y0 y1 y2 y3, xs = [y0, y1, y2, y3] := by
    match xs, hxl4 with
    | [a, b, c, d], _ => exact ⟨a, b, c, d, rfl⟩
  have c0 : Tryd.prog.cellsOf 25 = 32 := by kernel_rfl
  have c1 : Tryd.prog.cellsOf 3 = 1 := by kernel_rfl
  have c2 : Tryd.prog.cellsOf 32 = 27 := by kernel_rfl
  have c3 : Tryd.prog.cellsOf 33 = 1 := by kernel_rfl
  have c4 : Tryd.prog.cellsOf 35 = 61 := by kernel_rfl
  have c5 : Tryd.prog.bytesOf 25 = 32 := by kernel_rfl
  rw [c4] at hlen
  have f0 : DataW.trod enc Tryd.prog W 0 (fun _ => true) true n 25 ((cs.drop 0).take (Tryd.prog.cellsOf 25)) = some y0 := hel 0 _ rfl
  have f1 : DataW.trod enc Tryd.prog W 0 (fun _ => true) true n 3 ((cs.drop 32).take (Tryd.prog.cellsOf 3)) = some y1 := hel 1 _ rfl
  have f2 : DataW.trod enc Tryd.prog W 0 (fun _ => true) true n 32 ((cs.drop 33).take (Tryd.prog.cellsOf 32)) = some y2 := hel 2 _ rfl
  have f3 : DataW.trod enc Tryd.prog W 0 (fun _ => true) true n 33 ((cs.drop 60).take (Tryd.prog.cellsOf 33)) = some y3 := hel 3 _ rfl
  rw [c0] at f0
  rw [c1] at f1
  rw [c2] at f2
  rw [c3] at f3
  obtain ⟨rt, r1, r2, r3⟩ := wtr_u8 (n := 32) (trod_flat 4 25 (List.replicate 32 (.int .u8)) (by kernel_rfl) _ ⟨n, _, f0⟩)
  obtain ⟨sz, t1, _, _⟩ := DataW.trod_int Tryd.underlying3 f1
  obtain ⟨lf, l1, l2, l3, l4⟩ := leaf_of (trod_flat 4 32 leafK (by kernel_rfl) _ ⟨n, _, f2⟩)
  obtain ⟨pv, p1⟩ : ∃ pv, (cs.drop 60).take 1 = [pv] := by
    rcases DataW.trod_slice Tryd.underlying33 f3 with ⟨h, _⟩ | ⟨_, _, _, _, _, _, _, h, _⟩
    · exact ⟨_, h⟩
    · exact ⟨_, h⟩
  rw [p1] at f3
  obtain ⟨k, ks, hrd, _, hl, he⟩ := rd_trodZ Tryd.underlying33 c0 (by decide) f3
  obtain ⟨ds, hn, hw, rfl⟩ := chunks bvs DigOk 32 (fun r hr => by rw [bvs_len, hr.len]) k ks hl fun i hi => by
    obtain ⟨m, y, _, _, _, _, _, h⟩ := he i hi
    obtain ⟨l, q1, q2, q3⟩ := wtr_u8 (n := 32) (trod_flat 4 25 (List.replicate 32 (.int .u8)) (by kernel_rfl) _ ⟨m, _, h⟩)
    exact ⟨l, ⟨q1, q2⟩, q3⟩
  subst hn
  have hfit : 32 * (ds.length + 2) ≤ 281474976710656 := by
    rcases Nat.eq_zero_or_pos ds.length with h | h
    · omega
    · obtain ⟨m, y, els, rst, e1, e2, _⟩ := he 0 h
      have hmem : (els.length + rst.length) * Tryd.prog.bytesOf 25 ∈ DataW.weights Tryd.prog 35 (.agg ([y0, y1, y2, y3].map (·.1))) := by
        rw [DataW.weights, Tryd.underlying35]
        simp only [List.map_cons, List.map_nil, DataW.weightsEach, List.mem_append]
        refine .inr (.inr (.inr (.inl ?_)))
        rw [e1]
        show _ ∈ DataW.weights Tryd.prog 33 (.slice els rst)
        rw [DataW.weights, Tryd.underlying33]
        exact List.mem_cons_self
      have := hwt _ hmem
      rw [c5] at this
      simp only [reachBytes] at this
      omega
  refine ⟨⟨rt, sz, lf, pv, ds⟩, ⟨⟨r1, r2⟩, l1, l2, l3, hw, hrd, hfit⟩, ?_⟩
  rw [list61 hlen, r3, t1, l4, p1]
  rfl
theorem contract (H : Type) (enc : TypeId × Value → H) (W : World) (base : Nat) (args : Array Value) (ds gs : List (DataW H)) (before : List MemPlace)
    (hval : ∀ (j : Nat) t v, Tryd.f3.params[j]? = some t → args[j]? = some v → Value.okWide Tryd.prog W .any base t v)
    (hW : DataW.Whole enc Tryd.prog Tryd.f3.params.toList Rows.outboxChecksSpec.vars false W args.toList ds gs before)
    (hwt : (DataW.weightsEach Tryd.prog (Tryd.f3.params.toList ++ (OpenSpec.ofChange Rows.outboxChecksSpec).bare.plain.varTypes Tryd.prog) (ds ++ gs)).all (· ≤ reachBytes) = true) (hL : laidMetH Tryd.prog Rows.outboxChecksRow.laid W) :
    Calls Tryd.prog 3 args W fun e W' => ∃ v, e = .returned v ∧ Rows.outboxChecksSpec.post enc Tryd.prog Tryd.f3 false true false false W args v W' := by
  have hW' := hW
  obtain ⟨p, q, hA0, hV, rfl, hfz, hnd⟩ := hW
  have hA : DataW.TrodAll enc Tryd.prog W 0 (fun _ => true) true Tryd.f3.params.toList args.toList ds p := hA0
  rw [Tryd.params3] at hA hval hwt
  obtain ⟨v0, vs0, d0, ds0, p0, q0, hargs, rfl, rfl, h0, r0⟩ := trodAll_cons hA
  obtain ⟨rfl, rfl, rfl⟩ := trodAll_nil r0
  obtain rfl : args = #[v0] := by cases args; simp_all
  obtain ⟨rfl, rfl⟩ := trodVars_none hV
  have hwt0 : ∀ x ∈ DataW.weights Tryd.prog 22 d0, x ≤ reachBytes := fun x hx => by
    have h := List.all_eq_true.1 hwt x (by
      show x ∈ DataW.weightsEach Tryd.prog (22 :: _) (d0 :: _)
      rw [DataW.weightsEach, List.mem_append]
      exact .inl hx)
    simpa using h
  obtain ⟨s1, s2⟩ := slice_okWide Tryd.underlying22 (hval 0 22 v0 rfl rfl)
  obtain ⟨fuel, h0⟩ := h0
  rw [s1] at h0
  obtain ⟨n, cs, hrd, hmax, hl, he⟩ := rd_trodG (k := 61) Tryd.underlying22 (by kernel_rfl) (by decide) s2 h0
  obtain ⟨ss, hn, hss, rfl⟩ := chunks ShD.cells (ShD.wf [was W.heap]) 61 (fun s h => ShD.len h) n cs hl fun i hi => by
    obtain ⟨m, y, els, rst, e1, _, e3, h⟩ := he i hi
    obtain ⟨s, hs1, hs2⟩ := shown_of h (fun x hx => hwt0 x (by
      rw [show d0 = .slice els rst from e1, DataW.weights, Tryd.underlying22]
      exact List.mem_cons_of_mem _ (List.mem_append.2 (.inl (weights_mem (List.mem_of_getElem? e3) x hx)))))
    exact ⟨s, hs1, hs2⟩
  subst hn
  have e : Rows.outboxChecksRow.laid = [("causeway/causewayref01.constants", Lib.tabData .u32 (tabK K64)), ("causeway/causewayref01.beginning", Lib.tabData .u32 (tabK ivW)), ("causeway/digest.steps", Lib.tabData .u32 (tabK K64))] := by kernel_rfl
  have hL1 : laidMet Tryd.prog [("causeway/causewayref01.constants", Lib.tabData .u32 (tabK K64)), ("causeway/causewayref01.beginning", Lib.tabData .u32 (tabK ivW)), ("causeway/digest.steps", Lib.tabData .u32 (tabK K64))] W := by rw [e] at hL; exact hL
  have hC : CelN [was W.heap] 1 0 (wvs K64) := words_was (t := 232) (e := 215) (n := 64) hL1 (by kernel_rfl) (by kernel_rfl) (by kernel_rfl) (by kernel_rfl) (by kernel_rfl) (by kernel_rfl)
  have hB : CelN [was W.heap] 0 0 (wvs ivW) := words_was (t := 216) (e := 215) (n := 8) (laidMet.tail hL1) (by kernel_rfl) (by kernel_rfl) (by kernel_rfl) (by kernel_rfl) (by kernel_rfl) (by kernel_rfl)
  have hK : CelN [was W.heap] 4 0 (wvs K64) := words_was (t := 232) (e := 215) (n := 64) (laidMet.tail (laidMet.tail hL1)) (by kernel_rfl) (by kernel_rfl) (by kernel_rfl) (by kernel_rfl) (by kernel_rfl) (by kernel_rfl)
  refine (law_spec K64 K64_len [was W.heap] hK hC hB v0 ss hmax hss hrd W (Sat.was_here W)).mono fun e W' he => ?_
  obtain ⟨v, L, rfl, rfl, hx, hs⟩ := he
  exact ⟨_, rfl, post_true kids full (by rw [Tryd.params3]; decide +kernel) rfl hW' Tryd.underlying4 (by kernel_rfl) rfl hx (old_of_was hs)⟩

def witV : Value := .slice none 0 0
noncomputable def laidWorld (os : Os) : World :=
  { World.holding Tryd.prog os ⟨#[], #[], []⟩ with heap := (((((((World.holding Tryd.prog os ⟨#[], #[], []⟩).heap).modify 1 (fun
    | .cells _ t frozen => .cells #[.int .u32 1116352408, .int .u32 1899447441, .int .u32 3049323471, .int .u32 3921009573, .int .u32 961987163, .int .u32 1508970993, .int .u32 2453635748, .int .u32 2870763221, .int .u32 3624381080, .int .u32 310598401, .int .u32 607225278, .int .u32 1426881987, .int .u32 1925078388, .int .u32 2162078206, .int .u32 2614888103, .int .u32 3248222580, .int .u32 3835390401, .int .u32 4022224774, .int .u32 264347078, .int .u32 604807628, .int .u32 770255983, .int .u32 1249150122, .int .u32 1555081692, .int .u32 1996064986, .int .u32 2554220882, .int .u32 2821834349, .int .u32 2952996808, .int .u32 3210313671, .int .u32 3336571891, .int .u32 3584528711, .int .u32 113926993, .int .u32 338241895, .int .u32 666307205, .int .u32 773529912, .int .u32 1294757372, .int .u32 1396182291, .int .u32 1695183700, .int .u32 1986661051, .int .u32 2177026350, .int .u32 2456956037, .int .u32 2730485921, .int .u32 2820302411, .int .u32 3259730800, .int .u32 3345764771, .int .u32 3516065817, .int .u32 3600352804, .int .u32 4094571909, .int .u32 275423344, .int .u32 430227734, .int .u32 506948616, .int .u32 659060556, .int .u32 883997877, .int .u32 958139571, .int .u32 1322822218, .int .u32 1537002063, .int .u32 1747873779, .int .u32 1955562222, .int .u32 2024104815, .int .u32 2227730452, .int .u32 2361852424, .int .u32 2428436474, .int .u32 2756734187, .int .u32 3204031479, .int .u32 3329325298] t frozen
    | o => o))).modify 0 (fun
    | .cells _ t frozen => .cells #[.int .u32 1779033703, .int .u32 3144134277, .int .u32 1013904242, .int .u32 2773480762, .int .u32 1359893119, .int .u32 2600822924, .int .u32 528734635, .int .u32 1541459225] t frozen
    | o => o))).modify 4 (fun
    | .cells _ t frozen => .cells #[.int .u32 1116352408, .int .u32 1899447441, .int .u32 3049323471, .int .u32 3921009573, .int .u32 961987163, .int .u32 1508970993, .int .u32 2453635748, .int .u32 2870763221, .int .u32 3624381080, .int .u32 310598401, .int .u32 607225278, .int .u32 1426881987, .int .u32 1925078388, .int .u32 2162078206, .int .u32 2614888103, .int .u32 3248222580, .int .u32 3835390401, .int .u32 4022224774, .int .u32 264347078, .int .u32 604807628, .int .u32 770255983, .int .u32 1249150122, .int .u32 1555081692, .int .u32 1996064986, .int .u32 2554220882, .int .u32 2821834349, .int .u32 2952996808, .int .u32 3210313671, .int .u32 3336571891, .int .u32 3584528711, .int .u32 113926993, .int .u32 338241895, .int .u32 666307205, .int .u32 773529912, .int .u32 1294757372, .int .u32 1396182291, .int .u32 1695183700, .int .u32 1986661051, .int .u32 2177026350, .int .u32 2456956037, .int .u32 2730485921, .int .u32 2820302411, .int .u32 3259730800, .int .u32 3345764771, .int .u32 3516065817, .int .u32 3600352804, .int .u32 4094571909, .int .u32 275423344, .int .u32 430227734, .int .u32 506948616, .int .u32 659060556, .int .u32 883997877, .int .u32 958139571, .int .u32 1322822218, .int .u32 1537002063, .int .u32 1747873779, .int .u32 1955562222, .int .u32 2024104815, .int .u32 2227730452, .int .u32 2361852424, .int .u32 2428436474, .int .u32 2756734187, .int .u32 3204031479, .int .u32 3329325298] t frozen
    | o => o)) }
theorem laid_met (os : Os) : laidMet Tryd.prog Rows.outboxChecksRow.laid ((laidWorld os).forCall (fun _ _ => 0) ⟨#[], #[witV], []⟩).memory :=
  laidMet_of_run' 8 (by kernel_rfl) (by kernel_rfl)
theorem reads (os : Os) {H : Type} (enc : TypeId × Value → H) : ∃ places, DataW.whole enc Tryd.prog ((laidWorld os).forCall (fun _ _ => 0) ⟨#[], #[witV], []⟩).memory Tryd.f3.params.toList Rows.outboxChecksSpec.vars false #[witV].toList 8 = some ([.nil], [], places) :=
  ⟨[], by kernel_rfl⟩
set_option maxRecDepth 100000 in
theorem lifted (os : Os) (started : os.Started) (H : Type) (enc : TypeId × Value → H) (F : Stop.Interp) :
    ReturnsInHanded {} Tryd.checked os 3 .any ((OpenSpec.ofChange Rows.outboxChecksSpec).preRow enc Tryd.prog Tryd.f3 Rows.outboxChecksRow.domain false Rows.outboxChecksRow.laid) (((OpenSpec.ofChange Rows.outboxChecksSpec).at F).post enc Tryd.prog Tryd.f3 false true false false) := by
  obtain ⟨places, hx⟩ := reads os enc
  refine returnsInHanded_of_row (C := Tryd.checked) (s := (OpenSpec.ofChange Rows.outboxChecksSpec)) own' started (by kernel_rfl) Tryd.func3
    (witness_row_at (enc := enc) (C := Tryd.checked) false (laidWorld os) #[witV] rfl (by kernel_rfl) (by kernel_rfl) (by kernel_rfl)
      (OpenSpec.preRow_of_cond 8 hx (by kernel_rfl) (fun k hk => by cases hk) (by kernel_rfl) (laid_met os))) ?_
  intro W base args ds gs before hval hW hc1 hc2 hc3 hL hc4 hc5
  exact contract H enc W base args ds gs before hval hW hc3 hL
theorem over : Rows.outboxChecksRow.holds Tryd.pinned (OpenSpec.ofChange Rows.outboxChecksSpec) :=
  OpenClaim.holds_of_cond 3 Tryd.f3 rfl rfl rfl rfl rfl rfl rfl ⟨rfl, rfl, rfl, rfl, rfl⟩ rfl rfl rfl rfl rfl (by kernel_rfl) Tryd.func3 (by kernel_rfl)
    (of_decide_eq_true (by kernel_rfl)) (by unfold Func.isWrapper; first | (rw [if_pos (by decide +kernel)]; kernel_rfl) | (rw [if_neg (by decide +kernel)]; exact ⟨rfl, rfl⟩))
    (fun os started H enc _ F => by rw [OpenClaim.pre_eq_preRow]; exact lifted os started H enc F)
theorem plain (f : FuncId) (fn : Func) (hf : Tryd.pinned.checked.prog.funcNamed "causeway/causewaylaw11.OutboxChecks" = some f) (hfn : Tryd.pinned.checked.prog.funcs[f]? = some fn) :
    false = Tryd.pinned.checked.prog.looks [] ∧ ∀ (j : Nat) t, fn.params[j]? = some t → Tryd.pinned.checked.prog.wantsStandIn t = false := by
  obtain rfl : f = 3 := Option.some.inj ((show Tryd.prog.funcNamed "causeway/causewaylaw11.OutboxChecks" = some 3 by kernel_rfl).symm.trans hf) |>.symm
  obtain rfl : fn = Tryd.f3 := (Option.some.inj (Tryd.func3.symm.trans hfn)).symm
  refine ⟨by kernel_rfl, fun j t ht => ?_⟩
  have h : (Tryd.f3.params.toList.all fun t => !Tryd.prog.wantsStandIn t) = true := by kernel_rfl
  have := List.all_eq_true.1 h t (Array.mem_toList_iff.2 (Array.mem_of_getElem? ht))
  show Tryd.prog.wantsStandIn t = false
  simpa using this
theorem outboxChecks_holds : Rows.OutboxChecksCardSaid :=
  Claim7.holds_tied_plain_at .later [] _ _ _ _ over (fun _ h => by cases h) (by kernel_rfl) (fun _ h => by cases h) outboxChecks_row_tie rfl ⟨rfl, rfl⟩ (by kernel_rfl) rfl plain (by kernel_rfl)
#print axioms outboxChecks_holds
end Go.Proofs.YthdpknlnpeaiiaaDoor.outboxChecks
