/-
  OutboxBooks: the given statement, out of the contract of the law's function.
-/
import Derived.Test.YthdpknlnpeaiiaaDoorCards
import Derived.Test.YthdpknlnpeaiiaaDoorTie
import Derived.Test.YthdpknlnpeaiiaaDoorBr
import Derived.Test.YthdpknlnpeaiiaaDoorSea
import Derived.WalkKit
import Derived.ProofKit
import Derived.OpenShut
import Derived.Deep.DeepHandedRow
import Derived.Lib.LaidTab
namespace Go.Proofs.YthdpknlnpeaiiaaDoor.outboxBooks
open Go.ChangeShapes Go.WideShapes Go.ChangeAt Go.RowKit
open Go Go.Sl
set_option maxRecDepth 100000
theorem leaf_of {cs : List Value} (h : wtr leafK cs) : ∃ l : LeafD, l.wf ∧ (∀ b ∈ l.to, b < 256) ∧ wOk l.amt ∧ cs = l.cells := by
  unfold leafK at h
  obtain ⟨c1, cs1, rfl, ⟨e1, rfl, _⟩, h1⟩ := wtr_cons h
  obtain ⟨c2, cs2, rfl, ⟨e2, rfl, _⟩, h2⟩ := wtr_cons h1
  obtain ⟨c3, cs3, rfl, ⟨e3, rfl, _⟩, h3⟩ := wtr_cons h2
  obtain ⟨h6, h7⟩ := wtr_append h3
  obtain ⟨l, l1, l2, l3⟩ := wtr_u8 h6
  obtain ⟨m, m1, m2, m3⟩ := wtr_u64 h7
  refine ⟨⟨e1, e2, e3, l, m⟩, ⟨l1, m1⟩, l2, ⟨m1, m2⟩, ?_⟩
  rw [LeafD.cells, ← l3, ← m3, List.take_append_drop]
def stepK : List LK := .int .i64 :: .int .i64 :: .int .i64 :: leafK
theorem step_of {cs : List Value} (h : wtr stepK cs) : ∃ s : StD, s.wf ∧ cs = s.cells := by
  unfold stepK at h
  obtain ⟨c1, cs1, rfl, ⟨e1, rfl, w1⟩, h1⟩ := wtr_cons h
  obtain ⟨c2, cs2, rfl, ⟨e2, rfl, _⟩, h2⟩ := wtr_cons h1
  obtain ⟨c3, cs3, rfl, ⟨e3, rfl, _⟩, h3⟩ := wtr_cons h2
  obtain ⟨l, l1, l2, l3, rfl⟩ := leaf_of h3
  exact ⟨⟨e1, e2, e3, l⟩, ⟨(i64_of_wf w1).1, (i64_of_wf w1).2, l1, l2, l3⟩, rfl⟩
theorem steps_of {base : Nat} {W : World} {v : Value} {H : Type} {enc : TypeId × Value → H} {dd : DataW H} {ps : List MemPlace} (hv : Value.okWide Tryd.prog W .any base 40 v) (h0 : DataW.Trod enc Tryd.prog W 0 (fun _ => true) true 40 v dd ps) (hwt : ∀ x ∈ DataW.weights Tryd.prog 40 dd, x ≤ reachBytes) :
    ∃ ss : List StD, (∀ s ∈ ss, s.wf) ∧ ss.length ≤ 1353300000000 ∧ RdS [was W.heap] v ss.length (ss.flatMap StD.cells) := by
  obtain ⟨s1, s2⟩ := slice_okWide Tryd.underlying40 hv
  obtain ⟨fuel, h0⟩ := h0
  rw [s1] at h0
  have c5 : Tryd.prog.bytesOf 52 = 104 := by kernel_rfl
  obtain ⟨n, cs, hrd, _, hl, he⟩ := rd_trodG (k := 30) Tryd.underlying40 (by kernel_rfl) (by decide) s2 h0
  obtain ⟨ss, hn, hss, rfl⟩ := chunks StD.cells StD.wf 30 (fun s h => StD.len h) n cs hl fun i hi => by
    obtain ⟨m, y, _, _, _, _, _, h⟩ := he i hi
    exact step_of (trod_flat 4 52 stepK (by kernel_rfl) _ ⟨m, _, h⟩)
  subst hn
  refine ⟨ss, hss, ?_, hrd⟩
  rcases Nat.eq_zero_or_pos ss.length with h | h
  · omega
  · obtain ⟨m, y, els, rst, e1, e2, _⟩ := he 0 h
    have hmem : (els.length + rst.length) * Tryd.prog.bytesOf 52 ∈ DataW.weights Tryd.prog 40 dd := by
      rw [show dd = .slice els rst from e1, DataW.weights, Tryd.underlying40]
      exact List.mem_cons_self
    have := hwt _ hmem
    rw [c5] at this
    simp only [reachBytes] at this
    omega
theorem contract (H : Type) (enc : TypeId × Value → H) (W : World) (base : Nat) (args : Array Value) (ds gs : List (DataW H)) (before : List MemPlace)
    (hval : ∀ (j : Nat) t v, Tryd.f4.params[j]? = some t → args[j]? = some v → Value.okWide Tryd.prog W .any base t v)
    (hW : DataW.Whole enc Tryd.prog Tryd.f4.params.toList Rows.outboxBooksSpec.vars false W args.toList ds gs before)
    (hwt : (DataW.weightsEach Tryd.prog (Tryd.f4.params.toList ++ (OpenSpec.ofChange Rows.outboxBooksSpec).bare.plain.varTypes Tryd.prog) (ds ++ gs)).all (· ≤ reachBytes) = true) (hL : laidMetH Tryd.prog Rows.outboxBooksRow.laid W) :
    Calls Tryd.prog 4 args W fun e W' => ∃ v, e = .returned v ∧ Rows.outboxBooksSpec.post enc Tryd.prog Tryd.f4 false true false false W args v W' := by
  have hW' := hW
  obtain ⟨p, q, hA0, hV, rfl, hfz, hnd⟩ := hW
  have hA : DataW.TrodAll enc Tryd.prog W 0 (fun _ => true) true Tryd.f4.params.toList args.toList ds p := hA0
  rw [Tryd.params4] at hA hval hwt
  obtain ⟨v0, vs0, d0, ds0, p0, q0, hargs, rfl, rfl, h0, r0⟩ := trodAll_cons hA
  obtain ⟨v1, vs1, d1, ds1, p1, q1, rfl, rfl, rfl, h1, r1⟩ := trodAll_cons r0
  obtain ⟨rfl, rfl, rfl⟩ := trodAll_nil r1
  obtain rfl : args = #[v0, v1] := by cases args; simp_all
  obtain ⟨rfl, rfl⟩ := trodVars_none hV
  have hall : ∀ x ∈ DataW.weights Tryd.prog 40 d0 ++ DataW.weights Tryd.prog 40 d1, x ≤ reachBytes := fun x hx => by
    have h := List.all_eq_true.1 hwt x (by
      show x ∈ DataW.weightsEach Tryd.prog (40 :: 40 :: _) (d0 :: d1 :: _)
      rw [DataW.weightsEach, DataW.weightsEach, List.mem_append, List.mem_append]
      rcases List.mem_append.1 hx with hx | hx
      · exact .inl hx
      · exact .inr (.inl hx))
    simpa using h
  obtain ⟨s1, hs1, hn1, hr1⟩ := steps_of (hval 0 40 v0 rfl rfl) h0 (fun x hx => hall x (List.mem_append.2 (.inl hx)))
  obtain ⟨s2, hs2, hn2, hr2⟩ := steps_of (hval 1 40 v1 rfl rfl) h1 (fun x hx => hall x (List.mem_append.2 (.inr hx)))
  have e : Rows.outboxBooksRow.laid = [("causeway/causewayref01.constants", Lib.tabData .u32 (tabK K64)), ("causeway/causewayref01.beginning", Lib.tabData .u32 (tabK ivW)), ("causeway/digest.steps", Lib.tabData .u32 (tabK K64))] := by kernel_rfl
  have hL1 : laidMet Tryd.prog [("causeway/causewayref01.constants", Lib.tabData .u32 (tabK K64)), ("causeway/causewayref01.beginning", Lib.tabData .u32 (tabK ivW)), ("causeway/digest.steps", Lib.tabData .u32 (tabK K64))] W := by rw [e] at hL; exact hL
  have hC : CelN [was W.heap] 1 0 (wvs K64) := words_was (t := 232) (e := 215) (n := 64) hL1 (by kernel_rfl) (by kernel_rfl) (by kernel_rfl) (by kernel_rfl) (by kernel_rfl) (by kernel_rfl)
  have hB : CelN [was W.heap] 0 0 (wvs ivW) := words_was (t := 216) (e := 215) (n := 8) (laidMet.tail hL1) (by kernel_rfl) (by kernel_rfl) (by kernel_rfl) (by kernel_rfl) (by kernel_rfl) (by kernel_rfl)
  have hK : CelN [was W.heap] 4 0 (wvs K64) := words_was (t := 232) (e := 215) (n := 64) (laidMet.tail (laidMet.tail hL1)) (by kernel_rfl) (by kernel_rfl) (by kernel_rfl) (by kernel_rfl) (by kernel_rfl) (by kernel_rfl)
  refine (books_spec K64 K64_len [was W.heap] hK hC hB v0 v1 s1 s2 hs1 hs2 hn1 hn2 hr1 hr2 W (Sat.was_here W)).mono fun e W' he => ?_
  obtain ⟨v, L, rfl, rfl, hx, hs⟩ := he
  exact ⟨_, rfl, post_true kids full (by rw [Tryd.params4]; decide +kernel) rfl hW' Tryd.underlying4 (by kernel_rfl) rfl hx (old_of_was hs)⟩

noncomputable def laidWorld (os : Os) : World :=
  { World.holding Tryd.prog os ⟨#[], #[], []⟩ with heap := (((((((World.holding Tryd.prog os ⟨#[], #[], []⟩).heap).modify 1 (fun
    | .cells _ t frozen => .cells #[.int .u32 1116352408, .int .u32 1899447441, .int .u32 3049323471, .int .u32 3921009573, .int .u32 961987163, .int .u32 1508970993, .int .u32 2453635748, .int .u32 2870763221, .int .u32 3624381080, .int .u32 310598401, .int .u32 607225278, .int .u32 1426881987, .int .u32 1925078388, .int .u32 2162078206, .int .u32 2614888103, .int .u32 3248222580, .int .u32 3835390401, .int .u32 4022224774, .int .u32 264347078, .int .u32 604807628, .int .u32 770255983, .int .u32 1249150122, .int .u32 1555081692, .int .u32 1996064986, .int .u32 2554220882, .int .u32 2821834349, .int .u32 2952996808, .int .u32 3210313671, .int .u32 3336571891, .int .u32 3584528711, .int .u32 113926993, .int .u32 338241895, .int .u32 666307205, .int .u32 773529912, .int .u32 1294757372, .int .u32 1396182291, .int .u32 1695183700, .int .u32 1986661051, .int .u32 2177026350, .int .u32 2456956037, .int .u32 2730485921, .int .u32 2820302411, .int .u32 3259730800, .int .u32 3345764771, .int .u32 3516065817, .int .u32 3600352804, .int .u32 4094571909, .int .u32 275423344, .int .u32 430227734, .int .u32 506948616, .int .u32 659060556, .int .u32 883997877, .int .u32 958139571, .int .u32 1322822218, .int .u32 1537002063, .int .u32 1747873779, .int .u32 1955562222, .int .u32 2024104815, .int .u32 2227730452, .int .u32 2361852424, .int .u32 2428436474, .int .u32 2756734187, .int .u32 3204031479, .int .u32 3329325298] t frozen
    | o => o))).modify 0 (fun
    | .cells _ t frozen => .cells #[.int .u32 1779033703, .int .u32 3144134277, .int .u32 1013904242, .int .u32 2773480762, .int .u32 1359893119, .int .u32 2600822924, .int .u32 528734635, .int .u32 1541459225] t frozen
    | o => o))).modify 4 (fun
    | .cells _ t frozen => .cells #[.int .u32 1116352408, .int .u32 1899447441, .int .u32 3049323471, .int .u32 3921009573, .int .u32 961987163, .int .u32 1508970993, .int .u32 2453635748, .int .u32 2870763221, .int .u32 3624381080, .int .u32 310598401, .int .u32 607225278, .int .u32 1426881987, .int .u32 1925078388, .int .u32 2162078206, .int .u32 2614888103, .int .u32 3248222580, .int .u32 3835390401, .int .u32 4022224774, .int .u32 264347078, .int .u32 604807628, .int .u32 770255983, .int .u32 1249150122, .int .u32 1555081692, .int .u32 1996064986, .int .u32 2554220882, .int .u32 2821834349, .int .u32 2952996808, .int .u32 3210313671, .int .u32 3336571891, .int .u32 3584528711, .int .u32 113926993, .int .u32 338241895, .int .u32 666307205, .int .u32 773529912, .int .u32 1294757372, .int .u32 1396182291, .int .u32 1695183700, .int .u32 1986661051, .int .u32 2177026350, .int .u32 2456956037, .int .u32 2730485921, .int .u32 2820302411, .int .u32 3259730800, .int .u32 3345764771, .int .u32 3516065817, .int .u32 3600352804, .int .u32 4094571909, .int .u32 275423344, .int .u32 430227734, .int .u32 506948616, .int .u32 659060556, .int .u32 883997877, .int .u32 958139571, .int .u32 1322822218, .int .u32 1537002063, .int .u32 1747873779, .int .u32 1955562222, .int .u32 2024104815, .int .u32 2227730452, .int .u32 2361852424, .int .u32 2428436474, .int .u32 2756734187, .int .u32 3204031479, .int .u32 3329325298] t frozen
    | o => o)) }
theorem laid_met (os : Os) : laidMet Tryd.prog Rows.outboxBooksRow.laid ((laidWorld os).forCall (fun _ _ => 0) ⟨#[], #[.slice none 0 0, .slice none 0 0], []⟩).memory :=
  laidMet_of_run' 8 (by kernel_rfl) (by kernel_rfl)
theorem reads (os : Os) {H : Type} (enc : TypeId × Value → H) : ∃ places, DataW.whole enc Tryd.prog ((laidWorld os).forCall (fun _ _ => 0) ⟨#[], #[.slice none 0 0, .slice none 0 0], []⟩).memory Tryd.f4.params.toList Rows.outboxBooksSpec.vars false #[.slice none 0 0, .slice none 0 0].toList 8 = some ([.nil, .nil], [], places) :=
  ⟨[], by kernel_rfl⟩
set_option maxRecDepth 100000 in
theorem lifted (os : Os) (started : os.Started) (H : Type) (enc : TypeId × Value → H) (F : Stop.Interp) :
    ReturnsInHanded {} Tryd.checked os 4 .any ((OpenSpec.ofChange Rows.outboxBooksSpec).preRow enc Tryd.prog Tryd.f4 Rows.outboxBooksRow.domain false Rows.outboxBooksRow.laid) (((OpenSpec.ofChange Rows.outboxBooksSpec).at F).post enc Tryd.prog Tryd.f4 false true false false) := by
  obtain ⟨places, hx⟩ := reads os enc
  refine returnsInHanded_of_row (C := Tryd.checked) (s := (OpenSpec.ofChange Rows.outboxBooksSpec)) own' started (by kernel_rfl) Tryd.func4
    (witness_row_at (enc := enc) (C := Tryd.checked) false (laidWorld os) #[.slice none 0 0, .slice none 0 0] rfl (by kernel_rfl) (by kernel_rfl) (by kernel_rfl)
      (OpenSpec.preRow_of_cond 8 hx (by kernel_rfl) (fun k hk => by cases hk) (by kernel_rfl) (laid_met os))) ?_
  intro W base args ds gs before hval hW hc1 hc2 hc3 hL hc4 hc5
  exact contract H enc W base args ds gs before hval hW hc3 hL
theorem over : Rows.outboxBooksRow.holds Tryd.pinned (OpenSpec.ofChange Rows.outboxBooksSpec) :=
  OpenClaim.holds_of_cond 4 Tryd.f4 rfl rfl rfl rfl rfl rfl rfl ⟨rfl, rfl, rfl, rfl, rfl⟩ rfl rfl rfl rfl rfl (by kernel_rfl) Tryd.func4 (by kernel_rfl)
    (of_decide_eq_true (by kernel_rfl)) (by unfold Func.isWrapper; first | (rw [if_pos (by decide +kernel)]; kernel_rfl) | (rw [if_neg (by decide +kernel)]; exact ⟨rfl, rfl⟩))
    (fun os started H enc _ F => by rw [OpenClaim.pre_eq_preRow]; exact lifted os started H enc F)
theorem plain (f : FuncId) (fn : Func) (hf : Tryd.pinned.checked.prog.funcNamed "causeway/causewaylaw11.OutboxBooks" = some f) (hfn : Tryd.pinned.checked.prog.funcs[f]? = some fn) :
    false = Tryd.pinned.checked.prog.looks [] ∧ ∀ (j : Nat) t, fn.params[j]? = some t → Tryd.pinned.checked.prog.wantsStandIn t = false := by
  obtain rfl : f = 4 := Option.some.inj ((show Tryd.prog.funcNamed "causeway/causewaylaw11.OutboxBooks" = some 4 by kernel_rfl).symm.trans hf) |>.symm
  obtain rfl : fn = Tryd.f4 := (Option.some.inj (Tryd.func4.symm.trans hfn)).symm
  refine ⟨by kernel_rfl, fun j t ht => ?_⟩
  have h : (Tryd.f4.params.toList.all fun t => !Tryd.prog.wantsStandIn t) = true := by kernel_rfl
  have := List.all_eq_true.1 h t (Array.mem_toList_iff.2 (Array.mem_of_getElem? ht))
  show Tryd.prog.wantsStandIn t = false
  simpa using this
theorem outboxBooks_holds : Rows.OutboxBooksCardSaid :=
  Claim7.holds_tied_plain_at .later [] _ _ _ _ over (fun _ h => by cases h) (by kernel_rfl) (fun _ h => by cases h) outboxBooks_row_tie rfl ⟨rfl, rfl⟩ (by kernel_rfl) rfl plain (by kernel_rfl)
#print axioms outboxBooks_holds
end Go.Proofs.YthdpknlnpeaiiaaDoor.outboxBooks
