/-
  OutboxOne: the given statement, out of the contract of the law's function.
-/
import Derived.Test.YthdpknlnpeaiiaaDoorCards
import Derived.Test.YthdpknlnpeaiiaaDoorTie
import Derived.Test.YthdpknlnpeaiiaaDoorOo
import Derived.Test.YthdpknlnpeaiiaaDoorSea
import Derived.WalkKit
import Derived.ProofKit
import Derived.OpenShut
import Derived.Deep.DeepHandedRow
import Derived.Lib.LaidTab
namespace Go.Proofs.YthdpknlnpeaiiaaDoor.outboxOne
open Go.ChangeShapes Go.WideShapes Go.ChangeAt Go.RowKit
open Go Go.Sl
set_option maxRecDepth 100000
theorem raws_of {base : Nat} {W : World} {v : Value} {H : Type} {enc : TypeId × Value → H} {dd : DataW H} {ps : List MemPlace} (hv : Value.okWide Tryd.prog W .any base 62 v) (hd : DataW.Trod enc Tryd.prog W 0 (fun _ => true) true 62 v dd ps) :
    ∃ rs : List RawD, (∀ r ∈ rs, r.wf) ∧ RdS [was W.heap] v rs.length (rawsC rs) := by
  obtain ⟨h1, h2⟩ := slice_okWide Tryd.underlying62 hv
  obtain ⟨n, cs, hr, _, hl, he⟩ := rd_trod (d := 4) (ks := rawK) Tryd.underlying62 (by kernel_rfl) (by kernel_rfl) h2 h1 hd
  obtain ⟨rs, hn, hw, rfl⟩ := chunks RawD.cells RawD.wf 26 (fun r hr => RawD.cells_len hr) n cs hl fun i hi => by
    obtain ⟨r, hr, he⟩ := raw_of (he i hi)
    exact ⟨r, hr, he⟩
  subst hn
  exact ⟨rs, hw, hr⟩
theorem list28 {l : List Value} (h : l.length = 28) : l = (l.drop 0).take 1 ++ ((l.drop 1).take 26 ++ (l.drop 27).take 1) := by
  rw [List.drop_zero, List.take_of_length_le (l := l.drop 27) (by rw [List.length_drop]; omega)]
  conv => lhs; rw [← List.take_append_drop 1 l, ← List.take_append_drop 26 (l.drop 1), List.drop_drop]
theorem other_of {base : Nat} {W : World} {v : Value} {H : Type} {enc : TypeId × Value → H} {dd : DataW H} {ps : List MemPlace} (hv0 : Value.okWide Tryd.prog W .any base 77 v) (h0 : DataW.Trod enc Tryd.prog W 0 (fun _ => true) true 77 v dd ps) :
    ∃ (ix : Int) (r : RawD) (pv : Value) (p : List (List Nat)), v = .agg ⟨.int .i64 ix :: (r.cells ++ [pv])⟩ ∧ (Lit.int .i64 ix).wf = true ∧ r.wf ∧ RdS [was W.heap] pv p.length (digsC p) ∧ ∀ d ∈ p, DigOk d := by
  unfold Value.okWide at hv0
  rw [Tryd.underlying77] at hv0
  obtain ⟨cs, rfl, hsz, hrow⟩ := hv0
  obtain ⟨fuel, h0⟩ := h0
  obtain ⟨xs, n, rfl, _, hlen, hxl, hel⟩ := DataW.trod_struct Tryd.underlying77 h0
  have hxl4 : xs.length = 3 := hxl
  have c1 : Tryd.prog.cellsOf 3 = 1 := by kernel_rfl
  have c2 : Tryd.prog.cellsOf 67 = 26 := by kernel_rfl
  have c3 : Tryd.prog.cellsOf 33 = 1 := by kernel_rfl
  have c4 : Tryd.prog.cellsOf 77 = 28 := by kernel_rfl
  replace hlen : cs.toList.length = 28 := by rw [← c4]; exact hlen
  have sm : ∀ i (h : i < 3), ∃ y, xs[i]? = some y := fun i h => ⟨xs[i]'(by omega), by simp⟩
  obtain ⟨y0, e0⟩ := sm 0 (by decide)
  obtain ⟨y1, e1⟩ := sm 1 (by decide)
  obtain ⟨y2, e2⟩ := sm 2 (by decide)
  have f0 : DataW.trod enc Tryd.prog W 0 (fun _ => true) true n 3 ((cs.toList.drop 0).take (Tryd.prog.cellsOf 3)) = some y0 := (hel 0 _ rfl).trans e0
  have f1 : DataW.trod enc Tryd.prog W 0 (fun _ => true) true n 67 ((cs.toList.drop 1).take (Tryd.prog.cellsOf 67)) = some y1 := (hel 1 _ rfl).trans e1
  have f2 : DataW.trod enc Tryd.prog W 0 (fun _ => true) true n 33 ((cs.toList.drop 27).take (Tryd.prog.cellsOf 33)) = some y2 := (hel 2 _ rfl).trans e2
  rw [c1] at f0
  rw [c2] at f1
  rw [c3] at f2
  obtain ⟨ix, t1, _, t2⟩ := DataW.trod_int Tryd.underlying3 f0
  obtain ⟨r, hr, er⟩ := raw_of (trod_flat 4 67 rawK (by kernel_rfl) _ ⟨n, _, f1⟩)
  obtain ⟨pv, l1⟩ : ∃ pv, (cs.toList.drop 27).take 1 = [pv] := by
    rcases DataW.trod_slice Tryd.underlying33 f2 with ⟨h, _⟩ | ⟨_, _, _, _, _, _, _, h, _⟩
    · exact ⟨_, h⟩
    · exact ⟨_, h⟩
  have ecs : cs = ⟨.int .i64 ix :: (r.cells ++ [pv])⟩ := by
    apply Array.toList_inj.1
    rw [list28 hlen, t1, l1, er]
    rfl
  subst ecs
  have hts : Tryd.prog.cellTypes Tryd.prog.depth 77 = some (List.replicate 3 3 ++ List.replicate 20 5 ++ List.replicate 4 28 ++ [33]) := by kernel_rfl
  obtain ⟨ts, w1, _, w3⟩ := hrow
  obtain rfl := Option.some.inj (w1.symm.trans hts)
  have hat : (Value.int .i64 ix :: (r.cells ++ [pv]))[27]? = some pv := by
    rw [List.getElem?_cons_succ, ← RawD.cells_len hr, List.getElem?_append_right (Nat.le_refl _), Nat.sub_self]
    rfl
  obtain ⟨u, u1, u2⟩ := w3 27 pv (by simpa using hat)
  obtain rfl : u = 33 := (Option.some.inj u1).symm
  have hcell : Value.okWide Tryd.prog W .any base 33 pv := by
    unfold Value.okWide
    rw [Tryd.underlying33]
    exact u2
  obtain ⟨s1, s2⟩ := slice_okWide Tryd.underlying33 hcell
  obtain ⟨k, ks, hrd, _, hl, he⟩ := rd_trod (d := 4) (ks := List.replicate 32 (.int .u8)) Tryd.underlying33 (by kernel_rfl) (by kernel_rfl) s2 s1 ⟨n, by rw [s1, ← l1]; exact f2⟩
  obtain ⟨ds, hn, hw, rfl⟩ := chunks bvs DigOk 32 (fun r hr => by rw [bvs_len, hr.len]) k ks hl fun i hi => by
    obtain ⟨l, q1, q2, q3⟩ := wtr_u8 (he i hi)
    exact ⟨l, ⟨q1, q2⟩, q3⟩
  subst hn
  exact ⟨ix, r, pv, ds, rfl, t2, hr, hrd, hw⟩
theorem contract (H : Type) (enc : TypeId × Value → H) (W : World) (base : Nat) (args : Array Value) (ds gs : List (DataW H)) (before : List MemPlace)
    (hval : ∀ (j : Nat) t v, Tryd.f6.params[j]? = some t → args[j]? = some v → Value.okWide Tryd.prog W .any base t v)
    (hW : DataW.Whole enc Tryd.prog Tryd.f6.params.toList Rows.outboxOneSpec.vars false W args.toList ds gs before) (hL : laidMetH Tryd.prog Rows.outboxOneRow.laid W) :
    Calls Tryd.prog 6 args W fun e W' => ∃ v, e = .returned v ∧ Rows.outboxOneSpec.post enc Tryd.prog Tryd.f6 false true false false W args v W' := by
  have hW' := hW
  obtain ⟨p, q, hA0, hV, rfl, hfz, hnd⟩ := hW
  have hA : DataW.TrodAll enc Tryd.prog W 0 (fun _ => true) true Tryd.f6.params.toList args.toList ds p := hA0
  rw [Tryd.params6] at hA hval
  obtain ⟨v0, vs0, d0, ds0, p0, q0, hargs, rfl, rfl, h0, r0⟩ := trodAll_cons hA
  obtain ⟨v1, vs1, d1, ds1, p1, q1, rfl, rfl, rfl, h1, r1⟩ := trodAll_cons r0
  obtain ⟨rfl, rfl, rfl⟩ := trodAll_nil r1
  obtain rfl : args = #[v0, v1] := by cases args; simp_all
  obtain ⟨rfl, rfl⟩ := trodVars_none hV
  obtain ⟨rs, hrs, hvr⟩ := raws_of (hval 0 62 v0 rfl rfl) h0
  obtain ⟨ix, r2, pv, pp, rfl, hix, hr2, hpv, hpp⟩ := other_of (hval 1 77 v1 rfl rfl) h1
  have e : Rows.outboxOneRow.laid = [("causeway/causewayref01.constants", Lib.tabData .u32 (tabK K64)), ("causeway/causewayref01.beginning", Lib.tabData .u32 (tabK ivW)), ("causeway/digest.steps", Lib.tabData .u32 (tabK K64))] := by kernel_rfl
  have hL1 : laidMet Tryd.prog [("causeway/causewayref01.constants", Lib.tabData .u32 (tabK K64)), ("causeway/causewayref01.beginning", Lib.tabData .u32 (tabK ivW)), ("causeway/digest.steps", Lib.tabData .u32 (tabK K64))] W := by rw [e] at hL; exact hL
  have hC : CelN [was W.heap] 1 0 (wvs K64) := words_was (t := 232) (e := 215) (n := 64) hL1 (by kernel_rfl) (by kernel_rfl) (by kernel_rfl) (by kernel_rfl) (by kernel_rfl) (by kernel_rfl)
  have hB : CelN [was W.heap] 0 0 (wvs ivW) := words_was (t := 216) (e := 215) (n := 8) (laidMet.tail hL1) (by kernel_rfl) (by kernel_rfl) (by kernel_rfl) (by kernel_rfl) (by kernel_rfl) (by kernel_rfl)
  have hK : CelN [was W.heap] 4 0 (wvs K64) := words_was (t := 232) (e := 215) (n := 64) (laidMet.tail (laidMet.tail hL1)) (by kernel_rfl) (by kernel_rfl) (by kernel_rfl) (by kernel_rfl) (by kernel_rfl) (by kernel_rfl)
  refine (one_spec K64 K64_len [was W.heap] hK hC hB v0 rs hrs hvr ix (i64_of_wf hix).1 (i64_of_wf hix).2 r2 hr2 pv pp hpv hpp W (Sat.was_here W)).mono fun e W' he => ?_
  obtain ⟨v, L, rfl, rfl, hx, hs⟩ := he
  exact ⟨_, rfl, post_true kids full (by rw [Tryd.params6]; decide +kernel) rfl hW' Tryd.underlying4 (by kernel_rfl) rfl hx (old_of_was hs)⟩

noncomputable def laidWorld (os : Os) : World :=
  { World.holding Tryd.prog os ⟨#[], #[], []⟩ with heap := (((((((World.holding Tryd.prog os ⟨#[], #[], []⟩).heap).modify 1 (fun
    | .cells _ t frozen => .cells #[.int .u32 1116352408, .int .u32 1899447441, .int .u32 3049323471, .int .u32 3921009573, .int .u32 961987163, .int .u32 1508970993, .int .u32 2453635748, .int .u32 2870763221, .int .u32 3624381080, .int .u32 310598401, .int .u32 607225278, .int .u32 1426881987, .int .u32 1925078388, .int .u32 2162078206, .int .u32 2614888103, .int .u32 3248222580, .int .u32 3835390401, .int .u32 4022224774, .int .u32 264347078, .int .u32 604807628, .int .u32 770255983, .int .u32 1249150122, .int .u32 1555081692, .int .u32 1996064986, .int .u32 2554220882, .int .u32 2821834349, .int .u32 2952996808, .int .u32 3210313671, .int .u32 3336571891, .int .u32 3584528711, .int .u32 113926993, .int .u32 338241895, .int .u32 666307205, .int .u32 773529912, .int .u32 1294757372, .int .u32 1396182291, .int .u32 1695183700, .int .u32 1986661051, .int .u32 2177026350, .int .u32 2456956037, .int .u32 2730485921, .int .u32 2820302411, .int .u32 3259730800, .int .u32 3345764771, .int .u32 3516065817, .int .u32 3600352804, .int .u32 4094571909, .int .u32 275423344, .int .u32 430227734, .int .u32 506948616, .int .u32 659060556, .int .u32 883997877, .int .u32 958139571, .int .u32 1322822218, .int .u32 1537002063, .int .u32 1747873779, .int .u32 1955562222, .int .u32 2024104815, .int .u32 2227730452, .int .u32 2361852424, .int .u32 2428436474, .int .u32 2756734187, .int .u32 3204031479, .int .u32 3329325298] t frozen
    | o => o))).modify 0 (fun
    | .cells _ t frozen => .cells #[.int .u32 1779033703, .int .u32 3144134277, .int .u32 1013904242, .int .u32 2773480762, .int .u32 1359893119, .int .u32 2600822924, .int .u32 528734635, .int .u32 1541459225] t frozen
    | o => o))).modify 4 (fun
    | .cells _ t frozen => .cells #[.int .u32 1116352408, .int .u32 1899447441, .int .u32 3049323471, .int .u32 3921009573, .int .u32 961987163, .int .u32 1508970993, .int .u32 2453635748, .int .u32 2870763221, .int .u32 3624381080, .int .u32 310598401, .int .u32 607225278, .int .u32 1426881987, .int .u32 1925078388, .int .u32 2162078206, .int .u32 2614888103, .int .u32 3248222580, .int .u32 3835390401, .int .u32 4022224774, .int .u32 264347078, .int .u32 604807628, .int .u32 770255983, .int .u32 1249150122, .int .u32 1555081692, .int .u32 1996064986, .int .u32 2554220882, .int .u32 2821834349, .int .u32 2952996808, .int .u32 3210313671, .int .u32 3336571891, .int .u32 3584528711, .int .u32 113926993, .int .u32 338241895, .int .u32 666307205, .int .u32 773529912, .int .u32 1294757372, .int .u32 1396182291, .int .u32 1695183700, .int .u32 1986661051, .int .u32 2177026350, .int .u32 2456956037, .int .u32 2730485921, .int .u32 2820302411, .int .u32 3259730800, .int .u32 3345764771, .int .u32 3516065817, .int .u32 3600352804, .int .u32 4094571909, .int .u32 275423344, .int .u32 430227734, .int .u32 506948616, .int .u32 659060556, .int .u32 883997877, .int .u32 958139571, .int .u32 1322822218, .int .u32 1537002063, .int .u32 1747873779, .int .u32 1955562222, .int .u32 2024104815, .int .u32 2227730452, .int .u32 2361852424, .int .u32 2428436474, .int .u32 2756734187, .int .u32 3204031479, .int .u32 3329325298] t frozen
    | o => o)) }
theorem laid_met (os : Os) : laidMet Tryd.prog Rows.outboxOneRow.laid ((laidWorld os).forCall (fun _ _ => 0) ⟨#[], #[.slice none 0 0, .agg #[.int .i64 0, .int .i64 0, .int .i64 0, .int .u8 0, .int .u8 0, .int .u8 0, .int .u8 0, .int .u8 0, .int .u8 0, .int .u8 0, .int .u8 0, .int .u8 0, .int .u8 0, .int .u8 0, .int .u8 0, .int .u8 0, .int .u8 0, .int .u8 0, .int .u8 0, .int .u8 0, .int .u8 0, .int .u8 0, .int .u8 0, .int .u64 0, .int .u64 0, .int .u64 0, .int .u64 0, .slice none 0 0]], []⟩).memory :=
  laidMet_of_run' 8 (by kernel_rfl) (by kernel_rfl)
theorem reads (os : Os) {H : Type} (enc : TypeId × Value → H) : ∃ places, DataW.whole enc Tryd.prog ((laidWorld os).forCall (fun _ _ => 0) ⟨#[], #[.slice none 0 0, .agg #[.int .i64 0, .int .i64 0, .int .i64 0, .int .u8 0, .int .u8 0, .int .u8 0, .int .u8 0, .int .u8 0, .int .u8 0, .int .u8 0, .int .u8 0, .int .u8 0, .int .u8 0, .int .u8 0, .int .u8 0, .int .u8 0, .int .u8 0, .int .u8 0, .int .u8 0, .int .u8 0, .int .u8 0, .int .u8 0, .int .u8 0, .int .u64 0, .int .u64 0, .int .u64 0, .int .u64 0, .slice none 0 0]], []⟩).memory Tryd.f6.params.toList Rows.outboxOneSpec.vars false #[.slice none 0 0, .agg #[.int .i64 0, .int .i64 0, .int .i64 0, .int .u8 0, .int .u8 0, .int .u8 0, .int .u8 0, .int .u8 0, .int .u8 0, .int .u8 0, .int .u8 0, .int .u8 0, .int .u8 0, .int .u8 0, .int .u8 0, .int .u8 0, .int .u8 0, .int .u8 0, .int .u8 0, .int .u8 0, .int .u8 0, .int .u8 0, .int .u8 0, .int .u64 0, .int .u64 0, .int .u64 0, .int .u64 0, .slice none 0 0]].toList 8 = some ([.nil, .agg [.lit (.int .i64 0), .agg [.lit (.int .i64 0), .lit (.int .i64 0), .agg (List.replicate 20 (.lit (.int .u8 0))), .agg (List.replicate 4 (.lit (.int .u64 0)))], .nil]], [], places) :=
  ⟨[], by kernel_rfl⟩
set_option maxRecDepth 100000 in
theorem lifted (os : Os) (started : os.Started) (H : Type) (enc : TypeId × Value → H) (F : Stop.Interp) :
    ReturnsInHanded {} Tryd.checked os 6 .any ((OpenSpec.ofChange Rows.outboxOneSpec).preRow enc Tryd.prog Tryd.f6 Rows.outboxOneRow.domain false Rows.outboxOneRow.laid) (((OpenSpec.ofChange Rows.outboxOneSpec).at F).post enc Tryd.prog Tryd.f6 false true false false) := by
  obtain ⟨places, hx⟩ := reads os enc
  refine returnsInHanded_of_row (C := Tryd.checked) (s := (OpenSpec.ofChange Rows.outboxOneSpec)) own' started (by kernel_rfl) Tryd.func6
    (witness_row_at (enc := enc) (C := Tryd.checked) false (laidWorld os) #[.slice none 0 0, .agg #[.int .i64 0, .int .i64 0, .int .i64 0, .int .u8 0, .int .u8 0, .int .u8 0, .int .u8 0, .int .u8 0, .int .u8 0, .int .u8 0, .int .u8 0, .int .u8 0, .int .u8 0, .int .u8 0, .int .u8 0, .int .u8 0, .int .u8 0, .int .u8 0, .int .u8 0, .int .u8 0, .int .u8 0, .int .u8 0, .int .u8 0, .int .u64 0, .int .u64 0, .int .u64 0, .int .u64 0, .slice none 0 0]] rfl (by kernel_rfl) (by kernel_rfl) (by kernel_rfl)
      (OpenSpec.preRow_of_cond 8 hx (by kernel_rfl) (fun k hk => by cases hk) (by kernel_rfl) (laid_met os))) ?_
  intro W base args ds gs before hval hW hc1 hc2 hc3 hL hc4 hc5
  exact contract H enc W base args ds gs before hval hW hL
theorem over : Rows.outboxOneRow.holds Tryd.pinned (OpenSpec.ofChange Rows.outboxOneSpec) :=
  OpenClaim.holds_of_cond 6 Tryd.f6 rfl rfl rfl rfl rfl rfl rfl ⟨rfl, rfl, rfl, rfl, rfl⟩ rfl rfl rfl rfl rfl (by kernel_rfl) Tryd.func6 (by kernel_rfl)
    (of_decide_eq_true (by kernel_rfl)) (by unfold Func.isWrapper; first | (rw [if_pos (by decide +kernel)]; kernel_rfl) | (rw [if_neg (by decide +kernel)]; exact ⟨rfl, rfl⟩))
    (fun os started H enc _ F => by rw [OpenClaim.pre_eq_preRow]; exact lifted os started H enc F)
theorem plain (f : FuncId) (fn : Func) (hf : Tryd.pinned.checked.prog.funcNamed "causeway/causewaylaw11.OutboxOne" = some f) (hfn : Tryd.pinned.checked.prog.funcs[f]? = some fn) :
    false = Tryd.pinned.checked.prog.looks [] ∧ ∀ (j : Nat) t, fn.params[j]? = some t → Tryd.pinned.checked.prog.wantsStandIn t = false := by
  obtain rfl : f = 6 := Option.some.inj ((show Tryd.prog.funcNamed "causeway/causewaylaw11.OutboxOne" = some 6 by kernel_rfl).symm.trans hf) |>.symm
  obtain rfl : fn = Tryd.f6 := (Option.some.inj (Tryd.func6.symm.trans hfn)).symm
  refine ⟨by kernel_rfl, fun j t ht => ?_⟩
  have h : (Tryd.f6.params.toList.all fun t => !Tryd.prog.wantsStandIn t) = true := by kernel_rfl
  have := List.all_eq_true.1 h t (Array.mem_toList_iff.2 (Array.mem_of_getElem? ht))
  show Tryd.prog.wantsStandIn t = false
  simpa using this
theorem outboxOne_holds : Rows.OutboxOneCardSaid :=
  Claim7.holds_tied_plain_at .later [] _ _ _ _ over (fun _ h => by cases h) (by kernel_rfl) (fun _ h => by cases h) outboxOne_row_tie rfl ⟨rfl, rfl⟩ (by kernel_rfl) rfl plain (by kernel_rfl)
#print axioms outboxOne_holds
end Go.Proofs.YthdpknlnpeaiiaaDoor.outboxOne
