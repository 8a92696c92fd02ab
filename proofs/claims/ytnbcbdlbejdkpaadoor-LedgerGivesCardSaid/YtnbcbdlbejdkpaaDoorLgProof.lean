/-
  LedgerGives: the given statement, out of the contract of the law's function.
-/
import Derived.Test.YtnbcbdlbejdkpaaDoorCards
import Derived.Test.YtnbcbdlbejdkpaaDoorTie
import Derived.Test.YtnbcbdlbejdkpaaDoorLg
import Derived.Test.YtnbcbdlbejdkpaaDoorSea
import Derived.WalkKit
import Derived.ProofKit
import Derived.OpenShut
import Derived.Deep.DeepHandedRow
import Derived.Lib.LaidTab
namespace Go.Proofs.YtnbcbdlbejdkpaaDoor.ledgerGives
open Go.ChangeShapes Go.WideShapes Go.ChangeAt Go.RowKit
open Go Go.Sl
set_option maxRecDepth 100000
theorem list10 {l : List Value} (h : l.length = 10) : l = (l.drop 0).take 1 ++ ((l.drop 1).take 1 ++ ((l.drop 2).take 4 ++ (l.drop 6).take 4)) := by
  match l, h with
  | [_, _, _, _, _, _, _, _, _, _], _ => rfl
theorem contract (H : Type) (enc : TypeId × Value → H) (W : World) (base : Nat) (args : Array Value) (ds gs : List (DataW H)) (before : List MemPlace)
    (hval : ∀ (j : Nat) t v, Tryd.f3.params[j]? = some t → args[j]? = some v → Value.okWide Tryd.prog W .any base t v)
    (hW : DataW.Whole enc Tryd.prog Tryd.f3.params.toList Rows.ledgerGivesSpec.vars false W args.toList ds gs before) (hL : laidMetH Tryd.prog Rows.ledgerGivesRow.laid W) :
    Calls Tryd.prog 3 args W fun e W' => ∃ v, e = .returned v ∧ Rows.ledgerGivesSpec.post enc Tryd.prog Tryd.f3 false true false false W args v W' := by
  have hW' := hW
  obtain ⟨p, q, hA0, hV, rfl, hfz, hnd⟩ := hW
  have hA : DataW.TrodAll enc Tryd.prog W 0 (fun _ => true) true Tryd.f3.params.toList args.toList ds p := hA0
  rw [Tryd.params3] at hA hval
  obtain ⟨v0, vs0, d0, ds0, p0, q0, hargs, rfl, rfl, h0, r0⟩ := trodAll_cons hA
  obtain ⟨rfl, rfl, rfl⟩ := trodAll_nil r0
  obtain rfl : args = #[v0] := by cases args; simp_all
  obtain ⟨rfl, rfl⟩ := trodVars_none hV
  have hv0 := hval 0 27 v0 rfl rfl
  unfold Value.okWide at hv0
  rw [Tryd.underlying27] at hv0
  obtain ⟨cs, rfl, hsz, hrow⟩ := hv0
  obtain ⟨fuel, h0⟩ := h0
  obtain ⟨xs, n, rfl, _, hlen, hxl, hel⟩ := DataW.trod_struct Tryd.underlying27 h0
  have hxl4 : xs.length = 4 := hxl
  have c1 : Tryd.prog.cellsOf 3 = 1 := by kernel_rfl
  have c2 : Tryd.prog.cellsOf 22 = 1 := by kernel_rfl
  have c3 : Tryd.prog.cellsOf 25 = 4 := by kernel_rfl
  have c4 : Tryd.prog.cellsOf 27 = 10 := by kernel_rfl
  replace hlen : cs.toList.length = 10 := by rw [← c4]; exact hlen
  have sm : ∀ i (h : i < 4), ∃ y, xs[i]? = some y := fun i h => ⟨xs[i]'(by omega), by simp⟩
  obtain ⟨y0, e0⟩ := sm 0 (by decide)
  obtain ⟨y1, e1⟩ := sm 1 (by decide)
  obtain ⟨y2, e2⟩ := sm 2 (by decide)
  obtain ⟨y3, e3⟩ := sm 3 (by decide)
  have f0 : DataW.trod enc Tryd.prog W 0 (fun _ => true) true n 3 ((cs.toList.drop 0).take (Tryd.prog.cellsOf 3)) = some y0 := (hel 0 _ rfl).trans e0
  have f1 : DataW.trod enc Tryd.prog W 0 (fun _ => true) true n 22 ((cs.toList.drop 1).take (Tryd.prog.cellsOf 22)) = some y1 := (hel 1 _ rfl).trans e1
  have f2 : DataW.trod enc Tryd.prog W 0 (fun _ => true) true n 25 ((cs.toList.drop 2).take (Tryd.prog.cellsOf 25)) = some y2 := (hel 2 _ rfl).trans e2
  have f3 : DataW.trod enc Tryd.prog W 0 (fun _ => true) true n 25 ((cs.toList.drop 6).take (Tryd.prog.cellsOf 25)) = some y3 := (hel 3 _ rfl).trans e3
  rw [c1] at f0
  rw [c2] at f1
  rw [c3] at f2 f3
  obtain ⟨tok, t1, _, t2⟩ := DataW.trod_int Tryd.underlying3 f0
  obtain ⟨la, a1, a2, a3⟩ := wtr_u64 (n := 4) (trod_flat 4 25 (List.replicate 4 (.int .u64)) (by kernel_rfl) _ ⟨n, _, f2⟩)
  obtain ⟨lb, b1, b2, b3⟩ := wtr_u64 (n := 4) (trod_flat 4 25 (List.replicate 4 (.int .u64)) (by kernel_rfl) _ ⟨n, _, f3⟩)
  obtain ⟨lv, l1⟩ : ∃ lv, (cs.toList.drop 1).take 1 = [lv] := by
    rcases DataW.trod_slice Tryd.underlying22 f1 with ⟨h, _⟩ | ⟨_, _, _, _, _, _, _, h, _⟩
    · exact ⟨_, h⟩
    · exact ⟨_, h⟩
  have ecs : cs = ⟨giftC tok lv la lb⟩ := by
    apply Array.toList_inj.1
    rw [list10 hlen, t1, l1, a3, b3]
    rfl
  subst ecs
  have hts : Tryd.prog.cellTypes Tryd.prog.depth 27 = some [3, 22, 23, 23, 23, 23, 23, 23, 23, 23] := by kernel_rfl
  obtain ⟨ts, w1, _, w3⟩ := hrow
  obtain rfl := Option.some.inj (w1.symm.trans hts)
  obtain ⟨u, u1, u2⟩ := w3 1 lv rfl
  obtain rfl : u = 22 := (Option.some.inj u1).symm
  have hcell : Value.okWide Tryd.prog W .any base 22 lv := by
    unfold Value.okWide
    rw [Tryd.underlying22]
    exact u2
  obtain ⟨s1, s2⟩ := slice_okWide Tryd.underlying22 hcell
  obtain ⟨k, ks, hr, _, hl, he⟩ := rd_trod (d := 4) (ks := List.replicate 20 (.int .u8)) Tryd.underlying22 (by kernel_rfl) (by kernel_rfl) s2 s1 ⟨n, by rw [s1, ← l1]; exact f1⟩
  obtain ⟨ls, hn, hw, rfl⟩ := chunks bvs adr 20 (fun r hr => by rw [bvs_len, hr.1]) k ks hl fun i hi => by
    obtain ⟨l, q1, q2, q3⟩ := wtr_u8 (he i hi)
    exact ⟨l, ⟨q1, q2⟩, q3⟩
  subst hn
  refine (gives_spec [was W.heap] tok (i64_of_wf t2).1 (i64_of_wf t2).2 lv ls hw hr la lb ⟨a1, a2⟩ ⟨b1, b2⟩ W (Sat.was_here W)).mono fun e W' he => ?_
  obtain ⟨v, L, rfl, rfl, hx, hs⟩ := he
  exact ⟨_, rfl, post_true kids full (by rw [Tryd.params3]; decide +kernel) rfl hW' Tryd.underlying4 (by kernel_rfl) rfl hx (old_of_was hs)⟩

def witV : Value := .agg #[.int .i64 0, .slice none 0 0, .int .u64 0, .int .u64 0, .int .u64 0, .int .u64 0, .int .u64 0, .int .u64 0, .int .u64 0, .int .u64 0]
noncomputable def laidWorld (os : Os) : World :=
  { World.holding Tryd.prog os ⟨#[], #[], []⟩ with heap := (((World.holding Tryd.prog os ⟨#[], #[], []⟩).heap).modify 0 (fun
    | .cells _ t frozen => .cells #[.int .u32 1116352408, .int .u32 1899447441, .int .u32 3049323471, .int .u32 3921009573, .int .u32 961987163, .int .u32 1508970993, .int .u32 2453635748, .int .u32 2870763221, .int .u32 3624381080, .int .u32 310598401, .int .u32 607225278, .int .u32 1426881987, .int .u32 1925078388, .int .u32 2162078206, .int .u32 2614888103, .int .u32 3248222580, .int .u32 3835390401, .int .u32 4022224774, .int .u32 264347078, .int .u32 604807628, .int .u32 770255983, .int .u32 1249150122, .int .u32 1555081692, .int .u32 1996064986, .int .u32 2554220882, .int .u32 2821834349, .int .u32 2952996808, .int .u32 3210313671, .int .u32 3336571891, .int .u32 3584528711, .int .u32 113926993, .int .u32 338241895, .int .u32 666307205, .int .u32 773529912, .int .u32 1294757372, .int .u32 1396182291, .int .u32 1695183700, .int .u32 1986661051, .int .u32 2177026350, .int .u32 2456956037, .int .u32 2730485921, .int .u32 2820302411, .int .u32 3259730800, .int .u32 3345764771, .int .u32 3516065817, .int .u32 3600352804, .int .u32 4094571909, .int .u32 275423344, .int .u32 430227734, .int .u32 506948616, .int .u32 659060556, .int .u32 883997877, .int .u32 958139571, .int .u32 1322822218, .int .u32 1537002063, .int .u32 1747873779, .int .u32 1955562222, .int .u32 2024104815, .int .u32 2227730452, .int .u32 2361852424, .int .u32 2428436474, .int .u32 2756734187, .int .u32 3204031479, .int .u32 3329325298] t frozen
    | o => o)) }
theorem laid_met (os : Os) : laidMet Tryd.prog Rows.ledgerGivesRow.laid ((laidWorld os).forCall (fun _ _ => 0) ⟨#[], #[witV], []⟩).memory :=
  laidMet_of_run' 8 (by kernel_rfl) (by kernel_rfl)
theorem reads (os : Os) {H : Type} (enc : TypeId × Value → H) : ∃ places, DataW.whole enc Tryd.prog ((laidWorld os).forCall (fun _ _ => 0) ⟨#[], #[witV], []⟩).memory Tryd.f3.params.toList Rows.ledgerGivesSpec.vars false #[witV].toList 8 = some ([.agg [.lit (.int .i64 0), .nil, .agg (List.replicate 4 (.lit (.int .u64 0))), .agg (List.replicate 4 (.lit (.int .u64 0)))]], [], places) :=
  ⟨[], by kernel_rfl⟩
set_option maxRecDepth 100000 in
theorem lifted (os : Os) (started : os.Started) (H : Type) (enc : TypeId × Value → H) (F : Stop.Interp) :
    ReturnsInHanded {} Tryd.checked os 3 .any ((OpenSpec.ofChange Rows.ledgerGivesSpec).preRow enc Tryd.prog Tryd.f3 Rows.ledgerGivesRow.domain false Rows.ledgerGivesRow.laid) (((OpenSpec.ofChange Rows.ledgerGivesSpec).at F).post enc Tryd.prog Tryd.f3 false true false false) := by
  obtain ⟨places, hx⟩ := reads os enc
  refine returnsInHanded_of_row (C := Tryd.checked) (s := (OpenSpec.ofChange Rows.ledgerGivesSpec)) own' started (by kernel_rfl) Tryd.func3
    (witness_row_at (enc := enc) (C := Tryd.checked) false (laidWorld os) #[witV] rfl (by kernel_rfl) (by kernel_rfl) (by kernel_rfl)
      (OpenSpec.preRow_of_cond 8 hx (by kernel_rfl) (fun k hk => by cases hk) (by kernel_rfl) (laid_met os))) ?_
  intro W base args ds gs before hval hW hc1 hc2 hc3 hL hc4 hc5
  exact contract H enc W base args ds gs before hval hW hL
theorem over : Rows.ledgerGivesRow.holds Tryd.pinned (OpenSpec.ofChange Rows.ledgerGivesSpec) :=
  OpenClaim.holds_of_cond 3 Tryd.f3 rfl rfl rfl rfl rfl rfl rfl ⟨rfl, rfl, rfl, rfl, rfl⟩ rfl rfl rfl rfl rfl (by kernel_rfl) Tryd.func3 (by kernel_rfl)
    (of_decide_eq_true (by kernel_rfl)) (by unfold Func.isWrapper; first | (rw [if_pos (by decide +kernel)]; kernel_rfl) | (rw [if_neg (by decide +kernel)]; exact ⟨rfl, rfl⟩))
    (fun os started H enc _ F => by rw [OpenClaim.pre_eq_preRow]; exact lifted os started H enc F)
theorem plain (f : FuncId) (fn : Func) (hf : Tryd.pinned.checked.prog.funcNamed "causeway/causewaylaw08.LedgerGives" = some f) (hfn : Tryd.pinned.checked.prog.funcs[f]? = some fn) :
    false = Tryd.pinned.checked.prog.looks [] ∧ ∀ (j : Nat) t, fn.params[j]? = some t → Tryd.pinned.checked.prog.wantsStandIn t = false := by
  obtain rfl : f = 3 := Option.some.inj ((show Tryd.prog.funcNamed "causeway/causewaylaw08.LedgerGives" = some 3 by kernel_rfl).symm.trans hf) |>.symm
  obtain rfl : fn = Tryd.f3 := (Option.some.inj (Tryd.func3.symm.trans hfn)).symm
  refine ⟨by kernel_rfl, fun j t ht => ?_⟩
  have h : (Tryd.f3.params.toList.all fun t => !Tryd.prog.wantsStandIn t) = true := by kernel_rfl
  have := List.all_eq_true.1 h t (Array.mem_toList_iff.2 (Array.mem_of_getElem? ht))
  show Tryd.prog.wantsStandIn t = false
  simpa using this
theorem ledgerGives_holds : Rows.LedgerGivesCardSaid :=
  Claim7.holds_tied_plain_at .later [] _ _ _ _ over (fun _ h => by cases h) (by kernel_rfl) (fun _ h => by cases h) ledgerGives_row_tie rfl ⟨rfl, rfl⟩ (by kernel_rfl) rfl plain (by kernel_rfl)
#print axioms ledgerGives_holds
end Go.Proofs.YtnbcbdlbejdkpaaDoor.ledgerGives
