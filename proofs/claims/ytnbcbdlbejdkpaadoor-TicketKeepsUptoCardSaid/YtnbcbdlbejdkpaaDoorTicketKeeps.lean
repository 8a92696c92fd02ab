/-
  TicketKeeps: the given statement, out of the contract of the law's function.
-/
import Derived.Test.YtnbcbdlbejdkpaaDoorCards
import Derived.Test.YtnbcbdlbejdkpaaDoorTie
import Derived.Test.YtnbcbdlbejdkpaaDoorKt
import Derived.Test.YtnbcbdlbejdkpaaDoorSea
import Derived.WalkKit
import Derived.ProofKit
import Derived.OpenShut
import Derived.Deep.DeepHandedRow
import Derived.Lib.LaidTab
namespace Go.Proofs.YtnbcbdlbejdkpaaDoor.ticketKeeps
open Go.ChangeShapes Go.WideShapes Go.ChangeAt Go.RowKit
open Go Go.Sl
set_option maxRecDepth 100000
def stepK9 : List LK := .int .i64 :: .int .i64 :: tickK
theorem step_of {cs : List Value} (h : wtr stepK9 cs) : ∃ x : StepK, x.wf ∧ cs = x.cells := by
  unfold stepK9 tickK at h
  obtain ⟨c1, cs1, rfl, ⟨w, rfl, h2⟩, h8⟩ := wtr_cons h
  obtain ⟨c2, cs2, rfl, ⟨t, rfl, h4⟩, h5⟩ := wtr_cons h8
  obtain ⟨c3, cs3, rfl, ⟨u, rfl, _⟩, h7⟩ := wtr_cons h5
  obtain ⟨c4, cs4, rfl, ⟨e, rfl, h10⟩, h11⟩ := wtr_cons h7
  obtain ⟨h12, h13⟩ := wtr_append h11
  obtain ⟨c5, cs5, hcs5, ⟨k, hk, h14⟩, h15⟩ := wtr_cons h13
  obtain ⟨h16, h17⟩ := wtr_append h15
  obtain ⟨la, a1, a2, a3⟩ := wtr_u8 h12
  obtain ⟨lb, b1, b2, b3⟩ := wtr_u8 h16
  obtain ⟨m, m1, m2, m3⟩ := wtr_u64 h17
  refine ⟨⟨w, t, ⟨u, e, la, k, lb, m⟩⟩, ⟨(i64_of_wf h2).1, (i64_of_wf h2).2, (i64_of_wf h4).1, (i64_of_wf h4).2, (i64_of_wf h10).1, (i64_of_wf h10).2, (i64_of_wf h14).1, (i64_of_wf h14).2, ⟨a1, b1, m1⟩, ⟨a1, a2⟩, ⟨b1, b2⟩, ⟨m1, m2⟩⟩, ?_⟩
  rw [StepK.cells, TicketD.cells, ← a3, ← b3, ← m3, List.take_append_drop, ← hk, ← hcs5, List.take_append_drop]
theorem bool_of {cs : List Value} (h : wtr [.bool] cs) : ∃ b : Bool, True ∧ cs = [Value.bool b] := by
  obtain ⟨c1, cs1, rfl, hb, h8⟩ := wtr_cons h
  cases cs1 with
  | nil =>
    obtain ⟨b, rfl⟩ := hb
    exact ⟨b, trivial, rfl⟩
  | cons _ _ => exact h8.elim
theorem bulk_pos {H : Type} (d : DataW H) : 1 ≤ Rows.uptoBulk d := by
  cases d with
  | lit l => cases l <;> simp only [Rows.uptoBulk] <;> omega
  | _ => simp only [Rows.uptoBulk] <;> omega
theorem bulk_all {H : Type} (els : List (DataW H)) : els.length ≤ Rows.uptoBulkAll els := by
  induction els with
  | nil => exact Nat.zero_le _
  | cons d els ih =>
    have := bulk_pos d
    simp only [Rows.uptoBulkAll, List.length_cons]
    omega
theorem bulk_len {H : Type} (els rst : List (DataW H)) : els.length ≤ Rows.uptoBulk (.slice els rst) := by
  have := bulk_all els
  simp only [Rows.uptoBulk]
  omega
theorem contract (H : Type) (enc : TypeId × Value → H) (W : World) (base : Nat) (args : Array Value) (ds gs : List (DataW H)) (before : List MemPlace)
    (hval : ∀ (j : Nat) t v, Tryd.f7.params[j]? = some t → args[j]? = some v → Value.okWide Tryd.prog W .any base t v)
    (hW : DataW.Whole enc Tryd.prog Tryd.f7.params.toList Rows.ticketKeepsSpec.vars false W args.toList ds gs before)
    (hsm : Rows.uptoSmall H (ds ++ gs) = true) (_hL : laidMetH Tryd.prog Rows.ticketKeepsUptoRow.laid W) :
    Calls Tryd.prog 7 args W fun e W' => ∃ v, e = .returned v ∧ Rows.ticketKeepsSpec.post enc Tryd.prog Tryd.f7 false true false false W args v W' := by
  have hW' := hW
  obtain ⟨p, q, hA0, hV, rfl, hfz, hnd⟩ := hW
  have hA : DataW.TrodAll enc Tryd.prog W 0 (fun _ => true) true Tryd.f7.params.toList args.toList ds p := hA0
  rw [Tryd.params7] at hA hval
  obtain ⟨v0, vs0, d0, ds0, p0, q0, hargs, rfl, rfl, h0, r0⟩ := trodAll_cons hA
  obtain ⟨v1, vs1, d1, ds1, p1, q1, rfl, rfl, rfl, h1, r1⟩ := trodAll_cons r0
  obtain ⟨rfl, rfl, rfl⟩ := trodAll_nil r1
  obtain rfl : args = #[v0, v1] := by cases args; simp_all
  obtain ⟨rfl, rfl⟩ := trodVars_none hV
  have hbulk := of_decide_eq_true hsm
  simp only [List.append_nil, Rows.uptoBulkAll] at hbulk
  obtain ⟨t1, t2⟩ := slice_okWide Tryd.underlying72 (hval 0 72 v0 rfl rfl)
  obtain ⟨fuel0, h0⟩ := h0
  rw [t1] at h0
  obtain ⟨n, cs, hrd0, _, hl0, he0⟩ := rd_trodG (k := 49) Tryd.underlying72 (by kernel_rfl) (by decide) t2 h0
  obtain ⟨xs, hn, hxs, rfl⟩ := chunks StepK.cells StepK.wf 49 (fun s h => StepK.cells_len h) n cs hl0 fun i hi => by
    obtain ⟨m, y, _, _, _, _, _, h⟩ := he0 i hi
    exact step_of (trod_flat 5 84 stepK9 (by kernel_rfl) _ ⟨m, _, h⟩)
  subst hn
  have hx0 : xs.length ≤ 1073741824 := by
    rcases Nat.eq_zero_or_pos xs.length with h | h
    · omega
    · obtain ⟨m, y, els, rst, e1, e2, _⟩ := he0 0 h
      have hb := bulk_len els rst
      rw [← show d0 = .slice els rst from e1] at hb
      omega
  obtain ⟨s1, s2⟩ := slice_okWide Tryd.underlying73 (hval 1 73 v1 rfl rfl)
  obtain ⟨fuel1, h1⟩ := h1
  rw [s1] at h1
  obtain ⟨n, cs, hrd1, _, hl1, he1⟩ := rd_trodG (k := 1) Tryd.underlying73 (by kernel_rfl) (by decide) s2 h1
  obtain ⟨bs, hn, _, rfl⟩ := chunks (fun b : Bool => [Value.bool b]) (fun _ => True) 1 (fun _ _ => rfl) n cs hl1 fun i hi => by
    obtain ⟨m, y, _, _, _, _, _, h⟩ := he1 i hi
    exact bool_of (trod_flat 4 4 [.bool] (by kernel_rfl) _ ⟨m, _, h⟩)
  subst hn
  have eb : bs.flatMap (fun b : Bool => [Value.bool b]) = bls bs := by
    unfold bls
    induction bs with
    | nil => rfl
    | cons b bs ih => rw [List.flatMap_cons, List.map_cons, ← List.map_eq_flatMap]; rfl
  rw [eb] at hrd1
  refine (keeps_loop [was W.heap] v0 v1 xs hxs hx0 hrd0 bs hrd1 W (Sat.was_here W)).mono fun e W' he => ?_
  obtain ⟨v, L, rfl, rfl, hx, hs⟩ := he
  exact ⟨_, rfl, post_true kids full (by rw [Tryd.params7]; decide +kernel) rfl hW' Tryd.underlying4 (by kernel_rfl) rfl hx (old_of_was hs)⟩

noncomputable def laidWorld (os : Os) : World :=
  { World.holding Tryd.prog os ⟨#[], #[], []⟩ with heap := (((World.holding Tryd.prog os ⟨#[], #[], []⟩).heap).modify 0 (fun
    | .cells _ t frozen => .cells #[.int .u32 1116352408, .int .u32 1899447441, .int .u32 3049323471, .int .u32 3921009573, .int .u32 961987163, .int .u32 1508970993, .int .u32 2453635748, .int .u32 2870763221, .int .u32 3624381080, .int .u32 310598401, .int .u32 607225278, .int .u32 1426881987, .int .u32 1925078388, .int .u32 2162078206, .int .u32 2614888103, .int .u32 3248222580, .int .u32 3835390401, .int .u32 4022224774, .int .u32 264347078, .int .u32 604807628, .int .u32 770255983, .int .u32 1249150122, .int .u32 1555081692, .int .u32 1996064986, .int .u32 2554220882, .int .u32 2821834349, .int .u32 2952996808, .int .u32 3210313671, .int .u32 3336571891, .int .u32 3584528711, .int .u32 113926993, .int .u32 338241895, .int .u32 666307205, .int .u32 773529912, .int .u32 1294757372, .int .u32 1396182291, .int .u32 1695183700, .int .u32 1986661051, .int .u32 2177026350, .int .u32 2456956037, .int .u32 2730485921, .int .u32 2820302411, .int .u32 3259730800, .int .u32 3345764771, .int .u32 3516065817, .int .u32 3600352804, .int .u32 4094571909, .int .u32 275423344, .int .u32 430227734, .int .u32 506948616, .int .u32 659060556, .int .u32 883997877, .int .u32 958139571, .int .u32 1322822218, .int .u32 1537002063, .int .u32 1747873779, .int .u32 1955562222, .int .u32 2024104815, .int .u32 2227730452, .int .u32 2361852424, .int .u32 2428436474, .int .u32 2756734187, .int .u32 3204031479, .int .u32 3329325298] t frozen
    | o => o)) }
theorem laid_met (os : Os) : laidMet Tryd.prog Rows.ticketKeepsUptoRow.laid ((laidWorld os).forCall (fun _ _ => 0) ⟨#[], #[.slice none 0 0, .slice none 0 0], []⟩).memory :=
  laidMet_of_run' 8 (by kernel_rfl) (by kernel_rfl)
theorem reads (os : Os) {H : Type} (enc : TypeId × Value → H) : ∃ places, DataW.whole enc Tryd.prog ((laidWorld os).forCall (fun _ _ => 0) ⟨#[], #[.slice none 0 0, .slice none 0 0], []⟩).memory Tryd.f7.params.toList Rows.ticketKeepsSpec.vars false #[.slice none 0 0, .slice none 0 0].toList 8 = some ([.nil, .nil], [], places) :=
  ⟨[], by kernel_rfl⟩
set_option maxRecDepth 100000 in
theorem lifted (os : Os) (started : os.Started) (H : Type) (enc : TypeId × Value → H) (F : Stop.Interp) :
    ReturnsInHanded {} Tryd.checked os 7 .any ((Rows.OpenSpec.upto Rows.ticketKeepsSpec).preRow enc Tryd.prog Tryd.f7 Rows.ticketKeepsUptoRow.domain false Rows.ticketKeepsUptoRow.laid) (((Rows.OpenSpec.upto Rows.ticketKeepsSpec).at F).post enc Tryd.prog Tryd.f7 false true false false) := by
  obtain ⟨places, hx⟩ := reads os enc
  refine returnsInHanded_of_row (C := Tryd.checked) (s := (Rows.OpenSpec.upto Rows.ticketKeepsSpec)) own' started (by kernel_rfl) Tryd.func7
    (witness_row_at (enc := enc) (C := Tryd.checked) false (laidWorld os) #[.slice none 0 0, .slice none 0 0] rfl (by kernel_rfl) (by kernel_rfl) (by kernel_rfl)
      (OpenSpec.preRow_of_cond 8 hx (by kernel_rfl) (fun k hk => by cases hk; kernel_rfl) (by kernel_rfl) (laid_met os))) ?_
  intro W base args ds gs before hval hW hc1 hc2 hc3 hL hc4 hc5
  exact contract H enc W base args ds gs before hval hW (hc2 _ rfl) hL
theorem over : Rows.ticketKeepsUptoRow.holds Tryd.pinned (Rows.OpenSpec.upto Rows.ticketKeepsSpec) :=
  OpenClaim.holds_of_cond 7 Tryd.f7 rfl rfl rfl rfl rfl rfl rfl ⟨rfl, rfl, rfl, rfl, rfl⟩ rfl rfl rfl rfl rfl (by kernel_rfl) Tryd.func7 (by kernel_rfl)
    (of_decide_eq_true (by kernel_rfl)) (by unfold Func.isWrapper; first | (rw [if_pos (by decide +kernel)]; kernel_rfl) | (rw [if_neg (by decide +kernel)]; exact ⟨rfl, rfl⟩))
    (fun os started H enc _ F => by rw [OpenClaim.pre_eq_preRow]; exact lifted os started H enc F)
theorem plain (f : FuncId) (fn : Func) (hf : Tryd.pinned.checked.prog.funcNamed "causeway/causewaylaw09.TicketKeeps" = some f) (hfn : Tryd.pinned.checked.prog.funcs[f]? = some fn) :
    false = Tryd.pinned.checked.prog.looks [] ∧ ∀ (j : Nat) t, fn.params[j]? = some t → Tryd.pinned.checked.prog.wantsStandIn t = false := by
  obtain rfl : f = 7 := Option.some.inj ((show Tryd.prog.funcNamed "causeway/causewaylaw09.TicketKeeps" = some 7 by kernel_rfl).symm.trans hf) |>.symm
  obtain rfl : fn = Tryd.f7 := (Option.some.inj (Tryd.func7.symm.trans hfn)).symm
  refine ⟨by kernel_rfl, fun j t ht => ?_⟩
  have h : (Tryd.f7.params.toList.all fun t => !Tryd.prog.wantsStandIn t) = true := by kernel_rfl
  have := List.all_eq_true.1 h t (Array.mem_toList_iff.2 (Array.mem_of_getElem? ht))
  show Tryd.prog.wantsStandIn t = false
  simpa using this
theorem ticketKeeps_holds : Rows.TicketKeepsUptoCardSaid :=
  Claim7.holds_tied_plain_at .later [] _ _ _ _ over (fun _ h => by cases h) (by kernel_rfl) (fun _ h => by cases h) ticketKeepsUpto_row_tie rfl ⟨rfl, rfl⟩ (by kernel_rfl) rfl plain (by kernel_rfl)
#print axioms ticketKeeps_holds
end Go.Proofs.YtnbcbdlbejdkpaaDoor.ticketKeeps
