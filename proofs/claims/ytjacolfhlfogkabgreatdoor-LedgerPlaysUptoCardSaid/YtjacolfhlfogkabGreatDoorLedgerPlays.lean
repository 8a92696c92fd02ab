import Derived.Test.YtjacolfhlfogkabGreatDoorCards
import Derived.Test.YtjacolfhlfogkabGreatDoorTie
import Derived.Test.YtjacolfhlfogkabGreatDoorMn
import Derived.Test.YtjacolfhlfogkabGreatDoorSea
import Derived.WalkKit
import Derived.ProofKit
import Derived.OpenShut
import Derived.Deep.DeepHandedRow
import Derived.Lib.LaidTab
namespace Go.Proofs.YtjacolfhlfogkabGreatDoor.ledgerPlays
open Go.ChangeShapes Go.WideShapes Go.ChangeAt Go.RowKit
open Go Go.Sl
set_option maxRecDepth 100000
def PairD.ok (W : World) (p : PairD) : Prop := RdS [was W.heap] p.v p.bs.length (bvs p.bs) ∧ ∀ b ∈ p.bs, b < 256
theorem pair_of {W : World} {H : Type} {enc : TypeId × Value → H} {m : Nat} {cs : List Value} {y : DataW H × List MemPlace} (h0 : DataW.trod enc Tryz.prog W 0 (fun _ => true) true m 99 cs = some y) : ∃ p : PairD, PairD.ok W p ∧ cs = p.cells := by
  obtain ⟨xs, n, rfl, rfl, hlen, hxl, hel⟩ := DataW.trod_struct Tryz.underlying99 h0
  have hxl2 : xs.length = 2 := hxl
  obtain ⟨y0, y1, rfl⟩ : ∃ y0 y1, xs = [y0, y1] := by
    match xs, hxl2 with
    | [a, b], _ => exact ⟨a, b, rfl⟩
  have c0 : Tryz.prog.cellsOf 9 = 1 := by kernel_rfl
  have c1 : Tryz.prog.cellsOf 97 = 1 := by kernel_rfl
  have c2 : Tryz.prog.cellsOf 99 = 2 := by kernel_rfl
  have c3 : Tryz.prog.cellsOf 5 = 1 := by kernel_rfl
  rw [c2] at hlen
  have f0 : DataW.trod enc Tryz.prog W 0 (fun _ => true) true n 9 ((cs.drop 0).take (Tryz.prog.cellsOf 9)) = some y0 := hel 0 _ rfl
  have f1 : DataW.trod enc Tryz.prog W 0 (fun _ => true) true n 97 ((cs.drop 1).take (Tryz.prog.cellsOf 97)) = some y1 := hel 1 _ rfl
  rw [c0] at f0
  rw [c1] at f1
  obtain ⟨key, k1, _, _⟩ := DataW.trod_string Tryz.underlying9 f0
  obtain ⟨v, p1⟩ : ∃ v, (cs.drop 1).take 1 = [v] := by
    rcases DataW.trod_slice Tryz.underlying97 f1 with ⟨h, _⟩ | ⟨_, _, _, _, _, _, _, h, _⟩
    · exact ⟨_, h⟩
    · exact ⟨_, h⟩
  rw [p1] at f1
  obtain ⟨k, ks, hrd, _, hl, he⟩ := rd_trodZ Tryz.underlying97 c3 (by decide) f1
  have hkl : ∀ j, j < k → wtr [.int .u8] ((ks.drop (j * 1)).take 1) := fun j hj => by
    obtain ⟨m, y, _, _, _, _, _, h⟩ := he j hj
    exact trod_flat 4 5 [.int .u8] (by kernel_rfl) _ ⟨m, _, h⟩
  obtain ⟨bs, hn, hb, rfl⟩ := chunks (fun b : Nat => bvs [b]) (fun b => b < 256) 1 (fun b _ => rfl) k ks hl fun j hj => by
    obtain ⟨l, q1, q2, q3⟩ := wtr_u8 (n := 1) (hkl j hj)
    match l, q1 with
    | [b], _ => exact ⟨b, q2 b List.mem_cons_self, q3⟩
  subst hn
  have ef : ∀ l : List Nat, l.flatMap (fun b : Nat => bvs [b]) = bvs l := fun l => by
    induction l with
    | nil => rfl
    | cons b l ih => rw [List.flatMap_cons, ih]; rfl
  rw [ef] at hrd
  refine ⟨⟨key, v, bs⟩, ⟨hrd, hb⟩, ?_⟩
  match cs, hlen with
  | [a, b], _ =>
    have e1 : [a] = [Value.string key] := k1
    have e2 : [b] = [v] := p1
    rw [List.cons.inj e1 |>.1, List.cons.inj e2 |>.1]
    rfl
theorem bulk_pos {H : Type} (d : DataW H) : 1 ≤ Rows.uptoBulk d := by
  cases d with
  | lit l => cases l <;> simp only [Rows.uptoBulk] <;> omega
  | _ => simp only [Rows.uptoBulk] <;> omega
theorem bulk_all {H : Type} (els : List (DataW H)) : els.length ≤ Rows.uptoBulkAll els := by
  induction els with
  | nil => exact Nat.zero_le _
  | cons d els ih =>
    have := bulk_pos d
    simp only [Rows.uptoBulkAll, List.length_cons]
    omega
theorem bulk_len {H : Type} (els rst : List (DataW H)) : els.length ≤ Rows.uptoBulk (.slice els rst) := by
  have := bulk_all els
  simp only [Rows.uptoBulk]
  omega
theorem steps_of {base : Nat} {W : World} {v : Value} {H : Type} {enc : TypeId × Value → H} {dd : DataW H} {ps : List MemPlace} (hv : Value.okWide Tryz.prog W .any base 57 v) (h0 : DataW.Trod enc Tryz.prog W 0 (fun _ => true) true 57 v dd ps) (hb : Rows.uptoBulk dd ≤ 1073741824) :
    ∃ xs : List StepD, (∀ x ∈ xs, x.wf) ∧ xs.length ≤ 1073741824 ∧ RdS [was W.heap] v xs.length (xs.flatMap StepD.cells) := by
  obtain ⟨s1, s2⟩ := slice_okWide Tryz.underlying57 hv
  obtain ⟨fuel, h0⟩ := h0
  rw [s1] at h0
  obtain ⟨n, cs, hrd, _, hl, he⟩ := rd_trodG (k := 66) Tryz.underlying57 (by kernel_rfl) (by decide) s2 h0
  obtain ⟨xs, hn, hxs, rfl⟩ := chunks StepD.cells StepD.wf 66 (fun s h => StepD.cells_len h) n cs hl fun i hi => by
    obtain ⟨m, y, _, _, _, _, _, h⟩ := he i hi
    exact step_of (trod_flat 4 66 stepK (by kernel_rfl) _ ⟨m, _, h⟩)
  subst hn
  refine ⟨xs, hxs, ?_, hrd⟩
  rcases Nat.eq_zero_or_pos xs.length with h | h
  · omega
  · obtain ⟨m, y, els, rst, e1, e2, _⟩ := he 0 h
    have hb2 := bulk_len els rst
    rw [← show dd = .slice els rst from e1] at hb2
    omega
theorem pairs_of {base : Nat} {W : World} {v : Value} {H : Type} {enc : TypeId × Value → H} {dd : DataW H} {ps : List MemPlace} (hv : Value.okWide Tryz.prog W .any base 22 v) (h0 : DataW.Trod enc Tryz.prog W 0 (fun _ => true) true 22 v dd ps) (hb : Rows.uptoBulk dd ≤ 1073741824) :
    ∃ ls : List PairD, (∀ p ∈ ls, PairD.ok W p) ∧ ls.length ≤ 1073741824 ∧ RdS [was W.heap] v ls.length (pairsC ls) := by
  obtain ⟨s1, s2⟩ := slice_okWide Tryz.underlying22 hv
  obtain ⟨fuel, h0⟩ := h0
  rw [s1] at h0
  obtain ⟨n, cs, hrd, _, hl, he⟩ := rd_trodG (k := 2) Tryz.underlying22 (by kernel_rfl) (by decide) s2 h0
  obtain ⟨ls, hn, hls, rfl⟩ := chunks PairD.cells (PairD.ok W) 2 (fun _ _ => rfl) n cs hl fun i hi => by
    obtain ⟨m, y, _, _, _, _, _, h⟩ := he i hi
    exact pair_of h
  subst hn
  refine ⟨ls, hls, ?_, hrd⟩
  rcases Nat.eq_zero_or_pos ls.length with h | h
  · omega
  · obtain ⟨m, y, els, rst, e1, e2, _⟩ := he 0 h
    have hb2 := bulk_len els rst
    rw [← show dd = .slice els rst from e1] at hb2
    omega
theorem contract (H : Type) (enc : TypeId × Value → H) (W : World) (base : Nat) (args : Array Value) (ds gs : List (DataW H)) (before : List MemPlace)
    (hval : ∀ (j : Nat) t v, Tryz.f5.params[j]? = some t → args[j]? = some v → Value.okWide Tryz.prog W .any base t v)
    (hW : DataW.Whole enc Tryz.prog Tryz.f5.params.toList Rows.ledgerPlaysSpec.vars false W args.toList ds gs before)
    (hsm : Rows.uptoSmall H (ds ++ gs) = true) (hL : laidMetH Tryz.prog Rows.ledgerPlaysUptoRow.laid W) :
    Calls Tryz.prog 5 args W fun e W' => ∃ v, e = .returned v ∧ Rows.ledgerPlaysSpec.post enc Tryz.prog Tryz.f5 false true false false W args v W' := by
  have hW' := hW
  obtain ⟨p, q, hA0, hV, rfl, hfz, hnd⟩ := hW
  have hA : DataW.TrodAll enc Tryz.prog W 0 (fun _ => true) true Tryz.f5.params.toList args.toList ds p := hA0
  rw [Tryz.params5] at hA hval
  obtain ⟨v0, vs0, d0, ds0, p0, q0, hargs, rfl, rfl, h0, r0⟩ := trodAll_cons hA
  obtain ⟨v1, vs1, d1, ds1, p1, q1, rfl, rfl, rfl, h1, r1⟩ := trodAll_cons r0
  obtain ⟨v2, vs2, d2, ds2, p2, q2, rfl, rfl, rfl, h2, r2⟩ := trodAll_cons r1
  obtain ⟨rfl, rfl, rfl⟩ := trodAll_nil r2
  obtain rfl : args = #[v0, v1, v2] := by cases args; simp_all
  obtain ⟨rfl, rfl⟩ := trodVars_none hV
  have hbulk := of_decide_eq_true hsm
  simp only [List.append_nil, Rows.uptoBulkAll] at hbulk
  obtain ⟨ls, hls, hl0, hrd⟩ := pairs_of (hval 0 22 v0 rfl rfl) h0 (by omega)
  obtain ⟨sm, rfl, rfl, rfl⟩ := open_bool Tryz.underlying4 (hval 1 4 v1 rfl rfl) h1
  obtain ⟨xs, hxs, hx1, hrd2⟩ := steps_of (hval 2 57 v2 rfl rfl) h2 (by omega)
  have e : Rows.ledgerPlaysUptoRow.laid = [("causeway/digest.steps", Lib.tabData .u32 (tabK K64))] := by kernel_rfl
  have hL1 : laidMet Tryz.prog [("causeway/digest.steps", Lib.tabData .u32 (tabK K64))] W := by rw [e] at hL; exact hL
  have hK : CelN [was W.heap] 0 0 (wvs K64) := words_was (t := 236) (e := 196) (n := 64) hL1 (by kernel_rfl) (by kernel_rfl) (by kernel_rfl) (by kernel_rfl) (by kernel_rfl) (by kernel_rfl)
  refine (plays_spec [was W.heap] K64 K64_len hK v0 ls hrd (by omega) hls sm v2 xs hxs (by omega) hrd2 W (Sat.was_here W)).mono fun e W' he => ?_
  obtain ⟨v, L, rfl, rfl, hx, hs⟩ := he
  exact ⟨_, rfl, post_true kids full (by rw [Tryz.params5]; decide +kernel) rfl hW' Tryz.underlying4 (by kernel_rfl) rfl hx (old_of_was hs)⟩

noncomputable def laidWorld (os : Os) : World :=
  { World.holding Tryz.prog os ⟨#[], #[], []⟩ with heap := (((World.holding Tryz.prog os ⟨#[], #[], []⟩).heap).modify 0 (fun
    | .cells _ t frozen => .cells #[.int .u32 1116352408, .int .u32 1899447441, .int .u32 3049323471, .int .u32 3921009573, .int .u32 961987163, .int .u32 1508970993, .int .u32 2453635748, .int .u32 2870763221, .int .u32 3624381080, .int .u32 310598401, .int .u32 607225278, .int .u32 1426881987, .int .u32 1925078388, .int .u32 2162078206, .int .u32 2614888103, .int .u32 3248222580, .int .u32 3835390401, .int .u32 4022224774, .int .u32 264347078, .int .u32 604807628, .int .u32 770255983, .int .u32 1249150122, .int .u32 1555081692, .int .u32 1996064986, .int .u32 2554220882, .int .u32 2821834349, .int .u32 2952996808, .int .u32 3210313671, .int .u32 3336571891, .int .u32 3584528711, .int .u32 113926993, .int .u32 338241895, .int .u32 666307205, .int .u32 773529912, .int .u32 1294757372, .int .u32 1396182291, .int .u32 1695183700, .int .u32 1986661051, .int .u32 2177026350, .int .u32 2456956037, .int .u32 2730485921, .int .u32 2820302411, .int .u32 3259730800, .int .u32 3345764771, .int .u32 3516065817, .int .u32 3600352804, .int .u32 4094571909, .int .u32 275423344, .int .u32 430227734, .int .u32 506948616, .int .u32 659060556, .int .u32 883997877, .int .u32 958139571, .int .u32 1322822218, .int .u32 1537002063, .int .u32 1747873779, .int .u32 1955562222, .int .u32 2024104815, .int .u32 2227730452, .int .u32 2361852424, .int .u32 2428436474, .int .u32 2756734187, .int .u32 3204031479, .int .u32 3329325298] t frozen
    | o => o)) }
theorem laid_met (os : Os) : laidMet Tryz.prog Rows.ledgerPlaysUptoRow.laid ((laidWorld os).forCall (fun _ _ => 0) ⟨#[], #[.slice none 0 0, .bool false, .slice none 0 0], []⟩).memory :=
  laidMet_of_run' 8 (by kernel_rfl) (by kernel_rfl)
theorem reads (os : Os) {H : Type} (enc : TypeId × Value → H) : ∃ places, DataW.whole enc Tryz.prog ((laidWorld os).forCall (fun _ _ => 0) ⟨#[], #[.slice none 0 0, .bool false, .slice none 0 0], []⟩).memory Tryz.f5.params.toList Rows.ledgerPlaysSpec.vars false #[.slice none 0 0, .bool false, .slice none 0 0].toList 8 = some ([.nil, .lit (.bool false), .nil], [], places) :=
  ⟨[], by kernel_rfl⟩
set_option maxRecDepth 100000 in
theorem lifted (os : Os) (started : os.Started) (H : Type) (enc : TypeId × Value → H) (F : Stop.Interp) :
    ReturnsInHanded {} Tryz.checked os 5 .any ((Rows.OpenSpec.upto Rows.ledgerPlaysSpec).preRow enc Tryz.prog Tryz.f5 Rows.ledgerPlaysUptoRow.domain false Rows.ledgerPlaysUptoRow.laid) (((Rows.OpenSpec.upto Rows.ledgerPlaysSpec).at F).post enc Tryz.prog Tryz.f5 false true false false) := by
  obtain ⟨places, hx⟩ := reads os enc
  refine returnsInHanded_of_row (C := Tryz.checked) (s := (Rows.OpenSpec.upto Rows.ledgerPlaysSpec)) own' started (by kernel_rfl) Tryz.func5
    (witness_row_at (enc := enc) (C := Tryz.checked) false (laidWorld os) #[.slice none 0 0, .bool false, .slice none 0 0] rfl (by kernel_rfl) (by kernel_rfl) (by kernel_rfl)
      (OpenSpec.preRow_of_cond 8 hx (by kernel_rfl) (fun k hk => by cases hk; kernel_rfl) (by kernel_rfl) (laid_met os))) ?_
  intro W base args ds gs before hval hW hc1 hc2 hc3 hL hc4 hc5
  exact contract H enc W base args ds gs before hval hW (hc2 _ rfl) hL
theorem over : Rows.ledgerPlaysUptoRow.holds Tryz.pinned (Rows.OpenSpec.upto Rows.ledgerPlaysSpec) :=
  OpenClaim.holds_of_cond 5 Tryz.f5 rfl rfl rfl rfl rfl rfl rfl ⟨rfl, rfl, rfl, rfl, rfl⟩ rfl rfl rfl rfl rfl (by kernel_rfl) Tryz.func5 (by kernel_rfl)
    (of_decide_eq_true (by kernel_rfl)) (by unfold Func.isWrapper; first | (rw [if_pos (by decide +kernel)]; kernel_rfl) | (rw [if_neg (by decide +kernel)]; exact ⟨rfl, rfl⟩))
    (fun os started H enc _ F => by rw [OpenClaim.pre_eq_preRow]; exact lifted os started H enc F)
theorem plain (f : FuncId) (fn : Func) (hf : Tryz.pinned.checked.prog.funcNamed "causeway/causewaylaw08.LedgerPlays" = some f) (hfn : Tryz.pinned.checked.prog.funcs[f]? = some fn) :
    false = Tryz.pinned.checked.prog.looks [] ∧ ∀ (j : Nat) t, fn.params[j]? = some t → Tryz.pinned.checked.prog.wantsStandIn t = false := by
  obtain rfl : f = 5 := Option.some.inj ((show Tryz.prog.funcNamed "causeway/causewaylaw08.LedgerPlays" = some 5 by kernel_rfl).symm.trans hf) |>.symm
  obtain rfl : fn = Tryz.f5 := (Option.some.inj (Tryz.func5.symm.trans hfn)).symm
  refine ⟨by kernel_rfl, fun j t ht => ?_⟩
  have h : (Tryz.f5.params.toList.all fun t => !Tryz.prog.wantsStandIn t) = true := by kernel_rfl
  have := List.all_eq_true.1 h t (Array.mem_toList_iff.2 (Array.mem_of_getElem? ht))
  show Tryz.prog.wantsStandIn t = false
  simpa using this
theorem ledgerPlays_holds : Rows.LedgerPlaysUptoCardSaid :=
  Claim7.holds_tied_plain_at .later [] _ _ _ _ over (fun _ h => by cases h) (by kernel_rfl) (fun _ h => by cases h) ledgerPlaysUpto_row_tie rfl ⟨rfl, rfl⟩ (by kernel_rfl) rfl plain (by kernel_rfl)
#print axioms ledgerPlays_holds
end Go.Proofs.YtjacolfhlfogkabGreatDoor.ledgerPlays
