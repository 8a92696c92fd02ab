import Derived.Test.YtjkldhalmglkpaaDoorCards
import Derived.Test.YtjkldhalmglkpaaDoorTie
import Derived.Test.YtjkldhalmglkpaaDoorUl
import Derived.Test.YtjkldhalmglkpaaDoorSea
import Derived.WalkKit
import Derived.ProofKit
import Derived.OpenShut
import Derived.Deep.DeepHandedRow
import Derived.Lib.LaidTab
namespace Go.Proofs.YtjkldhalmglkpaaDoor.storeAlls
open Go.ChangeShapes Go.WideShapes Go.ChangeAt Go.RowKit
open Go Go.Sl
set_option maxRecDepth 100000
def PairD.ok (W : World) (p : PairD) : Prop := RdS [was W.heap] p.v p.bs.length (bvs p.bs) ∧ ∀ b ∈ p.bs, b < 256
theorem pair_of {W : World} {H : Type} {enc : TypeId × Value → H} {m : Nat} {cs : List Value} {y : DataW H × List MemPlace} (h0 : DataW.trod enc Tryd.prog W 0 (fun _ => true) true m 34 cs = some y) : ∃ p : PairD, PairD.ok W p ∧ cs = p.cells := by
  obtain ⟨xs, n, rfl, rfl, hlen, hxl, hel⟩ := DataW.trod_struct Tryd.underlying34 h0
  have hxl2 : xs.length = 2 := hxl
  obtain ⟨y0, y1, rfl⟩ : ∃ y0 y1, xs = [y0, y1] := by
    match xs, hxl2 with
    | [a, b], _ => exact ⟨a, b, rfl⟩
  have c0 : Tryd.prog.cellsOf 9 = 1 := by kernel_rfl
  have c1 : Tryd.prog.cellsOf 30 = 1 := by kernel_rfl
  have c2 : Tryd.prog.cellsOf 34 = 2 := by kernel_rfl
  have c3 : Tryd.prog.cellsOf 5 = 1 := by kernel_rfl
  rw [c2] at hlen
  have f0 : DataW.trod enc Tryd.prog W 0 (fun _ => true) true n 9 ((cs.drop 0).take (Tryd.prog.cellsOf 9)) = some y0 := hel 0 _ rfl
  have f1 : DataW.trod enc Tryd.prog W 0 (fun _ => true) true n 30 ((cs.drop 1).take (Tryd.prog.cellsOf 30)) = some y1 := hel 1 _ rfl
  rw [c0] at f0
  rw [c1] at f1
  obtain ⟨key, k1, _, _⟩ := DataW.trod_string Tryd.underlying9 f0
  obtain ⟨v, p1⟩ : ∃ v, (cs.drop 1).take 1 = [v] := by
    rcases DataW.trod_slice Tryd.underlying30 f1 with ⟨h, _⟩ | ⟨_, _, _, _, _, _, _, h, _⟩
    · exact ⟨_, h⟩
    · exact ⟨_, h⟩
  rw [p1] at f1
  obtain ⟨k, ks, hrd, _, hl, he⟩ := rd_trodZ Tryd.underlying30 c3 (by decide) f1
  have hkl : ∀ j, j < k → wtr [.int .u8] ((ks.drop (j * 1)).take 1) := fun j hj => by
    obtain ⟨m, y, _, _, _, _, _, h⟩ := he j hj
    exact trod_flat 4 5 [.int .u8] (by kernel_rfl) _ ⟨m, _, h⟩
  obtain ⟨bs, hn, hb, rfl⟩ := chunks (fun b : Nat => bvs [b]) (fun b => b < 256) 1 (fun b _ => rfl) k ks hl fun j hj => by
    obtain ⟨l, q1, q2, q3⟩ := wtr_u8 (n := 1) (hkl j hj)
    match l, q1 with
    | [b], _ => exact ⟨b, q2 b List.mem_cons_self, q3⟩
  subst hn
  have ef : ∀ l : List Nat, l.flatMap (fun b : Nat => bvs [b]) = bvs l := fun l => by
    induction l with
    | nil => rfl
    | cons b l ih => rw [List.flatMap_cons, ih]; rfl
  rw [ef] at hrd
  refine ⟨⟨key, v, bs⟩, ⟨hrd, hb⟩, ?_⟩
  match cs, hlen with
  | [a, b], _ =>
    have e1 : [a] = [Value.string key] := k1
    have e2 : [b] = [v] := p1
    rw [List.cons.inj e1 |>.1, List.cons.inj e2 |>.1]
    rfl
theorem pairs_of {base : Nat} {W : World} {v : Value} {H : Type} {enc : TypeId × Value → H} {dd : DataW H} {ps : List MemPlace} (hv : Value.okWide Tryd.prog W .any base 22 v) (h0 : DataW.Trod enc Tryd.prog W 0 (fun _ => true) true 22 v dd ps) (hwt : ∀ x ∈ DataW.weights Tryd.prog 22 dd, x ≤ reachBytes) :
    ∃ ls : List PairD, (∀ p ∈ ls, PairD.ok W p) ∧ ls.length ≤ 3518437208780 ∧ RdS [was W.heap] v ls.length (pairsC ls) := by
  obtain ⟨s1, s2⟩ := slice_okWide Tryd.underlying22 hv
  obtain ⟨fuel, h0⟩ := h0
  rw [s1] at h0
  have c5 : Tryd.prog.bytesOf 34 = 40 := by kernel_rfl
  obtain ⟨n, cs, hrd, _, hl, he⟩ := rd_trodG (k := 2) Tryd.underlying22 (by kernel_rfl) (by decide) s2 h0
  obtain ⟨ls, hn, hls, rfl⟩ := chunks PairD.cells (PairD.ok W) 2 (fun _ _ => rfl) n cs hl fun i hi => by
    obtain ⟨m, y, _, _, _, _, _, h⟩ := he i hi
    exact pair_of h
  subst hn
  refine ⟨ls, hls, ?_, hrd⟩
  rcases Nat.eq_zero_or_pos ls.length with h | h
  · omega
  · obtain ⟨m, y, els, rst, e1, e2, _⟩ := he 0 h
    have hmem : (els.length + rst.length) * Tryd.prog.bytesOf 34 ∈ DataW.weights Tryd.prog 22 dd := by
      rw [show dd = .slice els rst from e1, DataW.weights, Tryd.underlying22]
      exact List.mem_cons_self
    have := hwt _ hmem
    rw [c5] at this
    simp only [reachBytes] at this
    omega
theorem contract (H : Type) (enc : TypeId × Value → H) (W : World) (base : Nat) (args : Array Value) (ds gs : List (DataW H)) (before : List MemPlace)
    (hval : ∀ (j : Nat) t v, Tryd.f3.params[j]? = some t → args[j]? = some v → Value.okWide Tryd.prog W .any base t v)
    (hW : DataW.Whole enc Tryd.prog Tryd.f3.params.toList Rows.storeAllsSpec.vars false W args.toList ds gs before)
    (hwt : (DataW.weightsEach Tryd.prog (Tryd.f3.params.toList ++ (OpenSpec.ofChange Rows.storeAllsSpec).bare.plain.varTypes Tryd.prog) (ds ++ gs)).all (· ≤ reachBytes) = true) (hL : laidMetH Tryd.prog Rows.storeAllsRow.laid W) :
    Calls Tryd.prog 3 args W fun e W' => ∃ v, e = .returned v ∧ Rows.storeAllsSpec.post enc Tryd.prog Tryd.f3 false true false false W args v W' := by
  have hW' := hW
  obtain ⟨p, q, hA0, hV, rfl, hfz, hnd⟩ := hW
  have hA : DataW.TrodAll enc Tryd.prog W 0 (fun _ => true) true Tryd.f3.params.toList args.toList ds p := hA0
  rw [Tryd.params3] at hA hval hwt
  obtain ⟨v0, vs0, d0, ds0, p0, q0, hargs, rfl, rfl, h0, r0⟩ := trodAll_cons hA
  obtain ⟨v1, vs1, d1, ds1, p1, q1, rfl, rfl, rfl, h1, r1⟩ := trodAll_cons r0
  obtain ⟨v2, vs2, d2, ds2, p2, q2, rfl, rfl, rfl, h2, r2⟩ := trodAll_cons r1
  obtain ⟨rfl, rfl, rfl⟩ := trodAll_nil r2
  obtain rfl : args = #[v0, v1, v2] := by cases args; simp_all
  obtain ⟨rfl, rfl⟩ := trodVars_none hV
  have hall : ∀ x ∈ DataW.weights Tryd.prog 22 d0 ++ DataW.weights Tryd.prog 22 d1, x ≤ reachBytes := fun x hx => by
    have h := List.all_eq_true.1 hwt x (by
      show x ∈ DataW.weightsEach Tryd.prog (22 :: 22 :: _) (d0 :: d1 :: _)
      rw [DataW.weightsEach, DataW.weightsEach, List.mem_append, List.mem_append]
      rcases List.mem_append.1 hx with hx | hx
      · exact .inl hx
      · exact .inr (.inl hx))
    simpa using h
  obtain ⟨ls, hls, hl0, hrd⟩ := pairs_of (hval 0 22 v0 rfl rfl) h0 (fun x hx => hall x (List.mem_append.2 (.inl hx)))
  obtain ⟨xs, hxs, hx1, hrd2⟩ := pairs_of (hval 1 22 v1 rfl rfl) h1 (fun x hx => hall x (List.mem_append.2 (.inr hx)))
  obtain ⟨ea, rfl, rfl, rfl, hea⟩ := open_int Tryd.underlying3 (hval 2 3 v2 rfl rfl) h2
  have e : Rows.storeAllsRow.laid = [("causeway/digest.steps", Lib.tabData .u32 (tabK K64))] := by kernel_rfl
  have hL1 : laidMet Tryd.prog [("causeway/digest.steps", Lib.tabData .u32 (tabK K64))] W := by rw [e] at hL; exact hL
  have hK : CelN [was W.heap] 0 0 (wvs K64) := words_was (t := 191) (e := 157) (n := 64) hL1 (by kernel_rfl) (by kernel_rfl) (by kernel_rfl) (by kernel_rfl) (by kernel_rfl) (by kernel_rfl)
  refine (alls_spec K64_len [was W.heap] hK v0 v1 ls xs ea (i64_of_wf hea).1 (i64_of_wf hea).2 hrd hrd2 (by omega) (by omega) hls hxs W (Sat.was_here W)).mono fun e W' he => ?_
  obtain ⟨v, L, rfl, rfl, hx, hs⟩ := he
  exact ⟨_, rfl, post_true kids full (by rw [Tryd.params3]; decide +kernel) rfl hW' Tryd.underlying4 (by kernel_rfl) rfl hx (old_of_was hs)⟩

noncomputable def laidWorld (os : Os) : World :=
  { World.holding Tryd.prog os ⟨#[], #[], []⟩ with heap := (((World.holding Tryd.prog os ⟨#[], #[], []⟩).heap).modify 0 (fun
    | .cells _ t frozen => .cells #[.int .u32 1116352408, .int .u32 1899447441, .int .u32 3049323471, .int .u32 3921009573, .int .u32 961987163, .int .u32 1508970993, .int .u32 2453635748, .int .u32 2870763221, .int .u32 3624381080, .int .u32 310598401, .int .u32 607225278, .int .u32 1426881987, .int .u32 1925078388, .int .u32 2162078206, .int .u32 2614888103, .int .u32 3248222580, .int .u32 3835390401, .int .u32 4022224774, .int .u32 264347078, .int .u32 604807628, .int .u32 770255983, .int .u32 1249150122, .int .u32 1555081692, .int .u32 1996064986, .int .u32 2554220882, .int .u32 2821834349, .int .u32 2952996808, .int .u32 3210313671, .int .u32 3336571891, .int .u32 3584528711, .int .u32 113926993, .int .u32 338241895, .int .u32 666307205, .int .u32 773529912, .int .u32 1294757372, .int .u32 1396182291, .int .u32 1695183700, .int .u32 1986661051, .int .u32 2177026350, .int .u32 2456956037, .int .u32 2730485921, .int .u32 2820302411, .int .u32 3259730800, .int .u32 3345764771, .int .u32 3516065817, .int .u32 3600352804, .int .u32 4094571909, .int .u32 275423344, .int .u32 430227734, .int .u32 506948616, .int .u32 659060556, .int .u32 883997877, .int .u32 958139571, .int .u32 1322822218, .int .u32 1537002063, .int .u32 1747873779, .int .u32 1955562222, .int .u32 2024104815, .int .u32 2227730452, .int .u32 2361852424, .int .u32 2428436474, .int .u32 2756734187, .int .u32 3204031479, .int .u32 3329325298] t frozen
    | o => o)) }
theorem laid_met (os : Os) : laidMet Tryd.prog Rows.storeAllsRow.laid ((laidWorld os).forCall (fun _ _ => 0) ⟨#[], #[.slice none 0 0, .slice none 0 0, .int .i64 0], []⟩).memory :=
  laidMet_of_run' 8 (by kernel_rfl) (by kernel_rfl)
theorem reads (os : Os) {H : Type} (enc : TypeId × Value → H) : ∃ places, DataW.whole enc Tryd.prog ((laidWorld os).forCall (fun _ _ => 0) ⟨#[], #[.slice none 0 0, .slice none 0 0, .int .i64 0], []⟩).memory Tryd.f3.params.toList Rows.storeAllsSpec.vars false #[.slice none 0 0, .slice none 0 0, .int .i64 0].toList 8 = some ([.nil, .nil, .lit (.int .i64 0)], [], places) :=
  ⟨[], by kernel_rfl⟩
set_option maxRecDepth 100000 in
theorem lifted (os : Os) (started : os.Started) (H : Type) (enc : TypeId × Value → H) (F : Stop.Interp) :
    ReturnsInHanded {} Tryd.checked os 3 .any ((OpenSpec.ofChange Rows.storeAllsSpec).preRow enc Tryd.prog Tryd.f3 Rows.storeAllsRow.domain false Rows.storeAllsRow.laid) (((OpenSpec.ofChange Rows.storeAllsSpec).at F).post enc Tryd.prog Tryd.f3 false true false false) := by
  obtain ⟨places, hx⟩ := reads os enc
  refine returnsInHanded_of_row (C := Tryd.checked) (s := (OpenSpec.ofChange Rows.storeAllsSpec)) own' started (by kernel_rfl) Tryd.func3
    (witness_row_at (enc := enc) (C := Tryd.checked) false (laidWorld os) #[.slice none 0 0, .slice none 0 0, .int .i64 0] rfl (by kernel_rfl) (by kernel_rfl) (by kernel_rfl)
      (OpenSpec.preRow_of_cond 8 hx (by kernel_rfl) (fun k hk => by cases hk) (by kernel_rfl) (laid_met os))) ?_
  intro W base args ds gs before hval hW hc1 hc2 hc3 hL hc4 hc5
  exact contract H enc W base args ds gs before hval hW hc3 hL
theorem over : Rows.storeAllsRow.holds Tryd.pinned (OpenSpec.ofChange Rows.storeAllsSpec) :=
  OpenClaim.holds_of_cond 3 Tryd.f3 rfl rfl rfl rfl rfl rfl rfl ⟨rfl, rfl, rfl, rfl, rfl⟩ rfl rfl rfl rfl rfl (by kernel_rfl) Tryd.func3 (by kernel_rfl)
    (of_decide_eq_true (by kernel_rfl)) (by unfold Func.isWrapper; first | (rw [if_pos (by decide +kernel)]; kernel_rfl) | (rw [if_neg (by decide +kernel)]; exact ⟨rfl, rfl⟩))
    (fun os started H enc _ F => by rw [OpenClaim.pre_eq_preRow]; exact lifted os started H enc F)
theorem plain (f : FuncId) (fn : Func) (hf : Tryd.pinned.checked.prog.funcNamed "causeway/causewaylaw07.StoreAlls" = some f) (hfn : Tryd.pinned.checked.prog.funcs[f]? = some fn) :
    true = Tryd.pinned.checked.prog.looks [] ∧ ∀ (j : Nat) t, fn.params[j]? = some t → Tryd.pinned.checked.prog.wantsStandIn t = false := by
  obtain rfl : f = 3 := Option.some.inj ((show Tryd.prog.funcNamed "causeway/causewaylaw07.StoreAlls" = some 3 by kernel_rfl).symm.trans hf) |>.symm
  obtain rfl : fn = Tryd.f3 := (Option.some.inj (Tryd.func3.symm.trans hfn)).symm
  refine ⟨by kernel_rfl, fun j t ht => ?_⟩
  have h : (Tryd.f3.params.toList.all fun t => !Tryd.prog.wantsStandIn t) = true := by kernel_rfl
  have := List.all_eq_true.1 h t (Array.mem_toList_iff.2 (Array.mem_of_getElem? ht))
  show Tryd.prog.wantsStandIn t = false
  simpa using this
theorem storeAlls_holds : Rows.StoreAllsCardSaid :=
  Claim7.holds_tied_plain_at .later [] _ _ _ _ over (fun _ h => by cases h) (by kernel_rfl) (fun _ h => by cases h) storeAlls_row_tie rfl ⟨rfl, rfl⟩ (by kernel_rfl) rfl plain (by kernel_rfl)
#print axioms storeAlls_holds
end Go.Proofs.YtjkldhalmglkpaaDoor.storeAlls
