import Derived.Test.YtmfonkklmndhjaaGreatDoorCards
import Derived.Test.YtmfonkklmndhjaaGreatDoorTie
import Derived.Test.YtmfonkklmndhjaaGreatDoorVf
import Derived.Test.YtmfonkklmndhjaaGreatDoorSea
import Derived.WalkKit
import Derived.ProofKit
import Derived.OpenShut
import Derived.Deep.DeepHandedRow
import Derived.Lib.LaidTab
namespace Go.Proofs.YtmfonkklmndhjaaGreatDoor.outboxPlays
open Go.ChangeShapes Go.WideShapes Go.ChangeAt Go.RowKit
open Go Go.Sl
set_option maxRecDepth 100000
theorem leaf_of {cs : List Value} (h : wtr leafK cs) : ∃ l : LeafD, l.wf ∧ (∀ b ∈ l.to, b < 256) ∧ wOk l.amt ∧ cs = l.cells := by
  unfold leafK at h
  obtain ⟨c1, cs1, rfl, ⟨e1, rfl, _⟩, h1⟩ := wtr_cons h
  obtain ⟨c2, cs2, rfl, ⟨e2, rfl, _⟩, h2⟩ := wtr_cons h1
  obtain ⟨c3, cs3, rfl, ⟨e3, rfl, _⟩, h3⟩ := wtr_cons h2
  obtain ⟨h6, h7⟩ := wtr_append h3
  obtain ⟨l, l1, l2, l3⟩ := wtr_u8 h6
  obtain ⟨m, m1, m2, m3⟩ := wtr_u64 h7
  refine ⟨⟨e1, e2, e3, l, m⟩, ⟨l1, m1⟩, l2, ⟨m1, m2⟩, ?_⟩
  rw [LeafD.cells, ← l3, ← m3, List.take_append_drop]
def stepK : List LK := .int .i64 :: .int .i64 :: .int .i64 :: leafK
theorem step_of {cs : List Value} (h : wtr stepK cs) : ∃ s : OStep, s.wf ∧ cs = s.cells := by
  unfold stepK at h
  obtain ⟨c1, cs1, rfl, ⟨e1, rfl, w1⟩, h1⟩ := wtr_cons h
  obtain ⟨c2, cs2, rfl, ⟨e2, rfl, w2⟩, h2⟩ := wtr_cons h1
  obtain ⟨c3, cs3, rfl, ⟨e3, rfl, _⟩, h3⟩ := wtr_cons h2
  obtain ⟨l, l1, l2, l3, rfl⟩ := leaf_of h3
  exact ⟨⟨e1, e2, e3, l⟩, ⟨(i64_of_wf w1).1, (i64_of_wf w1).2, (i64_of_wf w2).1, (i64_of_wf w2).2, l1, l2, l3⟩, rfl⟩
theorem steps_of {base : Nat} {W : World} {v : Value} {H : Type} {enc : TypeId × Value → H} {dd : DataW H} {ps : List MemPlace} (hv : Value.okWide Tryz.prog W .any base 23 v) (h0 : DataW.Trod enc Tryz.prog W 0 (fun _ => true) true 23 v dd ps) (hwt : ∀ x ∈ DataW.weights Tryz.prog 23 dd, x ≤ reachBytes) :
    ∃ ss : List OStep, (∀ s ∈ ss, s.wf) ∧ ss.length ≤ 1353245080300 ∧ RdS [was W.heap] v ss.length (ss.flatMap OStep.cells) := by
  obtain ⟨s1, s2⟩ := slice_okWide Tryz.underlying23 hv
  obtain ⟨fuel, h0⟩ := h0
  rw [s1] at h0
  have c5 : Tryz.prog.bytesOf 47 = 104 := by kernel_rfl
  obtain ⟨n, cs, hrd, _, hl, he⟩ := rd_trodG (k := 30) Tryz.underlying23 (by kernel_rfl) (by decide) s2 h0
  obtain ⟨ss, hn, hss, rfl⟩ := chunks OStep.cells OStep.wf 30 (fun s h => OStep.cells_len h) n cs hl fun i hi => by
    obtain ⟨m, y, _, _, _, _, _, h⟩ := he i hi
    exact step_of (trod_flat 4 47 stepK (by kernel_rfl) _ ⟨m, _, h⟩)
  subst hn
  refine ⟨ss, hss, ?_, hrd⟩
  rcases Nat.eq_zero_or_pos ss.length with h | h
  · omega
  · obtain ⟨m, y, els, rst, e1, e2, _⟩ := he 0 h
    have hmem : (els.length + rst.length) * Tryz.prog.bytesOf 47 ∈ DataW.weights Tryz.prog 23 dd := by
      rw [show dd = .slice els rst from e1, DataW.weights, Tryz.underlying23]
      exact List.mem_cons_self
    have := hwt _ hmem
    rw [c5] at this
    simp only [reachBytes] at this
    omega
theorem bytes_of {base : Nat} {W : World} {v : Value} {H : Type} {enc : TypeId × Value → H} {dd : DataW H} {ps : List MemPlace} (hv : Value.okWide Tryz.prog W .any base 22 v) (h0 : DataW.Trod enc Tryz.prog W 0 (fun _ => true) true 22 v dd ps) (hwt : ∀ x ∈ DataW.weights Tryz.prog 22 dd, x ≤ reachBytes) :
    ∃ bs : List Nat, (∀ b ∈ bs, b < 256) ∧ bs.length ≤ 140737488351232 ∧ RdS [was W.heap] v bs.length (bvs bs) := by
  obtain ⟨s1, s2⟩ := slice_okWide Tryz.underlying22 hv
  obtain ⟨fuel, h0⟩ := h0
  rw [s1] at h0
  have c5 : Tryz.prog.bytesOf 5 = 1 := by kernel_rfl
  obtain ⟨n, ks, hrd, _, hl, he⟩ := rd_trodG (k := 1) Tryz.underlying22 (by kernel_rfl) (by decide) s2 h0
  obtain ⟨bs, hn, hb, rfl⟩ := chunks (fun b : Nat => bvs [b]) (fun b => b < 256) 1 (fun b _ => rfl) n ks hl fun j hj => by
    obtain ⟨m, y, _, _, _, _, _, h⟩ := he j hj
    obtain ⟨l, q1, q2, q3⟩ := wtr_u8 (n := 1) (trod_flat 4 5 [.int .u8] (by kernel_rfl) _ ⟨m, _, h⟩)
    match l, q1 with
    | [b], _ => exact ⟨b, q2 b List.mem_cons_self, q3⟩
  subst hn
  have ef : ∀ l : List Nat, l.flatMap (fun b : Nat => bvs [b]) = bvs l := fun l => by
    induction l with
    | nil => rfl
    | cons b l ih => rw [List.flatMap_cons, ih]; rfl
  rw [ef] at hrd
  refine ⟨bs, hb, ?_, hrd⟩
  rcases Nat.eq_zero_or_pos bs.length with h | h
  · omega
  · obtain ⟨m, y, els, rst, e1, e2, _⟩ := he 0 h
    have hmem : (els.length + rst.length) * Tryz.prog.bytesOf 5 ∈ DataW.weights Tryz.prog 22 dd := by
      rw [show dd = .slice els rst from e1, DataW.weights, Tryz.underlying22]
      exact List.mem_cons_self
    have := hwt _ hmem
    rw [c5] at this
    simp only [reachBytes] at this
    omega
theorem contract (H : Type) (enc : TypeId × Value → H) (W : World) (base : Nat) (args : Array Value) (ds gs : List (DataW H)) (before : List MemPlace)
    (hval : ∀ (j : Nat) t v, Tryz.f3.params[j]? = some t → args[j]? = some v → Value.okWide Tryz.prog W .any base t v)
    (hW : DataW.Whole enc Tryz.prog Tryz.f3.params.toList Rows.outboxPlaysSpec.vars false W args.toList ds gs before)
    (hwt : (DataW.weightsEach Tryz.prog (Tryz.f3.params.toList ++ (OpenSpec.ofChange Rows.outboxPlaysSpec).bare.plain.varTypes Tryz.prog) (ds ++ gs)).all (· ≤ reachBytes) = true) (hL : laidMetH Tryz.prog Rows.outboxPlaysRow.laid W) :
    Calls Tryz.prog 3 args W fun e W' => ∃ v, e = .returned v ∧ Rows.outboxPlaysSpec.post enc Tryz.prog Tryz.f3 false true false false W args v W' := by
  have hW' := hW
  obtain ⟨p, q, hA0, hV, rfl, hfz, hnd⟩ := hW
  have hA : DataW.TrodAll enc Tryz.prog W 0 (fun _ => true) true Tryz.f3.params.toList args.toList ds p := hA0
  rw [Tryz.params3] at hA hval hwt
  obtain ⟨v0, vs0, d0, ds0, p0, q0, hargs, rfl, rfl, h0, r0⟩ := trodAll_cons hA
  obtain ⟨v1, vs1, d1, ds1, p1, q1, rfl, rfl, rfl, h1, r1⟩ := trodAll_cons r0
  obtain ⟨v2, vs2, d2, ds2, p2, q2, rfl, rfl, rfl, h2, r2⟩ := trodAll_cons r1
  obtain ⟨rfl, rfl, rfl⟩ := trodAll_nil r2
  obtain rfl : args = #[v0, v1, v2] := by cases args; simp_all
  obtain ⟨rfl, rfl⟩ := trodVars_none hV
  have hall : ∀ x ∈ DataW.weights Tryz.prog 22 d0 ++ DataW.weights Tryz.prog 23 d2, x ≤ reachBytes := fun x hx => by
    have h := List.all_eq_true.1 hwt x (by
      show x ∈ DataW.weightsEach Tryz.prog (22 :: 4 :: 23 :: _) (d0 :: d1 :: d2 :: _)
      rw [DataW.weightsEach, DataW.weightsEach, DataW.weightsEach, List.mem_append, List.mem_append, List.mem_append]
      rcases List.mem_append.1 hx with hx | hx
      · exact .inl hx
      · exact .inr (.inr (.inl hx)))
    simpa using h
  obtain ⟨bs, hbs, hbl, hrd⟩ := bytes_of (hval 0 22 v0 rfl rfl) h0 (fun x hx => hall x (List.mem_append.2 (.inl hx)))
  obtain ⟨sm, rfl, rfl, rfl⟩ := open_bool Tryz.underlying4 (hval 1 4 v1 rfl rfl) h1
  obtain ⟨xs, hxs, hx1, hrd2⟩ := steps_of (hval 2 23 v2 rfl rfl) h2 (fun x hx => hall x (List.mem_append.2 (.inr hx)))
  have e : Rows.outboxPlaysRow.laid = [("math/bits.deBruijn32tab", Lib.tabData .u8 (Lib.deBruijn32tab.map fun n : Nat => (n : Int))), ("math/bits.deBruijn64tab", Lib.tabData .u8 (Lib.deBruijn64tab.map fun n : Nat => (n : Int))), ("causeway/causewayref01.constants", Lib.tabData .u32 (tabK K64)), ("causeway/causewayref01.beginning", Lib.tabData .u32 (tabK ivW)), ("causeway/digest.steps", Lib.tabData .u32 (tabK K64))] := by kernel_rfl
  have hL1 : laidMet Tryz.prog [("math/bits.deBruijn32tab", Lib.tabData .u8 (Lib.deBruijn32tab.map fun n : Nat => (n : Int))), ("math/bits.deBruijn64tab", Lib.tabData .u8 (Lib.deBruijn64tab.map fun n : Nat => (n : Int))), ("causeway/causewayref01.constants", Lib.tabData .u32 (tabK K64)), ("causeway/causewayref01.beginning", Lib.tabData .u32 (tabK ivW)), ("causeway/digest.steps", Lib.tabData .u32 (tabK K64))] W := by rw [e] at hL; exact hL
  have hT : CelN [was W.heap] 1 0 (bvs Lib.deBruijn64tab) := by
    have h := tab_was (g := 1) (Lib.tabIs_of_head (g := 1) (t := 169) (e := 5) (n := 64) (by kernel_rfl) (by kernel_rfl) (by kernel_rfl) (by kernel_rfl) (by kernel_rfl) (by kernel_rfl) (laidMet.tail hL1)) (by kernel_rfl)
    have e : (Lib.deBruijn64tab.map fun n : Nat => (n : Int)).map (fun z => Value.int .u8 z) = bvs Lib.deBruijn64tab := by rw [List.map_map]; rfl
    rw [e] at h
    exact h
  have hC : CelN [was W.heap] 3 0 (wvs K64) := words_was (t := 191) (e := 158) (n := 64) (laidMet.tail (laidMet.tail hL1)) (by kernel_rfl) (by kernel_rfl) (by kernel_rfl) (by kernel_rfl) (by kernel_rfl) (by kernel_rfl)
  have hB : CelN [was W.heap] 2 0 (wvs ivW) := words_was (t := 174) (e := 158) (n := 8) (laidMet.tail (laidMet.tail (laidMet.tail hL1))) (by kernel_rfl) (by kernel_rfl) (by kernel_rfl) (by kernel_rfl) (by kernel_rfl) (by kernel_rfl)
  have hK : CelN [was W.heap] 4 0 (wvs K64) := words_was (t := 191) (e := 158) (n := 64) (laidMet.tail (laidMet.tail (laidMet.tail (laidMet.tail hL1)))) (by kernel_rfl) (by kernel_rfl) (by kernel_rfl) (by kernel_rfl) (by kernel_rfl) (by kernel_rfl)
  refine (oplays_spec [was W.heap] K64 K64_len hK hT hC hB v0 bs hrd hbs hbl sm v2 xs hxs hx1 hrd2 W (Sat.was_here W)).mono fun e W' he => ?_
  obtain ⟨v, L, rfl, rfl, hx, hs⟩ := he
  exact ⟨_, rfl, post_true kids full (by rw [Tryz.params3]; decide +kernel) rfl hW' Tryz.underlying4 (by kernel_rfl) rfl hx (old_of_was hs)⟩

noncomputable def laidWorld (os : Os) : World :=
  { World.holding Tryz.prog os ⟨#[], #[], []⟩ with heap := (((((((((((World.holding Tryz.prog os ⟨#[], #[], []⟩).heap).modify 0 (fun
    | .cells _ t frozen => .cells #[.int .u8 0, .int .u8 1, .int .u8 28, .int .u8 2, .int .u8 29, .int .u8 14, .int .u8 24, .int .u8 3, .int .u8 30, .int .u8 22, .int .u8 20, .int .u8 15, .int .u8 25, .int .u8 17, .int .u8 4, .int .u8 8, .int .u8 31, .int .u8 27, .int .u8 13, .int .u8 23, .int .u8 21, .int .u8 19, .int .u8 16, .int .u8 7, .int .u8 26, .int .u8 12, .int .u8 18, .int .u8 6, .int .u8 11, .int .u8 5, .int .u8 10, .int .u8 9] t frozen
    | o => o))).modify 1 (fun
    | .cells _ t frozen => .cells #[.int .u8 0, .int .u8 1, .int .u8 56, .int .u8 2, .int .u8 57, .int .u8 49, .int .u8 28, .int .u8 3, .int .u8 61, .int .u8 58, .int .u8 42, .int .u8 50, .int .u8 38, .int .u8 29, .int .u8 17, .int .u8 4, .int .u8 62, .int .u8 47, .int .u8 59, .int .u8 36, .int .u8 45, .int .u8 43, .int .u8 51, .int .u8 22, .int .u8 53, .int .u8 39, .int .u8 33, .int .u8 30, .int .u8 24, .int .u8 18, .int .u8 12, .int .u8 5, .int .u8 63, .int .u8 55, .int .u8 48, .int .u8 27, .int .u8 60, .int .u8 41, .int .u8 37, .int .u8 16, .int .u8 46, .int .u8 35, .int .u8 44, .int .u8 21, .int .u8 52, .int .u8 32, .int .u8 23, .int .u8 11, .int .u8 54, .int .u8 26, .int .u8 40, .int .u8 15, .int .u8 34, .int .u8 20, .int .u8 31, .int .u8 10, .int .u8 25, .int .u8 14, .int .u8 19, .int .u8 9, .int .u8 13, .int .u8 8, .int .u8 7, .int .u8 6] t frozen
    | o => o))).modify 3 (fun
    | .cells _ t frozen => .cells #[.int .u32 1116352408, .int .u32 1899447441, .int .u32 3049323471, .int .u32 3921009573, .int .u32 961987163, .int .u32 1508970993, .int .u32 2453635748, .int .u32 2870763221, .int .u32 3624381080, .int .u32 310598401, .int .u32 607225278, .int .u32 1426881987, .int .u32 1925078388, .int .u32 2162078206, .int .u32 2614888103, .int .u32 3248222580, .int .u32 3835390401, .int .u32 4022224774, .int .u32 264347078, .int .u32 604807628, .int .u32 770255983, .int .u32 1249150122, .int .u32 1555081692, .int .u32 1996064986, .int .u32 2554220882, .int .u32 2821834349, .int .u32 2952996808, .int .u32 3210313671, .int .u32 3336571891, .int .u32 3584528711, .int .u32 113926993, .int .u32 338241895, .int .u32 666307205, .int .u32 773529912, .int .u32 1294757372, .int .u32 1396182291, .int .u32 1695183700, .int .u32 1986661051, .int .u32 2177026350, .int .u32 2456956037, .int .u32 2730485921, .int .u32 2820302411, .int .u32 3259730800, .int .u32 3345764771, .int .u32 3516065817, .int .u32 3600352804, .int .u32 4094571909, .int .u32 275423344, .int .u32 430227734, .int .u32 506948616, .int .u32 659060556, .int .u32 883997877, .int .u32 958139571, .int .u32 1322822218, .int .u32 1537002063, .int .u32 1747873779, .int .u32 1955562222, .int .u32 2024104815, .int .u32 2227730452, .int .u32 2361852424, .int .u32 2428436474, .int .u32 2756734187, .int .u32 3204031479, .int .u32 3329325298] t frozen
    | o => o))).modify 2 (fun
    | .cells _ t frozen => .cells #[.int .u32 1779033703, .int .u32 3144134277, .int .u32 1013904242, .int .u32 2773480762, .int .u32 1359893119, .int .u32 2600822924, .int .u32 528734635, .int .u32 1541459225] t frozen
    | o => o))).modify 4 (fun
    | .cells _ t frozen => .cells #[.int .u32 1116352408, .int .u32 1899447441, .int .u32 3049323471, .int .u32 3921009573, .int .u32 961987163, .int .u32 1508970993, .int .u32 2453635748, .int .u32 2870763221, .int .u32 3624381080, .int .u32 310598401, .int .u32 607225278, .int .u32 1426881987, .int .u32 1925078388, .int .u32 2162078206, .int .u32 2614888103, .int .u32 3248222580, .int .u32 3835390401, .int .u32 4022224774, .int .u32 264347078, .int .u32 604807628, .int .u32 770255983, .int .u32 1249150122, .int .u32 1555081692, .int .u32 1996064986, .int .u32 2554220882, .int .u32 2821834349, .int .u32 2952996808, .int .u32 3210313671, .int .u32 3336571891, .int .u32 3584528711, .int .u32 113926993, .int .u32 338241895, .int .u32 666307205, .int .u32 773529912, .int .u32 1294757372, .int .u32 1396182291, .int .u32 1695183700, .int .u32 1986661051, .int .u32 2177026350, .int .u32 2456956037, .int .u32 2730485921, .int .u32 2820302411, .int .u32 3259730800, .int .u32 3345764771, .int .u32 3516065817, .int .u32 3600352804, .int .u32 4094571909, .int .u32 275423344, .int .u32 430227734, .int .u32 506948616, .int .u32 659060556, .int .u32 883997877, .int .u32 958139571, .int .u32 1322822218, .int .u32 1537002063, .int .u32 1747873779, .int .u32 1955562222, .int .u32 2024104815, .int .u32 2227730452, .int .u32 2361852424, .int .u32 2428436474, .int .u32 2756734187, .int .u32 3204031479, .int .u32 3329325298] t frozen
    | o => o)) }
theorem laid_met (os : Os) : laidMet Tryz.prog Rows.outboxPlaysRow.laid ((laidWorld os).forCall (fun _ _ => 0) ⟨#[], #[.slice none 0 0, .bool false, .slice none 0 0], []⟩).memory :=
  laidMet_of_run' 8 (by kernel_rfl) (by kernel_rfl)
theorem reads (os : Os) {H : Type} (enc : TypeId × Value → H) : ∃ places, DataW.whole enc Tryz.prog ((laidWorld os).forCall (fun _ _ => 0) ⟨#[], #[.slice none 0 0, .bool false, .slice none 0 0], []⟩).memory Tryz.f3.params.toList Rows.outboxPlaysSpec.vars false #[.slice none 0 0, .bool false, .slice none 0 0].toList 8 = some ([.nil, .lit (.bool false), .nil], [], places) :=
  ⟨[], by kernel_rfl⟩
set_option maxRecDepth 100000 in
theorem lifted (os : Os) (started : os.Started) (H : Type) (enc : TypeId × Value → H) (F : Stop.Interp) :
    ReturnsInHanded {} Tryz.checked os 3 .any ((OpenSpec.ofChange Rows.outboxPlaysSpec).preRow enc Tryz.prog Tryz.f3 Rows.outboxPlaysRow.domain false Rows.outboxPlaysRow.laid) (((OpenSpec.ofChange Rows.outboxPlaysSpec).at F).post enc Tryz.prog Tryz.f3 false true false false) := by
  obtain ⟨places, hx⟩ := reads os enc
  refine returnsInHanded_of_row (C := Tryz.checked) (s := (OpenSpec.ofChange Rows.outboxPlaysSpec)) own' started (by kernel_rfl) Tryz.func3
    (witness_row_at (enc := enc) (C := Tryz.checked) false (laidWorld os) #[.slice none 0 0, .bool false, .slice none 0 0] rfl (by kernel_rfl) (by kernel_rfl) (by kernel_rfl)
      (OpenSpec.preRow_of_cond 8 hx (by kernel_rfl) (fun k hk => by cases hk) (by kernel_rfl) (laid_met os))) ?_
  intro W base args ds gs before hval hW hc1 hc2 hc3 hL hc4 hc5
  exact contract H enc W base args ds gs before hval hW hc3 hL
theorem over : Rows.outboxPlaysRow.holds Tryz.pinned (OpenSpec.ofChange Rows.outboxPlaysSpec) :=
  OpenClaim.holds_of_cond 3 Tryz.f3 rfl rfl rfl rfl rfl rfl rfl ⟨rfl, rfl, rfl, rfl, rfl⟩ rfl rfl rfl rfl rfl (by kernel_rfl) Tryz.func3 (by kernel_rfl)
    (of_decide_eq_true (by kernel_rfl)) (by unfold Func.isWrapper; first | (rw [if_pos (by decide +kernel)]; kernel_rfl) | (rw [if_neg (by decide +kernel)]; exact ⟨rfl, rfl⟩))
    (fun os started H enc _ F => by rw [OpenClaim.pre_eq_preRow]; exact lifted os started H enc F)
theorem plain (f : FuncId) (fn : Func) (hf : Tryz.pinned.checked.prog.funcNamed "causeway/causewaylaw11.OutboxPlays" = some f) (hfn : Tryz.pinned.checked.prog.funcs[f]? = some fn) :
    false = Tryz.pinned.checked.prog.looks [] ∧ ∀ (j : Nat) t, fn.params[j]? = some t → Tryz.pinned.checked.prog.wantsStandIn t = false := by
  obtain rfl : f = 3 := Option.some.inj ((show Tryz.prog.funcNamed "causeway/causewaylaw11.OutboxPlays" = some 3 by kernel_rfl).symm.trans hf) |>.symm
  obtain rfl : fn = Tryz.f3 := (Option.some.inj (Tryz.func3.symm.trans hfn)).symm
  refine ⟨by kernel_rfl, fun j t ht => ?_⟩
  have h : (Tryz.f3.params.toList.all fun t => !Tryz.prog.wantsStandIn t) = true := by kernel_rfl
  have := List.all_eq_true.1 h t (Array.mem_toList_iff.2 (Array.mem_of_getElem? ht))
  show Tryz.prog.wantsStandIn t = false
  simpa using this
theorem outboxPlays_holds : Rows.OutboxPlaysCardSaid :=
  Claim7.holds_tied_plain_at .later [] _ _ _ _ over (fun _ h => by cases h) (by kernel_rfl) (fun _ h => by cases h) outboxPlays_row_tie rfl ⟨rfl, rfl⟩ (by kernel_rfl) rfl plain (by kernel_rfl)
#print axioms outboxPlays_holds
end Go.Proofs.YtmfonkklmndhjaaGreatDoor.outboxPlays
