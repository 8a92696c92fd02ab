import Derived.Test.YtjkldhalmglkpaaDoorCards
import Derived.Test.YtjkldhalmglkpaaDoorTie
import Derived.Test.YtjkldhalmglkpaaDoorUj
import Derived.Test.YtjkldhalmglkpaaDoorSea
import Derived.WalkKit
import Derived.ProofKit
import Derived.OpenShut
import Derived.Deep.DeepHandedRow
import Derived.Lib.LaidTab
namespace Go.Proofs.YtjkldhalmglkpaaDoor.storeLists
open Go.ChangeShapes Go.WideShapes Go.ChangeAt Go.RowKit
open Go Go.Sl
set_option maxRecDepth 100000
def PairD.ok (W : World) (p : PairD) : Prop := RdS [was W.heap] p.v p.bs.length (bvs p.bs) ∧ ∀ b ∈ p.bs, b < 256
theorem pair_of {W : World} {H : Type} {enc : TypeId × Value → H} {m : Nat} {cs : List Value} {y : DataW H × List MemPlace} (h0 : DataW.trod enc Tryd.prog W 0 (fun _ => true) true m 34 cs = some y) : ∃ p : PairD, PairD.ok W p ∧ cs = p.cells := by
  obtain ⟨xs, n, rfl, rfl, hlen, hxl, hel⟩ := DataW.trod_struct Tryd.underlying34 h0
  have hxl2 : xs.length = 2 := hxl
  obtain ⟨y0, y1, rfl⟩ : ∃ y0 y1, xs = [y0, y1] := by
    match xs, hxl2 with
    | [a, b], _ => exact ⟨a, b, rfl⟩
  have c0 : Tryd.prog.cellsOf 9 = 1 := by kernel_rfl
  have c1 : Tryd.prog.cellsOf 30 = 1 := by kernel_rfl
  have c2 : Tryd.prog.cellsOf 34 = 2 := by kernel_rfl
  have c3 : Tryd.prog.cellsOf 5 = 1 := by kernel_rfl
  rw [c2] at hlen
  have f0 : DataW.trod enc Tryd.prog W 0 (fun _ => true) true n 9 ((cs.drop 0).take (Tryd.prog.cellsOf 9)) = some y0 := hel 0 _ rfl
  have f1 : DataW.trod enc Tryd.prog W 0 (fun _ => true) true n 30 ((cs.drop 1).take (Tryd.prog.cellsOf 30)) = some y1 := hel 1 _ rfl
  rw [c0] at f0
  rw [c1] at f1
  obtain ⟨key, k1, _, _⟩ := DataW.trod_string Tryd.underlying9 f0
  obtain ⟨v, p1⟩ : ∃ v, (cs.drop 1).take 1 = [v] := by
    rcases DataW.trod_slice Tryd.underlying30 f1 with ⟨h, _⟩ | ⟨_, _, _, _, _, _, _, h, _⟩
    · exact ⟨_, h⟩
    · exact ⟨_, h⟩
  rw [p1] at f1
  obtain ⟨k, ks, hrd, _, hl, he⟩ := rd_trodZ Tryd.underlying30 c3 (by decide) f1
  have hkl : ∀ j, j < k → wtr [.int .u8] ((ks.drop (j * 1)).take 1) := fun j hj => by
    obtain ⟨m, y, _, _, _, _, _, h⟩ := he j hj
    exact trod_flat 4 5 [.int .u8] (by kernel_rfl) _ ⟨m, _, h⟩
  obtain ⟨bs, hn, hb, rfl⟩ := chunks (fun b : Nat => bvs [b]) (fun b => b < 256) 1 (fun b _ => rfl) k ks hl fun j hj => by
    obtain ⟨l, q1, q2, q3⟩ := wtr_u8 (n := 1) (hkl j hj)
    match l, q1 with
    | [b], _ => exact ⟨b, q2 b List.mem_cons_self, q3⟩
  subst hn
  have ef : ∀ l : List Nat, l.flatMap (fun b : Nat => bvs [b]) = bvs l := fun l => by
    induction l with
    | nil => rfl
    | cons b l ih => rw [List.flatMap_cons, ih]; rfl
  rw [ef] at hrd
  refine ⟨⟨key, v, bs⟩, ⟨hrd, hb⟩, ?_⟩
  match cs, hlen with
  | [a, b], _ =>
    have e1 : [a] = [Value.string key] := k1
    have e2 : [b] = [v] := p1
    rw [List.cons.inj e1 |>.1, List.cons.inj e2 |>.1]
    rfl
def StepS.ok (W : World) (p : StepS) : Prop := StepFit [was W.heap] p ∧ p.bs.length ≤ 140737488355328
theorem step_of {W : World} {H : Type} {enc : TypeId × Value → H} {m : Nat} {cs : List Value} {y : DataW H × List MemPlace} (h0 : DataW.trod enc Tryd.prog W 0 (fun _ => true) true m 58 cs = some y) (hwt : ∀ x ∈ DataW.weights Tryd.prog 58 y.1, x ≤ reachBytes) : ∃ p : StepS, StepS.ok W p ∧ cs = p.cells := by
  obtain ⟨xs, n, rfl, rfl, hlen, hxl, hel⟩ := DataW.trod_struct Tryd.underlying58 h0
  have hxl2 : xs.length = 4 := hxl
  obtain ⟨y0, y1, y2, y3, rfl⟩ : ∃ y0 y1 y2 y3, xs = [y0, y1, y2, y3] := by
    match xs, hxl2 with
    | [a, b, c, d], _ => exact ⟨a, b, c, d, rfl⟩
  have c0 : Tryd.prog.cellsOf 9 = 1 := by kernel_rfl
  have c1 : Tryd.prog.cellsOf 30 = 1 := by kernel_rfl
  have c2 : Tryd.prog.cellsOf 58 = 4 := by kernel_rfl
  have c3 : Tryd.prog.cellsOf 5 = 1 := by kernel_rfl
  have c4 : Tryd.prog.cellsOf 3 = 1 := by kernel_rfl
  rw [c2] at hlen
  have f0 : DataW.trod enc Tryd.prog W 0 (fun _ => true) true n 3 ((cs.drop 0).take (Tryd.prog.cellsOf 3)) = some y0 := hel 0 _ rfl
  have f1 : DataW.trod enc Tryd.prog W 0 (fun _ => true) true n 9 ((cs.drop 1).take (Tryd.prog.cellsOf 9)) = some y1 := hel 1 _ rfl
  have f2 : DataW.trod enc Tryd.prog W 0 (fun _ => true) true n 30 ((cs.drop 2).take (Tryd.prog.cellsOf 30)) = some y2 := hel 2 _ rfl
  have f3 : DataW.trod enc Tryd.prog W 0 (fun _ => true) true n 3 ((cs.drop 3).take (Tryd.prog.cellsOf 3)) = some y3 := hel 3 _ rfl
  rw [c4] at f0 f3
  rw [c0] at f1
  rw [c1] at f2
  have one : ∀ {d : List Value} {z : DataW H × List MemPlace}, DataW.trod enc Tryd.prog W 0 (fun _ => true) true n 3 d = some z → ∃ k : Int, d = [.int .i64 k] ∧ -9223372036854775808 ≤ k ∧ k ≤ 9223372036854775807 := fun {d z} h => by
    obtain ⟨c1, cs1, rfl, ⟨w, rfl, h2⟩, h8⟩ := wtr_cons (trod_flat 4 3 [.int .i64] (by kernel_rfl) _ ⟨n, _, h⟩)
    cases cs1 with
    | nil => exact ⟨w, rfl, (i64_of_wf h2).1, (i64_of_wf h2).2⟩
    | cons _ _ => exact h8.elim
  obtain ⟨k0, p0, _, _⟩ := one f0
  obtain ⟨k3, p3, q1, q2⟩ := one f3
  obtain ⟨key, k1, _, _⟩ := DataW.trod_string Tryd.underlying9 f1
  obtain ⟨v, p1⟩ : ∃ v, (cs.drop 2).take 1 = [v] := by
    rcases DataW.trod_slice Tryd.underlying30 f2 with ⟨h, _⟩ | ⟨_, _, _, _, _, _, _, h, _⟩
    · exact ⟨_, h⟩
    · exact ⟨_, h⟩
  rw [p1] at f2
  obtain ⟨k, ks, hrd, _, hl, he⟩ := rd_trodZ Tryd.underlying30 c3 (by decide) f2
  have hkl : ∀ j, j < k → wtr [.int .u8] ((ks.drop (j * 1)).take 1) := fun j hj => by
    obtain ⟨m, y, _, _, _, _, _, h⟩ := he j hj
    exact trod_flat 4 5 [.int .u8] (by kernel_rfl) _ ⟨m, _, h⟩
  obtain ⟨bs, hn, hb, rfl⟩ := chunks (fun b : Nat => bvs [b]) (fun b => b < 256) 1 (fun b _ => rfl) k ks hl fun j hj => by
    obtain ⟨l, q1, q2, q3⟩ := wtr_u8 (n := 1) (hkl j hj)
    match l, q1 with
    | [b], _ => exact ⟨b, q2 b List.mem_cons_self, q3⟩
  subst hn
  have ef : ∀ l : List Nat, l.flatMap (fun b : Nat => bvs [b]) = bvs l := fun l => by
    induction l with
    | nil => rfl
    | cons b l ih => rw [List.flatMap_cons, ih]; rfl
  rw [ef] at hrd
  have c6 : Tryd.prog.bytesOf 5 = 1 := by kernel_rfl
  have hfit : bs.length ≤ 140737488355328 := by
    rcases Nat.eq_zero_or_pos bs.length with h | h
    · omega
    · obtain ⟨m, y, els, rst, e1, e2, _⟩ := he 0 h
      have hmem : (els.length + rst.length) * Tryd.prog.bytesOf 5 ∈ DataW.weights Tryd.prog 58 (.agg ([y0, y1, y2, y3].map (·.1))) := by
        rw [DataW.weights, Tryd.underlying58]
        simp only [List.map_cons, List.map_nil, DataW.weightsEach, List.mem_append]
        refine .inr (.inr (.inl ?_))
        rw [e1]
        show _ ∈ DataW.weights Tryd.prog 30 (.slice els rst)
        rw [DataW.weights, Tryd.underlying30]
        exact List.mem_cons_self
      have := hwt _ hmem
      rw [c6] at this
      simp only [reachBytes] at this
      omega
  refine ⟨⟨k0, key, v, bs, k3⟩, ⟨⟨hrd, hb, q1, q2⟩, hfit⟩, ?_⟩
  match cs, hlen with
  | [a, b, c, d], _ =>
    have e0 : [a] = [Value.int .i64 k0] := p0
    have e1 : [b] = [Value.string key] := k1
    have e2 : [c] = [v] := p1
    have e3 : [d] = [Value.int .i64 k3] := p3
    rw [List.cons.inj e0 |>.1, List.cons.inj e1 |>.1, List.cons.inj e2 |>.1, List.cons.inj e3 |>.1]
    rfl
theorem bulk_pos {H : Type} (d : DataW H) : 1 ≤ Rows.uptoBulk d := by
  cases d with
  | lit l => cases l <;> simp only [Rows.uptoBulk] <;> omega
  | _ => simp only [Rows.uptoBulk] <;> omega
theorem bulk_all {H : Type} (els : List (DataW H)) : els.length ≤ Rows.uptoBulkAll els := by
  induction els with
  | nil => exact Nat.zero_le _
  | cons d els ih =>
    have := bulk_pos d
    simp only [Rows.uptoBulkAll, List.length_cons]
    omega
theorem bulk_len {H : Type} (els rst : List (DataW H)) : els.length ≤ Rows.uptoBulk (.slice els rst) := by
  have := bulk_all els
  simp only [Rows.uptoBulk]
  omega
theorem pairs_of {base : Nat} {W : World} {v : Value} {H : Type} {enc : TypeId × Value → H} {dd : DataW H} {ps : List MemPlace} (hv : Value.okWide Tryd.prog W .any base 22 v) (h0 : DataW.Trod enc Tryd.prog W 0 (fun _ => true) true 22 v dd ps) (hb : Rows.uptoBulk dd ≤ 1073741824) :
    ∃ ls : List PairD, (∀ p ∈ ls, PairD.ok W p) ∧ ls.length ≤ 1073741824 ∧ RdS [was W.heap] v ls.length (pairsC ls) := by
  obtain ⟨s1, s2⟩ := slice_okWide Tryd.underlying22 hv
  obtain ⟨fuel, h0⟩ := h0
  rw [s1] at h0
  obtain ⟨n, cs, hrd, _, hl, he⟩ := rd_trodG (k := 2) Tryd.underlying22 (by kernel_rfl) (by decide) s2 h0
  obtain ⟨ls, hn, hls, rfl⟩ := chunks PairD.cells (PairD.ok W) 2 (fun _ _ => rfl) n cs hl fun i hi => by
    obtain ⟨m, y, _, _, _, _, _, h⟩ := he i hi
    exact pair_of h
  subst hn
  refine ⟨ls, hls, ?_, hrd⟩
  rcases Nat.eq_zero_or_pos ls.length with h | h
  · omega
  · obtain ⟨m, y, els, rst, e1, e2, _⟩ := he 0 h
    have hb2 := bulk_len els rst
    rw [← show dd = .slice els rst from e1] at hb2
    omega
theorem steps_of {base : Nat} {W : World} {v : Value} {H : Type} {enc : TypeId × Value → H} {dd : DataW H} {ps : List MemPlace} (hv : Value.okWide Tryd.prog W .any base 49 v) (h0 : DataW.Trod enc Tryd.prog W 0 (fun _ => true) true 49 v dd ps) (hb : Rows.uptoBulk dd ≤ 1073741824) (hwt : ∀ x ∈ DataW.weights Tryd.prog 49 dd, x ≤ reachBytes) :
    ∃ xs : List StepS, (∀ x ∈ xs, StepS.ok W x) ∧ xs.length ≤ 1073741824 ∧ RdS [was W.heap] v xs.length (xs.flatMap StepS.cells) := by
  obtain ⟨s1, s2⟩ := slice_okWide Tryd.underlying49 hv
  obtain ⟨fuel, h0⟩ := h0
  rw [s1] at h0
  obtain ⟨n, cs, hrd, _, hl, he⟩ := rd_trodG (k := 4) Tryd.underlying49 (by kernel_rfl) (by decide) s2 h0
  obtain ⟨xs, hn, hxs, rfl⟩ := chunks StepS.cells (StepS.ok W) 4 (fun _ _ => rfl) n cs hl fun i hi => by
    obtain ⟨m, y', els, rst, e1, _, e3, h⟩ := he i hi
    exact step_of h (fun x hx => hwt x (by
      rw [show dd = .slice els rst from e1, DataW.weights, Tryd.underlying49]
      exact List.mem_cons_of_mem _ (List.mem_append_left _ (weights_mem (List.mem_of_getElem? e3) x hx))))
  subst hn
  refine ⟨xs, hxs, ?_, hrd⟩
  rcases Nat.eq_zero_or_pos xs.length with h | h
  · omega
  · obtain ⟨m, y, els, rst, e1, e2, _⟩ := he 0 h
    have hb2 := bulk_len els rst
    rw [← show dd = .slice els rst from e1] at hb2
    omega
theorem contract (H : Type) (enc : TypeId × Value → H) (W : World) (base : Nat) (args : Array Value) (ds gs : List (DataW H)) (before : List MemPlace)
    (hval : ∀ (j : Nat) t v, Tryd.f5.params[j]? = some t → args[j]? = some v → Value.okWide Tryd.prog W .any base t v)
    (hW : DataW.Whole enc Tryd.prog Tryd.f5.params.toList Rows.storeListsSpec.vars false W args.toList ds gs before)
    (hsm : Rows.uptoSmall H (ds ++ gs) = true) (hwt : (DataW.weightsEach Tryd.prog (Tryd.f5.params.toList ++ (Rows.OpenSpec.upto Rows.storeListsSpec).bare.plain.varTypes Tryd.prog) (ds ++ gs)).all (· ≤ reachBytes) = true) (hL : laidMetH Tryd.prog Rows.storeListsUptoRow.laid W) :
    Calls Tryd.prog 5 args W fun e W' => ∃ v, e = .returned v ∧ Rows.storeListsSpec.post enc Tryd.prog Tryd.f5 false true false false W args v W' := by
  have hW' := hW
  obtain ⟨p, q, hA0, hV, rfl, hfz, hnd⟩ := hW
  have hA : DataW.TrodAll enc Tryd.prog W 0 (fun _ => true) true Tryd.f5.params.toList args.toList ds p := hA0
  rw [Tryd.params5] at hA hval hwt
  obtain ⟨v0, vs0, d0, ds0, p0, q0, hargs, rfl, rfl, h0, r0⟩ := trodAll_cons hA
  obtain ⟨v1, vs1, d1, ds1, p1, q1, rfl, rfl, rfl, h1, r1⟩ := trodAll_cons r0
  obtain ⟨rfl, rfl, rfl⟩ := trodAll_nil r1
  obtain rfl : args = #[v0, v1] := by cases args; simp_all
  obtain ⟨rfl, rfl⟩ := trodVars_none hV
  have hall : ∀ x ∈ DataW.weights Tryd.prog 22 d0 ++ DataW.weights Tryd.prog 49 d1, x ≤ reachBytes := fun x hx => by
    have h := List.all_eq_true.1 hwt x (by
      show x ∈ DataW.weightsEach Tryd.prog (22 :: 49 :: _) (d0 :: d1 :: _)
      rw [DataW.weightsEach, DataW.weightsEach, List.mem_append, List.mem_append]
      rcases List.mem_append.1 hx with hx | hx
      · exact .inl hx
      · exact .inr (.inl hx))
    simpa using h
  have hbulk := of_decide_eq_true hsm
  simp only [List.append_nil, Rows.uptoBulkAll] at hbulk
  obtain ⟨ls, hls, hl0, hrd⟩ := pairs_of (hval 0 22 v0 rfl rfl) h0 (by omega)
  obtain ⟨xs, hxs, hx1, hrd2⟩ := steps_of (hval 1 49 v1 rfl rfl) h1 (by omega) (fun x hx => hall x (List.mem_append.2 (.inr hx)))
  have e : Rows.storeListsUptoRow.laid = [("causeway/digest.steps", Lib.tabData .u32 (tabK K64))] := by kernel_rfl
  have hL1 : laidMet Tryd.prog [("causeway/digest.steps", Lib.tabData .u32 (tabK K64))] W := by rw [e] at hL; exact hL
  have hK : CelN [was W.heap] 0 0 (wvs K64) := words_was (t := 191) (e := 157) (n := 64) hL1 (by kernel_rfl) (by kernel_rfl) (by kernel_rfl) (by kernel_rfl) (by kernel_rfl) (by kernel_rfl)
  refine (lists_spec K64_len [was W.heap] hK v0 ls hrd (by omega) hls v1 xs hrd2 (by omega) hxs W (Sat.was_here W)).mono fun e W' he => ?_
  obtain ⟨v, L, rfl, rfl, hx, hs⟩ := he
  exact ⟨_, rfl, post_true kids full (by rw [Tryd.params5]; decide +kernel) rfl hW' Tryd.underlying4 (by kernel_rfl) rfl hx (old_of_was hs)⟩

noncomputable def laidWorld (os : Os) : World :=
  { World.holding Tryd.prog os ⟨#[], #[], []⟩ with heap := (((World.holding Tryd.prog os ⟨#[], #[], []⟩).heap).modify 0 (fun
    | .cells _ t frozen => .cells #[.int .u32 1116352408, .int .u32 1899447441, .int .u32 3049323471, .int .u32 3921009573, .int .u32 961987163, .int .u32 1508970993, .int .u32 2453635748, .int .u32 2870763221, .int .u32 3624381080, .int .u32 310598401, .int .u32 607225278, .int .u32 1426881987, .int .u32 1925078388, .int .u32 2162078206, .int .u32 2614888103, .int .u32 3248222580, .int .u32 3835390401, .int .u32 4022224774, .int .u32 264347078, .int .u32 604807628, .int .u32 770255983, .int .u32 1249150122, .int .u32 1555081692, .int .u32 1996064986, .int .u32 2554220882, .int .u32 2821834349, .int .u32 2952996808, .int .u32 3210313671, .int .u32 3336571891, .int .u32 3584528711, .int .u32 113926993, .int .u32 338241895, .int .u32 666307205, .int .u32 773529912, .int .u32 1294757372, .int .u32 1396182291, .int .u32 1695183700, .int .u32 1986661051, .int .u32 2177026350, .int .u32 2456956037, .int .u32 2730485921, .int .u32 2820302411, .int .u32 3259730800, .int .u32 3345764771, .int .u32 3516065817, .int .u32 3600352804, .int .u32 4094571909, .int .u32 275423344, .int .u32 430227734, .int .u32 506948616, .int .u32 659060556, .int .u32 883997877, .int .u32 958139571, .int .u32 1322822218, .int .u32 1537002063, .int .u32 1747873779, .int .u32 1955562222, .int .u32 2024104815, .int .u32 2227730452, .int .u32 2361852424, .int .u32 2428436474, .int .u32 2756734187, .int .u32 3204031479, .int .u32 3329325298] t frozen
    | o => o)) }
theorem laid_met (os : Os) : laidMet Tryd.prog Rows.storeListsUptoRow.laid ((laidWorld os).forCall (fun _ _ => 0) ⟨#[], #[.slice none 0 0, .slice none 0 0], []⟩).memory :=
  laidMet_of_run' 8 (by kernel_rfl) (by kernel_rfl)
theorem reads (os : Os) {H : Type} (enc : TypeId × Value → H) : ∃ places, DataW.whole enc Tryd.prog ((laidWorld os).forCall (fun _ _ => 0) ⟨#[], #[.slice none 0 0, .slice none 0 0], []⟩).memory Tryd.f5.params.toList Rows.storeListsSpec.vars false #[.slice none 0 0, .slice none 0 0].toList 8 = some ([.nil, .nil], [], places) :=
  ⟨[], by kernel_rfl⟩
set_option maxRecDepth 100000 in
theorem lifted (os : Os) (started : os.Started) (H : Type) (enc : TypeId × Value → H) (F : Stop.Interp) :
    ReturnsInHanded {} Tryd.checked os 5 .any ((Rows.OpenSpec.upto Rows.storeListsSpec).preRow enc Tryd.prog Tryd.f5 Rows.storeListsUptoRow.domain false Rows.storeListsUptoRow.laid) (((Rows.OpenSpec.upto Rows.storeListsSpec).at F).post enc Tryd.prog Tryd.f5 false true false false) := by
  obtain ⟨places, hx⟩ := reads os enc
  refine returnsInHanded_of_row (C := Tryd.checked) (s := (Rows.OpenSpec.upto Rows.storeListsSpec)) own' started (by kernel_rfl) Tryd.func5
    (witness_row_at (enc := enc) (C := Tryd.checked) false (laidWorld os) #[.slice none 0 0, .slice none 0 0] rfl (by kernel_rfl) (by kernel_rfl) (by kernel_rfl)
      (OpenSpec.preRow_of_cond 8 hx (by kernel_rfl) (fun k hk => by cases hk; kernel_rfl) (by kernel_rfl) (laid_met os))) ?_
  intro W base args ds gs before hval hW hc1 hc2 hc3 hL hc4 hc5
  exact contract H enc W base args ds gs before hval hW (hc2 _ rfl) hc3 hL
theorem over : Rows.storeListsUptoRow.holds Tryd.pinned (Rows.OpenSpec.upto Rows.storeListsSpec) :=
  OpenClaim.holds_of_cond 5 Tryd.f5 rfl rfl rfl rfl rfl rfl rfl ⟨rfl, rfl, rfl, rfl, rfl⟩ rfl rfl rfl rfl rfl (by kernel_rfl) Tryd.func5 (by kernel_rfl)
    (of_decide_eq_true (by kernel_rfl)) (by unfold Func.isWrapper; first | (rw [if_pos (by decide +kernel)]; kernel_rfl) | (rw [if_neg (by decide +kernel)]; exact ⟨rfl, rfl⟩))
    (fun os started H enc _ F => by rw [OpenClaim.pre_eq_preRow]; exact lifted os started H enc F)
theorem plain (f : FuncId) (fn : Func) (hf : Tryd.pinned.checked.prog.funcNamed "causeway/causewaylaw07.StoreLists" = some f) (hfn : Tryd.pinned.checked.prog.funcs[f]? = some fn) :
    true = Tryd.pinned.checked.prog.looks [] ∧ ∀ (j : Nat) t, fn.params[j]? = some t → Tryd.pinned.checked.prog.wantsStandIn t = false := by
  obtain rfl : f = 5 := Option.some.inj ((show Tryd.prog.funcNamed "causeway/causewaylaw07.StoreLists" = some 5 by kernel_rfl).symm.trans hf) |>.symm
  obtain rfl : fn = Tryd.f5 := (Option.some.inj (Tryd.func5.symm.trans hfn)).symm
  refine ⟨by kernel_rfl, fun j t ht => ?_⟩
  have h : (Tryd.f5.params.toList.all fun t => !Tryd.prog.wantsStandIn t) = true := by kernel_rfl
  have := List.all_eq_true.1 h t (Array.mem_toList_iff.2 (Array.mem_of_getElem? ht))
  show Tryd.prog.wantsStandIn t = false
  simpa using this
theorem storeLists_holds : Rows.StoreListsUptoCardSaid :=
  Claim7.holds_tied_plain_at .later [] _ _ _ _ over (fun _ h => by cases h) (by kernel_rfl) (fun _ h => by cases h) storeListsUpto_row_tie rfl ⟨rfl, rfl⟩ (by kernel_rfl) rfl plain (by kernel_rfl)
#print axioms storeLists_holds
end Go.Proofs.YtjkldhalmglkpaaDoor.storeLists
