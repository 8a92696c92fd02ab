import Derived.Test.YthdpknlnpeaiiaaDoorBq
import Derived.Test.YthdpknlnpeaiiaaDoorBq
/-
  A step on a book, walked.
-/
namespace Go.Proofs.YthdpknlnpeaiiaaDoor
open Go Go.Sl
structure StD where
  what : Int
  n : Int
  m : Int
  leaf : LeafD
def StD.cells (s : StD) : List Value := .int .i64 s.what :: .int .i64 s.n :: .int .i64 s.m :: s.leaf.cells
structure StD.wf (s : StD) : Prop where
  w1 : -9223372036854775808 ≤ s.what
  w2 : s.what ≤ 9223372036854775807
  leaf : s.leaf.wf
  to : ∀ b ∈ s.leaf.to, b < 256
  amt : wOk s.leaf.amt
theorem StD.len {s : StD} (h : s.wf) : s.cells.length = 30 := by simp [StD.cells, LeafD.cells_len h.leaf]
abbrev BkD := List LeafD × List (List (List Nat))
noncomputable def stepB (K : List W32) (x : BkD) (s : StD) : BkD :=
  if pickN s.what 12 ≤ 3 then ((putE x.1 s.leaf).1, x.2) else if pickN s.what 12 ≤ 7 then x else if pickN s.what 12 ≤ 10 then (x.1, x.2 ++ [(pathE K x.1 s.n s.m).1] ++ [(pathE K x.1 s.n s.m).1]) else ((cutE x.1 s.m).1, x.2)
structure BkOk (x : BkD) : Prop where
  leaves : ∀ l ∈ x.1, LvOk l
  len : x.1.length ≤ 1099511627776
  paths : ∀ p ∈ x.2, p.length ≤ 1099511627776 ∧ ∀ d ∈ p, DigOk d
theorem leafE_wf {ls : List LeafD} (h : ∀ l ∈ ls, LvOk l) (i : Int) : (leafE ls i).1.wf := by
  unfold leafE
  split
  · exact ⟨rfl, rfl⟩
  · show (ls.getD i.toNat z27).wf
    rw [List.getD]
    cases hg : ls[i.toNat]? with
    | none => exact ⟨rfl, rfl⟩
    | some l => exact (h l (List.mem_of_getElem? hg)).wf
theorem pathE_ok (K : List W32) (ls : List LeafD) (hl : ls.length ≤ 1099511627776) (i n : Int) : (pathE K ls i n).1.length ≤ 1099511627776 ∧ ∀ d ∈ (pathE K ls i n).1, DigOk d := by
  unfold pathE
  split
  · simp
  · split
    · simp
    · refine ⟨?_, fun d hd => ⟨pathD_each K _ _ _ (Nat.le_refl _) d hd, pathD_byte K _ _ _ (Nat.le_refl _) d hd⟩⟩
      have := pathD_len K _ (bytesL (ls.take n.toNat)) i.toNat (Nat.le_refl _)
      have e : (bytesL (ls.take n.toNat)).length ≤ ls.length := by simp [bytesL]; omega
      show (pathD K _ _).length ≤ _
      omega
theorem rootE_len (K : List W32) (ls : List LeafD) (n : Int) : (rootE K ls n).1.length = 32 := by
  unfold rootE
  split
  · rfl
  · exact rootD_len _ _
section
variable (K : List W32) (hk : K.length = 64)
include hk
theorem booked_step (F : List HP) (hK : CelN F 4 0 (wvs K)) (hC' : CelN F 1 0 (wvs K)) (hB : CelN F 0 0 (wvs ivW)) (o pb : Nat) (rv : Value) (x : BkD) (hx : BkOk x) (s : StD) (hs : s.wf) (hr : SlV rv x.1.length) (ds : List PathV) (hds : ds.map (·.2) = x.2) (hps : ds.length ≤ 5864062014800) :
    SpecF Tryd.prog 16 [.pointer (some ⟨o, 0, none⟩), .pointer (some ⟨pb, 0, none⟩), rv, .agg ⟨s.cells⟩] F [keepP o ds, bookP 60 pb x.1, own 27 rv x.1.length (leavesC x.1)] (fun r L => ∃ u ds', SlV u (stepB K x s).1.length ∧ ds'.map (·.2) = (stepB K x s).2 ∧ r = .tuple #[u, .bool true] ∧
      L = [keepP o ds', bookP 60 pb (stepB K x s).1, own 27 u (stepB K x s).1.length (leavesC (stepB K x s).1)]) := by
  obtain ⟨ls, ps⟩ := x
  have hls := hx.leaves
  have hll := hx.len
  simp only at hls hll hds hr ⊢
  have hlw : ∀ l ∈ ls, l.wf := fun l h => (hls l h).wf
  have hlt : ∀ l ∈ ls, ∀ b ∈ l.to, b < 256 := fun l h => (hls l h).to
  have hcl := leavesC_len hlw
  have hsc := StD.len hs
  have hlc := LeafD.cells_len hs.leaf
  have hslf : (s.cells.drop 3).take s.leaf.cells.length = s.leaf.cells := by
    show (s.leaf.cells).take _ = _
    rw [List.take_length]
  refine fun16.spec rfl ?_
  (conv => whnf); repeat ((first | with_reducible refine CondG.tt ?_ | with_reducible refine CondG.ff ?_); conv => whnf)
  intro b7
  (conv => whnf); repeat ((first | with_reducible refine CondG.tt ?_ | with_reducible refine CondG.ff ?_); conv => whnf)
  refine LoadG.at (v := .int .i64 s.what) (.here rfl) ?_
  (conv => whnf); repeat ((first | with_reducible refine CondG.tt ?_ | with_reducible refine CondG.ff ?_); conv => whnf)
  refine CallG.pure (pick_spec _ s.what 12 hs.w1 hs.w2 (by decide)) ?_
  rintro _ _ ⟨rfl, rfl⟩
  have hk12 : pickN s.what 12 < 12 := pickN_lt s.what (by decide)
  have hst : stepB K (ls, ps) s = stepB K (ls, ps) s := rfl
  conv at hst => rhs; unfold stepB
  generalize pickN s.what 12 = k at hk12 hst ⊢
  rcases (by omega : k = 0 ∨ k = 1 ∨ k = 2 ∨ k = 3 ∨ k = 4 ∨ k = 5 ∨ k = 6 ∨ k = 7 ∨ k = 8 ∨ k = 9 ∨ k = 10 ∨ k = 11) with rfl | rfl | rfl | rfl | rfl | rfl | rfl | rfl | rfl | rfl | rfl | rfl
  · rw [if_pos (by decide)] at hst
    rw [hst]
    (conv => whnf); repeat ((first | with_reducible refine CondG.tt ?_ | with_reducible refine CondG.ff ?_); conv => whnf)
    refine CondG.decT (by decide) ?_
    (conv => whnf); repeat ((first | with_reducible refine CondG.tt ?_ | with_reducible refine CondG.ff ?_); conv => whnf)
    refine LoadNG.at (vs := s.leaf.cells) hlc (.here hslf) ?_
    (conv => whnf); repeat ((first | with_reducible refine CondG.tt ?_ | with_reducible refine CondG.ff ?_); conv => whnf)
    refine CallG.of (rest := [cel b7 52 s.cells, keepP o ds, own 27 rv ls.length (leavesC ls)]) (put_all _ pb s.leaf hs.leaf ls hll) (Ent.sel (T := []) (A := [_, _, _, _]) [2, 0, 1, 3] rfl) ?_
    rintro _ _ ⟨rfl, rfl⟩
    (conv => whnf); repeat ((first | with_reducible refine CondG.tt ?_ | with_reducible refine CondG.ff ?_); conv => whnf)
    refine LoadNG.at (vs := s.leaf.cells) hlc (.tl (.here hslf)) ?_
    (conv => whnf); repeat ((first | with_reducible refine CondG.tt ?_ | with_reducible refine CondG.ff ?_); conv => whnf)
    refine CallG.of (rest := [bookP 60 pb (putE ls s.leaf).1, cel b7 52 s.cells, keepP o ds]) (bputR_spec _ rv ls s.leaf hs.leaf hll hlw hr) (Ent.sel (T := []) (A := [_, _, _, _]) [3, 0, 1, 2] rfl) ?_
    rintro _ _ ⟨u, hu, rfl, rfl⟩
    (conv => whnf); repeat ((first | with_reducible refine CondG.tt ?_ | with_reducible refine CondG.ff ?_); conv => whnf)
    refine ⟨_, Ent.sel (T := []) (A := [_, _, _, _]) [3, 1, 0] rfl, u, ds, hu, hds, ?_, rfl⟩
    simp [retV]
  · rw [if_pos (by decide)] at hst
    rw [hst]
    (conv => whnf); repeat ((first | with_reducible refine CondG.tt ?_ | with_reducible refine CondG.ff ?_); conv => whnf)
    refine CondG.decF (by decide) ?_
    (conv => whnf); repeat ((first | with_reducible refine CondG.tt ?_ | with_reducible refine CondG.ff ?_); conv => whnf)
    refine CondG.decT (by decide) ?_
    (conv => whnf); repeat ((first | with_reducible refine CondG.tt ?_ | with_reducible refine CondG.ff ?_); conv => whnf)
    refine LoadNG.at (vs := s.leaf.cells) hlc (.here hslf) ?_
    (conv => whnf); repeat ((first | with_reducible refine CondG.tt ?_ | with_reducible refine CondG.ff ?_); conv => whnf)
    refine CallG.of (rest := [cel b7 52 s.cells, keepP o ds, own 27 rv ls.length (leavesC ls)]) (put_all _ pb s.leaf hs.leaf ls hll) (Ent.sel (T := []) (A := [_, _, _, _]) [2, 0, 1, 3] rfl) ?_
    rintro _ _ ⟨rfl, rfl⟩
    (conv => whnf); repeat ((first | with_reducible refine CondG.tt ?_ | with_reducible refine CondG.ff ?_); conv => whnf)
    refine LoadNG.at (vs := s.leaf.cells) hlc (.tl (.here hslf)) ?_
    (conv => whnf); repeat ((first | with_reducible refine CondG.tt ?_ | with_reducible refine CondG.ff ?_); conv => whnf)
    refine CallG.of (rest := [bookP 60 pb (putE ls s.leaf).1, cel b7 52 s.cells, keepP o ds]) (bputR_spec _ rv ls s.leaf hs.leaf hll hlw hr) (Ent.sel (T := []) (A := [_, _, _, _]) [3, 0, 1, 2] rfl) ?_
    rintro _ _ ⟨u, hu, rfl, rfl⟩
    (conv => whnf); repeat ((first | with_reducible refine CondG.tt ?_ | with_reducible refine CondG.ff ?_); conv => whnf)
    refine ⟨_, Ent.sel (T := []) (A := [_, _, _, _]) [3, 1, 0] rfl, u, ds, hu, hds, ?_, rfl⟩
    simp [retV]
  · rw [if_pos (by decide)] at hst
    rw [hst]
    (conv => whnf); repeat ((first | with_reducible refine CondG.tt ?_ | with_reducible refine CondG.ff ?_); conv => whnf)
    refine CondG.decF (by decide) ?_
    (conv => whnf); repeat ((first | with_reducible refine CondG.tt ?_ | with_reducible refine CondG.ff ?_); conv => whnf)
    refine CondG.decF (by decide) ?_
    (conv => whnf); repeat ((first | with_reducible refine CondG.tt ?_ | with_reducible refine CondG.ff ?_); conv => whnf)
    refine CondG.decT (by decide) ?_
    (conv => whnf); repeat ((first | with_reducible refine CondG.tt ?_ | with_reducible refine CondG.ff ?_); conv => whnf)
    refine LoadNG.at (vs := s.leaf.cells) hlc (.here hslf) ?_
    (conv => whnf); repeat ((first | with_reducible refine CondG.tt ?_ | with_reducible refine CondG.ff ?_); conv => whnf)
    refine CallG.of (rest := [cel b7 52 s.cells, keepP o ds, own 27 rv ls.length (leavesC ls)]) (put_all _ pb s.leaf hs.leaf ls hll) (Ent.sel (T := []) (A := [_, _, _, _]) [2, 0, 1, 3] rfl) ?_
    rintro _ _ ⟨rfl, rfl⟩
    (conv => whnf); repeat ((first | with_reducible refine CondG.tt ?_ | with_reducible refine CondG.ff ?_); conv => whnf)
    refine LoadNG.at (vs := s.leaf.cells) hlc (.tl (.here hslf)) ?_
    (conv => whnf); repeat ((first | with_reducible refine CondG.tt ?_ | with_reducible refine CondG.ff ?_); conv => whnf)
    refine CallG.of (rest := [bookP 60 pb (putE ls s.leaf).1, cel b7 52 s.cells, keepP o ds]) (bputR_spec _ rv ls s.leaf hs.leaf hll hlw hr) (Ent.sel (T := []) (A := [_, _, _, _]) [3, 0, 1, 2] rfl) ?_
    rintro _ _ ⟨u, hu, rfl, rfl⟩
    (conv => whnf); repeat ((first | with_reducible refine CondG.tt ?_ | with_reducible refine CondG.ff ?_); conv => whnf)
    refine ⟨_, Ent.sel (T := []) (A := [_, _, _, _]) [3, 1, 0] rfl, u, ds, hu, hds, ?_, rfl⟩
    simp [retV]
  · rw [if_pos (by decide)] at hst
    rw [hst]
    (conv => whnf); repeat ((first | with_reducible refine CondG.tt ?_ | with_reducible refine CondG.ff ?_); conv => whnf)
    refine CondG.decF (by decide) ?_
    (conv => whnf); repeat ((first | with_reducible refine CondG.tt ?_ | with_reducible refine CondG.ff ?_); conv => whnf)
    refine CondG.decF (by decide) ?_
    (conv => whnf); repeat ((first | with_reducible refine CondG.tt ?_ | with_reducible refine CondG.ff ?_); conv => whnf)
    refine CondG.decF (by decide) ?_
    (conv => whnf); repeat ((first | with_reducible refine CondG.tt ?_ | with_reducible refine CondG.ff ?_); conv => whnf)
    refine CondG.decT (by decide) ?_
    (conv => whnf); repeat ((first | with_reducible refine CondG.tt ?_ | with_reducible refine CondG.ff ?_); conv => whnf)
    refine LoadNG.at (vs := s.leaf.cells) hlc (.here hslf) ?_
    (conv => whnf); repeat ((first | with_reducible refine CondG.tt ?_ | with_reducible refine CondG.ff ?_); conv => whnf)
    refine CallG.of (rest := [cel b7 52 s.cells, keepP o ds, own 27 rv ls.length (leavesC ls)]) (put_all _ pb s.leaf hs.leaf ls hll) (Ent.sel (T := []) (A := [_, _, _, _]) [2, 0, 1, 3] rfl) ?_
    rintro _ _ ⟨rfl, rfl⟩
    (conv => whnf); repeat ((first | with_reducible refine CondG.tt ?_ | with_reducible refine CondG.ff ?_); conv => whnf)
    refine LoadNG.at (vs := s.leaf.cells) hlc (.tl (.here hslf)) ?_
    (conv => whnf); repeat ((first | with_reducible refine CondG.tt ?_ | with_reducible refine CondG.ff ?_); conv => whnf)
    refine CallG.of (rest := [bookP 60 pb (putE ls s.leaf).1, cel b7 52 s.cells, keepP o ds]) (bputR_spec _ rv ls s.leaf hs.leaf hll hlw hr) (Ent.sel (T := []) (A := [_, _, _, _]) [3, 0, 1, 2] rfl) ?_
    rintro _ _ ⟨u, hu, rfl, rfl⟩
    (conv => whnf); repeat ((first | with_reducible refine CondG.tt ?_ | with_reducible refine CondG.ff ?_); conv => whnf)
    refine ⟨_, Ent.sel (T := []) (A := [_, _, _, _]) [3, 1, 0] rfl, u, ds, hu, hds, ?_, rfl⟩
    simp [retV]
  · rw [if_neg (by decide), if_pos (by decide)] at hst
    rw [hst]
    (conv => whnf); repeat ((first | with_reducible refine CondG.tt ?_ | with_reducible refine CondG.ff ?_); conv => whnf)
    refine CondG.decF (by decide) ?_
    (conv => whnf); repeat ((first | with_reducible refine CondG.tt ?_ | with_reducible refine CondG.ff ?_); conv => whnf)
    refine CondG.decF (by decide) ?_
    (conv => whnf); repeat ((first | with_reducible refine CondG.tt ?_ | with_reducible refine CondG.ff ?_); conv => whnf)
    refine CondG.decF (by decide) ?_
    (conv => whnf); repeat ((first | with_reducible refine CondG.tt ?_ | with_reducible refine CondG.ff ?_); conv => whnf)
    refine CondG.decF (by decide) ?_
    (conv => whnf); repeat ((first | with_reducible refine CondG.tt ?_ | with_reducible refine CondG.ff ?_); conv => whnf)
    refine CondG.decT (by decide) ?_
    (conv => whnf); repeat ((first | with_reducible refine CondG.tt ?_ | with_reducible refine CondG.ff ?_); conv => whnf)
    refine CallG.of (rest := [cel b7 52 s.cells, keepP o ds, own 27 rv ls.length (leavesC ls)]) (lenP _ pb ls) (Ent.sel (T := []) (A := [_, _, _, _]) [2, 0, 1, 3] rfl) ?_
    rintro _ _ ⟨rfl, rfl⟩
    (conv => whnf); repeat ((first | with_reducible refine CondG.tt ?_ | with_reducible refine CondG.ff ?_); conv => whnf)
    refine LenG.sl hr ?_
    (conv => whnf); repeat ((first | with_reducible refine CondG.tt ?_ | with_reducible refine CondG.ff ?_); conv => whnf)
    refine ⟨_, Ent.sel (T := []) (A := [_, _, _, _]) [2, 0, 3] rfl, rv, ds, hr, hds, ?_, rfl⟩
    simp [retV]
  · rw [if_neg (by decide), if_pos (by decide)] at hst
    rw [hst]
    have hw5 := leafE_wf hls s.n
    have hl5 := LeafD.cells_len hw5
    (conv => whnf); repeat ((first | with_reducible refine CondG.tt ?_ | with_reducible refine CondG.ff ?_); conv => whnf)
    refine CondG.decF (by decide) ?_
    (conv => whnf); repeat ((first | with_reducible refine CondG.tt ?_ | with_reducible refine CondG.ff ?_); conv => whnf)
    refine CondG.decF (by decide) ?_
    (conv => whnf); repeat ((first | with_reducible refine CondG.tt ?_ | with_reducible refine CondG.ff ?_); conv => whnf)
    refine CondG.decF (by decide) ?_
    (conv => whnf); repeat ((first | with_reducible refine CondG.tt ?_ | with_reducible refine CondG.ff ?_); conv => whnf)
    refine CondG.decF (by decide) ?_
    (conv => whnf); repeat ((first | with_reducible refine CondG.tt ?_ | with_reducible refine CondG.ff ?_); conv => whnf)
    refine CondG.decF (by decide) ?_
    (conv => whnf); repeat ((first | with_reducible refine CondG.tt ?_ | with_reducible refine CondG.ff ?_); conv => whnf)
    refine CondG.decT (by decide) ?_
    (conv => whnf); repeat ((first | with_reducible refine CondG.tt ?_ | with_reducible refine CondG.ff ?_); conv => whnf)
    refine LoadG.at (v := .int .i64 s.n) (.here rfl) ?_
    (conv => whnf); repeat ((first | with_reducible refine CondG.tt ?_ | with_reducible refine CondG.ff ?_); conv => whnf)
    refine CallG.of (rest := [cel b7 52 s.cells, keepP o ds, own 27 rv ls.length (leavesC ls)]) (leaf_all _ pb s.n ls) (Ent.sel (T := []) (A := [_, _, _, _]) [2, 0, 1, 3] rfl) ?_
    rintro _ _ ⟨rfl, rfl⟩
    (conv => whnf); repeat ((first | with_reducible refine CondG.tt ?_ | with_reducible refine CondG.ff ?_); conv => whnf)
    intro b13
    (conv => whnf); repeat ((first | with_reducible refine CondG.tt ?_ | with_reducible refine CondG.ff ?_); conv => whnf)
    refine StoreG.at hl5 (Upd.whole (by rw [hl5]; rfl) (LeafD.cells_one _)) ?_
    (conv => whnf); repeat ((first | with_reducible refine CondG.tt ?_ | with_reducible refine CondG.ff ?_); conv => whnf)
    refine LoadG.at (v := .int .i64 s.n) (.tl (.tl (.here rfl))) ?_
    (conv => whnf); repeat ((first | with_reducible refine CondG.tt ?_ | with_reducible refine CondG.ff ?_); conv => whnf)
    refine CallG.pure (bleafR_spec _ rv ls s.n hlw (.left (.tl (.tl (.tl (.tl (own_rd hr hcl))))) F)) ?_
    rintro _ _ ⟨rfl, rfl⟩
    (conv => whnf); repeat ((first | with_reducible refine CondG.tt ?_ | with_reducible refine CondG.ff ?_); conv => whnf)
    intro b15
    (conv => whnf); repeat ((first | with_reducible refine CondG.tt ?_ | with_reducible refine CondG.ff ?_); conv => whnf)
    refine StoreG.at hl5 (Upd.whole (by rw [hl5]; rfl) (LeafD.cells_one _)) ?_
    (conv => whnf); repeat ((first | with_reducible refine CondG.tt ?_ | with_reducible refine CondG.ff ?_); conv => whnf)
    refine LoadNG.at (vs := (leafE ls s.n).1.cells) hl5 (.tl .all) ?_
    (conv => whnf); repeat ((first | with_reducible refine CondG.tt ?_ | with_reducible refine CondG.ff ?_); conv => whnf)
    refine LoadNG.at (vs := (leafE ls s.n).1.cells) hl5 .all ?_
    (conv => whnf); repeat ((first | with_reducible refine CondG.tt ?_ | with_reducible refine CondG.ff ?_); conv => whnf)
    refine DoesG.eqv 8 leafK (by kernel_rfl) (by decide) (by kernel_rfl) (by kernel_rfl) (LeafD.wt hw5) (LeafD.wt hw5) ?_
    (conv => whnf); repeat ((first | with_reducible refine CondG.tt ?_ | with_reducible refine CondG.ff ?_); conv => whnf)
    refine CondG.split (fun _ => ?_) (fun h => absurd h (by simp))
    (conv => whnf); repeat ((first | with_reducible refine CondG.tt ?_ | with_reducible refine CondG.ff ?_); conv => whnf)
    refine ⟨_, Ent.sel (T := []) (A := [_, _, _, _, _, _]) [4, 2, 5] rfl, rv, ds, hr, hds, ?_, rfl⟩
    simp [retV]
  · rw [if_neg (by decide), if_pos (by decide)] at hst
    rw [hst]
    have hl5 := rootE_len K ls s.m
    have hl6 : (bvs (rootE K ls s.m).1).length = 32 := by rw [bvs_len, hl5]
    (conv => whnf); repeat ((first | with_reducible refine CondG.tt ?_ | with_reducible refine CondG.ff ?_); conv => whnf)
    refine CondG.decF (by decide) ?_
    (conv => whnf); repeat ((first | with_reducible refine CondG.tt ?_ | with_reducible refine CondG.ff ?_); conv => whnf)
    refine CondG.decF (by decide) ?_
    (conv => whnf); repeat ((first | with_reducible refine CondG.tt ?_ | with_reducible refine CondG.ff ?_); conv => whnf)
    refine CondG.decF (by decide) ?_
    (conv => whnf); repeat ((first | with_reducible refine CondG.tt ?_ | with_reducible refine CondG.ff ?_); conv => whnf)
    refine CondG.decF (by decide) ?_
    (conv => whnf); repeat ((first | with_reducible refine CondG.tt ?_ | with_reducible refine CondG.ff ?_); conv => whnf)
    refine CondG.decF (by decide) ?_
    (conv => whnf); repeat ((first | with_reducible refine CondG.tt ?_ | with_reducible refine CondG.ff ?_); conv => whnf)
    refine CondG.decF (by decide) ?_
    (conv => whnf); repeat ((first | with_reducible refine CondG.tt ?_ | with_reducible refine CondG.ff ?_); conv => whnf)
    refine CondG.decT (by decide) ?_
    (conv => whnf); repeat ((first | with_reducible refine CondG.tt ?_ | with_reducible refine CondG.ff ?_); conv => whnf)
    refine LoadG.at (v := .int .i64 s.m) (.here rfl) ?_
    (conv => whnf); repeat ((first | with_reducible refine CondG.tt ?_ | with_reducible refine CondG.ff ?_); conv => whnf)
    refine CallG.of (rest := [cel b7 52 s.cells, keepP o ds, own 27 rv ls.length (leavesC ls)]) (root_all K hk _ (.right hK _) pb s.m ls hll hlt) (Ent.sel (T := []) (A := [_, _, _, _]) [2, 0, 1, 3] rfl) ?_
    rintro _ _ ⟨rfl, rfl⟩
    (conv => whnf); repeat ((first | with_reducible refine CondG.tt ?_ | with_reducible refine CondG.ff ?_); conv => whnf)
    intro b13
    (conv => whnf); repeat ((first | with_reducible refine CondG.tt ?_ | with_reducible refine CondG.ff ?_); conv => whnf)
    refine StoreG.at hl6 (Upd.whole (by rw [hl6]; rfl) (bvs_one _)) ?_
    (conv => whnf); repeat ((first | with_reducible refine CondG.tt ?_ | with_reducible refine CondG.ff ?_); conv => whnf)
    refine LoadG.at (v := .int .i64 s.m) (.tl (.tl (.here rfl))) ?_
    (conv => whnf); repeat ((first | with_reducible refine CondG.tt ?_ | with_reducible refine CondG.ff ?_); conv => whnf)
    refine CallG.pure (brootR_spec K hk _ (.right hC' _) (.right hB _) rv ls s.m hll hls (.left (.tl (.tl (.tl (.tl (own_rd hr hcl))))) F)) ?_
    rintro _ _ ⟨rfl, rfl⟩
    (conv => whnf); repeat ((first | with_reducible refine CondG.tt ?_ | with_reducible refine CondG.ff ?_); conv => whnf)
    intro b15
    (conv => whnf); repeat ((first | with_reducible refine CondG.tt ?_ | with_reducible refine CondG.ff ?_); conv => whnf)
    refine StoreG.at hl6 (Upd.whole (by rw [hl6]; rfl) (bvs_one _)) ?_
    (conv => whnf); repeat ((first | with_reducible refine CondG.tt ?_ | with_reducible refine CondG.ff ?_); conv => whnf)
    refine LoadNG.at (vs := bvs (rootE K ls s.m).1) hl6 (.tl .all) ?_
    (conv => whnf); repeat ((first | with_reducible refine CondG.tt ?_ | with_reducible refine CondG.ff ?_); conv => whnf)
    refine LoadNG.at (vs := bvs (rootE K ls s.m).1) hl6 .all ?_
    (conv => whnf); repeat ((first | with_reducible refine CondG.tt ?_ | with_reducible refine CondG.ff ?_); conv => whnf)
    refine DoesG.eqv 8 (List.replicate 32 (.int .u8)) (by kernel_rfl) (by decide) (by kernel_rfl) (by kernel_rfl) (wt_bvs hl5) (wt_bvs hl5) ?_
    (conv => whnf); repeat ((first | with_reducible refine CondG.tt ?_ | with_reducible refine CondG.ff ?_); conv => whnf)
    refine CondG.split (fun _ => ?_) (fun h => absurd h (by simp))
    (conv => whnf); repeat ((first | with_reducible refine CondG.tt ?_ | with_reducible refine CondG.ff ?_); conv => whnf)
    refine ⟨_, Ent.sel (T := []) (A := [_, _, _, _, _, _]) [4, 2, 5] rfl, rv, ds, hr, hds, ?_, rfl⟩
    simp [retV]
  · rw [if_neg (by decide), if_pos (by decide)] at hst
    rw [hst]
    have hl5 := rootE_len K ls s.m
    have hl6 : (bvs (rootE K ls s.m).1).length = 32 := by rw [bvs_len, hl5]
    (conv => whnf); repeat ((first | with_reducible refine CondG.tt ?_ | with_reducible refine CondG.ff ?_); conv => whnf)
    refine CondG.decF (by decide) ?_
    (conv => whnf); repeat ((first | with_reducible refine CondG.tt ?_ | with_reducible refine CondG.ff ?_); conv => whnf)
    refine CondG.decF (by decide) ?_
    (conv => whnf); repeat ((first | with_reducible refine CondG.tt ?_ | with_reducible refine CondG.ff ?_); conv => whnf)
    refine CondG.decF (by decide) ?_
    (conv => whnf); repeat ((first | with_reducible refine CondG.tt ?_ | with_reducible refine CondG.ff ?_); conv => whnf)
    refine CondG.decF (by decide) ?_
    (conv => whnf); repeat ((first | with_reducible refine CondG.tt ?_ | with_reducible refine CondG.ff ?_); conv => whnf)
    refine CondG.decF (by decide) ?_
    (conv => whnf); repeat ((first | with_reducible refine CondG.tt ?_ | with_reducible refine CondG.ff ?_); conv => whnf)
    refine CondG.decF (by decide) ?_
    (conv => whnf); repeat ((first | with_reducible refine CondG.tt ?_ | with_reducible refine CondG.ff ?_); conv => whnf)
    refine CondG.decF (by decide) ?_
    (conv => whnf); repeat ((first | with_reducible refine CondG.tt ?_ | with_reducible refine CondG.ff ?_); conv => whnf)
    refine CondG.decT (by decide) ?_
    (conv => whnf); repeat ((first | with_reducible refine CondG.tt ?_ | with_reducible refine CondG.ff ?_); conv => whnf)
    refine LoadG.at (v := .int .i64 s.m) (.here rfl) ?_
    (conv => whnf); repeat ((first | with_reducible refine CondG.tt ?_ | with_reducible refine CondG.ff ?_); conv => whnf)
    refine CallG.of (rest := [cel b7 52 s.cells, keepP o ds, own 27 rv ls.length (leavesC ls)]) (root_all K hk _ (.right hK _) pb s.m ls hll hlt) (Ent.sel (T := []) (A := [_, _, _, _]) [2, 0, 1, 3] rfl) ?_
    rintro _ _ ⟨rfl, rfl⟩
    (conv => whnf); repeat ((first | with_reducible refine CondG.tt ?_ | with_reducible refine CondG.ff ?_); conv => whnf)
    intro b13
    (conv => whnf); repeat ((first | with_reducible refine CondG.tt ?_ | with_reducible refine CondG.ff ?_); conv => whnf)
    refine StoreG.at hl6 (Upd.whole (by rw [hl6]; rfl) (bvs_one _)) ?_
    (conv => whnf); repeat ((first | with_reducible refine CondG.tt ?_ | with_reducible refine CondG.ff ?_); conv => whnf)
    refine LoadG.at (v := .int .i64 s.m) (.tl (.tl (.here rfl))) ?_
    (conv => whnf); repeat ((first | with_reducible refine CondG.tt ?_ | with_reducible refine CondG.ff ?_); conv => whnf)
    refine CallG.pure (brootR_spec K hk _ (.right hC' _) (.right hB _) rv ls s.m hll hls (.left (.tl (.tl (.tl (.tl (own_rd hr hcl))))) F)) ?_
    rintro _ _ ⟨rfl, rfl⟩
    (conv => whnf); repeat ((first | with_reducible refine CondG.tt ?_ | with_reducible refine CondG.ff ?_); conv => whnf)
    intro b15
    (conv => whnf); repeat ((first | with_reducible refine CondG.tt ?_ | with_reducible refine CondG.ff ?_); conv => whnf)
    refine StoreG.at hl6 (Upd.whole (by rw [hl6]; rfl) (bvs_one _)) ?_
    (conv => whnf); repeat ((first | with_reducible refine CondG.tt ?_ | with_reducible refine CondG.ff ?_); conv => whnf)
    refine LoadNG.at (vs := bvs (rootE K ls s.m).1) hl6 (.tl .all) ?_
    (conv => whnf); repeat ((first | with_reducible refine CondG.tt ?_ | with_reducible refine CondG.ff ?_); conv => whnf)
    refine LoadNG.at (vs := bvs (rootE K ls s.m).1) hl6 .all ?_
    (conv => whnf); repeat ((first | with_reducible refine CondG.tt ?_ | with_reducible refine CondG.ff ?_); conv => whnf)
    refine DoesG.eqv 8 (List.replicate 32 (.int .u8)) (by kernel_rfl) (by decide) (by kernel_rfl) (by kernel_rfl) (wt_bvs hl5) (wt_bvs hl5) ?_
    (conv => whnf); repeat ((first | with_reducible refine CondG.tt ?_ | with_reducible refine CondG.ff ?_); conv => whnf)
    refine CondG.split (fun _ => ?_) (fun h => absurd h (by simp))
    (conv => whnf); repeat ((first | with_reducible refine CondG.tt ?_ | with_reducible refine CondG.ff ?_); conv => whnf)
    refine ⟨_, Ent.sel (T := []) (A := [_, _, _, _, _, _]) [4, 2, 5] rfl, rv, ds, hr, hds, ?_, rfl⟩
    simp [retV]
  · rw [if_neg (by decide), if_neg (by decide), if_pos (by decide)] at hst
    rw [hst]
    have hp5 := pathE_ok K ls hll s.n s.m
    have hpc : (digsC (pathE K ls s.n s.m).1).length = (pathE K ls s.n s.m).1.length * 32 := digs_len fun d h => (hp5.2 d h).len
    have hdo : digsOk (pathE K ls s.n s.m).1 := fun d h => (hp5.2 d h).len
    (conv => whnf); repeat ((first | with_reducible refine CondG.tt ?_ | with_reducible refine CondG.ff ?_); conv => whnf)
    refine CondG.decF (by decide) ?_
    (conv => whnf); repeat ((first | with_reducible refine CondG.tt ?_ | with_reducible refine CondG.ff ?_); conv => whnf)
    refine CondG.decF (by decide) ?_
    (conv => whnf); repeat ((first | with_reducible refine CondG.tt ?_ | with_reducible refine CondG.ff ?_); conv => whnf)
    refine CondG.decF (by decide) ?_
    (conv => whnf); repeat ((first | with_reducible refine CondG.tt ?_ | with_reducible refine CondG.ff ?_); conv => whnf)
    refine CondG.decF (by decide) ?_
    (conv => whnf); repeat ((first | with_reducible refine CondG.tt ?_ | with_reducible refine CondG.ff ?_); conv => whnf)
    refine CondG.decF (by decide) ?_
    (conv => whnf); repeat ((first | with_reducible refine CondG.tt ?_ | with_reducible refine CondG.ff ?_); conv => whnf)
    refine CondG.decF (by decide) ?_
    (conv => whnf); repeat ((first | with_reducible refine CondG.tt ?_ | with_reducible refine CondG.ff ?_); conv => whnf)
    refine CondG.decF (by decide) ?_
    (conv => whnf); repeat ((first | with_reducible refine CondG.tt ?_ | with_reducible refine CondG.ff ?_); conv => whnf)
    refine CondG.decF (by decide) ?_
    (conv => whnf); repeat ((first | with_reducible refine CondG.tt ?_ | with_reducible refine CondG.ff ?_); conv => whnf)
    refine CondG.decT (by decide) ?_
    (conv => whnf); repeat ((first | with_reducible refine CondG.tt ?_ | with_reducible refine CondG.ff ?_); conv => whnf)
    refine LoadG.at (v := .int .i64 s.n) (.here rfl) ?_
    (conv => whnf); repeat ((first | with_reducible refine CondG.tt ?_ | with_reducible refine CondG.ff ?_); conv => whnf)
    refine LoadG.at (v := .int .i64 s.m) (.here rfl) ?_
    (conv => whnf); repeat ((first | with_reducible refine CondG.tt ?_ | with_reducible refine CondG.ff ?_); conv => whnf)
    refine CallG.of (rest := [cel b7 52 s.cells, keepP o ds, own 27 rv ls.length (leavesC ls)]) (path_all K hk _ (.right hK _) pb s.n s.m ls hll hlt) (Ent.sel (T := []) (A := [_, _, _, _]) [2, 0, 1, 3] rfl) ?_
    rintro _ _ ⟨u1, hu1, rfl, rfl⟩
    (conv => whnf); repeat ((first | with_reducible refine CondG.tt ?_ | with_reducible refine CondG.ff ?_); conv => whnf)
    refine LoadG.at (v := .int .i64 s.n) (.tl (.tl (.here rfl))) ?_
    (conv => whnf); repeat ((first | with_reducible refine CondG.tt ?_ | with_reducible refine CondG.ff ?_); conv => whnf)
    refine LoadG.at (v := .int .i64 s.m) (.tl (.tl (.here rfl))) ?_
    (conv => whnf); repeat ((first | with_reducible refine CondG.tt ?_ | with_reducible refine CondG.ff ?_); conv => whnf)
    refine CallG.of (rest := [own 32 u1 (pathE K ls s.n s.m).1.length (digsC (pathE K ls s.n s.m).1), cel b7 52 s.cells, keepP o ds, own 27 rv ls.length (leavesC ls)]) (path_all K hk _ (.right hK _) pb s.n s.m ls hll hlt) (Ent.sel (T := []) (A := [_, _, _, _, _]) [1, 0, 2, 3, 4] rfl) ?_
    rintro _ _ ⟨u2, hu2, rfl, rfl⟩
    (conv => whnf); repeat ((first | with_reducible refine CondG.tt ?_ | with_reducible refine CondG.ff ?_); conv => whnf)
    refine LoadG.at (v := .int .i64 s.n) (.tl (.tl (.tl (.here rfl)))) ?_
    (conv => whnf); repeat ((first | with_reducible refine CondG.tt ?_ | with_reducible refine CondG.ff ?_); conv => whnf)
    refine LoadG.at (v := .int .i64 s.m) (.tl (.tl (.tl (.here rfl)))) ?_
    (conv => whnf); repeat ((first | with_reducible refine CondG.tt ?_ | with_reducible refine CondG.ff ?_); conv => whnf)
    refine CallG.pure (bpathR_spec K hk _ (.right hC' _) (.right hB _) rv ls s.n s.m hll hls (.left (.tl (.tl (.tl (.tl (.tl (own_rd hr hcl)))))) F)) ?_
    rintro _ _ ⟨u3, hu3, rfl, rfl⟩
    (conv => whnf); repeat ((first | with_reducible refine CondG.tt ?_ | with_reducible refine CondG.ff ?_); conv => whnf)
    generalize hpp : pathE K ls s.n s.m = pe at *
    obtain ⟨p, e⟩ := pe
    simp only at hp5 hpc hdo hu1 hu2 hu3 ⊢
    refine CallG.of (rest := [own 32 u3 p.length (digsC p), own 32 u2 p.length (digsC p), bookP 60 pb ls, cel b7 52 s.cells, own 27 rv ls.length (leavesC ls)]) (keeps_spec _ o ds u1 u3 p hp5.2 hu1 (.left (own_rd hu3 hpc) F) (by omega) hp5.1) (Ent.sel (T := []) (A := [_, _, _, _, _, _, _]) [5, 3, 0, 1, 2, 4, 6] rfl) ?_
    rintro _ _ rfl
    (conv => whnf); repeat ((first | with_reducible refine CondG.tt ?_ | with_reducible refine CondG.ff ?_); conv => whnf)
    refine CallG.of (rest := [own 32 u3 p.length (digsC p), bookP 60 pb ls, cel b7 52 s.cells, own 27 rv ls.length (leavesC ls)]) (keeps_spec _ o (ds ++ [(u1, p)]) u2 u3 p hp5.2 hu2 (.left (own_rd hu3 hpc) F) (by rw [List.length_append, List.length_singleton]; omega) hp5.1) (Ent.sel (T := []) (A := [_, _, _, _, _, _]) [0, 2, 1, 3, 4, 5] rfl) ?_
    rintro _ _ rfl
    (conv => whnf); repeat ((first | with_reducible refine CondG.tt ?_ | with_reducible refine CondG.ff ?_); conv => whnf)
    refine CondG.dec (fun _ => ?_) (fun h => absurd rfl h)
    (conv => whnf); repeat ((first | with_reducible refine CondG.tt ?_ | with_reducible refine CondG.ff ?_); conv => whnf)
    refine CallG.pure (samePath_spec _ u1 u3 p p (keep_rd (t := (u1, p)) (by simp) hu1 hp5.2 _) (.left (.tl (own_rd hu3 hpc)) F) hdo hdo (by omega)) ?_
    rintro _ _ ⟨rfl, rfl⟩
    (conv => whnf); repeat ((first | with_reducible refine CondG.tt ?_ | with_reducible refine CondG.ff ?_); conv => whnf)
    refine ⟨_, Ent.sel (T := []) (A := [_, _, _, _, _]) [0, 2, 4] rfl, rv, ds ++ [(u1, p)] ++ [(u2, p)], hr, by simp [hds], ?_, rfl⟩
    simp [retV]
  · rw [if_neg (by decide), if_neg (by decide), if_pos (by decide)] at hst
    rw [hst]
    have hp5 := pathE_ok K ls hll s.n s.m
    have hpc : (digsC (pathE K ls s.n s.m).1).length = (pathE K ls s.n s.m).1.length * 32 := digs_len fun d h => (hp5.2 d h).len
    have hdo : digsOk (pathE K ls s.n s.m).1 := fun d h => (hp5.2 d h).len
    (conv => whnf); repeat ((first | with_reducible refine CondG.tt ?_ | with_reducible refine CondG.ff ?_); conv => whnf)
    refine CondG.decF (by decide) ?_
    (conv => whnf); repeat ((first | with_reducible refine CondG.tt ?_ | with_reducible refine CondG.ff ?_); conv => whnf)
    refine CondG.decF (by decide) ?_
    (conv => whnf); repeat ((first | with_reducible refine CondG.tt ?_ | with_reducible refine CondG.ff ?_); conv => whnf)
    refine CondG.decF (by decide) ?_
    (conv => whnf); repeat ((first | with_reducible refine CondG.tt ?_ | with_reducible refine CondG.ff ?_); conv => whnf)
    refine CondG.decF (by decide) ?_
    (conv => whnf); repeat ((first | with_reducible refine CondG.tt ?_ | with_reducible refine CondG.ff ?_); conv => whnf)
    refine CondG.decF (by decide) ?_
    (conv => whnf); repeat ((first | with_reducible refine CondG.tt ?_ | with_reducible refine CondG.ff ?_); conv => whnf)
    refine CondG.decF (by decide) ?_
    (conv => whnf); repeat ((first | with_reducible refine CondG.tt ?_ | with_reducible refine CondG.ff ?_); conv => whnf)
    refine CondG.decF (by decide) ?_
    (conv => whnf); repeat ((first | with_reducible refine CondG.tt ?_ | with_reducible refine CondG.ff ?_); conv => whnf)
    refine CondG.decF (by decide) ?_
    (conv => whnf); repeat ((first | with_reducible refine CondG.tt ?_ | with_reducible refine CondG.ff ?_); conv => whnf)
    refine CondG.decF (by decide) ?_
    (conv => whnf); repeat ((first | with_reducible refine CondG.tt ?_ | with_reducible refine CondG.ff ?_); conv => whnf)
    refine CondG.decT (by decide) ?_
    (conv => whnf); repeat ((first | with_reducible refine CondG.tt ?_ | with_reducible refine CondG.ff ?_); conv => whnf)
    refine LoadG.at (v := .int .i64 s.n) (.here rfl) ?_
    (conv => whnf); repeat ((first | with_reducible refine CondG.tt ?_ | with_reducible refine CondG.ff ?_); conv => whnf)
    refine LoadG.at (v := .int .i64 s.m) (.here rfl) ?_
    (conv => whnf); repeat ((first | with_reducible refine CondG.tt ?_ | with_reducible refine CondG.ff ?_); conv => whnf)
    refine CallG.of (rest := [cel b7 52 s.cells, keepP o ds, own 27 rv ls.length (leavesC ls)]) (path_all K hk _ (.right hK _) pb s.n s.m ls hll hlt) (Ent.sel (T := []) (A := [_, _, _, _]) [2, 0, 1, 3] rfl) ?_
    rintro _ _ ⟨u1, hu1, rfl, rfl⟩
    (conv => whnf); repeat ((first | with_reducible refine CondG.tt ?_ | with_reducible refine CondG.ff ?_); conv => whnf)
    refine LoadG.at (v := .int .i64 s.n) (.tl (.tl (.here rfl))) ?_
    (conv => whnf); repeat ((first | with_reducible refine CondG.tt ?_ | with_reducible refine CondG.ff ?_); conv => whnf)
    refine LoadG.at (v := .int .i64 s.m) (.tl (.tl (.here rfl))) ?_
    (conv => whnf); repeat ((first | with_reducible refine CondG.tt ?_ | with_reducible refine CondG.ff ?_); conv => whnf)
    refine CallG.of (rest := [own 32 u1 (pathE K ls s.n s.m).1.length (digsC (pathE K ls s.n s.m).1), cel b7 52 s.cells, keepP o ds, own 27 rv ls.length (leavesC ls)]) (path_all K hk _ (.right hK _) pb s.n s.m ls hll hlt) (Ent.sel (T := []) (A := [_, _, _, _, _]) [1, 0, 2, 3, 4] rfl) ?_
    rintro _ _ ⟨u2, hu2, rfl, rfl⟩
    (conv => whnf); repeat ((first | with_reducible refine CondG.tt ?_ | with_reducible refine CondG.ff ?_); conv => whnf)
    refine LoadG.at (v := .int .i64 s.n) (.tl (.tl (.tl (.here rfl)))) ?_
    (conv => whnf); repeat ((first | with_reducible refine CondG.tt ?_ | with_reducible refine CondG.ff ?_); conv => whnf)
    refine LoadG.at (v := .int .i64 s.m) (.tl (.tl (.tl (.here rfl)))) ?_
    (conv => whnf); repeat ((first | with_reducible refine CondG.tt ?_ | with_reducible refine CondG.ff ?_); conv => whnf)
    refine CallG.pure (bpathR_spec K hk _ (.right hC' _) (.right hB _) rv ls s.n s.m hll hls (.left (.tl (.tl (.tl (.tl (.tl (own_rd hr hcl)))))) F)) ?_
    rintro _ _ ⟨u3, hu3, rfl, rfl⟩
    (conv => whnf); repeat ((first | with_reducible refine CondG.tt ?_ | with_reducible refine CondG.ff ?_); conv => whnf)
    generalize hpp : pathE K ls s.n s.m = pe at *
    obtain ⟨p, e⟩ := pe
    simp only at hp5 hpc hdo hu1 hu2 hu3 ⊢
    refine CallG.of (rest := [own 32 u3 p.length (digsC p), own 32 u2 p.length (digsC p), bookP 60 pb ls, cel b7 52 s.cells, own 27 rv ls.length (leavesC ls)]) (keeps_spec _ o ds u1 u3 p hp5.2 hu1 (.left (own_rd hu3 hpc) F) (by omega) hp5.1) (Ent.sel (T := []) (A := [_, _, _, _, _, _, _]) [5, 3, 0, 1, 2, 4, 6] rfl) ?_
    rintro _ _ rfl
    (conv => whnf); repeat ((first | with_reducible refine CondG.tt ?_ | with_reducible refine CondG.ff ?_); conv => whnf)
    refine CallG.of (rest := [own 32 u3 p.length (digsC p), bookP 60 pb ls, cel b7 52 s.cells, own 27 rv ls.length (leavesC ls)]) (keeps_spec _ o (ds ++ [(u1, p)]) u2 u3 p hp5.2 hu2 (.left (own_rd hu3 hpc) F) (by rw [List.length_append, List.length_singleton]; omega) hp5.1) (Ent.sel (T := []) (A := [_, _, _, _, _, _]) [0, 2, 1, 3, 4, 5] rfl) ?_
    rintro _ _ rfl
    (conv => whnf); repeat ((first | with_reducible refine CondG.tt ?_ | with_reducible refine CondG.ff ?_); conv => whnf)
    refine CondG.dec (fun _ => ?_) (fun h => absurd rfl h)
    (conv => whnf); repeat ((first | with_reducible refine CondG.tt ?_ | with_reducible refine CondG.ff ?_); conv => whnf)
    refine CallG.pure (samePath_spec _ u1 u3 p p (keep_rd (t := (u1, p)) (by simp) hu1 hp5.2 _) (.left (.tl (own_rd hu3 hpc)) F) hdo hdo (by omega)) ?_
    rintro _ _ ⟨rfl, rfl⟩
    (conv => whnf); repeat ((first | with_reducible refine CondG.tt ?_ | with_reducible refine CondG.ff ?_); conv => whnf)
    refine ⟨_, Ent.sel (T := []) (A := [_, _, _, _, _]) [0, 2, 4] rfl, rv, ds ++ [(u1, p)] ++ [(u2, p)], hr, by simp [hds], ?_, rfl⟩
    simp [retV]
  · rw [if_neg (by decide), if_neg (by decide), if_pos (by decide)] at hst
    rw [hst]
    have hp5 := pathE_ok K ls hll s.n s.m
    have hpc : (digsC (pathE K ls s.n s.m).1).length = (pathE K ls s.n s.m).1.length * 32 := digs_len fun d h => (hp5.2 d h).len
    have hdo : digsOk (pathE K ls s.n s.m).1 := fun d h => (hp5.2 d h).len
    (conv => whnf); repeat ((first | with_reducible refine CondG.tt ?_ | with_reducible refine CondG.ff ?_); conv => whnf)
    refine CondG.decF (by decide) ?_
    (conv => whnf); repeat ((first | with_reducible refine CondG.tt ?_ | with_reducible refine CondG.ff ?_); conv => whnf)
    refine CondG.decF (by decide) ?_
    (conv => whnf); repeat ((first | with_reducible refine CondG.tt ?_ | with_reducible refine CondG.ff ?_); conv => whnf)
    refine CondG.decF (by decide) ?_
    (conv => whnf); repeat ((first | with_reducible refine CondG.tt ?_ | with_reducible refine CondG.ff ?_); conv => whnf)
    refine CondG.decF (by decide) ?_
    (conv => whnf); repeat ((first | with_reducible refine CondG.tt ?_ | with_reducible refine CondG.ff ?_); conv => whnf)
    refine CondG.decF (by decide) ?_
    (conv => whnf); repeat ((first | with_reducible refine CondG.tt ?_ | with_reducible refine CondG.ff ?_); conv => whnf)
    refine CondG.decF (by decide) ?_
    (conv => whnf); repeat ((first | with_reducible refine CondG.tt ?_ | with_reducible refine CondG.ff ?_); conv => whnf)
    refine CondG.decF (by decide) ?_
    (conv => whnf); repeat ((first | with_reducible refine CondG.tt ?_ | with_reducible refine CondG.ff ?_); conv => whnf)
    refine CondG.decF (by decide) ?_
    (conv => whnf); repeat ((first | with_reducible refine CondG.tt ?_ | with_reducible refine CondG.ff ?_); conv => whnf)
    refine CondG.decF (by decide) ?_
    (conv => whnf); repeat ((first | with_reducible refine CondG.tt ?_ | with_reducible refine CondG.ff ?_); conv => whnf)
    refine CondG.decF (by decide) ?_
    (conv => whnf); repeat ((first | with_reducible refine CondG.tt ?_ | with_reducible refine CondG.ff ?_); conv => whnf)
    refine CondG.decT (by decide) ?_
    (conv => whnf); repeat ((first | with_reducible refine CondG.tt ?_ | with_reducible refine CondG.ff ?_); conv => whnf)
    refine LoadG.at (v := .int .i64 s.n) (.here rfl) ?_
    (conv => whnf); repeat ((first | with_reducible refine CondG.tt ?_ | with_reducible refine CondG.ff ?_); conv => whnf)
    refine LoadG.at (v := .int .i64 s.m) (.here rfl) ?_
    (conv => whnf); repeat ((first | with_reducible refine CondG.tt ?_ | with_reducible refine CondG.ff ?_); conv => whnf)
    refine CallG.of (rest := [cel b7 52 s.cells, keepP o ds, own 27 rv ls.length (leavesC ls)]) (path_all K hk _ (.right hK _) pb s.n s.m ls hll hlt) (Ent.sel (T := []) (A := [_, _, _, _]) [2, 0, 1, 3] rfl) ?_
    rintro _ _ ⟨u1, hu1, rfl, rfl⟩
    (conv => whnf); repeat ((first | with_reducible refine CondG.tt ?_ | with_reducible refine CondG.ff ?_); conv => whnf)
    refine LoadG.at (v := .int .i64 s.n) (.tl (.tl (.here rfl))) ?_
    (conv => whnf); repeat ((first | with_reducible refine CondG.tt ?_ | with_reducible refine CondG.ff ?_); conv => whnf)
    refine LoadG.at (v := .int .i64 s.m) (.tl (.tl (.here rfl))) ?_
    (conv => whnf); repeat ((first | with_reducible refine CondG.tt ?_ | with_reducible refine CondG.ff ?_); conv => whnf)
    refine CallG.of (rest := [own 32 u1 (pathE K ls s.n s.m).1.length (digsC (pathE K ls s.n s.m).1), cel b7 52 s.cells, keepP o ds, own 27 rv ls.length (leavesC ls)]) (path_all K hk _ (.right hK _) pb s.n s.m ls hll hlt) (Ent.sel (T := []) (A := [_, _, _, _, _]) [1, 0, 2, 3, 4] rfl) ?_
    rintro _ _ ⟨u2, hu2, rfl, rfl⟩
    (conv => whnf); repeat ((first | with_reducible refine CondG.tt ?_ | with_reducible refine CondG.ff ?_); conv => whnf)
    refine LoadG.at (v := .int .i64 s.n) (.tl (.tl (.tl (.here rfl)))) ?_
    (conv => whnf); repeat ((first | with_reducible refine CondG.tt ?_ | with_reducible refine CondG.ff ?_); conv => whnf)
    refine LoadG.at (v := .int .i64 s.m) (.tl (.tl (.tl (.here rfl)))) ?_
    (conv => whnf); repeat ((first | with_reducible refine CondG.tt ?_ | with_reducible refine CondG.ff ?_); conv => whnf)
    refine CallG.pure (bpathR_spec K hk _ (.right hC' _) (.right hB _) rv ls s.n s.m hll hls (.left (.tl (.tl (.tl (.tl (.tl (own_rd hr hcl)))))) F)) ?_
    rintro _ _ ⟨u3, hu3, rfl, rfl⟩
    (conv => whnf); repeat ((first | with_reducible refine CondG.tt ?_ | with_reducible refine CondG.ff ?_); conv => whnf)
    generalize hpp : pathE K ls s.n s.m = pe at *
    obtain ⟨p, e⟩ := pe
    simp only at hp5 hpc hdo hu1 hu2 hu3 ⊢
    refine CallG.of (rest := [own 32 u3 p.length (digsC p), own 32 u2 p.length (digsC p), bookP 60 pb ls, cel b7 52 s.cells, own 27 rv ls.length (leavesC ls)]) (keeps_spec _ o ds u1 u3 p hp5.2 hu1 (.left (own_rd hu3 hpc) F) (by omega) hp5.1) (Ent.sel (T := []) (A := [_, _, _, _, _, _, _]) [5, 3, 0, 1, 2, 4, 6] rfl) ?_
    rintro _ _ rfl
    (conv => whnf); repeat ((first | with_reducible refine CondG.tt ?_ | with_reducible refine CondG.ff ?_); conv => whnf)
    refine CallG.of (rest := [own 32 u3 p.length (digsC p), bookP 60 pb ls, cel b7 52 s.cells, own 27 rv ls.length (leavesC ls)]) (keeps_spec _ o (ds ++ [(u1, p)]) u2 u3 p hp5.2 hu2 (.left (own_rd hu3 hpc) F) (by rw [List.length_append, List.length_singleton]; omega) hp5.1) (Ent.sel (T := []) (A := [_, _, _, _, _, _]) [0, 2, 1, 3, 4, 5] rfl) ?_
    rintro _ _ rfl
    (conv => whnf); repeat ((first | with_reducible refine CondG.tt ?_ | with_reducible refine CondG.ff ?_); conv => whnf)
    refine CondG.dec (fun _ => ?_) (fun h => absurd rfl h)
    (conv => whnf); repeat ((first | with_reducible refine CondG.tt ?_ | with_reducible refine CondG.ff ?_); conv => whnf)
    refine CallG.pure (samePath_spec _ u1 u3 p p (keep_rd (t := (u1, p)) (by simp) hu1 hp5.2 _) (.left (.tl (own_rd hu3 hpc)) F) hdo hdo (by omega)) ?_
    rintro _ _ ⟨rfl, rfl⟩
    (conv => whnf); repeat ((first | with_reducible refine CondG.tt ?_ | with_reducible refine CondG.ff ?_); conv => whnf)
    refine ⟨_, Ent.sel (T := []) (A := [_, _, _, _, _]) [0, 2, 4] rfl, rv, ds ++ [(u1, p)] ++ [(u2, p)], hr, by simp [hds], ?_, rfl⟩
    simp [retV]
  · rw [if_neg (by decide), if_neg (by decide), if_neg (by decide)] at hst
    rw [hst]
    (conv => whnf); repeat ((first | with_reducible refine CondG.tt ?_ | with_reducible refine CondG.ff ?_); conv => whnf)
    refine CondG.decF (by decide) ?_
    (conv => whnf); repeat ((first | with_reducible refine CondG.tt ?_ | with_reducible refine CondG.ff ?_); conv => whnf)
    refine CondG.decF (by decide) ?_
    (conv => whnf); repeat ((first | with_reducible refine CondG.tt ?_ | with_reducible refine CondG.ff ?_); conv => whnf)
    refine CondG.decF (by decide) ?_
    (conv => whnf); repeat ((first | with_reducible refine CondG.tt ?_ | with_reducible refine CondG.ff ?_); conv => whnf)
    refine CondG.decF (by decide) ?_
    (conv => whnf); repeat ((first | with_reducible refine CondG.tt ?_ | with_reducible refine CondG.ff ?_); conv => whnf)
    refine CondG.decF (by decide) ?_
    (conv => whnf); repeat ((first | with_reducible refine CondG.tt ?_ | with_reducible refine CondG.ff ?_); conv => whnf)
    refine CondG.decF (by decide) ?_
    (conv => whnf); repeat ((first | with_reducible refine CondG.tt ?_ | with_reducible refine CondG.ff ?_); conv => whnf)
    refine CondG.decF (by decide) ?_
    (conv => whnf); repeat ((first | with_reducible refine CondG.tt ?_ | with_reducible refine CondG.ff ?_); conv => whnf)
    refine CondG.decF (by decide) ?_
    (conv => whnf); repeat ((first | with_reducible refine CondG.tt ?_ | with_reducible refine CondG.ff ?_); conv => whnf)
    refine CondG.decF (by decide) ?_
    (conv => whnf); repeat ((first | with_reducible refine CondG.tt ?_ | with_reducible refine CondG.ff ?_); conv => whnf)
    refine CondG.decF (by decide) ?_
    (conv => whnf); repeat ((first | with_reducible refine CondG.tt ?_ | with_reducible refine CondG.ff ?_); conv => whnf)
    refine CondG.decF (by decide) ?_
    (conv => whnf); repeat ((first | with_reducible refine CondG.tt ?_ | with_reducible refine CondG.ff ?_); conv => whnf)
    refine LoadG.at (v := .int .i64 s.m) (.here rfl) ?_
    (conv => whnf); repeat ((first | with_reducible refine CondG.tt ?_ | with_reducible refine CondG.ff ?_); conv => whnf)
    refine CallG.of (rest := [cel b7 52 s.cells, keepP o ds, own 27 rv ls.length (leavesC ls)]) (cut_all _ pb s.m ls hll) (Ent.sel (T := []) (A := [_, _, _, _]) [2, 0, 1, 3] rfl) ?_
    rintro _ _ ⟨rfl, rfl⟩
    (conv => whnf); repeat ((first | with_reducible refine CondG.tt ?_ | with_reducible refine CondG.ff ?_); conv => whnf)
    refine LoadG.at (v := .int .i64 s.m) (.tl (.here rfl)) ?_
    (conv => whnf); repeat ((first | with_reducible refine CondG.tt ?_ | with_reducible refine CondG.ff ?_); conv => whnf)
    refine CallG.of (rest := [bookP 60 pb (cutE ls s.m).1, cel b7 52 s.cells, keepP o ds]) (bcutR_spec _ rv ls s.m hlw hr) (Ent.sel (T := []) (A := [_, _, _, _]) [3, 0, 1, 2] rfl) ?_
    rintro _ _ ⟨u, hu, rfl, rfl⟩
    (conv => whnf); repeat ((first | with_reducible refine CondG.tt ?_ | with_reducible refine CondG.ff ?_); conv => whnf)
    refine ⟨_, Ent.sel (T := []) (A := [_, _, _, _]) [3, 1, 0] rfl, u, ds, hu, hds, ?_, rfl⟩
    simp [retV]
end
end Go.Proofs.YthdpknlnpeaiiaaDoor
/-
  The law of books, walked.
-/
namespace Go.Proofs.YthdpknlnpeaiiaaDoor
open Go Go.Sl
theorem known_b (F : List HP) : SpecF Tryd.prog 11 [] F [] (fun v L => v = .bool true ∧ L = []) := (known_spec F).turn fun _ L h => ⟨[], ⟨h, rfl⟩, Ent.nil L⟩
theorem still_all (F : List HP) (b : Nat) (ds : List PathV) (hds : ds.length ≤ 5864062014803) (hok : ∀ t ∈ ds, t.2.length ≤ 1099511627776 ∧ ∀ d ∈ t.2, DigOk d) :
    SpecF Tryd.prog 20 [.pointer (some ⟨b, 0, none⟩)] F [keepP b ds] (fun r _ => r = .bool true) := by
  refine SpecF.unpack0 fun x hx => ?_
  have hE : Ent (keepL b ds x) [keepP b ds] := Ent.pack0 hx
  obtain ⟨dv, gv, gs⟩ := x
  generalize hT : own 1 dv ds.length (ds.map (·.1)) :: own 1 gv gs.length (gs.map (·.1)) :: (pathsL ds ++ pathsL gs) = T
  have hX : keepL b ds (dv, gv, gs) = cel b 47 [.slice none 0 0, .slice none 0 0, dv, gv] :: T := by rw [← hT]; rfl
  rw [hX] at hE ⊢
  refine fun20.spec rfl ?_
  (conv => whnf); repeat ((first | with_reducible refine CondG.tt ?_ | with_reducible refine CondG.ff ?_); conv => whnf)
  refine LoopG.mk (fun mm e L => e = [(0, .pointer (some ⟨b, 0, none⟩)), (3, .int .i64 0)] ∧ L = cel b 47 [.slice none 0 0, .slice none 0 0, dv, gv] :: T) 0
    [(0, .pointer (some ⟨b, 0, none⟩)), (3, .int .i64 0)] _ ⟨rfl, rfl, trivial⟩ (Ent.refl _) ⟨rfl, rfl⟩ ?_
  rintro mm e L ⟨rfl, rfl⟩
  (conv => whnf); repeat ((first | with_reducible refine CondG.tt ?_ | with_reducible refine CondG.ff ?_); conv => whnf)
  refine LoadG.at (v := .slice none 0 0) (.here rfl) ?_
  (conv => whnf); repeat ((first | with_reducible refine CondG.tt ?_ | with_reducible refine CondG.ff ?_); conv => whnf)
  refine LenG.lit ?_
  (conv => whnf); repeat ((first | with_reducible refine CondG.tt ?_ | with_reducible refine CondG.ff ?_); conv => whnf)
  refine CondG.decF (by decide) ?_
  (conv => whnf); repeat ((first | with_reducible refine CondG.tt ?_ | with_reducible refine CondG.ff ?_); conv => whnf)
  refine LoopG.mk (fun mm e L => e = [(0, .pointer (some ⟨b, 0, none⟩)), (4, .int .i64 0)] ∧ L = cel b 47 [.slice none 0 0, .slice none 0 0, dv, gv] :: T) 0
    [(0, .pointer (some ⟨b, 0, none⟩)), (4, .int .i64 0)] _ ⟨rfl, rfl, trivial⟩ (Ent.refl _) ⟨rfl, rfl⟩ ?_
  rintro mm e L ⟨rfl, rfl⟩
  (conv => whnf); repeat ((first | with_reducible refine CondG.tt ?_ | with_reducible refine CondG.ff ?_); conv => whnf)
  refine LoadG.at (v := .slice none 0 0) (.here rfl) ?_
  (conv => whnf); repeat ((first | with_reducible refine CondG.tt ?_ | with_reducible refine CondG.ff ?_); conv => whnf)
  refine LenG.lit ?_
  (conv => whnf); repeat ((first | with_reducible refine CondG.tt ?_ | with_reducible refine CondG.ff ?_); conv => whnf)
  refine CondG.decF (by decide) ?_
  (conv => whnf); repeat ((first | with_reducible refine CondG.tt ?_ | with_reducible refine CondG.ff ?_); conv => whnf)
  refine LoopG.mk (fun mm e L => e = [(0, .pointer (some ⟨b, 0, none⟩)), (6, .slice none 0 0), (7, .int .i64 0)] ∧ L = cel b 47 [.slice none 0 0, .slice none 0 0, dv, gv] :: T) 0
    [(0, .pointer (some ⟨b, 0, none⟩)), (6, .slice none 0 0), (7, .int .i64 0)] _ ⟨rfl, rfl, rfl, trivial⟩ (Ent.refl _) ⟨rfl, rfl⟩ ?_
  rintro mm e L ⟨rfl, rfl⟩
  (conv => whnf); repeat ((first | with_reducible refine CondG.tt ?_ | with_reducible refine CondG.ff ?_); conv => whnf)
  refine LoadG.at (v := .slice none 0 0) (.here rfl) ?_
  (conv => whnf); repeat ((first | with_reducible refine CondG.tt ?_ | with_reducible refine CondG.ff ?_); conv => whnf)
  refine LenG.lit ?_
  (conv => whnf); repeat ((first | with_reducible refine CondG.tt ?_ | with_reducible refine CondG.ff ?_); conv => whnf)
  refine CondG.decF (by decide) ?_
  (conv => whnf); repeat ((first | with_reducible refine CondG.tt ?_ | with_reducible refine CondG.ff ?_); conv => whnf)
  refine LoopG.mk (fun mm e L => e = [(0, .pointer (some ⟨b, 0, none⟩)), (6, .slice none 0 0), (10, .int .i64 0)] ∧ L = cel b 47 [.slice none 0 0, .slice none 0 0, dv, gv] :: T) 0
    [(0, .pointer (some ⟨b, 0, none⟩)), (6, .slice none 0 0), (10, .int .i64 0)] _ ⟨rfl, rfl, rfl, trivial⟩ (Ent.refl _) ⟨rfl, rfl⟩ ?_
  rintro mm e L ⟨rfl, rfl⟩
  (conv => whnf); repeat ((first | with_reducible refine CondG.tt ?_ | with_reducible refine CondG.ff ?_); conv => whnf)
  refine LoadG.at (v := .slice none 0 0) (.here rfl) ?_
  (conv => whnf); repeat ((first | with_reducible refine CondG.tt ?_ | with_reducible refine CondG.ff ?_); conv => whnf)
  refine LenG.lit ?_
  (conv => whnf); repeat ((first | with_reducible refine CondG.tt ?_ | with_reducible refine CondG.ff ?_); conv => whnf)
  refine CondG.decF (by decide) ?_
  (conv => whnf); repeat ((first | with_reducible refine CondG.tt ?_ | with_reducible refine CondG.ff ?_); conv => whnf)
  refine CallG.of (rest := []) (still_spec _ b ds hds hok) hE ?_
  rintro _ L rfl
  (conv => whnf); repeat ((first | with_reducible refine CondG.tt ?_ | with_reducible refine CondG.ff ?_); conv => whnf)
  exact ret_here rfl
theorem keep_new {b : Nat} {L : List HP} : Ent (cel b 47 [.slice none 0 0, .slice none 0 0, .slice none 0 0, .slice none 0 0] :: L) (keepP b [] :: L) := by
  have h : KeepOk [] (.slice none 0 0, .slice none 0 0, []) := ⟨rfl, .inl ⟨rfl, rfl⟩, .inl ⟨rfl, rfl⟩, by simp, by simp⟩
  refine Ent.trans ?_ (Ent.pack (φ := KeepOk []) (ls := keepL b []) h)
  intro w F hs
  have h1 := Sat.own_nil (sz := 1) (Sat.own_nil (sz := 1) hs)
  exact h1.perm (by
    show List.Perm (_ :: _ :: _ :: (L ++ F)) (_ :: _ :: _ :: (L ++ F))
    exact (List.Perm.cons _ (List.Perm.swap _ _ _)).trans (List.Perm.swap _ _ _))
theorem stepB_ok (K : List W32) {x : BkD} (hx : BkOk x) {s : StD} (hs : s.wf) : BkOk (stepB K x s) ∧ (stepB K x s).2.length ≤ x.2.length + 2 := by
  obtain ⟨ls, ps⟩ := x
  have h1 := hx.leaves
  have h2 := hx.len
  have h3 := hx.paths
  simp only at h1 h2 h3
  unfold stepB
  split
  · refine ⟨⟨?_, ?_, h3⟩, by simp⟩
    · intro l hl
      simp only [putE] at hl
      split at hl
      · exact h1 l hl
      · rename_i hm
        split at hl
        · exact h1 l hl
        · rcases List.mem_append.1 hl with hl | hl
          · exact h1 l hl
          · rw [List.mem_singleton.1 hl]
            exact ⟨hs.leaf, by simpa using hm, hs.to, hs.amt⟩
    · simp only [putE]
      split
      · exact h2
      · rename_i hm
        split
        · exact h2
        · rename_i hi
          have hm' : s.leaf.may := by simpa using hm
          have hi' : s.leaf.idx = ls.length := by simpa using hi
          obtain ⟨⟨a1, a2⟩, _⟩ := hm'
          simp only [List.length_append, List.length_singleton]
          omega
  · split
    · exact ⟨hx, by simp⟩
    · split
      · refine ⟨⟨h1, h2, fun p hp => ?_⟩, by simp⟩
        simp only [List.mem_append, List.mem_singleton] at hp
        rcases hp with (hp | rfl) | rfl
        · exact h3 p hp
        · exact pathE_ok K ls h2 s.n s.m
        · exact pathE_ok K ls h2 s.n s.m
      · refine ⟨⟨?_, ?_, h3⟩, by simp⟩
        · intro l hl
          simp only [cutE] at hl
          split at hl
          · exact h1 l hl
          · exact h1 l (List.mem_of_mem_take hl)
        · simp only [cutE]
          split
          · exact h2
          · simp only [List.length_take]; omega
section
variable (K : List W32) (hk : K.length = 64)
include hk
theorem books_spec (F : List HP) (hK : CelN F 4 0 (wvs K)) (hC' : CelN F 1 0 (wvs K)) (hB : CelN F 0 0 (wvs ivW)) (v1 v2 : Value) (s1 s2 : List StD) (hs1 : ∀ s ∈ s1, s.wf) (hs2 : ∀ s ∈ s2, s.wf) (hn1 : s1.length ≤ 1353300000000) (hn2 : s2.length ≤ 1353300000000)
    (hr1 : RdS F v1 s1.length (s1.flatMap StD.cells)) (hr2 : RdS F v2 s2.length (s2.flatMap StD.cells)) : SpecF Tryd.prog 4 [v1, v2] F [] (fun v _ => v = .bool true) := by
  refine fun4.spec rfl ?_
  (conv => whnf); repeat ((first | with_reducible refine CondG.tt ?_ | with_reducible refine CondG.ff ?_); conv => whnf)
  refine CallG.pure (newP _) ?_
  rintro _ _ ⟨p, rfl, rfl⟩
  (conv => whnf); repeat ((first | with_reducible refine CondG.tt ?_ | with_reducible refine CondG.ff ?_); conv => whnf)
  refine CallG.pure (newP _) ?_
  rintro _ _ ⟨q, rfl, rfl⟩
  (conv => whnf); repeat ((first | with_reducible refine CondG.tt ?_ | with_reducible refine CondG.ff ?_); conv => whnf)
  refine CallG.pure (known_b _) ?_
  rintro _ _ ⟨rfl, rfl⟩
  (conv => whnf); repeat ((first | with_reducible refine CondG.tt ?_ | with_reducible refine CondG.ff ?_); conv => whnf)
  refine CondG.ff ?_
  (conv => whnf); repeat ((first | with_reducible refine CondG.tt ?_ | with_reducible refine CondG.ff ?_); conv => whnf)
  refine BuildG.of (cs := [.slice none 0 0, .slice none 0 0, .slice none 0 0, .slice none 0 0]) rfl ?_
  (conv => whnf); repeat ((first | with_reducible refine CondG.tt ?_ | with_reducible refine CondG.ff ?_); conv => whnf)
  intro o
  (conv => whnf); repeat ((first | with_reducible refine CondG.tt ?_ | with_reducible refine CondG.ff ?_); conv => whnf)
  refine LoopG.mk (fun mm e L => ∃ (i : Nat) (a b : List LeafD) (ds : List PathV) (ra rb : Value), i ≤ max s1.length s2.length ∧ mm = max s1.length s2.length - i ∧ e = [(0, v1), (1, v2), (5, .pointer (some ⟨p, 0, none⟩)), (6, .pointer (some ⟨q, 0, none⟩)), (7, .pointer (some ⟨o, 0, none⟩)), (8, ra), (9, rb), (11, .int .i64 (i : Nat))] ∧
      BkOk (a, ds.map (·.2)) ∧ BkOk (b, ds.map (·.2)) ∧ ds.length ≤ 4 * i ∧ SlV ra a.length ∧ SlV rb b.length ∧ L = [keepP o ds, bookP 60 p a, own 27 ra a.length (leavesC a), bookP 60 q b, own 27 rb b.length (leavesC b)]) (max s1.length s2.length)
    [(0, v1), (1, v2), (5, .pointer (some ⟨p, 0, none⟩)), (6, .pointer (some ⟨q, 0, none⟩)), (7, .pointer (some ⟨o, 0, none⟩)), (8, .slice none 0 0), (9, .slice none 0 0), (11, .int .i64 0)] [keepP o [], bookP 60 p [], own 27 (.slice none 0 0) 0 [], bookP 60 q [], own 27 (.slice none 0 0) 0 []] ⟨rfl, rfl, rfl, rfl, rfl, rfl, rfl, rfl, trivial⟩ ?_
    ⟨0, [], [], [], .slice none 0 0, .slice none 0 0, by omega, rfl, rfl, ⟨by simp, by simp, by simp⟩, ⟨by simp, by simp, by simp⟩, by simp, .inl ⟨rfl, rfl⟩, .inl ⟨rfl, rfl⟩, rfl⟩ ?_
  · refine Ent.trans keep_new ?_
    intro w F' hs
    have h1 := Sat.own_nil (sz := 27) (Sat.own_nil (sz := 27) hs)
    exact (Ent.sel (T := []) (A := [_, _, _, _, _]) [2, 4, 0, 3, 1] rfl) w F' h1
  rintro mm e L ⟨i, a, b, ds, ra, rb, hi, rfl, rfl, ha, hb, hdl, hra, hrb, rfl⟩
  (conv => whnf); repeat ((first | with_reducible refine CondG.tt ?_ | with_reducible refine CondG.ff ?_); conv => whnf)
  refine LenG.rd hr1 ?_
  (conv => whnf); repeat ((first | with_reducible refine CondG.tt ?_ | with_reducible refine CondG.ff ?_); conv => whnf)
  refine CondG.dec (fun h1 => ?_) (fun h1 => ?_)
  · have hi1 : i < s1.length := by omega
    (conv => whnf); repeat ((first | with_reducible refine CondG.tt ?_ | with_reducible refine CondG.ff ?_); conv => whnf)
    refine LenG.rd hr1 ?_
    (conv => whnf); repeat ((first | with_reducible refine CondG.tt ?_ | with_reducible refine CondG.ff ?_); conv => whnf)
    refine CondG.decT h1 ?_
    (conv => whnf); repeat ((first | with_reducible refine CondG.tt ?_ | with_reducible refine CondG.ff ?_); conv => whnf)
    have hw1 := hs1 s1[i] (List.getElem_mem hi1)
    have hc1 := StD.len hw1
    refine IdxG.rd hr1 (by omega) fun c o' hc => ?_
    (conv => whnf); repeat ((first | with_reducible refine CondG.tt ?_ | with_reducible refine CondG.ff ?_); conv => whnf)
    refine LoadNG.atF (vs := s1[i].cells) hc1 (hc.part (by rw [hc1, Int.toNat_natCast]; exact flat_get (fun s h => StD.len (hs1 s h)) hi1)) ?_
    (conv => whnf); repeat ((first | with_reducible refine CondG.tt ?_ | with_reducible refine CondG.ff ?_); conv => whnf)
    refine CallG.of (rest := [bookP 60 q b, own 27 rb b.length (leavesC b)]) (booked_step K hk _ (.right hK _) (.right hC' _) (.right hB _) o p ra (a, ds.map (·.2)) ha s1[i] hw1 hra ds rfl (by omega)) (Ent.refl _) ?_
    rintro _ _ ⟨ra1, ds1, hra1, hds1, rfl, rfl⟩
    obtain ⟨hst1, hst2⟩ := stepB_ok K ha hw1
    generalize stepB K (a, ds.map (·.2)) s1[i] = x1 at *
    obtain ⟨a1, ps1⟩ := x1
    simp only at hra1 hds1 hst2 ⊢
    subst hds1
    have ha1 : BkOk (a1, ds1.map (·.2)) := hst1
    have hb1 : BkOk (b, ds1.map (·.2)) := ⟨hb.leaves, hb.len, hst1.paths⟩
    simp only [List.length_map] at hst2
    (conv => whnf); repeat ((first | with_reducible refine CondG.tt ?_ | with_reducible refine CondG.ff ?_); conv => whnf)
    refine CondG.ff ?_
    (conv => whnf); repeat ((first | with_reducible refine CondG.tt ?_ | with_reducible refine CondG.ff ?_); conv => whnf)
    refine LenG.rd hr2 ?_
    (conv => whnf); repeat ((first | with_reducible refine CondG.tt ?_ | with_reducible refine CondG.ff ?_); conv => whnf)
    refine CondG.dec (fun h2 => ?_) (fun h2 => ?_)
    · have hi2 : i < s2.length := by omega
      (conv => whnf); repeat ((first | with_reducible refine CondG.tt ?_ | with_reducible refine CondG.ff ?_); conv => whnf)
      have hw2 := hs2 s2[i] (List.getElem_mem hi2)
      have hc2 := StD.len hw2
      refine IdxG.rd hr2 (by omega) fun c o' hc => ?_
      (conv => whnf); repeat ((first | with_reducible refine CondG.tt ?_ | with_reducible refine CondG.ff ?_); conv => whnf)
      refine LoadNG.atF (vs := s2[i].cells) hc2 (hc.part (by rw [hc2, Int.toNat_natCast]; exact flat_get (fun s h => StD.len (hs2 s h)) hi2)) ?_
      (conv => whnf); repeat ((first | with_reducible refine CondG.tt ?_ | with_reducible refine CondG.ff ?_); conv => whnf)
      refine CallG.of (rest := [bookP 60 p a1, own 27 ra1 a1.length (leavesC a1)]) (booked_step K hk _ (.right hK _) (.right hC' _) (.right hB _) o q rb (b, ds1.map (·.2)) hb1 s2[i] hw2 hrb ds1 rfl (by omega)) (Ent.sel (T := []) (A := [_, _, _, _, _]) [0, 3, 4, 1, 2] rfl) ?_
      rintro _ _ ⟨rb1, ds2, hrb1, hds2, rfl, rfl⟩
      obtain ⟨hst3, hst4⟩ := stepB_ok K hb1 hw2
      generalize stepB K (b, ds1.map (·.2)) s2[i] = x2 at *
      obtain ⟨b1, ps2⟩ := x2
      simp only at hrb1 hds2 hst4 ⊢
      subst hds2
      have hbb : BkOk (b1, ds2.map (·.2)) := hst3
      have hab : BkOk (a1, ds2.map (·.2)) := ⟨ha1.leaves, ha1.len, hst3.paths⟩
      simp only [List.length_map] at hst4
      (conv => whnf); repeat ((first | with_reducible refine CondG.tt ?_ | with_reducible refine CondG.ff ?_); conv => whnf)
      refine CondG.ff ?_
      (conv => whnf); repeat ((first | with_reducible refine CondG.tt ?_ | with_reducible refine CondG.ff ?_); conv => whnf)
      refine ArithG.i64 (by omega) ?_
      (conv => whnf); repeat ((first | with_reducible refine CondG.tt ?_ | with_reducible refine CondG.ff ?_); conv => whnf)
      refine ⟨max s1.length s2.length - (i + 1), [(0, v1), (1, v2), (5, .pointer (some ⟨p, 0, none⟩)), (6, .pointer (some ⟨q, 0, none⟩)), (7, .pointer (some ⟨o, 0, none⟩)), (8, ra1), (9, rb1), (11, .int .i64 ((i + 1 : Nat) : Int))], [keepP o ds2, bookP 60 p a1, own 27 ra1 a1.length (leavesC a1), bookP 60 q b1, own 27 rb1 b1.length (leavesC b1)], by omega, ⟨rfl, rfl, rfl, rfl, rfl, rfl, rfl, rfl, trivial⟩, Ent.sel (T := []) (A := [_, _, _, _, _]) [0, 3, 4, 1, 2] rfl, i + 1, a1, b1, ds2, ra1, rb1, by omega, rfl, rfl, hab, hbb, by omega, hra1, hrb1, rfl⟩
    · (conv => whnf); repeat ((first | with_reducible refine CondG.tt ?_ | with_reducible refine CondG.ff ?_); conv => whnf)
      refine ArithG.i64 (by omega) ?_
      (conv => whnf); repeat ((first | with_reducible refine CondG.tt ?_ | with_reducible refine CondG.ff ?_); conv => whnf)
      refine ⟨max s1.length s2.length - (i + 1), [(0, v1), (1, v2), (5, .pointer (some ⟨p, 0, none⟩)), (6, .pointer (some ⟨q, 0, none⟩)), (7, .pointer (some ⟨o, 0, none⟩)), (8, ra1), (9, rb), (11, .int .i64 ((i + 1 : Nat) : Int))], [keepP o ds1, bookP 60 p a1, own 27 ra1 a1.length (leavesC a1), bookP 60 q b, own 27 rb b.length (leavesC b)], by omega, ⟨rfl, rfl, rfl, rfl, rfl, rfl, rfl, rfl, trivial⟩, Ent.sel (T := []) (A := [_, _, _, _, _]) [0, 1, 2, 3, 4] rfl, i + 1, a1, b, ds1, ra1, rb, by omega, rfl, rfl, ha1, hb1, by omega, hra1, hrb, rfl⟩
  · (conv => whnf); repeat ((first | with_reducible refine CondG.tt ?_ | with_reducible refine CondG.ff ?_); conv => whnf)
    refine LenG.rd hr2 ?_
    (conv => whnf); repeat ((first | with_reducible refine CondG.tt ?_ | with_reducible refine CondG.ff ?_); conv => whnf)
    refine CondG.dec (fun h2 => ?_) (fun h2 => ?_)
    · have hi2 : i < s2.length := by omega
      (conv => whnf); repeat ((first | with_reducible refine CondG.tt ?_ | with_reducible refine CondG.ff ?_); conv => whnf)
      refine LenG.rd hr1 ?_
      (conv => whnf); repeat ((first | with_reducible refine CondG.tt ?_ | with_reducible refine CondG.ff ?_); conv => whnf)
      refine CondG.decF h1 ?_
      (conv => whnf); repeat ((first | with_reducible refine CondG.tt ?_ | with_reducible refine CondG.ff ?_); conv => whnf)
      refine LenG.rd hr2 ?_
      (conv => whnf); repeat ((first | with_reducible refine CondG.tt ?_ | with_reducible refine CondG.ff ?_); conv => whnf)
      refine CondG.decT h2 ?_
      (conv => whnf); repeat ((first | with_reducible refine CondG.tt ?_ | with_reducible refine CondG.ff ?_); conv => whnf)
      have hw2 := hs2 s2[i] (List.getElem_mem hi2)
      have hc2 := StD.len hw2
      refine IdxG.rd hr2 (by omega) fun c o' hc => ?_
      (conv => whnf); repeat ((first | with_reducible refine CondG.tt ?_ | with_reducible refine CondG.ff ?_); conv => whnf)
      refine LoadNG.atF (vs := s2[i].cells) hc2 (hc.part (by rw [hc2, Int.toNat_natCast]; exact flat_get (fun s h => StD.len (hs2 s h)) hi2)) ?_
      (conv => whnf); repeat ((first | with_reducible refine CondG.tt ?_ | with_reducible refine CondG.ff ?_); conv => whnf)
      refine CallG.of (rest := [bookP 60 p a, own 27 ra a.length (leavesC a)]) (booked_step K hk _ (.right hK _) (.right hC' _) (.right hB _) o q rb (b, ds.map (·.2)) hb s2[i] hw2 hrb ds rfl (by omega)) (Ent.sel (T := []) (A := [_, _, _, _, _]) [0, 3, 4, 1, 2] rfl) ?_
      rintro _ _ ⟨rb1, ds2, hrb1, hds2, rfl, rfl⟩
      obtain ⟨hst3, hst4⟩ := stepB_ok K hb hw2
      generalize stepB K (b, ds.map (·.2)) s2[i] = x2 at *
      obtain ⟨b1, ps2⟩ := x2
      simp only at hrb1 hds2 hst4 ⊢
      subst hds2
      have hbb : BkOk (b1, ds2.map (·.2)) := hst3
      have hab : BkOk (a, ds2.map (·.2)) := ⟨ha.leaves, ha.len, hst3.paths⟩
      simp only [List.length_map] at hst4
      (conv => whnf); repeat ((first | with_reducible refine CondG.tt ?_ | with_reducible refine CondG.ff ?_); conv => whnf)
      refine CondG.ff ?_
      (conv => whnf); repeat ((first | with_reducible refine CondG.tt ?_ | with_reducible refine CondG.ff ?_); conv => whnf)
      refine ArithG.i64 (by omega) ?_
      (conv => whnf); repeat ((first | with_reducible refine CondG.tt ?_ | with_reducible refine CondG.ff ?_); conv => whnf)
      refine ⟨max s1.length s2.length - (i + 1), [(0, v1), (1, v2), (5, .pointer (some ⟨p, 0, none⟩)), (6, .pointer (some ⟨q, 0, none⟩)), (7, .pointer (some ⟨o, 0, none⟩)), (8, ra), (9, rb1), (11, .int .i64 ((i + 1 : Nat) : Int))], [keepP o ds2, bookP 60 p a, own 27 ra a.length (leavesC a), bookP 60 q b1, own 27 rb1 b1.length (leavesC b1)], by omega, ⟨rfl, rfl, rfl, rfl, rfl, rfl, rfl, rfl, trivial⟩, Ent.sel (T := []) (A := [_, _, _, _, _]) [0, 3, 4, 1, 2] rfl, i + 1, a, b1, ds2, ra, rb1, by omega, rfl, rfl, hab, hbb, by omega, hra, hrb1, rfl⟩
    · (conv => whnf); repeat ((first | with_reducible refine CondG.tt ?_ | with_reducible refine CondG.ff ?_); conv => whnf)
      refine LenG.sl hra ?_
      (conv => whnf); repeat ((first | with_reducible refine CondG.tt ?_ | with_reducible refine CondG.ff ?_); conv => whnf)
      have hrl := rootE_len K a a.length
      have hrl2 : (bvs (rootE K a a.length).1).length = 32 := by rw [bvs_len, hrl]
      refine CallG.of (rest := [keepP o ds, own 27 ra a.length (leavesC a), bookP 60 q b, own 27 rb b.length (leavesC b)]) (root_all K hk _ (.right hK _) p a.length a ha.len (fun l h => (ha.leaves l h).to)) (Ent.sel (T := []) (A := [_, _, _, _, _]) [1, 0, 2, 3, 4] rfl) ?_
      rintro _ _ ⟨rfl, rfl⟩
      (conv => whnf); repeat ((first | with_reducible refine CondG.tt ?_ | with_reducible refine CondG.ff ?_); conv => whnf)
      intro b12
      (conv => whnf); repeat ((first | with_reducible refine CondG.tt ?_ | with_reducible refine CondG.ff ?_); conv => whnf)
      refine StoreG.at hrl2 (Upd.whole (by rw [hrl2]; rfl) (bvs_one _)) ?_
      (conv => whnf); repeat ((first | with_reducible refine CondG.tt ?_ | with_reducible refine CondG.ff ?_); conv => whnf)
      refine LenG.sl hra ?_
      (conv => whnf); repeat ((first | with_reducible refine CondG.tt ?_ | with_reducible refine CondG.ff ?_); conv => whnf)
      refine CallG.pure (brootR_spec K hk _ (.right hC' _) (.right hB _) ra a a.length ha.len ha.leaves (.left (.tl (.tl (.tl (own_rd hra (leavesC_len fun l h => (ha.leaves l h).wf))))) F)) ?_
      rintro _ _ ⟨rfl, rfl⟩
      (conv => whnf); repeat ((first | with_reducible refine CondG.tt ?_ | with_reducible refine CondG.ff ?_); conv => whnf)
      intro b14
      (conv => whnf); repeat ((first | with_reducible refine CondG.tt ?_ | with_reducible refine CondG.ff ?_); conv => whnf)
      refine StoreG.at hrl2 (Upd.whole (by rw [hrl2]; rfl) (bvs_one _)) ?_
      (conv => whnf); repeat ((first | with_reducible refine CondG.tt ?_ | with_reducible refine CondG.ff ?_); conv => whnf)
      refine LoadNG.at (vs := bvs (rootE K a a.length).1) hrl2 (.tl .all) ?_
      (conv => whnf); repeat ((first | with_reducible refine CondG.tt ?_ | with_reducible refine CondG.ff ?_); conv => whnf)
      refine LoadNG.at (vs := bvs (rootE K a a.length).1) hrl2 .all ?_
      (conv => whnf); repeat ((first | with_reducible refine CondG.tt ?_ | with_reducible refine CondG.ff ?_); conv => whnf)
      refine DoesG.eqv 8 (List.replicate 32 (.int .u8)) (by kernel_rfl) (by decide) (by kernel_rfl) (by kernel_rfl) (wt_bvs hrl) (wt_bvs hrl) ?_
      (conv => whnf); repeat ((first | with_reducible refine CondG.tt ?_ | with_reducible refine CondG.ff ?_); conv => whnf)
      refine CondG.split (fun _ => ?_) (fun h => absurd h (by simp))
      (conv => whnf); repeat ((first | with_reducible refine CondG.tt ?_ | with_reducible refine CondG.ff ?_); conv => whnf)
      refine CondG.dec (fun _ => ?_) (fun h => absurd rfl h)
      (conv => whnf); repeat ((first | with_reducible refine CondG.tt ?_ | with_reducible refine CondG.ff ?_); conv => whnf)
      refine CallG.of (rest := [cel b14 25 (bvs (rootE K a a.length).1), cel b12 25 (bvs (rootE K a a.length).1), bookP 60 p a, keepP o ds, own 27 ra a.length (leavesC a), own 27 rb b.length (leavesC b)]) (lenP _ q b) (Ent.sel (T := []) (A := [_, _, _, _, _, _, _]) [5, 0, 1, 2, 3, 4, 6] rfl) ?_
      rintro _ _ ⟨rfl, rfl⟩
      (conv => whnf); repeat ((first | with_reducible refine CondG.tt ?_ | with_reducible refine CondG.ff ?_); conv => whnf)
      refine LenG.sl hrb ?_
      (conv => whnf); repeat ((first | with_reducible refine CondG.tt ?_ | with_reducible refine CondG.ff ?_); conv => whnf)
      refine CondG.dec (fun _ => ?_) (fun h => absurd rfl h)
      (conv => whnf); repeat ((first | with_reducible refine CondG.tt ?_ | with_reducible refine CondG.ff ?_); conv => whnf)
      refine CallG.of (rest := [bookP 60 q b, cel b14 25 (bvs (rootE K a a.length).1), cel b12 25 (bvs (rootE K a a.length).1), bookP 60 p a, own 27 ra a.length (leavesC a), own 27 rb b.length (leavesC b)]) (still_all _ o ds (by omega) (fun t ht => ha.paths t.2 (List.mem_map_of_mem ht))) (Ent.sel (T := []) (A := [_, _, _, _, _, _, _]) [4, 0, 1, 2, 3, 5, 6] rfl) ?_
      rintro _ L rfl
      (conv => whnf); repeat ((first | with_reducible refine CondG.tt ?_ | with_reducible refine CondG.ff ?_); conv => whnf)
      exact ret_here rfl
end
end Go.Proofs.YthdpknlnpeaiiaaDoor
