/-
  A ledger law's steps as plain data. A library of this session's own.
-/
import Derived.Test.YtnbcbdlbejdkpaaDoorZLm
import Derived.Test.YtnbcbdlbejdkpaaDoorZBk
namespace Go.Sl
open Go
structure StepD where
  what : Int
  tok : Int
  a : List Nat
  b : List Nat
  c : List Nat
  amt : List Nat
structure StepD.wf (x : StepD) : Prop where
  w1 : -9223372036854775808 ≤ x.what
  w2 : x.what ≤ 9223372036854775807
  t1 : -9223372036854775808 ≤ x.tok
  t2 : x.tok ≤ 9223372036854775807
  a : adr x.a
  b : adr x.b
  c : adr x.c
  amt : wOk x.amt
def StepD.cells (x : StepD) : List Value := .int .i64 x.what :: .int .i64 x.tok :: (bvs x.a ++ (bvs x.b ++ (bvs x.c ++ uvs x.amt)))
theorem StepD.cells_len {x : StepD} (h : x.wf) : x.cells.length = 66 := by simp [StepD.cells, bvs_len, uvs_len, h.a.1, h.b.1, h.c.1, h.amt.len]
theorem StepD.cells_one (x : StepD) : ∀ u ∈ x.cells, u.oneCell' = true := by
  intro u hu
  simp only [StepD.cells, List.mem_cons, List.mem_append] at hu
  rcases hu with rfl | rfl | h | h | h | h
  · rfl
  · rfl
  · exact bvs_one _ u h
  · exact bvs_one _ u h
  · exact bvs_one _ u h
  · exact uvs_one _ u h
theorem StepD.a_at (x : StepD) : (x.cells.drop 2).take (bvs x.a).length = bvs x.a := by simp [StepD.cells]
theorem StepD.b_at {x : StepD} (h : x.wf) : (x.cells.drop 22).take (bvs x.b).length = bvs x.b := by
  have e : x.cells = (.int .i64 x.what :: .int .i64 x.tok :: bvs x.a) ++ (bvs x.b ++ (bvs x.c ++ uvs x.amt)) := by simp [StepD.cells]
  rw [e]
  exact take_drop_mid (by simp [bvs_len, h.a.1])
theorem StepD.c_at {x : StepD} (h : x.wf) : (x.cells.drop 42).take (bvs x.c).length = bvs x.c := by
  have e : x.cells = (.int .i64 x.what :: .int .i64 x.tok :: (bvs x.a ++ bvs x.b)) ++ (bvs x.c ++ uvs x.amt) := by simp [StepD.cells]
  rw [e]
  exact take_drop_mid (by simp [bvs_len, h.a.1, h.b.1])
theorem StepD.amt_at {x : StepD} (h : x.wf) : (x.cells.drop 62).take (uvs x.amt).length = uvs x.amt := by
  have e : x.cells = (.int .i64 x.what :: .int .i64 x.tok :: (bvs x.a ++ (bvs x.b ++ bvs x.c))) ++ (uvs x.amt ++ []) := by simp [StepD.cells]
  rw [e]
  exact take_drop_mid (by simp [bvs_len, h.a.1, h.b.1, h.c.1])
def stepK : List LK := .int .i64 :: .int .i64 :: (List.replicate 20 (.int .u8) ++ (List.replicate 20 (.int .u8) ++ (List.replicate 20 (.int .u8) ++ List.replicate 4 (.int .u64))))
theorem step_of {cs : List Value} (h : wtr stepK cs) : ∃ x : StepD, x.wf ∧ cs = x.cells := by
  unfold stepK at h
  obtain ⟨c1, cs1, rfl, ⟨w, rfl, h2⟩, h8⟩ := wtr_cons h
  obtain ⟨c2, cs2, rfl, ⟨t, rfl, h4⟩, h5⟩ := wtr_cons h8
  obtain ⟨h6, h7⟩ := wtr_append h5
  obtain ⟨h9, h10⟩ := wtr_append h7
  obtain ⟨h11, h12⟩ := wtr_append h10
  obtain ⟨la, a1, a2, a3⟩ := wtr_u8 h6
  obtain ⟨lb, b1, b2, b3⟩ := wtr_u8 h9
  obtain ⟨lc, k1, k2, k3⟩ := wtr_u8 h11
  obtain ⟨m, m1, m2, m3⟩ := wtr_u64 h12
  refine ⟨⟨w, t, la, lb, lc, m⟩, ⟨(i64_of_wf h2).1, (i64_of_wf h2).2, (i64_of_wf h4).1, (i64_of_wf h4).2, ⟨a1, a2⟩, ⟨b1, b2⟩, ⟨k1, k2⟩, ⟨m1, m2⟩⟩, ?_⟩
  rw [StepD.cells, ← a3, ← b3, ← k3, ← m3, List.take_append_drop, List.take_append_drop, List.take_append_drop]
/-- What a call told. -/
structure ToldD where
  code : Int
  tok : TokD
  amt : List Nat
  mark : Int
def ToldD.cells (x : ToldD) : List Value := .int .i64 x.code :: (x.tok.cells ++ (uvs x.amt ++ [.int .i64 x.mark]))
def told1 (e : Int) : ToldD := ⟨e, zTok, z4, 0⟩
theorem told1_cells (e : Int) : (told1 e).cells = [.int .i64 e, .bool false, .bool false, .int .u64 0, .int .u64 0, .int .u64 0, .int .u64 0, .int .u64 0, .int .u64 0, .int .u64 0, .int .u64 0, .int .i64 0] := rfl
def toldK : List LK := .int .i64 :: (tokK ++ (List.replicate 4 (.int .u64) ++ [.int .i64]))
theorem ToldD.wt {x : ToldD} (h1 : x.tok.sup.length = 4) (h2 : x.amt.length = 4) : Go.Sl.wt toldK x.cells := ⟨rfl, wt_join (TokD.wt h1) (wt_join (wt_uvs h2) ⟨rfl, trivial⟩)⟩
theorem ToldD.cells_one (x : ToldD) : ∀ u ∈ x.cells, u.oneCell' = true := by
  intro u hu
  simp only [ToldD.cells, List.mem_cons, List.mem_append, List.not_mem_nil, or_false] at hu
  rcases hu with rfl | h | h | rfl
  · rfl
  · exact TokD.cells_one _ u h
  · exact uvs_one _ u h
  · rfl
theorem ToldD.cells_len {x : ToldD} (h1 : x.tok.sup.length = 4) (h2 : x.amt.length = 4) : x.cells.length = 12 := by simp [ToldD.cells, TokD.cells_len h1, uvs_len, h2]
end Go.Sl
