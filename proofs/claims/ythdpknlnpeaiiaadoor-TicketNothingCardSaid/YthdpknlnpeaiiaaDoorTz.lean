/-
  TicketNothing: no state: each function of the tickets refuses.
-/
import Derived.Test.YthdpknlnpeaiiaaDoorTn
namespace Go.Proofs.YthdpknlnpeaiiaaDoor
open Go Go.Sl
theorem topen_nil (F : List HP) (cs : List Value) : SpecF Tryd.prog 42 [.pointer none, .agg ⟨cs⟩] F [] (fun v L => v = .tuple #[.int .i64 0, .int .i64 1] ∧ L = []) := by
  refine fun42.spec rfl ?_
  (conv => whnf); repeat ((first | with_reducible refine CondG.tt ?_ | with_reducible refine CondG.ff ?_); conv => whnf)
  intro b
  (conv => whnf); repeat ((first | with_reducible refine CondG.tt ?_ | with_reducible refine CondG.ff ?_); conv => whnf)
  exact ⟨[], Ent.nil _, rfl, rfl⟩
theorem tfind_nil (F : List HP) (x : Value) : SpecF Tryd.prog 43 [.pointer none, x] F [] (fun v L => v = .tuple #[.agg ⟨zeroT'.cells⟩, .int .i64 1] ∧ L = []) := by
  refine fun43.spec rfl ?_
  (conv => whnf); repeat ((first | with_reducible refine CondG.tt ?_ | with_reducible refine CondG.ff ?_); conv => whnf)
  intro b
  (conv => whnf); repeat ((first | with_reducible refine CondG.tt ?_ | with_reducible refine CondG.ff ?_); conv => whnf)
  refine BuildG.of rfl ?_
  (conv => whnf); repeat ((first | with_reducible refine CondG.tt ?_ | with_reducible refine CondG.ff ?_); conv => whnf)
  refine StoreG.at rfl (Upd.whole rfl (TicketD.cells_one zeroT')) ?_
  (conv => whnf); repeat ((first | with_reducible refine CondG.tt ?_ | with_reducible refine CondG.ff ?_); conv => whnf)
  refine LoadNG.at (vs := zeroT'.cells) rfl .all ?_
  (conv => whnf); repeat ((first | with_reducible refine CondG.tt ?_ | with_reducible refine CondG.ff ?_); conv => whnf)
  exact ⟨[], Ent.nil _, rfl, rfl⟩
theorem made_nil (F : List HP) : SpecF Tryd.prog 44 [.pointer none] F [] (fun v L => v = .tuple #[.int .i64 0, .int .i64 1] ∧ L = []) := by
  refine fun44.spec rfl ?_
  (conv => whnf); repeat ((first | with_reducible refine CondG.tt ?_ | with_reducible refine CondG.ff ?_); conv => whnf)
  exact ret_here ⟨rfl, rfl⟩
theorem retry_nil (F : List HP) (x : Value) : SpecF Tryd.prog 45 [.pointer none, x] F [] (fun v L => v = .int .i64 1 ∧ L = []) := by
  refine fun45.spec rfl ?_
  (conv => whnf); repeat ((first | with_reducible refine CondG.tt ?_ | with_reducible refine CondG.ff ?_); conv => whnf)
  refine CallG.pure (tfind_nil _ _) ?_
  rintro _ _ ⟨rfl, rfl⟩
  (conv => whnf); repeat ((first | with_reducible refine CondG.tt ?_ | with_reducible refine CondG.ff ?_); conv => whnf)
  intro b
  (conv => whnf); repeat ((first | with_reducible refine CondG.tt ?_ | with_reducible refine CondG.ff ?_); conv => whnf)
  refine StoreG.at rfl (Upd.whole rfl (TicketD.cells_one zeroT')) ?_
  (conv => whnf); repeat ((first | with_reducible refine CondG.tt ?_ | with_reducible refine CondG.ff ?_); conv => whnf)
  refine CondG.tt ?_
  (conv => whnf); repeat ((first | with_reducible refine CondG.tt ?_ | with_reducible refine CondG.ff ?_); conv => whnf)
  exact ⟨[], Ent.nil _, rfl, rfl⟩
theorem cancel_nil (F : List HP) (x : Value) (cs : List Value) : SpecF Tryd.prog 46 [.pointer none, x, .agg ⟨cs⟩] F [] (fun v L => v = .tuple #[.agg ⟨zeroT'.cells⟩, .int .i64 1] ∧ L = []) := by
  refine fun46.spec rfl ?_
  (conv => whnf); repeat ((first | with_reducible refine CondG.tt ?_ | with_reducible refine CondG.ff ?_); conv => whnf)
  intro b5
  (conv => whnf); repeat ((first | with_reducible refine CondG.tt ?_ | with_reducible refine CondG.ff ?_); conv => whnf)
  intro b6
  (conv => whnf); repeat ((first | with_reducible refine CondG.tt ?_ | with_reducible refine CondG.ff ?_); conv => whnf)
  refine CallG.pure (tfind_nil _ _) ?_
  rintro _ _ ⟨rfl, rfl⟩
  (conv => whnf); repeat ((first | with_reducible refine CondG.tt ?_ | with_reducible refine CondG.ff ?_); conv => whnf)
  intro b8
  (conv => whnf); repeat ((first | with_reducible refine CondG.tt ?_ | with_reducible refine CondG.ff ?_); conv => whnf)
  refine StoreG.at rfl (Upd.whole rfl (TicketD.cells_one zeroT')) ?_
  (conv => whnf); repeat ((first | with_reducible refine CondG.tt ?_ | with_reducible refine CondG.ff ?_); conv => whnf)
  refine CondG.tt ?_
  (conv => whnf); repeat ((first | with_reducible refine CondG.tt ?_ | with_reducible refine CondG.ff ?_); conv => whnf)
  refine BuildG.of rfl ?_
  (conv => whnf); repeat ((first | with_reducible refine CondG.tt ?_ | with_reducible refine CondG.ff ?_); conv => whnf)
  refine StoreG.at rfl (Upd.tl (Upd.whole rfl (TicketD.cells_one zeroT'))) ?_
  (conv => whnf); repeat ((first | with_reducible refine CondG.tt ?_ | with_reducible refine CondG.ff ?_); conv => whnf)
  refine LoadNG.at (vs := zeroT'.cells) rfl (.tl .all) ?_
  (conv => whnf); repeat ((first | with_reducible refine CondG.tt ?_ | with_reducible refine CondG.ff ?_); conv => whnf)
  exact ⟨[], Ent.nil _, rfl, rfl⟩
theorem tnothing_spec (F : List HP) (cs : List Value) (hc : cs.length = 49) : SpecF Tryd.prog 10 [.agg ⟨cs⟩] F [] (fun v _ => v = .bool true) := by
  have zw : zeroT'.wf := ⟨rfl, rfl, rfl⟩
  have h1 : cs[1]? = some (cs[1]'(by omega)) := List.getElem?_eq_getElem _
  have t1 : ((cs.drop 2).take 47).length = 47 := by simp [hc]
  have t2 : (cs.drop 2).take ((cs.drop 2).take 47).length = (cs.drop 2).take 47 := by rw [t1]
  have t3 : ((cs.drop 4).take 20).length = 20 := by simp [hc]
  have t4 : (cs.drop 4).take ((cs.drop 4).take 20).length = (cs.drop 4).take 20 := by rw [t3]
  refine fun10.spec rfl ?_
  (conv => whnf); repeat ((first | with_reducible refine CondG.tt ?_ | with_reducible refine CondG.ff ?_); conv => whnf)
  intro b
  (conv => whnf); repeat ((first | with_reducible refine CondG.tt ?_ | with_reducible refine CondG.ff ?_); conv => whnf)
  refine LoadNG.at (vs := (cs.drop 2).take 47) t1 (CelN.here t2) ?_
  (conv => whnf); repeat ((first | with_reducible refine CondG.tt ?_ | with_reducible refine CondG.ff ?_); conv => whnf)
  refine CallG.pure (topen_nil _ _) ?_
  rintro _ _ ⟨rfl, rfl⟩
  (conv => whnf); repeat ((first | with_reducible refine CondG.tt ?_ | with_reducible refine CondG.ff ?_); conv => whnf)
  refine LoadG.at (.here h1) ?_
  (conv => whnf); repeat ((first | with_reducible refine CondG.tt ?_ | with_reducible refine CondG.ff ?_); conv => whnf)
  refine CallG.pure (tfind_nil _ _) ?_
  rintro _ _ ⟨rfl, rfl⟩
  (conv => whnf); repeat ((first | with_reducible refine CondG.tt ?_ | with_reducible refine CondG.ff ?_); conv => whnf)
  intro b5
  (conv => whnf); repeat ((first | with_reducible refine CondG.tt ?_ | with_reducible refine CondG.ff ?_); conv => whnf)
  refine StoreG.at rfl (Upd.whole rfl (TicketD.cells_one zeroT')) ?_
  (conv => whnf); repeat ((first | with_reducible refine CondG.tt ?_ | with_reducible refine CondG.ff ?_); conv => whnf)
  refine CallG.pure (made_nil _) ?_
  rintro _ _ ⟨rfl, rfl⟩
  (conv => whnf); repeat ((first | with_reducible refine CondG.tt ?_ | with_reducible refine CondG.ff ?_); conv => whnf)
  refine LoadG.at (.tl (.here h1)) ?_
  (conv => whnf); repeat ((first | with_reducible refine CondG.tt ?_ | with_reducible refine CondG.ff ?_); conv => whnf)
  refine CallG.pure (retry_nil _ _) ?_
  rintro _ _ ⟨rfl, rfl⟩
  (conv => whnf); repeat ((first | with_reducible refine CondG.tt ?_ | with_reducible refine CondG.ff ?_); conv => whnf)
  refine LoadG.at (.tl (.here h1)) ?_
  (conv => whnf); repeat ((first | with_reducible refine CondG.tt ?_ | with_reducible refine CondG.ff ?_); conv => whnf)
  refine LoadNG.at (vs := (cs.drop 4).take 20) t3 (.tl (CelN.here t4)) ?_
  (conv => whnf); repeat ((first | with_reducible refine CondG.tt ?_ | with_reducible refine CondG.ff ?_); conv => whnf)
  refine CallG.pure (cancel_nil _ _ _) ?_
  rintro _ _ ⟨rfl, rfl⟩
  (conv => whnf); repeat ((first | with_reducible refine CondG.tt ?_ | with_reducible refine CondG.ff ?_); conv => whnf)
  intro b10
  (conv => whnf); repeat ((first | with_reducible refine CondG.tt ?_ | with_reducible refine CondG.ff ?_); conv => whnf)
  refine StoreG.at rfl (Upd.whole rfl (TicketD.cells_one zeroT')) ?_
  (conv => whnf); repeat ((first | with_reducible refine CondG.tt ?_ | with_reducible refine CondG.ff ?_); conv => whnf)
  refine CondG.tt ?_
  (conv => whnf); repeat ((first | with_reducible refine CondG.tt ?_ | with_reducible refine CondG.ff ?_); conv => whnf)
  refine CondG.tt ?_
  (conv => whnf); repeat ((first | with_reducible refine CondG.tt ?_ | with_reducible refine CondG.ff ?_); conv => whnf)
  refine LoadNG.at (vs := zeroT'.cells) rfl (.tl .all) ?_
  (conv => whnf); repeat ((first | with_reducible refine CondG.tt ?_ | with_reducible refine CondG.ff ?_); conv => whnf)
  refine BuildG.of rfl ?_
  (conv => whnf); repeat ((first | with_reducible refine CondG.tt ?_ | with_reducible refine CondG.ff ?_); conv => whnf)
  refine DoesG.eqv 8 tickK (by kernel_rfl) (by decide) (by kernel_rfl) (by kernel_rfl) (TicketD.wt zw) (TicketD.wt zw) ?_
  (conv => whnf); repeat ((first | with_reducible refine CondG.tt ?_ | with_reducible refine CondG.ff ?_); conv => whnf)
  refine CondG.split (fun _ => ?_) (fun h => absurd h (by simp [TicketD.cells, zeroT', bvs, uvs, bv, uv]))
  (conv => whnf); repeat ((first | with_reducible refine CondG.tt ?_ | with_reducible refine CondG.ff ?_); conv => whnf)
  refine LoadNG.at (vs := zeroT'.cells) rfl .all ?_
  (conv => whnf); repeat ((first | with_reducible refine CondG.tt ?_ | with_reducible refine CondG.ff ?_); conv => whnf)
  refine BuildG.of rfl ?_
  (conv => whnf); repeat ((first | with_reducible refine CondG.tt ?_ | with_reducible refine CondG.ff ?_); conv => whnf)
  refine DoesG.eqv 8 tickK (by kernel_rfl) (by decide) (by kernel_rfl) (by kernel_rfl) (TicketD.wt zw) (TicketD.wt zw) ?_
  (conv => whnf); repeat ((first | with_reducible refine CondG.tt ?_ | with_reducible refine CondG.ff ?_); conv => whnf)
  refine CondG.split (fun _ => ?_) (fun h => absurd h (by simp [TicketD.cells, zeroT', bvs, uvs, bv, uv]))
  (conv => whnf); repeat ((first | with_reducible refine CondG.tt ?_ | with_reducible refine CondG.ff ?_); conv => whnf)
  refine CondG.tt ?_
  (conv => whnf); repeat ((first | with_reducible refine CondG.tt ?_ | with_reducible refine CondG.ff ?_); conv => whnf)
  refine CondG.tt ?_
  (conv => whnf); repeat ((first | with_reducible refine CondG.tt ?_ | with_reducible refine CondG.ff ?_); conv => whnf)
  refine CondG.tt ?_
  (conv => whnf); repeat ((first | with_reducible refine CondG.tt ?_ | with_reducible refine CondG.ff ?_); conv => whnf)
  refine CondG.tt ?_
  (conv => whnf); repeat ((first | with_reducible refine CondG.tt ?_ | with_reducible refine CondG.ff ?_); conv => whnf)
  refine CondG.tt ?_
  (conv => whnf); repeat ((first | with_reducible refine CondG.tt ?_ | with_reducible refine CondG.ff ?_); conv => whnf)
  refine CallG.pure (tknown_spec _) ?_
  rintro _ _ rfl
  (conv => whnf); repeat ((first | with_reducible refine CondG.tt ?_ | with_reducible refine CondG.ff ?_); conv => whnf)
  exact ret_here rfl
end Go.Proofs.YthdpknlnpeaiiaaDoor
