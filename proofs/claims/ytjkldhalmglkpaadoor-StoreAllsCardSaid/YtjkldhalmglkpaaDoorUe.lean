import Derived.Test.YtjkldhalmglkpaaDoorUc
import Derived.Test.YtjkldhalmglkpaaDoorSo
import Derived.Test.YtjkldhalmglkpaaDoorZMc
import Derived.Test.YtjkldhalmglkpaaDoorZTc
import Derived.Test.YtjkldhalmglkpaaDoorZCh
import Derived.Test.YtjkldhalmglkpaaDoorZAr
namespace Go.Proofs.YtjkldhalmglkpaaDoor
open Go Go.Sl Go.Sort
section
variable {K : List W32}
end
end Go.Proofs.YtjkldhalmglkpaaDoor
namespace Go.Proofs.YtjkldhalmglkpaaDoor
open Go Go.Sl Go.Sort
def PdRd (F : List HP) (l : List PairD) : Prop := ∀ d ∈ l, RdS F d.v d.bs.length (bvs d.bs)
theorem pairs_same (F : List HP) (va vb : Value) (l m : List PairD) (hn : l.length ≤ 4611686018427387904) (he : l.map PairD.e = m.map PairD.e) (hA : RdS F va l.length (pairsC l)) (hB : RdS F vb m.length (pairsC m)) (hra : PdRd F l) (hrb : PdRd F m) :
 SpecF Tryd.prog 15 [va, vb] F [] (fun r L => r = .bool true ∧ L = []) := by
 have hl : l.length = m.length := by
  have := congrArg List.length he
  simpa using this
 refine fun15.spec rfl ?_
 conv=>whnf
 refine LenG.rd hA ?_
 conv=>whnf
 refine LenG.rd hB ?_
 conv=>whnf
 refine CondG.ndec (fun h => absurd (by rw [hl]) h) (fun _ => ?_)
 conv=>whnf
 refine LoopG.mk (fun mm e L => ∃ q : Nat, q ≤ l.length ∧ mm = l.length - q ∧ e = [(0, va), (1, vb), (4, .bool false), (5, .int .i64 q)] ∧ L = []) l.length
  [(0, va), (1, vb), (4, .bool false), (5, .int .i64 0)] _ ⟨rfl, rfl, rfl, rfl, trivial⟩ (Ent.refl _) ⟨0, by omega, rfl, rfl, rfl⟩ ?_
 rintro mm e L ⟨q, hq, rfl, rfl, rfl⟩
 conv=>whnf
 refine LenG.rd hA ?_
 conv=>whnf
 refine CondG.dec (fun h1 => ?_) (fun h1 => ?_)
 ·have hql : q < l.length := by omega
  have hqm : q < m.length := by omega
  obtain ⟨d, hd⟩ : ∃ d, l[q]? = some d := ⟨l[q], List.getElem?_eq_getElem hql⟩
  obtain ⟨f, hf⟩ : ∃ f, m[q]? = some f := ⟨m[q], List.getElem?_eq_getElem hqm⟩
  obtain ⟨d0, d1⟩ := pairsC_get hd
  obtain ⟨f0, f1⟩ := pairsC_get hf
  have hdm := List.mem_of_getElem? hd
  have hfm := List.mem_of_getElem? hf
  obtain ⟨ek, eb⟩ : d.key = f.key ∧ d.bs = f.bs := by
   have h := congrArg (fun z => z[q]?) he
   simp only [List.getElem?_map, hd, hf, Option.map_some, Option.some.injEq, PairD.e, Prod.mk.injEq] at h
   exact h
  have e1 : (!decide (d.key = d.key)) = false := by simp
  have e2 : decide (strB d.bs = strB f.bs) = true := by rw [eb]; simp
  conv=>whnf
  refine DrawG.mk 25 [] [] (Ent.refl _) ?_
  conv=>whnf
  refine .take 0 ?_
  conv=>whnf
  refine ⟨rfl, ?_⟩
  conv=>whnf
  refine .take 1 ?_
  conv=>whnf
  refine ⟨rfl, ?_⟩
  conv=>whnf
  refine .take 2 ?_
  conv=>whnf
  refine ⟨rfl, ?_⟩
  conv=>whnf
  refine IdxG.rd hA (by omega) fun cb o hcc => ?_
  conv=>whnf
  refine .take 3 ?_
  conv=>whnf
  refine ⟨rfl, ?_⟩
  conv=>whnf
  refine .take 4 ?_
  conv=>whnf
  refine ⟨rfl, ?_⟩
  conv=>whnf
  refine LoadG.atF (hcc.one (i := q * 2) (u := (.string d.key)) d0) ?_
  clear hcc
  conv=>whnf
  refine .take 5 ?_
  conv=>whnf
  refine ⟨rfl, ?_⟩
  conv=>whnf
  refine .take 6 ?_
  conv=>whnf
  refine ⟨rfl, ?_⟩
  conv=>whnf
  refine .take 7 ?_
  conv=>whnf
  refine ⟨rfl, ?_⟩
  conv=>whnf
  refine IdxG.rd hB (by omega) fun cb o hcc => ?_
  conv=>whnf
  refine .take 8 ?_
  conv=>whnf
  refine ⟨rfl, ?_⟩
  conv=>whnf
  refine .take 9 ?_
  conv=>whnf
  refine ⟨rfl, ?_⟩
  conv=>whnf
  refine LoadG.atF (hcc.one (i := q * 2) (u := (.string f.key)) f0) ?_
  clear hcc
  conv=>whnf
  refine .take 10 ?_
  conv=>whnf
  refine ⟨rfl, ?_⟩
  conv=>whnf
  rw [← ek, e1]
  refine .take 11 ?_
  conv=>whnf
  refine ⟨rfl, ?_⟩
  conv=>whnf
  refine .take 12 ?_
  conv=>whnf
  refine ⟨rfl, ?_⟩
  (conv=>whnf);refine .ff ?_;(conv=>whnf)
  refine .take 13 ?_
  conv=>whnf
  refine ⟨rfl, ?_⟩
  (conv=>whnf);refine .ff ?_;(conv=>whnf)
  refine .take 14 ?_
  conv=>whnf
  refine ⟨rfl, ?_⟩
  (conv=>whnf);refine .ff ?_;(conv=>whnf)
  refine IdxG.rd hA (by omega) fun cb o hcc => ?_
  conv=>whnf
  refine .take 15 ?_
  conv=>whnf
  refine ⟨rfl, ?_⟩
  (conv=>whnf);refine .ff ?_;(conv=>whnf)
  refine .take 16 ?_
  conv=>whnf
  refine ⟨rfl, ?_⟩
  (conv=>whnf);refine .ff ?_;(conv=>whnf)
  refine LoadG.atF (hcc.one (i := q * 2 + 1) (u := d.v) d1) ?_
  clear hcc
  conv=>whnf
  refine .take 17 ?_
  conv=>whnf
  refine ⟨rfl, ?_⟩
  (conv=>whnf);refine .ff ?_;(conv=>whnf)
  refine .take 18 ?_
  conv=>whnf
  refine ⟨rfl, ?_⟩
  (conv=>whnf);refine .ff ?_;(conv=>whnf)
  refine .take 19 ?_
  conv=>whnf
  refine ⟨rfl, ?_⟩
  (conv=>whnf);refine .ff ?_;(conv=>whnf)
  refine IdxG.rd hB (by omega) fun cb o hcc => ?_
  conv=>whnf
  refine .take 20 ?_
  conv=>whnf
  refine ⟨rfl, ?_⟩
  (conv=>whnf);refine .ff ?_;(conv=>whnf)
  refine .take 21 ?_
  conv=>whnf
  refine ⟨rfl, ?_⟩
  (conv=>whnf);refine .ff ?_;(conv=>whnf)
  refine LoadG.atF (hcc.one (i := q * 2 + 1) (u := f.v) f1) ?_
  clear hcc
  conv=>whnf
  refine .all ?_
  conv=>whnf
  refine ⟨by decide, ?_⟩
  (conv=>whnf);refine .ff ?_;(conv=>whnf)
  refine CallG.pure (bytes_same _ d.v f.v d.bs f.bs (hra d hdm) (hrb f hfm)) ?_
  rintro _ _ ⟨rfl, rfl⟩
  rw [e2]
  conv=>whnf
  refine .take 23 ?_
  conv=>whnf
  refine ⟨rfl, ?_⟩
  (conv=>whnf);refine .ff ?_;(conv=>whnf)
  refine .take 24 ?_
  conv=>whnf
  refine ⟨rfl, ?_⟩
  (conv=>whnf);refine .ff ?_;(conv=>whnf)
  refine ⟨rfl, ?_⟩
  (conv=>whnf);refine .nff ?_;(conv=>whnf)
  refine ArithG.i64' ((q + 1 : Nat) : Int) (by omega) (by omega) ?_
  conv=>whnf
  exact ⟨l.length - (q + 1), [(0, va), (1, vb), (4, .bool false), (5, .int .i64 ((q + 1 : Nat) : Int))], _, by omega, ⟨rfl, rfl, rfl, rfl, trivial⟩, Ent.refl _, q + 1, by omega, rfl, rfl, rfl⟩
 ·conv=>whnf
  exact ret_here ⟨rfl, rfl⟩
section
variable {find : ByteArray → List Nat × Int}
end
section
variable {K : List W32} (hk : K.length = 64)
include hk
end
end Go.Proofs.YtjkldhalmglkpaaDoor
