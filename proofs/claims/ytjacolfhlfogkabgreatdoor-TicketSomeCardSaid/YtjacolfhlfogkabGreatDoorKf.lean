import Derived.Test.YtjacolfhlfogkabGreatDoorRm
import Derived.Test.YtjacolfhlfogkabGreatDoorGp
import Derived.Test.YtjacolfhlfogkabGreatDoorSd
import Derived.Test.YtjacolfhlfogkabGreatDoorZSr
import Derived.Test.YtjacolfhlfogkabGreatDoorZMb
import Derived.Test.YtjacolfhlfogkabGreatDoorR7
import Derived.Test.YtjacolfhlfogkabGreatDoorKa
import Derived.Test.YtjacolfhlfogkabGreatDoorZPa
import Derived.Test.YtjacolfhlfogkabGreatDoorZKp
namespace Go.Proofs.YtjacolfhlfogkabGreatDoor
open Go Go.Sl Go.Sort
def ChRd (F : List HP) (l : List ChD) : Prop := ∀ d ∈ l, RdS F d.ov d.old.length (bvs d.old) ∧ RdS F d.nv d.new.length (bvs d.new)
theorem chC_len (l : List ChD) : (l.flatMap ChD.cells).length = l.length * 3 := flat_len fun _ _ => rfl
theorem chC_at {l : List ChD} {i : Nat} {d : ChD} (h : l[i]? = some d) : (l.flatMap ChD.cells)[i * 3]? = some (.string d.key) ∧ (l.flatMap ChD.cells)[i * 3 + 1]? = some d.ov ∧ (l.flatMap ChD.cells)[i * 3 + 2]? = some d.nv := by
 obtain ⟨h1, rfl⟩ := List.getElem?_eq_some_iff.1 h
 have h2 : ((l.flatMap ChD.cells).drop (i * 3)).take 3 = l[i].cells := flat_get (cells := ChD.cells) (sz := 3) (fun _ _ => rfl) h1
 have h3 : ∀ j, j < 3 → (l.flatMap ChD.cells)[i * 3 + j]? = (l[i].cells)[j]? := fun j hj => by
  rw [← h2, List.getElem?_take, if_pos hj, List.getElem?_drop]
 exact ⟨h3 0 (by decide), h3 1 (by decide), h3 2 (by decide)⟩
theorem keys9_same (F : List HP) (a b : Value) (ks : List ByteArray) (ha : RdS F a ks.length (keysB ks)) (hb : RdS F b ks.length (keysB ks)) (hl : ks.length ≤ 4611686018427387904) : SpecF Tryz.prog 11 [a, b] F [] (fun r L => r = .bool true ∧ L = []) := by
 have kB : ∀ i (h : i < ks.length), (keysB ks)[((i : Nat) : Int).toNat * 1]? = some (.string ks[i]) := fun i h => by rw [keysB, Int.toNat_natCast, Nat.mul_one, List.getElem?_map, List.getElem?_eq_getElem h]; rfl
 refine fun11.spec rfl ?_
 conv=>whnf
 refine LenG.rd ha ?_
 conv=>whnf
 refine LenG.rd hb ?_
 conv=>whnf
 refine CondG.ndec (fun h => absurd rfl h) (fun _ => ?_)
 conv=>whnf
 refine LoopG.mk (fun mm e L => ∃ q : Nat, q ≤ ks.length ∧ mm = ks.length - q ∧ e = [(0, a), (1, b), (4, .bool false), (5, .int .i64 q)] ∧ L = []) ks.length
  [(0, a), (1, b), (4, .bool false), (5, .int .i64 0)] _ ⟨rfl, rfl, rfl, rfl, trivial⟩ (Ent.refl _) ⟨0, by omega, rfl, rfl, rfl⟩ ?_
 rintro mm e L ⟨q, hq, rfl, rfl, rfl⟩
 conv=>whnf
 refine LenG.rd ha ?_
 conv=>whnf
 refine CondG.dec (fun h1 => ?_) (fun h1 => ?_)
 ·have hql : q < ks.length := by omega
  conv=>whnf
  refine DrawG.mk 9 [] [] (Ent.refl _) ?_
  conv=>whnf
  refine .take 0 ?_
  conv=>whnf
  refine ⟨rfl, ?_⟩
  conv=>whnf
  refine .take 1 ?_
  conv=>whnf
  refine ⟨rfl, ?_⟩
  conv=>whnf
  refine .take 2 ?_
  conv=>whnf
  refine ⟨rfl, ?_⟩
  conv=>whnf
  refine IdxG.rd ha (by omega) fun c o hc => ?_
  conv=>whnf
  refine .take 3 ?_
  conv=>whnf
  refine ⟨rfl, ?_⟩
  conv=>whnf
  refine LoadG.atF (hc.one (kB q hql)) ?_
  conv=>whnf
  refine .take 4 ?_
  conv=>whnf
  refine ⟨rfl, ?_⟩
  conv=>whnf
  refine .take 5 ?_
  conv=>whnf
  refine ⟨rfl, ?_⟩
  conv=>whnf
  refine .take 6 ?_
  conv=>whnf
  refine ⟨rfl, ?_⟩
  conv=>whnf
  refine IdxG.rd hb (by omega) fun c o hc => ?_
  conv=>whnf
  refine .take 7 ?_
  conv=>whnf
  refine ⟨rfl, ?_⟩
  conv=>whnf
  refine LoadG.atF (hc.one (kB q hql)) ?_
  conv=>whnf
  refine .take 8 ?_
  conv=>whnf
  refine ⟨rfl, ?_⟩
  conv=>whnf
  refine ⟨rfl, ?_⟩
  conv=>whnf
  refine CondG.ndec (fun h => absurd rfl h) (fun _ => ?_)
  conv=>whnf
  refine ArithG.i64' ((q + 1 : Nat) : Int) (by omega) (by omega) ?_
  conv=>whnf
  exact ⟨ks.length - (q + 1), [(0, a), (1, b), (4, .bool false), (5, .int .i64 ((q + 1 : Nat) : Int))], _, by omega, ⟨rfl, rfl, rfl, rfl, trivial⟩, Ent.refl _, q + 1, by omega, rfl, rfl, rfl⟩
 ·conv=>whnf
  exact ret_here ⟨rfl, rfl⟩
theorem changes9_same (F : List HP) (va vb : Value) (l m : List ChD) (hn : l.length ≤ 4611686018427387904) (he : l.map (fun d => (d.key, d.old, d.new)) = m.map (fun d => (d.key, d.old, d.new))) (hA : RdS F va l.length (l.flatMap ChD.cells)) (hB : RdS F vb m.length (m.flatMap ChD.cells)) (hra : ChRd F l) (hrb : ChRd F m) :
 SpecF Tryz.prog 14 [va, vb] F [] (fun r L => r = .bool true ∧ L = []) := by
 have hl : l.length = m.length := by
  have := congrArg List.length he
  simpa using this
 refine fun14.spec rfl ?_
 conv=>whnf
 refine LenG.rd hA ?_
 conv=>whnf
 refine LenG.rd hB ?_
 conv=>whnf
 refine CondG.ndec (fun h => absurd (by rw [hl]) h) (fun _ => ?_)
 conv=>whnf
 refine LoopG.mk (fun mm e L => ∃ q : Nat, q ≤ l.length ∧ mm = l.length - q ∧ e = [(0, va), (1, vb), (4, .bool false), (5, .int .i64 q)] ∧ L = []) l.length
  [(0, va), (1, vb), (4, .bool false), (5, .int .i64 0)] _ ⟨rfl, rfl, rfl, rfl, trivial⟩ (Ent.refl _) ⟨0, by omega, rfl, rfl, rfl⟩ ?_
 rintro mm e L ⟨q, hq, rfl, rfl, rfl⟩
 conv=>whnf
 refine LenG.rd hA ?_
 conv=>whnf
 refine CondG.dec (fun h1 => ?_) (fun h1 => ?_)
 ·have hql : q < l.length := by omega
  have hqm : q < m.length := by omega
  obtain ⟨d, hd⟩ : ∃ d, l[q]? = some d := ⟨l[q], List.getElem?_eq_getElem hql⟩
  obtain ⟨f, hf⟩ : ∃ f, m[q]? = some f := ⟨m[q], List.getElem?_eq_getElem hqm⟩
  obtain ⟨d0, d1, d2⟩ := chC_at hd
  obtain ⟨f0, f1, f2⟩ := chC_at hf
  have hdm := List.mem_of_getElem? hd
  have hfm := List.mem_of_getElem? hf
  obtain ⟨ek, eo, en⟩ : d.key = f.key ∧ d.old = f.old ∧ d.new = f.new := by
   have h := congrArg (fun z => z[q]?) he
   simp only [List.getElem?_map, hd, hf, Option.map_some, Option.some.injEq, Prod.mk.injEq] at h
   exact h
  have e1 : (!decide (d.key = d.key)) = false := by simp
  have e2 : (!decide (strB d.old = strB f.old)) = false := by rw [eo]; simp
  have e3 : (!decide (strB d.new = strB f.new)) = false := by rw [en]; simp
  conv=>whnf
  refine DrawG.mk 41 [] [] (Ent.refl _) ?_
  conv=>whnf
  refine .take 0 ?_
  conv=>whnf
  refine ⟨rfl, ?_⟩
  conv=>whnf
  refine .take 1 ?_
  conv=>whnf
  refine ⟨rfl, ?_⟩
  conv=>whnf
  refine .take 2 ?_
  conv=>whnf
  refine ⟨rfl, ?_⟩
  conv=>whnf
  refine IdxG.rd hA (by omega) fun cb o hcc => ?_
  conv=>whnf
  refine .take 3 ?_
  conv=>whnf
  refine ⟨rfl, ?_⟩
  conv=>whnf
  refine .take 4 ?_
  conv=>whnf
  refine ⟨rfl, ?_⟩
  conv=>whnf
  refine LoadG.atF (hcc.one (i := q * 3) (u := (.string d.key)) d0) ?_
  clear hcc
  conv=>whnf
  refine .take 5 ?_
  conv=>whnf
  refine ⟨rfl, ?_⟩
  conv=>whnf
  refine .take 6 ?_
  conv=>whnf
  refine ⟨rfl, ?_⟩
  conv=>whnf
  refine .take 7 ?_
  conv=>whnf
  refine ⟨rfl, ?_⟩
  conv=>whnf
  refine IdxG.rd hB (by omega) fun cb o hcc => ?_
  conv=>whnf
  refine .take 8 ?_
  conv=>whnf
  refine ⟨rfl, ?_⟩
  conv=>whnf
  refine .take 9 ?_
  conv=>whnf
  refine ⟨rfl, ?_⟩
  conv=>whnf
  refine LoadG.atF (hcc.one (i := q * 3) (u := (.string f.key)) f0) ?_
  clear hcc
  conv=>whnf
  refine .take 10 ?_
  conv=>whnf
  refine ⟨rfl, ?_⟩
  conv=>whnf
  rw [← ek, e1]
  refine .take 11 ?_
  conv=>whnf
  refine ⟨rfl, ?_⟩
  conv=>whnf
  refine .take 12 ?_
  conv=>whnf
  refine ⟨rfl, ?_⟩
  (conv=>whnf);refine .ff ?_;(conv=>whnf)
  refine .take 13 ?_
  conv=>whnf
  refine ⟨rfl, ?_⟩
  (conv=>whnf);refine .ff ?_;(conv=>whnf)
  refine .take 14 ?_
  conv=>whnf
  refine ⟨rfl, ?_⟩
  (conv=>whnf);refine .ff ?_;(conv=>whnf)
  refine IdxG.rd hA (by omega) fun cb o hcc => ?_
  conv=>whnf
  refine .take 15 ?_
  conv=>whnf
  refine ⟨rfl, ?_⟩
  (conv=>whnf);refine .ff ?_;(conv=>whnf)
  refine .take 16 ?_
  conv=>whnf
  refine ⟨rfl, ?_⟩
  (conv=>whnf);refine .ff ?_;(conv=>whnf)
  refine LoadG.atF (hcc.one (i := q * 3 + 1) (u := d.ov) d1) ?_
  clear hcc
  conv=>whnf
  refine .take 18 ?_
  conv=>whnf
  refine ⟨rfl, ?_⟩
  (conv=>whnf);refine .ff ?_;(conv=>whnf)
  refine .take 19 ?_
  conv=>whnf
  refine ⟨rfl, ?_⟩
  (conv=>whnf);refine .ff ?_;(conv=>whnf)
  refine .take 20 ?_
  conv=>whnf
  refine ⟨rfl, ?_⟩
  (conv=>whnf);refine .ff ?_;(conv=>whnf)
  refine IdxG.rd hB (by omega) fun cb o hcc => ?_
  conv=>whnf
  refine .take 21 ?_
  conv=>whnf
  refine ⟨rfl, ?_⟩
  (conv=>whnf);refine .ff ?_;(conv=>whnf)
  refine .take 22 ?_
  conv=>whnf
  refine ⟨rfl, ?_⟩
  (conv=>whnf);refine .ff ?_;(conv=>whnf)
  refine LoadG.atF (hcc.one (i := q * 3 + 1) (u := f.ov) f1) ?_
  clear hcc
  conv=>whnf
  refine .all ?_
  conv=>whnf
  refine ⟨by decide, ?_, ?_⟩
  ·(conv=>whnf);refine .ff ?_;(conv=>whnf)
   refine DoesG.toStr (e := 5) (bs := d.old) (by kernel_rfl) (by kernel_rfl) (by kernel_rfl) (((hra d hdm).1.right []).right _) rfl ?_
   conv=>whnf
   refine .all ?_
   conv=>whnf
   refine ⟨by decide, ?_⟩
   (conv=>whnf);refine .ff ?_;(conv=>whnf)
   refine DoesG.toStr (e := 5) (bs := f.old) (by kernel_rfl) (by kernel_rfl) (by kernel_rfl) (((hrb f hfm).1.right []).right _) rfl ?_
   conv=>whnf
   refine .take 24 ?_
   conv=>whnf
   refine ⟨rfl, ?_⟩
   (conv=>whnf);refine .ff ?_;(conv=>whnf)
   rw [e2]
   conv=>whnf
   refine .take 25 ?_
   conv=>whnf
   refine ⟨rfl, ?_⟩
   (conv=>whnf);refine .ff ?_;(conv=>whnf)
   refine .take 26 ?_
   conv=>whnf
   refine ⟨rfl, ?_⟩
   conv=>whnf
   refine .take 27 ?_
   conv=>whnf
   refine ⟨rfl, ?_⟩
   (conv=>whnf);refine .ff ?_;(conv=>whnf)
   refine .take 28 ?_
   conv=>whnf
   refine ⟨rfl, ?_⟩
   (conv=>whnf);refine .ff ?_;(conv=>whnf)
   refine .take 29 ?_
   conv=>whnf
   refine ⟨rfl, ?_⟩
   (conv=>whnf);refine .ff ?_;(conv=>whnf)
   refine IdxG.rd hA (by omega) fun cb o hcc => ?_
   conv=>whnf
   refine .take 30 ?_
   conv=>whnf
   refine ⟨rfl, ?_⟩
   (conv=>whnf);refine .ff ?_;(conv=>whnf)
   refine .take 31 ?_
   conv=>whnf
   refine ⟨rfl, ?_⟩
   (conv=>whnf);refine .ff ?_;(conv=>whnf)
   refine LoadG.atF (hcc.one (i := q * 3 + 2) (u := d.nv) d2) ?_
   clear hcc
   conv=>whnf
   refine .take 33 ?_
   conv=>whnf
   refine ⟨rfl, ?_⟩
   (conv=>whnf);refine .ff ?_;(conv=>whnf)
   refine .take 34 ?_
   conv=>whnf
   refine ⟨rfl, ?_⟩
   (conv=>whnf);refine .ff ?_;(conv=>whnf)
   refine .take 35 ?_
   conv=>whnf
   refine ⟨rfl, ?_⟩
   (conv=>whnf);refine .ff ?_;(conv=>whnf)
   refine IdxG.rd hB (by omega) fun cb o hcc => ?_
   conv=>whnf
   refine .take 36 ?_
   conv=>whnf
   refine ⟨rfl, ?_⟩
   (conv=>whnf);refine .ff ?_;(conv=>whnf)
   refine .take 37 ?_
   conv=>whnf
   refine ⟨rfl, ?_⟩
   (conv=>whnf);refine .ff ?_;(conv=>whnf)
   refine LoadG.atF (hcc.one (i := q * 3 + 2) (u := f.nv) f2) ?_
   clear hcc
   conv=>whnf
   refine .all ?_
   conv=>whnf
   refine ⟨by decide, ?_, ?_⟩
   ·(conv=>whnf);refine .ff ?_;(conv=>whnf)
    refine DoesG.toStr (e := 5) (bs := d.new) (by kernel_rfl) (by kernel_rfl) (by kernel_rfl) (((hra d hdm).2.right []).right _) rfl ?_
    conv=>whnf
    refine .all ?_
    conv=>whnf
    refine ⟨by decide, ?_⟩
    (conv=>whnf);refine .ff ?_;(conv=>whnf)
    refine DoesG.toStr (e := 5) (bs := f.new) (by kernel_rfl) (by kernel_rfl) (by kernel_rfl) (((hrb f hfm).2.right []).right _) rfl ?_
    conv=>whnf
    refine .take 39 ?_
    conv=>whnf
    refine ⟨rfl, ?_⟩
    (conv=>whnf);refine .ff ?_;(conv=>whnf)
    rw [e3]
    conv=>whnf
    refine .take 40 ?_
    conv=>whnf
    refine ⟨rfl, ?_⟩
    (conv=>whnf);refine .ff ?_;(conv=>whnf)
    refine ⟨rfl, ?_⟩
    (conv=>whnf);refine .ff ?_;(conv=>whnf)
    refine ArithG.i64' ((q + 1 : Nat) : Int) (by omega) (by omega) ?_
    conv=>whnf
    exact ⟨l.length - (q + 1), [(0, va), (1, vb), (4, .bool false), (5, .int .i64 ((q + 1 : Nat) : Int))], _, by omega, ⟨rfl, rfl, rfl, rfl, trivial⟩, Ent.refl _, q + 1, by omega, rfl, rfl, rfl⟩
   ·(conv=>whnf);refine .ff ?_;(conv=>whnf)
    refine DoesG.toStr (e := 5) (bs := f.new) (by kernel_rfl) (by kernel_rfl) (by kernel_rfl) (((hrb f hfm).2.right []).right _) rfl ?_
    conv=>whnf
    refine .all ?_
    conv=>whnf
    refine ⟨by decide, ?_⟩
    (conv=>whnf);refine .ff ?_;(conv=>whnf)
    refine DoesG.toStr (e := 5) (bs := d.new) (by kernel_rfl) (by kernel_rfl) (by kernel_rfl) (((hra d hdm).2.right []).right _) rfl ?_
    conv=>whnf
    refine .take 39 ?_
    conv=>whnf
    refine ⟨rfl, ?_⟩
    (conv=>whnf);refine .ff ?_;(conv=>whnf)
    rw [e3]
    conv=>whnf
    refine .take 40 ?_
    conv=>whnf
    refine ⟨rfl, ?_⟩
    (conv=>whnf);refine .ff ?_;(conv=>whnf)
    refine ⟨rfl, ?_⟩
    (conv=>whnf);refine .ff ?_;(conv=>whnf)
    refine ArithG.i64' ((q + 1 : Nat) : Int) (by omega) (by omega) ?_
    conv=>whnf
    exact ⟨l.length - (q + 1), [(0, va), (1, vb), (4, .bool false), (5, .int .i64 ((q + 1 : Nat) : Int))], _, by omega, ⟨rfl, rfl, rfl, rfl, trivial⟩, Ent.refl _, q + 1, by omega, rfl, rfl, rfl⟩
  ·(conv=>whnf);refine .ff ?_;(conv=>whnf)
   refine DoesG.toStr (e := 5) (bs := f.old) (by kernel_rfl) (by kernel_rfl) (by kernel_rfl) (((hrb f hfm).1.right []).right _) rfl ?_
   conv=>whnf
   refine .all ?_
   conv=>whnf
   refine ⟨by decide, ?_⟩
   (conv=>whnf);refine .ff ?_;(conv=>whnf)
   refine DoesG.toStr (e := 5) (bs := d.old) (by kernel_rfl) (by kernel_rfl) (by kernel_rfl) (((hra d hdm).1.right []).right _) rfl ?_
   conv=>whnf
   refine .take 24 ?_
   conv=>whnf
   refine ⟨rfl, ?_⟩
   (conv=>whnf);refine .ff ?_;(conv=>whnf)
   rw [e2]
   conv=>whnf
   refine .take 25 ?_
   conv=>whnf
   refine ⟨rfl, ?_⟩
   (conv=>whnf);refine .ff ?_;(conv=>whnf)
   refine .take 26 ?_
   conv=>whnf
   refine ⟨rfl, ?_⟩
   conv=>whnf
   refine .take 27 ?_
   conv=>whnf
   refine ⟨rfl, ?_⟩
   (conv=>whnf);refine .ff ?_;(conv=>whnf)
   refine .take 28 ?_
   conv=>whnf
   refine ⟨rfl, ?_⟩
   (conv=>whnf);refine .ff ?_;(conv=>whnf)
   refine .take 29 ?_
   conv=>whnf
   refine ⟨rfl, ?_⟩
   (conv=>whnf);refine .ff ?_;(conv=>whnf)
   refine IdxG.rd hA (by omega) fun cb o hcc => ?_
   conv=>whnf
   refine .take 30 ?_
   conv=>whnf
   refine ⟨rfl, ?_⟩
   (conv=>whnf);refine .ff ?_;(conv=>whnf)
   refine .take 31 ?_
   conv=>whnf
   refine ⟨rfl, ?_⟩
   (conv=>whnf);refine .ff ?_;(conv=>whnf)
   refine LoadG.atF (hcc.one (i := q * 3 + 2) (u := d.nv) d2) ?_
   clear hcc
   conv=>whnf
   refine .take 33 ?_
   conv=>whnf
   refine ⟨rfl, ?_⟩
   (conv=>whnf);refine .ff ?_;(conv=>whnf)
   refine .take 34 ?_
   conv=>whnf
   refine ⟨rfl, ?_⟩
   (conv=>whnf);refine .ff ?_;(conv=>whnf)
   refine .take 35 ?_
   conv=>whnf
   refine ⟨rfl, ?_⟩
   (conv=>whnf);refine .ff ?_;(conv=>whnf)
   refine IdxG.rd hB (by omega) fun cb o hcc => ?_
   conv=>whnf
   refine .take 36 ?_
   conv=>whnf
   refine ⟨rfl, ?_⟩
   (conv=>whnf);refine .ff ?_;(conv=>whnf)
   refine .take 37 ?_
   conv=>whnf
   refine ⟨rfl, ?_⟩
   (conv=>whnf);refine .ff ?_;(conv=>whnf)
   refine LoadG.atF (hcc.one (i := q * 3 + 2) (u := f.nv) f2) ?_
   clear hcc
   conv=>whnf
   refine .all ?_
   conv=>whnf
   refine ⟨by decide, ?_, ?_⟩
   ·(conv=>whnf);refine .ff ?_;(conv=>whnf)
    refine DoesG.toStr (e := 5) (bs := d.new) (by kernel_rfl) (by kernel_rfl) (by kernel_rfl) (((hra d hdm).2.right []).right _) rfl ?_
    conv=>whnf
    refine .all ?_
    conv=>whnf
    refine ⟨by decide, ?_⟩
    (conv=>whnf);refine .ff ?_;(conv=>whnf)
    refine DoesG.toStr (e := 5) (bs := f.new) (by kernel_rfl) (by kernel_rfl) (by kernel_rfl) (((hrb f hfm).2.right []).right _) rfl ?_
    conv=>whnf
    refine .take 39 ?_
    conv=>whnf
    refine ⟨rfl, ?_⟩
    (conv=>whnf);refine .ff ?_;(conv=>whnf)
    rw [e3]
    conv=>whnf
    refine .take 40 ?_
    conv=>whnf
    refine ⟨rfl, ?_⟩
    (conv=>whnf);refine .ff ?_;(conv=>whnf)
    refine ⟨rfl, ?_⟩
    (conv=>whnf);refine .ff ?_;(conv=>whnf)
    refine ArithG.i64' ((q + 1 : Nat) : Int) (by omega) (by omega) ?_
    conv=>whnf
    exact ⟨l.length - (q + 1), [(0, va), (1, vb), (4, .bool false), (5, .int .i64 ((q + 1 : Nat) : Int))], _, by omega, ⟨rfl, rfl, rfl, rfl, trivial⟩, Ent.refl _, q + 1, by omega, rfl, rfl, rfl⟩
   ·(conv=>whnf);refine .ff ?_;(conv=>whnf)
    refine DoesG.toStr (e := 5) (bs := f.new) (by kernel_rfl) (by kernel_rfl) (by kernel_rfl) (((hrb f hfm).2.right []).right _) rfl ?_
    conv=>whnf
    refine .all ?_
    conv=>whnf
    refine ⟨by decide, ?_⟩
    (conv=>whnf);refine .ff ?_;(conv=>whnf)
    refine DoesG.toStr (e := 5) (bs := d.new) (by kernel_rfl) (by kernel_rfl) (by kernel_rfl) (((hra d hdm).2.right []).right _) rfl ?_
    conv=>whnf
    refine .take 39 ?_
    conv=>whnf
    refine ⟨rfl, ?_⟩
    (conv=>whnf);refine .ff ?_;(conv=>whnf)
    rw [e3]
    conv=>whnf
    refine .take 40 ?_
    conv=>whnf
    refine ⟨rfl, ?_⟩
    (conv=>whnf);refine .ff ?_;(conv=>whnf)
    refine ⟨rfl, ?_⟩
    (conv=>whnf);refine .ff ?_;(conv=>whnf)
    refine ArithG.i64' ((q + 1 : Nat) : Int) (by omega) (by omega) ?_
    conv=>whnf
    exact ⟨l.length - (q + 1), [(0, va), (1, vb), (4, .bool false), (5, .int .i64 ((q + 1 : Nat) : Int))], _, by omega, ⟨rfl, rfl, rfl, rfl, trivial⟩, Ent.refl _, q + 1, by omega, rfl, rfl, rfl⟩
 ·conv=>whnf
  exact ret_here ⟨rfl, rfl⟩
theorem sfind_spec (F : List HP) (t : Nat) (hv : Value) (hs : List PairD) (h0 : Cel F t 0 hv) (hh : RdS F hv hs.length (pairsC hs)) (hhl : hs.length ≤ 4611686018427387904) (hok : ∀ p ∈ hs, RdS F p.v p.bs.length (bvs p.bs) ∧ p.bs.length ≤ 140737488351232) (key : ByteArray) :
 SpecF Tryz.prog 207 [.pointer (some ⟨t, 0, none⟩), .string key] F [] (fun r L => ∃ x, SlV x (refF (hs.map PairD.e) [] true key).1.length ∧ r = .tuple #[x, .int .i64 (refF (hs.map PairD.e) [] true key).2] ∧ L = [own 1 x (refF (hs.map PairD.e) [] true key).1.length (bvs (refF (hs.map PairD.e) [] true key).1)]) := by
 have hF : refF (hs.map PairD.e) [] true key = ((atL (hs.map PairD.e) key).getD [], if (atL (hs.map PairD.e) key).isSome = false then 74 else 0) := by
  unfold refF
  rw [if_neg (show ¬ noF [] key ≠ 0 from fun h => h rfl)]
  simp
 rw [hF]
 refine fun207.spec rfl ?_
 conv=>whnf
 refine LoopG.mk (fun mm e L => ∃ i : Nat, i ≤ hs.length ∧ mm = hs.length - i ∧ atD hs key = atD (hs.drop i) key ∧ e = [(0, .pointer (some ⟨t, 0, none⟩)), (1, .string key), (4, .slice none 0 0), (5, .int .i64 0), (6, .int .i64 i)] ∧ L = []) hs.length
  [(0, .pointer (some ⟨t, 0, none⟩)), (1, .string key), (4, .slice none 0 0), (5, .int .i64 0), (6, .int .i64 0)] _ ⟨rfl, rfl, rfl, rfl, rfl, trivial⟩ (Ent.refl _) ⟨0, Nat.zero_le _, rfl, rfl, rfl, rfl⟩ ?_
 rintro mm e L ⟨i, hi, rfl, hw, rfl, rfl⟩
 conv=>whnf
 refine LoadG.atF h0 ?_
 conv=>whnf
 refine LenG.rd hh ?_
 conv=>whnf
 refine CondG.dec (fun hlt => ?_) (fun hlt => ?_)
 ·have hi' : i < hs.length := by omega
  obtain ⟨p, hp⟩ : ∃ p, hs[i]? = some p := ⟨hs[i], List.getElem?_eq_getElem hi'⟩
  obtain ⟨hp1, hp2⟩ := pairsC_get hp
  obtain ⟨hpr, hpl⟩ := hok p (List.mem_of_getElem? hp)
  rw [atD_step hp] at hw
  conv=>whnf
  refine LoadG.atF h0 ?_
  conv=>whnf
  refine IdxG.rd hh (by omega) fun b9 o9 hc9 => ?_
  conv=>whnf
  refine LoadG.atF (hc9.one (i := i * 2) (u := .string p.key) hp1) ?_
  conv=>whnf
  refine CondG.dec (fun he => ?_) (fun he => ?_)
  ·rw [if_pos he] at hw
   have e2 : atL (hs.map PairD.e) key = some p.bs := by rw [← atD_atL, hw]; rfl
   rw [e2]
   conv=>whnf
   refine BuildG.of (cs := bvs []) rfl ?_
   conv=>whnf
   intro b10
   conv=>whnf
   refine LoadG.atF h0 ?_
   conv=>whnf
   refine IdxG.rd hh (by omega) fun b8 o8 hc8 => ?_
   conv=>whnf
   refine LoadG.atG (v := p.v) ((hc8.one (i := i * 2 + 1) (u := p.v) hp2).right _) ?_
   conv=>whnf
   refine DoesG.ent (own_of_cel (n := 0) (sz := 1) rfl (by decide)) ?_
   refine app_own bytesT 97 (m := p.bs.length) (ys := bvs p.bs) (.tl (.right hpr _)) (by rw [bvs_len, Nat.mul_one]) (bvs_one _) (by simp only [maxLen]; omega) (by omega) fun q hq hql _ => ?_
   have e0 : 0 + p.bs.length = p.bs.length := Nat.zero_add _
   rw [e0] at hq hql ⊢
   conv=>whnf
   exact ⟨_, Ent.refl _, _, hq, rfl, rfl⟩
  ·rw [if_neg he] at hw
   conv=>whnf
   refine ArithG.i64' ((i + 1 : Nat) : Int) (by omega) (by omega) ?_
   conv=>whnf
   exact ⟨hs.length - (i + 1), [(0, .pointer (some ⟨t, 0, none⟩)), (1, .string key), (4, .slice none 0 0), (5, .int .i64 0), (6, .int .i64 ((i + 1 : Nat) : Int))], _, by omega, ⟨rfl, rfl, rfl, rfl, rfl, trivial⟩, Ent.refl _, i + 1, by omega, rfl, hw, rfl, rfl⟩
 ·obtain rfl : i = hs.length := by omega
  rw [List.drop_length] at hw
  have e2 : atL (hs.map PairD.e) key = none := by rw [← atD_atL, hw]; rfl
  rw [e2]
  conv=>whnf
  exact ⟨_, fun w G h => Sat.own_nil h, .slice none 0 0, .inl ⟨rfl, rfl⟩, rfl, rfl⟩
theorem sfind_method (v : Value) (w : World) : (method ((Tryz.prog).types.size + Made.depth) 28 v "Find").run Tryz.prog w = .ok (207, v) w := by kernel_rfl
theorem some_src (F : List HP) (t : Nat) (hv : Value) (hs : List PairD) (hh : RdS F hv hs.length (pairsC hs)) (hhl : hs.length ≤ 4611686018427387904) (hok : ∀ p ∈ hs, RdS F p.v p.bs.length (bvs p.bs) ∧ p.bs.length ≤ 140737488351232) :
 SrcG Tryz.prog (cel t 30 [hv] :: F) (.iface 28 (.pointer (some ⟨t, 0, none⟩))) (refF (hs.map PairD.e) [] true) :=
 ⟨28, .pointer (some ⟨t, 0, none⟩), 207, .pointer (some ⟨t, 0, none⟩), rfl, sfind_method _, by kernel_rfl, fun key L =>
  sfind_spec (L ++ (cel t 30 [hv] :: F)) t hv hs (Cel.right (.here rfl) L) ((RdS.tl hh).right L) hhl (fun p hp => ⟨((RdS.tl (hok p hp).1).right L), (hok p hp).2⟩) key⟩
section
variable {K : List W32} (hk : K.length = 64)
include hk
end
theorem fresh_nil9 (F : List HP) : SpecF Tryz.prog 17 [.slice none 0 0] F [] (fun r L => ∃ s t vb q ob, r = .pointer (some ⟨s, 0, none⟩) ∧ L = stR 75 s (.iface 105 (.pointer (some ⟨t, 0, none⟩))) ⟨[], [], [], 0⟩ :: emptyL 147 171 t vb q ob) := by
 refine fun17.spec rfl ?_
 conv=>whnf
 refine CallG.pure (newTable_spec _) ?_
 rintro _ _ ⟨t, rfl, vb, q, ob, rfl⟩
 (conv=>whnf);refine .ff ?_;(conv=>whnf)
 refine LoopG.mk (fun m ev L => ev = [(0, .slice none 0 0), (3, .pointer (some ⟨t, 0, none⟩)), (4, .int .i64 0)] ∧ L = emptyL 147 171 t vb q ob ++ []) 0 [(0, .slice none 0 0), (3, .pointer (some ⟨t, 0, none⟩)), (4, .int .i64 0)] _ ⟨rfl, rfl, rfl, trivial⟩ (Ent.refl _) ⟨rfl, rfl⟩ ?_
 rintro m ev L ⟨rfl, rfl⟩
 conv=>whnf
 refine LenG.lit ?_
 conv=>whnf
 refine CondG.ff ?_
 conv=>whnf
 refine CallG.pure (over_h _ _ _) ?_
 rintro _ _ ⟨s, rfl, rfl⟩
 conv=>whnf
 refine CondG.ff ?_
 conv=>whnf
 refine ⟨stR 75 s (.iface 105 (.pointer (some ⟨t, 0, none⟩))) ⟨[], [], [], 0⟩ :: emptyL 147 171 t vb q ob, ?_, s, t, vb, q, ob, rfl, rfl⟩
 exact Ent.perm (by classical exact List.perm_iff_count.2 fun x => by simp only [List.append_eq, List.count_append, List.count_cons, List.count_nil]; omega)
theorem empty_src9 (F : List HP) (t vb q ob : Nat) : SrcG Tryz.prog (emptyL 147 171 t vb q ob ++ F) (.iface 105 (.pointer (some ⟨t, 0, none⟩))) (tabFind []) :=
 tab_src _ t vb [] (.left (.here rfl) F) (.left (.tl .here) F) (by simp)
def kt0 : TicketD := ⟨0, 7, List.replicate 20 0, 3, List.replicate 20 0, [256, 0, 0, 0]⟩
def kt1 : TicketD := { kt0 with num := 1 }
theorem kt0_wf : kt0.wf := ⟨rfl, rfl, rfl⟩
theorem kt1_wf : kt1.wf := ⟨rfl, rfl, rfl⟩
theorem known9_spec (F : List HP) : SpecF Tryz.prog 7 [] F [] (fun v L => v = .bool true ∧ L = []) := by
 refine fun7.spec rfl ?_
 conv=>whnf
 refine CallG.pure (fresh_nil9 _) ?_
 rintro _ _ ⟨s, t, vb, q, ob, rfl, rfl⟩
 (conv=>whnf);refine .ff ?_;(conv=>whnf)
 refine BuildG.of (cs := uvs [256, 0, 0, 0]) rfl ?_
 conv=>whnf
 refine BuildG.of (cs := kt0.cells) rfl ?_
 conv=>whnf
 intro b2
 conv=>whnf
 refine StoreG.at rfl (Upd.whole rfl (TicketD.cells_one kt0)) ?_
 conv=>whnf
 refine LoadNG.at (vs := kt0.cells) rfl .all ?_
 conv=>whnf
 have hsrc := (empty_src9 F t vb q ob).left [cel b2 40 kt0.cells]
 refine CallG.of (pre := [stR 75 s _ ⟨[], [], [], 0⟩]) (rest := cel b2 40 kt0.cells :: emptyL 147 171 t vb q ob) (open_q _ s _ ⟨[], [], [], 0⟩ kt0 kt0_wf hsrc (by decide)) (Ent.sel (T := emptyL 147 171 t vb q ob) (A := [_, _]) [1, 0] rfl) ?_
 rintro _ _ ⟨rfl, rfl⟩
 have r1 : (openQ (tabFind []) ⟨[], [], [], 0⟩ kt0).1 = (1, 0) := by decide +kernel
 obtain ⟨V1, hV1⟩ : ∃ V : RSt, V = (openQ (tabFind []) ⟨[], [], [], 0⟩ kt0).2 := ⟨_, rfl⟩
 rw [r1, ← hV1]
 conv=>whnf
 refine CallG.of (pre := [stR 75 s _ V1]) (rest := cel b2 40 kt0.cells :: emptyL 147 171 t vb q ob) (tfind_q _ s _ V1 1 hsrc) (Ent.refl _) ?_
 rintro _ _ ⟨rfl, rfl⟩
 have r2 : (tfindQ (tabFind []) V1 1).1.2 = 0 := by rw [hV1]; decide +kernel
 have t2 : (tfindQ (tabFind []) V1 1).1.1 = kt1 := by rw [hV1]; exact tick_ext' (by decide +kernel) (by decide +kernel) (by decide +kernel) (by decide +kernel) (by decide +kernel) (by decide +kernel)
 obtain ⟨V2, hV2⟩ : ∃ V : RSt, V = (tfindQ (tabFind []) V1 1).2 := ⟨_, rfl⟩
 rw [r2, t2, ← hV2]
 conv=>whnf
 intro b5
 conv=>whnf
 refine StoreG.at rfl (Upd.whole rfl (TicketD.cells_one kt1)) ?_
 conv=>whnf
 refine BuildG.of (cs := bvs (List.replicate 20 0)) rfl ?_
 conv=>whnf
 refine CallG.of (pre := [stR 75 s _ V2]) (rest := cel b5 40 kt1.cells :: cel b2 40 kt0.cells :: emptyL 147 171 t vb q ob) (cancel_q _ s _ V2 1 (List.replicate 20 0) rfl (hsrc.left [_]) (by rw [hV2, hV1]; decide +kernel)) (Ent.perm (List.Perm.swap _ _ _)) ?_
 rintro _ _ ⟨rfl, rfl⟩
 have r3 : (cancelQ (tabFind []) V2 1 (List.replicate 20 0)).1.2 = 0 := by rw [hV2, hV1]; decide +kernel
 have t3 : (cancelQ (tabFind []) V2 1 (List.replicate 20 0)).1.1 = kt1 := by rw [hV2, hV1]; exact tick_ext' (by decide +kernel) (by decide +kernel) (by decide +kernel) (by decide +kernel) (by decide +kernel) (by decide +kernel)
 obtain ⟨V3, hV3⟩ : ∃ V : RSt, V = (cancelQ (tabFind []) V2 1 (List.replicate 20 0)).2 := ⟨_, rfl⟩
 rw [r3, t3, ← hV3]
 conv=>whnf
 intro b7
 conv=>whnf
 refine StoreG.at rfl (Upd.whole rfl (TicketD.cells_one kt1)) ?_
 conv=>whnf
 refine CallG.of (pre := [stR 75 s _ V3]) (rest := cel b7 40 kt1.cells :: cel b5 40 kt1.cells :: cel b2 40 kt0.cells :: emptyL 147 171 t vb q ob) (tfind_q _ s _ V3 1 (hsrc.left [_, _])) (Ent.perm (List.Perm.swap _ _ _)) ?_
 rintro _ _ ⟨rfl, rfl⟩
 have r4 : (tfindQ (tabFind []) V3 1).1.2 = 90 := by rw [hV3, hV2, hV1]; decide +kernel
 have t4 := tfindQ_wf (tabFind []) V3 1
 have l4 := TicketD.cells_len t4
 rw [r4]
 conv=>whnf
 intro b9
 conv=>whnf
 refine StoreG.at l4 (Upd.whole (by rw [l4]; rfl) (TicketD.cells_one _)) ?_
 conv=>whnf
 refine StoreG.at rfl (Upd.tl (Upd.tl (Upd.tl (Upd.tl (Upd.here (by decide) rfl))))) ?_
 conv=>whnf
 repeat((first|(with_reducible first|refine .tt ?_|refine .ff ?_|refine .ntt ?_|refine .nff ?_)|refine .decT rfl ?_);conv=>whnf)
 refine LoadNG.at (vs := kt1.cells) rfl (.tl (.tl (.tl .all))) ?_
 (conv=>whnf);refine .tt ?_;(conv=>whnf)
 refine LoadNG.at (vs := kt1.cells) rfl (.tl (.tl (.tl (.tl .all)))) ?_
 (conv=>whnf);refine .tt ?_;(conv=>whnf)
 refine DoesG.eqv 8 tickK (by kernel_rfl) (by decide) (by kernel_rfl) (by kernel_rfl) (TicketD.wt kt1_wf) (TicketD.wt kt1_wf) ?_
 (conv=>whnf);refine .tt ?_;(conv=>whnf)
 refine CondG.split (fun _ => ?_) (fun h => absurd h (by simp))
 (conv=>whnf);refine .tt ?_;(conv=>whnf);refine .tt ?_;(conv=>whnf)
 refine .decT rfl ?_;(conv=>whnf)
 refine LoadNG.at (vs := kt1.cells) rfl (.tl (.tl .all)) ?_
 (conv=>whnf);refine .tt ?_;(conv=>whnf)
 refine LoadNG.at (vs := kt1.cells) rfl (.tl (.tl (.tl (.tl .all)))) ?_
 (conv=>whnf);refine .tt ?_;(conv=>whnf)
 refine DoesG.eqv 8 tickK (by kernel_rfl) (by decide) (by kernel_rfl) (by kernel_rfl) (TicketD.wt kt1_wf) (TicketD.wt kt1_wf) ?_
 (conv=>whnf);refine .tt ?_;(conv=>whnf)
 refine CondG.split (fun _ => ?_) (fun h => absurd h (by simp))
 (conv=>whnf);refine .tt ?_;(conv=>whnf);refine .tt ?_;(conv=>whnf)
 exact ⟨[], Ent.nil _, by simp [retV], rfl⟩
end Go.Proofs.YtjacolfhlfogkabGreatDoor
