import Derived.Test.YtjkldhalmglkpaaDoorSo
import Derived.Test.YtjkldhalmglkpaaDoorZVb
namespace Go.Proofs.YtjkldhalmglkpaaDoor
open Go Go.Sl Go.Sort
theorem stpC_all {l : List StepS} {i : Nat} {x : StepS} (h : l[i]? = some x) : ((l.flatMap StepS.cells).drop (i * 4)).take 4 = x.cells := by
 obtain ⟨h1, rfl⟩ := List.getElem?_eq_some_iff.1 h
 exact flat_get (cells := StepS.cells) (sz := 4) (fun _ _ => rfl) h1
structure StepFit (F : List HP) (x : StepS) : Prop where
 rd : RdS F x.v x.bs.length (bvs x.bs)
 byte : ∀ b ∈ x.bs, b < 256
 lo : -9223372036854775808 ≤ x.mark
 hi : x.mark ≤ 9223372036854775807
theorem over_k (F : List HP) (u : Nat) (v : Value) (find : ByteArray → List Nat × Int) : SpecF Tryd.prog 24 [.iface u v] F [] (fun r L => ∃ s, r = .tuple #[.pointer (some ⟨s, 0, none⟩), .int .i64 0] ∧ L = [stK 95 s (.iface u v) find ⟨fun k => (find k).1, []⟩ 0 0]) :=
 (over_spec F u v).turn fun r L ⟨s, hr, hb, nb, hL⟩ => by
  subst hL
  exact ⟨_, ⟨s, hr, rfl⟩, Ent.pack0 (φ := AtK find ⟨fun k => (find k).1, []⟩ 0 0) (ls := fun c => StC.pieces 95 s (.iface u v) c)
   ⟨⟨fun k => rfl, ⟨fun p h => absurd h (List.not_mem_nil), fun p h => absurd h (List.not_mem_nil), fun p h => absurd h (List.not_mem_nil)⟩, Nat.le_refl 0, rfl, List.Pairwise.nil, fun j a f h => by simp at h⟩,
    ⟨fun p h => absurd h (List.not_mem_nil), fun p h => absurd h (List.not_mem_nil), fun x h => absurd h (List.not_mem_nil)⟩, Nat.le_refl 0⟩⟩
section
variable {K : List W32} (hk : K.length = 64)
include hk
end
end Go.Proofs.YtjkldhalmglkpaaDoor
