import Derived.Test.YtjkldhalmglkpaaDoorSo
import Derived.Test.YtjkldhalmglkpaaDoorZBv
namespace Go.Proofs.YtjkldhalmglkpaaDoor
open Go Go.Sl Go.Sort
theorem over_k (F : List HP) (u : Nat) (v : Value) (find : ByteArray → List Nat × Int) : SpecF Tryd.prog 24 [.iface u v] F [] (fun r L => ∃ s, r = .tuple #[.pointer (some ⟨s, 0, none⟩), .int .i64 0] ∧ L = [stK 95 s (.iface u v) find ⟨fun k => (find k).1, []⟩ 0 0]) :=
 (over_spec F u v).turn fun r L ⟨s, hr, hb, nb, hL⟩ => by
  subst hL
  exact ⟨_, ⟨s, hr, rfl⟩, Ent.pack0 (φ := AtK find ⟨fun k => (find k).1, []⟩ 0 0) (ls := fun c => StC.pieces 95 s (.iface u v) c)
   ⟨⟨fun k => rfl, ⟨fun p h => absurd h (List.not_mem_nil), fun p h => absurd h (List.not_mem_nil), fun p h => absurd h (List.not_mem_nil)⟩, Nat.le_refl 0, rfl, List.Pairwise.nil, fun j a f h => by simp at h⟩,
    ⟨fun p h => absurd h (List.not_mem_nil), fun p h => absurd h (List.not_mem_nil), fun x h => absurd h (List.not_mem_nil)⟩, Nat.le_refl 0⟩⟩
theorem find_at {K : List W32} {n : Nat} (F : List HP) (t : Nat) (c : TabD) (hw : c.wf K n) (key : ByteArray) (M : List HP) :
 SpecF Tryd.prog 41 [.pointer (some ⟨t, 0, none⟩), .string key] (M ++ (c.pieces 89 124 144 t ++ F)) [] (fun v L => ∃ x, SlV x (tabFind c.vals key).1.length ∧ v = .tuple #[x, .int .i64 (tabFind c.vals key).2] ∧ L = [own 1 x (tabFind c.vals key).1.length (bvs (tabFind c.vals key).1)]) :=
 find_spec _ t c.vb c.vals key (.right (.left (.here rfl) F) M) (MapG.right (MapG.left (.tl .here) F) M) fun p hp => by
  obtain ⟨h1, h2, _, _⟩ := hw.vals p hp
  refine ⟨by have h := h1.sl; rw [bvs_len] at h; exact h, h2, ?_⟩
  have h := ((TabD.shG (TT := 89) (ST := 124) (NT := 144) (t := t) p.2.1 (bvs p.2.2) h1).left F).right M
  rw [bvs_len] at h
  exact h
section
variable {K : List W32} (hk : K.length = 64)
include hk
end
end Go.Proofs.YtjkldhalmglkpaaDoor
