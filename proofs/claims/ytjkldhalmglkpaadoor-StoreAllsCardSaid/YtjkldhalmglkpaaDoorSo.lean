import Derived.Test.YtjkldhalmglkpaaDoorGp
import Derived.Test.YtjkldhalmglkpaaDoorZCh
import Derived.Test.YtjkldhalmglkpaaDoorIter
import Derived.Test.YtjkldhalmglkpaaDoorZKy
import Derived.Test.YtjkldhalmglkpaaDoorSn
import Derived.Test.YtjkldhalmglkpaaDoorZPa
namespace Go.Proofs.YtjkldhalmglkpaaDoor
open Go Go.Sl
section
variable {find : ByteArray → List Nat × Int}
end
end Go.Proofs.YtjkldhalmglkpaaDoor
namespace Go.Proofs.YtjkldhalmglkpaaDoor
open Go Go.Sl Go.RowKit Go.Maps Go.Sort Go.Shelf
theorem keys_spec (F : List HP) (mb : Option Nat) : SpecF Tryd.prog 57 [.map mb] F [] (fun r L => ∃ g, r = .func (.func 79) #[] #[.pointer (some ⟨g, 0, none⟩)] ∧ L = [blk g (.cells #[.map mb] 84)]) := fun w hs => by
 refine (callsIn_wide.1 (Tryd.maps_Keys_57 mb w)).mono ?_
 rintro e w' ⟨rfl, rfl⟩
 exact ⟨_, _, rfl, ⟨w.heap.size, rfl, rfl⟩, Ext.alloc _ _, Sat.alloc hs _⟩
theorem sorted_spec (F : List HP) (g b : Nat) (m : List (ByteArray × Value)) (hm : m.length ≤ 8796093022207) (hk : ∀ p ∈ m, p.1.size ≤ maxLen) :
 SpecF Tryd.prog 56 [.func (.func 79) #[] #[.pointer (some ⟨g, 0, none⟩)]] F [blk g (.cells #[.map (some b)] 84), mapS b m] (fun r L => ∃ ss : List (List UInt8), SlV r ss.length ∧ ss.Perm (m.map fun p => p.1.data.toList) ∧
  L = [own 1 r ss.length ((ss.mergeSort leB).map encStr), blk g (.cells #[.map (some b)] 84), mapS b m]) := fun w hs => by
 obtain ⟨o, ho, hM⟩ := (MapG.tl (p := blk g (.cells #[.map (some b)] 84)) (MapG.here (L := F))) w hs
 have hg : w.heap[g]? = some (.cells #[.map (some b)] 84) := hs.blk_heap
 obtain ⟨D0, hown, hperm, hsize⟩ := owns_of (H := Unit) (P := Tryd.prog) (k := 9) (by kernel_rfl) ho hM (by simp only [maxLen]; omega) hk
 have hcell : w.cell? ⟨g, 0, none⟩ = some (.map (some b)) := cell_of_heap hg rfl
 have hseq : SeqGives Fence.wide 2 Tryd.prog 79 #[.pointer (some ⟨g, 0, none⟩)] encStr (fun ss => ss.Perm (strKeys D0)) (Maps.size D0) w :=
  AnyZ.keys_gives (ρ := Tryd.keys57_ren) { Tryd.keys57 with } Fence.wide _ trivial rfl (by omega) g b m.length D0 w ((Array.getElem?_eq_some_iff.1 hg).1) hcell hown
 refine (callsIn_wide.1 (AnyZ.sorted_in Tryd.sorted56 Fence.wide 5 trivial trivial trivial trivial rfl (by omega) (Tryd.sorts56 _) (enters_of Tryd.func78 (by kernel_rfl) rfl) 79 #[.pointer (some ⟨g, 0, none⟩)] trivial (enters_of Tryd.func79 (by kernel_rfl) rfl) _ _ (by rw [hsize]; simp only [maxLen]; omega) (by rw [hsize]; omega) w hseq)).mono ?_
 rintro e w' ⟨v, ss, rfl, hS, hrow, _, hb⟩
 obtain ⟨h1, h2⟩ := Sat.ownRow hs hb.block hrow
 exact ⟨v, _, rfl, ⟨ss, h2, hS.trans hperm, rfl⟩, ⟨hb.os, hb.tape, hb.output, hb.size⟩, h1⟩
end Go.Proofs.YtjkldhalmglkpaaDoor
namespace Go.Proofs.YtjkldhalmglkpaaDoor
open Go Go.Sl Go.Sort
section
variable {find : ByteArray → List Nat × Int}
end
end Go.Proofs.YtjkldhalmglkpaaDoor
namespace Go.Proofs.YtjkldhalmglkpaaDoor
open Go Go.Sl Go.Sort
section
variable {find : ByteArray → List Nat × Int}
end
end Go.Proofs.YtjkldhalmglkpaaDoor
namespace Go.Proofs.YtjkldhalmglkpaaDoor
open Go Go.Sl Go.Sort
theorem bytes_same (F : List HP) (va vb : Value) (a b : List Nat) (ha : RdS F va a.length (bvs a)) (hb : RdS F vb b.length (bvs b)) :
 SpecF Tryd.prog 17 [va, vb] F [] (fun r L => r = .bool (decide (strB a = strB b)) ∧ L = []) := by
 refine fun17.spec rfl ?_
 conv=>whnf
 refine DoesG.toStr (e := 5) (bs := a) (by kernel_rfl) (by kernel_rfl) (by kernel_rfl) (.right ha []) rfl ?_
 conv=>whnf
 refine DoesG.toStr (e := 5) (bs := b) (by kernel_rfl) (by kernel_rfl) (by kernel_rfl) (.right hb []) rfl ?_
 conv=>whnf
 exact ret_here ⟨rfl, rfl⟩
section
variable {find : ByteArray → List Nat × Int}
end
section
variable {K : List W32} (hk : K.length = 64)
include hk
end
end Go.Proofs.YtjkldhalmglkpaaDoor
