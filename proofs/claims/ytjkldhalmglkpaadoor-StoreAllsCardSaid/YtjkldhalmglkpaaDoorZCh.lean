import Derived.Test.YtjkldhalmglkpaaDoorZTt
import Derived.Test.YtjkldhalmglkpaaDoorZKy
namespace Go.Sl
open Go
section
variable {find : ByteArray → List Nat × Int} {V : View} {n a : Nat} {c c' : StC} {key : ByteArray}
theorem getK_in {l : List (KV ByteArray)} {p : KV ByteArray} (h : p ∈ l) : (getK l p.1).isSome = true := by
 unfold getK
 rw [Option.isSome_map, List.find?_isSome]
 exact ⟨p, h, by simp⟩
theorem mem_getK {l : List (KV ByteArray)} {k : ByteArray} (h : (getK l k).isSome = true) : ∃ q ∈ l, q.1 = k := by
 unfold getK at h
 rw [Option.isSome_map, List.find?_isSome] at h
 obtain ⟨q, hq, e⟩ := h
 exact ⟨q, hq, by simpa using e⟩
end
end Go.Sl
namespace Go.Sl
open Go Go.Sort
def strOfB (x : List UInt8) : ByteArray := ⟨⟨x⟩⟩
def keysB (K : List ByteArray) : List Value := K.map Value.string
theorem leB_pair (ss : List (List UInt8)) : (ss.mergeSort leB).Pairwise fun x y => leB x y = true := by
 have tr : ∀ a b c : List UInt8, leB a b = true → leB b c = true → leB a c = true := fun a b c h1 h2 => by
  simp only [leB, decide_eq_true_eq] at h1 h2 ⊢
  exact List.le_trans h1 h2
 have to : ∀ a b : List UInt8, (leB a b || leB b a) = true := fun a b => by simp only [leB, Bool.or_eq_true, decide_eq_true_eq]; exact List.le_total a b
 exact List.pairwise_mergeSort tr to ss
theorem data_inj {a b : ByteArray} (h : a.data.toList = b.data.toList) : a = b := by
 apply ByteArray.ext
 exact Array.toList_inj.1 h
section
variable {find : ByteArray → List Nat × Int} {V : View} {n a : Nat} {c : StC}
end
end Go.Sl
