import Derived.Test.YtjkldhalmglkpaaDoorZTt
import Derived.Test.YtjkldhalmglkpaaDoorZKy
namespace Go.Sl
open Go
section
variable {find : ByteArray → List Nat × Int} {V : View} {n a : Nat} {c c' : StC} {key : ByteArray}
theorem getK_in {l : List (KV ByteArray)} {p : KV ByteArray} (h : p ∈ l) : (getK l p.1).isSome = true := by
 unfold getK
 rw [Option.isSome_map, List.find?_isSome]
 exact ⟨p, h, by simp⟩
theorem mem_getK {l : List (KV ByteArray)} {k : ByteArray} (h : (getK l k).isSome = true) : ∃ q ∈ l, q.1 = k := by
 unfold getK at h
 rw [Option.isSome_map, List.find?_isSome] at h
 obtain ⟨q, hq, e⟩ := h
 exact ⟨q, hq, by simpa using e⟩
end
end Go.Sl
