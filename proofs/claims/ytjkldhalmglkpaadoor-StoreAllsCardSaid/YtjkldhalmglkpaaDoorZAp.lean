import Derived.Test.YtjkldhalmglkpaaDoorZMk
namespace Go.Sl
open Go
section
variable {P : Program} {F L M : List HP} {sz n m : Nat} {v x : Value} {cs ys : List Value} {p : HP}
theorem Upd.own {g cap o : Nat} {vs cs' : List Value} (hl : o + vs.length ≤ cs.length) (h1 : ∀ u ∈ vs, u.oneCell' = true) (hc : cs.take o ++ vs ++ cs.drop (o + vs.length) = cs') : Upd P (Go.Sl.own sz (.slice (some ⟨g, 0, none⟩) n cap) n cs :: L) g o vs (Go.Sl.own sz (.slice (some ⟨g, 0, none⟩) n cap) n cs' :: L) := by
 intro F w hs
 obtain ⟨bt, rest, hnc, hcm, hcl, hcap, hB⟩ := hs.own_open
 have hheap := hB.blk_heap
 obtain ⟨w', hr, hxt, hb', hk⟩ := storeCells_run P g o bt vs 0 (cs ++ rest) w hheap (by simp only [List.length_append]; omega) h1
 refine ⟨w', hr, hxt, ?_⟩
 have hB' := hB.put hb' hk
 have e1 : (cs ++ rest).take (o + 0) ++ vs ++ (cs ++ rest).drop (o + 0 + vs.length) = cs' ++ rest := by
  rw [Nat.add_zero, List.take_append_of_le_length (by omega), List.drop_append_of_le_length (by omega), ← hc]
  simp
 rw [e1] at hB'
 have hcl' : cs'.length = cs.length := by
  rw [← hc]
  simp only [List.length_append, List.length_take, List.length_drop]
  omega
 exact hB'.own_of hnc hcm (by rw [hcl', hcl]) (by rw [List.length_append, hcl', ← List.length_append]; exact hcap)
end
end Go.Sl
