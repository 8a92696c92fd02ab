import Derived.Test.YtjacolfhlfogkabGreatDoorKe
import Derived.Test.YtjacolfhlfogkabGreatDoorKf
import Derived.Test.YtjacolfhlfogkabGreatDoorZTu
import Derived.Test.YtjacolfhlfogkabGreatDoorZCn
namespace Go.Proofs.YtjacolfhlfogkabGreatDoor
open Go Go.Sl Go.Sort
theorem ch_rd9 {l : List ChD} {v : Value} {M : List HP} (h1 : SlV v l.length) (h2 : ∀ d ∈ l, SlV d.ov d.old.length ∧ SlV d.nv d.new.length) : RdS (own 3 v l.length (l.flatMap ChD.cells) :: (chS l ++ M)) v l.length (l.flatMap ChD.cells) ∧ ChRd (own 3 v l.length (l.flatMap ChD.cells) :: (chS l ++ M)) l :=
 ⟨own_rd h1 (chC_len l), fun x hx => ⟨.tl (chS_rd h2 x hx).1, .tl (chS_rd h2 x hx).2⟩⟩
theorem refF_bytes {l : List KB} {part : Bool} (h : ∀ p ∈ l, ∀ b ∈ p.2, b < 256) : SrcF.bytes (refF l [] part) := fun k b hb => by
 unfold refF at hb
 rw [if_neg (show ¬ noF [] k ≠ 0 from fun h => h rfl)] at hb
 cases hc : atL l k with
 | none => rw [hc] at hb; cases hb
 | some v => rw [hc] at hb; exact h _ (atL_mem hc) b hb
end Go.Proofs.YtjacolfhlfogkabGreatDoor
