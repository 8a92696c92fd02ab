import Derived.Test.YtjkldhalmglkpaaDoorZTc
namespace Go.Sl
open Go
section
variable {P : Program} {F L : List HP} {K : Type} {kv : K → Value} {ok : K → Prop} {b : Nat} {m : List (K × Value)} {k : Value → List HP → Prop}
theorem Ent.dups {A : List HP} (h : ∀ p ∈ A, Twice p) (L : List HP) : Ent (A ++ L) (A ++ (A ++ L)) := by
 induction A generalizing L with
 | nil => exact Ent.refl _
 | cons p A ih =>
  intro w F hs
  have h1 : Sat w (p :: p :: (A ++ (L ++ F))) := Sat.dup (h p List.mem_cons_self) (by simpa using hs)
  have h2 := (Ent.cons p (Ent.cons p (ih (fun q hq => h q (List.mem_cons_of_mem _ hq)) L))) w F (by simpa using h1)
  refine h2.perm ?_
  simp only [List.cons_append, List.append_assoc]
  exact List.Perm.cons _ List.perm_middle.symm
end
end Go.Sl
