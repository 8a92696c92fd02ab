import Derived.Test.YtjkldhalmglkpaaDoorZTc
namespace Go.Sl
open Go
section
variable {P : Program} {F L : List HP} {K : Type} {kv : K → Value} {ok : K → Prop} {b : Nat} {m : List (K × Value)} {k : Value → List HP → Prop}
theorem DoesG.mclone {t : TypeId} (h : MapG kv ok (L ++ F) b m) (hk : ∀ b', k (.iface t (.map (some b'))) (mapP kv ok b' m :: L)) : DoesG P F (Extern.MapsClone.clone #[.iface t (.map (some b))]) L k := ⟨fun w hs => by
 obtain ⟨o, ho, hM⟩ := h w hs
 obtain ⟨es, clock, he, _⟩ := hM.out
 subst he
 refine ⟨.iface t (.map (some w.heap.size)), mapP kv ok w.heap.size m :: L, w.alloc (.map es clock), ?_, Ext.alloc _ _, ?_, hk _⟩
 ·have e : Extern.MapsClone.clone #[.iface t (.map (some b))] = (getObj b >>= fun o => match o with
   | .map entries clock => (newObj (.map entries clock) >>= fun n => pure (.iface t (.map (some n))))
   | _ => stuck "maps.clone: a map expected") := rfl
  have hg : (getObj b).run P w = .ok (.map es clock) w := by simp [getObj, Sem.run, ho]
  rw [e]
  simp [hg, Result.andThen]
 ·have h2 := hs.alloc (.map es clock)
  obtain ⟨x, y, hok, hx, hy, hf1, hf2⟩ := Sat.cons.1 h2
  exact Sat.cons.2 ⟨x, y, hok, ⟨_, hx, hM⟩, hy, hf1, hf2⟩⟩
theorem DoesG.tass {s t : TypeId} {v : Value} {d : TypeDesc} (hd : P.underlying t = some d) (hn : ∀ m, d ≠ .interface m) (hk : k v L) : DoesG P F (Instr.typeAssert (.iface t v) s t false) L k := ⟨fun w hs => ⟨v, L, w, by
 cases d <;> first
  | exact absurd rfl (hn _)
  | simp [Instr.typeAssert, run_und hd], Ext.refl w, hs, hk⟩⟩
theorem Ent.dups {A : List HP} (h : ∀ p ∈ A, Twice p) (L : List HP) : Ent (A ++ L) (A ++ (A ++ L)) := by
 induction A generalizing L with
 | nil => exact Ent.refl _
 | cons p A ih =>
  intro w F hs
  have h1 : Sat w (p :: p :: (A ++ (L ++ F))) := Sat.dup (h p List.mem_cons_self) (by simpa using hs)
  have h2 := (Ent.cons p (Ent.cons p (ih (fun q hq => h q (List.mem_cons_of_mem _ hq)) L))) w F (by simpa using h1)
  refine h2.perm ?_
  simp only [List.cons_append, List.append_assoc]
  exact List.Perm.cons _ List.perm_middle.symm
end
end Go.Sl
