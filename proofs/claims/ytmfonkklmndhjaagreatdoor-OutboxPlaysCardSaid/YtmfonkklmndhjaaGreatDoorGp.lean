import Derived.Test.YtmfonkklmndhjaaGreatDoorSd
import Derived.Test.YtmfonkklmndhjaaGreatDoorZLv
import Derived.Test.YtmfonkklmndhjaaGreatDoorZOl
namespace Go.Proofs.YtmfonkklmndhjaaGreatDoor
open Go Go.Sl
theorem strT : KeyT Tryz.prog 9 Value.string (fun _ => True) := .str (by kernel_rfl)
theorem mapT : (Tryz.prog).underlying 66 = some (.map 9 22) := by kernel_rfl
theorem zeroB : ∀ w, (zeroValue 22).run Tryz.prog w = .ok (.slice none 0 0) w := run_zeroV (by kernel_rfl)
theorem stepsT : ElT Tryz.prog 67 121 3 48 := .of (by kernel_rfl)
theorem smay_spec_r (F : List HP) (key : ByteArray) (v : Value) (n : Nat) (hv : ∃ a c, v = .slice a n c) : SpecF Tryz.prog 68 [.string key, v] F [] (fun r L => r = .int .i64 (mayI key n) ∧ L = []) := by
 obtain ⟨va, vc, rfl⟩ := hv
 refine fun68.spec rfl ?_
 conv=>whnf
 refine CondG.split (fun h1 => ?_) (fun h1 => ?_)
 ·(conv=>whnf);refine .tt ?_;(conv=>whnf);refine .tt ?_;(conv=>whnf);refine .tt ?_;(conv=>whnf);refine .tt ?_;(conv=>whnf)
  refine ret_here ⟨congrArg (Value.int .i64) ?_, rfl⟩
  have e : key = ⟨#[]⟩ := of_decide_eq_true h1
  subst e
  rfl
 have h1' : ¬ key = ⟨#[]⟩ := of_decide_eq_false h1
 have h0 : ¬ key.size = 0 := fun h => h1' (by
  obtain ⟨⟨l⟩⟩ := key
  have : l = [] := List.eq_nil_of_length_eq_zero h
  rw [this])
 (conv=>whnf);refine .ff ?_;(conv=>whnf);refine .ff ?_;(conv=>whnf);refine .ff ?_;(conv=>whnf)
 refine CondG.dec (fun h2 => ?_) (fun h2 => ?_)
 ·conv=>whnf
  refine ret_here ⟨congrArg (Value.int .i64) ?_, rfl⟩
  unfold mayI
  rw [if_pos (.inr (by omega))]
 conv=>whnf
 refine LenG.lit ?_
 conv=>whnf
 refine CondG.dec (fun h3 => ?_) (fun h3 => ?_)
 ·conv=>whnf
  refine ret_here ⟨congrArg (Value.int .i64) ?_, rfl⟩
  unfold mayI
  rw [if_neg (by omega), if_pos (by omega)]
 conv=>whnf
 refine ret_here ⟨congrArg (Value.int .i64) ?_, rfl⟩
 unfold mayI
 rw [if_neg (by omega), if_neg (by omega)]
theorem smay_spec (F : List HP) (key : ByteArray) (v : Value) (n : Nat) (hv : SlV v n) (_ : n ≤ 4611686018427387904) : SpecF Tryz.prog 68 [.string key, v] F [] (fun r L => r = .int .i64 (mayI key n) ∧ L = []) := smay_spec_r F key v n hv.len
theorem value_spec (F : List HP) (s : Nat) (src : Value) (c : StC) (key : ByteArray) (L0 : List HP) : SpecF Tryz.prog 52 [.pointer (some ⟨s, 0, none⟩), .string key] (c.pieces 70 s src ++ F) [] (fun r L => r = c.valV key ∧ L = []) := by
 refine fun52.spec rfl ?_
 conv=>whnf
 refine LoadG.atF (.left (.here rfl) F) ?_
 conv=>whnf
 refine DoesG.look strT mapT zeroB trivial (MapG.right (MapG.left (.tl (.tl .here)) F) _) true ?_
 rw [getM_kv]
 conv=>whnf
 refine CondG.split (fun h1 => ?_) (fun h1 => ?_)
 ·conv=>whnf
  refine ret_here ⟨?_, rfl⟩
  cases hg : getK c.now key with
  | none => rw [hg] at h1; cases h1
  | some p => simp [StC.valV, hg, retV]
 ·conv=>whnf
  refine LoadG.atF (.left (.here rfl) F) ?_
  conv=>whnf
  refine DoesG.look strT mapT zeroB trivial (MapG.right (MapG.left (.tl .here) F) _) false ?_
  rw [getM_kv]
  conv=>whnf
  refine ret_here ⟨?_, rfl⟩
  cases hg : getK c.now key with
  | some p => rw [hg] at h1; cases h1
  | none => simp [StC.valV, hg, retV]
theorem perm_laid {a b : HP} {H N S : List HP} : (a :: b :: (H ++ (N ++ S))).Perm (H ++ (b :: (N ++ (S ++ [a])))) := by
 refine (List.perm_append_comm (l₁ := [a]) (l₂ := b :: (H ++ (N ++ S)))).trans ?_
 have e : (b :: (H ++ (N ++ S))) ++ [a] = b :: (H ++ (N ++ (S ++ [a]))) := by simp
 rw [e]
 exact List.perm_middle.symm
end Go.Proofs.YtmfonkklmndhjaaGreatDoor
namespace Go.Proofs.YtmfonkklmndhjaaGreatDoor
open Go Go.Sl
theorem over_spec (F : List HP) (u : Nat) (v : Value) : SpecF Tryz.prog 6 [.iface u v] F [] (fun r L => ∃ s, r = .tuple #[.pointer (some ⟨s, 0, none⟩), .int .i64 0] ∧ ∃ hb nb, L = (StC.mk [] [] [] [] hb nb (.slice none 0 0) (.slice none 0 0)).pieces 70 s (.iface u v)) := by
 refine fun6.spec rfl ?_
 (conv=>whnf);refine .ff ?_;(conv=>whnf)
 intro hb
 conv=>whnf
 intro nb
 conv=>whnf
 refine BuildG.of rfl ?_
 conv=>whnf
 intro s
 conv=>whnf
 refine ⟨(StC.mk [] [] [] [] hb nb (.slice none 0 0) (.slice none 0 0)).pieces 70 s (.iface u v), ?_, s, rfl, hb, nb, rfl⟩
 intro w G hs
 have h1 : Sat w (blk hb (.map #[] 0) :: (blk nb (.map #[] 0) :: cel s 70 [.iface u v, .map (some hb), .map (some nb), .slice none 0 0, .slice none 0 0] :: G)) :=
  Ent.sel (T := []) (A := [_, _, _]) [2, 1, 0] rfl w G hs
 have h2 := mapP_new (kv := Value.string) (ok := fun _ => True) w h1
 have h3 := mapP_new (kv := Value.string) (ok := fun _ => True) w (h2.perm (List.Perm.swap _ _ _))
 have h4 : Sat w (own 1 (.slice none 0 0) 0 [] :: own 3 (.slice none 0 0) 0 [] :: mapS nb [] :: mapS hb [] :: cel s 70 [.iface u v, .map (some hb), .map (some nb), .slice none 0 0, .slice none 0 0] :: G) := Sat.own_nil (Sat.own_nil h3)
 exact Ent.sel (T := []) (A := [_, _, _, _, _]) [4, 3, 2, 1, 0] rfl w G h4
end Go.Proofs.YtmfonkklmndhjaaGreatDoor
namespace Go.Proofs.YtmfonkklmndhjaaGreatDoor
open Go Go.Sl
end Go.Proofs.YtmfonkklmndhjaaGreatDoor
namespace Go.Proofs.YtmfonkklmndhjaaGreatDoor
open Go Go.Sl
section
variable {find : ByteArray → List Nat × Int}
end
end Go.Proofs.YtmfonkklmndhjaaGreatDoor
