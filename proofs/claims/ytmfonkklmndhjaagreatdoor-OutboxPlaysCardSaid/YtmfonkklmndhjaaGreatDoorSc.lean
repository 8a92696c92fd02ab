import Derived.Test.YtmfonkklmndhjaaGreatDoorGp
import Derived.Test.YtmfonkklmndhjaaGreatDoorZPa
import Derived.Test.YtmfonkklmndhjaaGreatDoorIter
import Derived.Test.YtmfonkklmndhjaaGreatDoorZKy
namespace Go.Proofs.YtmfonkklmndhjaaGreatDoor
open Go Go.Sl
theorem intsK : ElT Tryz.prog 68 3 1 8 := .of (by kernel_rfl)
section
variable {find : ByteArray → List Nat × Int}
end
end Go.Proofs.YtmfonkklmndhjaaGreatDoor
namespace Go.Proofs.YtmfonkklmndhjaaGreatDoor
open Go Go.Sl Go.RowKit Go.Maps Go.Sort Go.Shelf
theorem keys_spec (F : List HP) (mb : Option Nat) : SpecF Tryz.prog 51 [.map mb] F [] (fun r L => ∃ g, r = .func (.func 85) #[] #[.pointer (some ⟨g, 0, none⟩)] ∧ L = [blk g (.cells #[.map mb] 66)]) := fun w hs => by
 refine (callsIn_wide.1 (Tryz.maps_Keys_51 mb w)).mono ?_
 rintro e w' ⟨rfl, rfl⟩
 exact ⟨_, _, rfl, ⟨w.heap.size, rfl, rfl⟩, Ext.alloc _ _, Sat.alloc hs _⟩
theorem sorted_spec (F : List HP) (g b : Nat) (m : List (ByteArray × Value)) (hm : m.length ≤ 8796093022207) (hk : ∀ p ∈ m, p.1.size ≤ maxLen) :
 SpecF Tryz.prog 50 [.func (.func 85) #[] #[.pointer (some ⟨g, 0, none⟩)]] F [blk g (.cells #[.map (some b)] 66), mapS b m] (fun r L => ∃ ss : List (List UInt8), SlV r ss.length ∧ ss.Perm (m.map fun p => p.1.data.toList) ∧
  L = [own 1 r ss.length ((ss.mergeSort leB).map encStr), blk g (.cells #[.map (some b)] 66), mapS b m]) := fun w hs => by
 obtain ⟨o, ho, hM⟩ := (MapG.tl (p := blk g (.cells #[.map (some b)] 66)) (MapG.here (L := F))) w hs
 have hg : w.heap[g]? = some (.cells #[.map (some b)] 66) := hs.blk_heap
 obtain ⟨D0, hown, hperm, hsize⟩ := owns_of (H := Unit) (P := Tryz.prog) (k := 9) (by kernel_rfl) ho hM (by simp only [maxLen]; omega) hk
 have hcell : w.cell? ⟨g, 0, none⟩ = some (.map (some b)) := cell_of_heap hg rfl
 have hseq : SeqGives Fence.wide 2 Tryz.prog 85 #[.pointer (some ⟨g, 0, none⟩)] encStr (fun ss => ss.Perm (strKeys D0)) (Maps.size D0) w :=
  AnyZ.keys_gives (ρ := Tryz.keys51_ren) { Tryz.keys51 with } Fence.wide _ trivial rfl (by omega) g b m.length D0 w ((Array.getElem?_eq_some_iff.1 hg).1) hcell hown
 refine (callsIn_wide.1 (AnyZ.sorted_in Tryz.sorted50 Fence.wide 5 trivial trivial trivial trivial rfl (by omega) (Tryz.sorts50 _) (enters_of Tryz.func84 (by kernel_rfl) rfl) 85 #[.pointer (some ⟨g, 0, none⟩)] trivial (enters_of Tryz.func85 (by kernel_rfl) rfl) _ _ (by rw [hsize]; simp only [maxLen]; omega) (by rw [hsize]; omega) w hseq)).mono ?_
 rintro e w' ⟨v, ss, rfl, hS, hrow, _, hb⟩
 obtain ⟨h1, h2⟩ := Sat.ownRow hs hb.block hrow
 exact ⟨v, _, rfl, ⟨ss, h2, hS.trans hperm, rfl⟩, ⟨hb.os, hb.tape, hb.output, hb.size⟩, h1⟩
end Go.Proofs.YtmfonkklmndhjaaGreatDoor
namespace Go.Proofs.YtmfonkklmndhjaaGreatDoor
open Go Go.Sl Go.Sort
section
variable {find : ByteArray → List Nat × Int}
theorem mayI_size {k : ByteArray} (h : mayI k 0 = 0) : k.size ≤ maxLen := by
 unfold mayI at h
 split at h
 ·cases h
 ·simp only [maxLen]
  omega
theorem touched_c (F : List HP) (s : Nat) (src : Value) (c : StC) (hm : c.has.length ≤ 8796093022207) (hk : ∀ p ∈ c.has, mayI p.1 0 = 0) :
 SpecF Tryz.prog 26 [.pointer (some ⟨s, 0, none⟩)] F (c.pieces 70 s src) (fun r L => ∃ ss : List (List UInt8), SlV r ss.length ∧ ss.Perm (c.has.map fun p => p.1.data.toList) ∧ L = own 1 r ss.length ((ss.mergeSort leB).map encStr) :: c.pieces 70 s src) := by
 refine fun26.spec rfl ?_
 conv=>whnf
 refine LoadG.at (.here rfl) ?_
 conv=>whnf
 refine CallG.pure (keys_spec _ _) ?_
 rintro _ _ ⟨g, rfl, rfl⟩
 conv=>whnf
 refine CallG.of (pre := [blk g (.cells #[.map (some c.hb)] 66), mapS c.hb (kvM c.has)]) (rest := cel s 70 [src, .map (some c.hb), .map (some c.nb), c.sv, c.mv] :: mapS c.nb (kvM c.now) :: own 3 c.sv c.steps.length (stepsC c.steps) :: own 1 c.mv c.marks.length (c.marks.map fun n : Nat => Value.int .i64 n) :: (kvS c.has ++ (kvS c.now ++ stepsS c.steps)))
  (sorted_spec _ g c.hb (kvM c.has) (by rw [kvM, List.length_map]; exact hm) (fun p hp => by
   obtain ⟨q, hq, rfl⟩ := List.mem_map.1 hp
   exact mayI_size (hk q hq))) (Ent.sel (T := kvS c.has ++ (kvS c.now ++ stepsS c.steps)) (A := [_, _, _, _, _, _]) [0, 2, 1, 3, 4, 5] rfl) ?_
 rintro v _ ⟨ss, hv, hp, rfl⟩
 conv=>whnf
 exact ⟨_, Ent.sel (T := kvS c.has ++ (kvS c.now ++ stepsS c.steps)) (A := [_, _, _, _, _, _, _]) [0, 3, 2, 4, 5, 6] rfl, ss, hv, by rw [kvM, List.map_map] at hp; exact hp, rfl⟩
end
end Go.Proofs.YtmfonkklmndhjaaGreatDoor
namespace Go.Proofs.YtmfonkklmndhjaaGreatDoor
open Go Go.Sl Go.Sort
theorem changesT : ElT Tryz.prog 88 91 3 64 := .of (by kernel_rfl)
theorem equal_spec (F : List HP) (va vb : Value) (a b : List Nat) (ha : RdS F va a.length (bvs a)) (hb : RdS F vb b.length (bvs b)) :
 SpecF Tryz.prog 53 [va, vb] F [] (fun r L => r = .bool (decide (strB a = strB b)) ∧ L = []) := by
 refine fun53.spec rfl ?_
 conv=>whnf
 refine DoesG.toStr (e := 5) (bs := a) (by kernel_rfl) (by kernel_rfl) (by kernel_rfl) (.right ha []) rfl ?_
 conv=>whnf
 refine DoesG.toStr (e := 5) (bs := b) (by kernel_rfl) (by kernel_rfl) (by kernel_rfl) (.right hb []) rfl ?_
 conv=>whnf
 exact ret_here ⟨rfl, rfl⟩
theorem hasV_rd {T s : Nat} {src : Value} {c : StC} (hw : c.wf) (k : ByteArray) : RdS (c.pieces T s src) (hasV c k) (hasL c k).length (bvs (hasL c k)) ∧ SlV (hasV c k) (hasL c k).length ∧ (hasL c k).length ≤ 4096 := by
 unfold hasV hasL
 cases h3 : getK c.has k with
 | some p =>
  have hm := getK_mem h3
  have h2 := hw.has _ hm
  exact ⟨.tl (.tl (.tl (.tl (.tl (kvS_rd (q := (k, p)) hm h2.1))))), h2.1, h2.2⟩
 | none => exact ⟨.nil, .inl ⟨rfl, rfl⟩, Nat.zero_le _⟩
theorem turn_perm {n o q : HP} {P S : List HP} : (n :: o :: (P ++ (q :: S))).Perm (q :: ((S ++ [o, n]) ++ P)) := by
 refine (List.perm_middle (l₁ := n :: o :: P)).trans (List.Perm.cons _ ?_)
 refine (List.perm_append_comm (l₁ := n :: o :: P) (l₂ := S)).trans ?_
 rw [List.append_assoc]
 exact List.Perm.append_left S (List.Perm.swap _ _ _)
theorem changes_c (F : List HP) (s : Nat) (src : Value) (c : StC) (hw : c.wf) (hm : c.has.length ≤ 3500000000000) (hk : ∀ p ∈ c.has, mayI p.1 0 = 0) :
 SpecF Tryz.prog 28 [.pointer (some ⟨s, 0, none⟩)] F (c.pieces 70 s src) (fun r L => ∃ (ss : List (List UInt8)) (l : List ChD), ss.Perm (c.has.map fun p => p.1.data.toList) ∧ SlV r l.length ∧ (∀ d ∈ l, SlV d.ov d.old.length ∧ SlV d.nv d.new.length) ∧
  l.map (fun d => (d.key, d.old, d.new)) = (((ss.mergeSort leB).map strOfB).filter (turned c)).map (fun k => (k, hasL c k, c.val k)) ∧ L = c.pieces 70 s src ++ (own 3 r l.length (l.flatMap ChD.cells) :: chS l)) := by
 refine fun28.spec rfl ?_
 conv=>whnf
 refine CallG.of (rest := []) (touched_c _ s src c (by omega) hk) (by rw [List.append_nil]; exact Ent.refl _) ?_
 rintro kv _ ⟨ss, hkv, hp, rfl⟩
 obtain ⟨K, hK⟩ : ∃ K, K = (ss.mergeSort leB).map strOfB := ⟨_, rfl⟩
 have hKl : K.length = ss.length := by rw [hK, List.length_map, List.length_mergeSort]
 have hcs : (ss.mergeSort leB).map encStr = keysB K := by rw [hK, keysB, List.map_map]; rfl
 rw [hcs, ← hKl, List.append_nil]
 rw [← hKl] at hkv
 have hKn : K.length ≤ 3500000000000 := by
  have := hp.length_eq
  rw [List.length_map] at this
  omega
 conv=>whnf
 refine LenG.sl hkv ?_
 conv=>whnf
 have kB : ∀ i (h : i < K.length), (keysB K)[i]? = some (.string K[i]) := fun i h => by rw [keysB, List.getElem?_map, List.getElem?_eq_getElem h]; rfl
 have kBl : (keysB K).length = K.length * 1 := by rw [keysB, List.length_map, Nat.mul_one]
 refine LoopG.mk (fun mm e L => ∃ (i : Nat) (l : List ChD) (v : Value), i ≤ K.length ∧ mm = K.length - i ∧ SlV v l.length ∧ l.length ≤ i ∧ (∀ d ∈ l, SlV d.ov d.old.length ∧ SlV d.nv d.new.length) ∧ l.map (fun d => (d.key, d.old, d.new)) = ((K.take i).filter (turned c)).map (fun k => (k, hasL c k, c.val k)) ∧
  e = [(0, .pointer (some ⟨s, 0, none⟩)), (2, .slice none 0 0), (3, v), (8, kv), (9, .int .i64 K.length), (10, .int .i64 i)] ∧ L = own 3 v l.length (l.flatMap ChD.cells) :: own 1 kv K.length (keysB K) :: (chS l ++ c.pieces 70 s src)) K.length
  [(0, .pointer (some ⟨s, 0, none⟩)), (2, .slice none 0 0), (3, .slice none 0 0), (8, kv), (9, .int .i64 K.length), (10, .int .i64 0)] (own 3 (.slice none 0 0) 0 [] :: own 1 kv K.length (keysB K) :: (chS [] ++ c.pieces 70 s src)) ⟨rfl, rfl, rfl, rfl, rfl, rfl, trivial⟩ (fun w G hs => Sat.own_nil hs)
  ⟨0, [], .slice none 0 0, by omega, rfl, .inl ⟨rfl, rfl⟩, Nat.le_refl _, fun d hd => absurd hd (List.not_mem_nil), by simp, rfl, rfl⟩ ?_
 rintro mm e L ⟨i, l, v, hi, rfl, hv, hll, hsv, hmap, rfl, rfl⟩
 conv=>whnf
 refine CondG.dec (fun h1 => ?_) (fun h1 => ?_)
 ·have hil : i < K.length := by omega
  obtain ⟨k, hkk⟩ : ∃ k, k = K[i] := ⟨_, rfl⟩
  obtain ⟨hrd, hsl, hle⟩ := StC.rd (T := 70) (s := s) (src := src) (key := k) hw
  have ehv : (Option.map (fun x : Value × List Nat => x.fst) (getK c.has k)).getD (.slice none 0 0) = hasV c k := rfl
  obtain ⟨hrd2, hsl2, hle2⟩ := hasV_rd (T := 70) (s := s) (src := src) hw k
  conv=>whnf
  refine IdxG.rd (L := own 1 kv K.length (keysB K) :: (chS l ++ c.pieces 70 s src)) (own_rd hkv kBl) (by omega) fun cb o hcc => ?_
  conv=>whnf
  refine LoadG.at (v := .string k) (.tl (hcc.one (i := ((i : Nat) : Int).toNat * 1) (by rw [Int.toNat_natCast, Nat.mul_one, hkk]; exact kB i hil))) ?_
  clear hcc
  conv=>whnf
  obtain ⟨A, hA⟩ : ∃ A, A = own 3 v l.length (l.flatMap ChD.cells) :: own 1 kv K.length (keysB K) :: chS l := ⟨_, rfl⟩
  have hEnt : Ent (own 3 v l.length (l.flatMap ChD.cells) :: own 1 kv K.length (keysB K) :: (chS l ++ c.pieces 70 s src)) (c.pieces 70 s src ++ A) := by
   rw [hA]
   exact Ent.perm (List.perm_append_comm (l₁ := own 3 v l.length (l.flatMap ChD.cells) :: own 1 kv K.length (keysB K) :: chS l) (l₂ := c.pieces 70 s src))
  refine CallG.of (pre := []) (rest := c.pieces 70 s src ++ A) (by rw [List.append_assoc]; exact value_spec (A ++ F) s src c k []) hEnt ?_
  rintro _ _ ⟨rfl, rfl⟩
  conv=>whnf
  refine LoadG.at (.here rfl) ?_
  conv=>whnf
  refine DoesG.look strT mapT zeroB trivial (MapG.left (MapG.left (.tl .here) A) F) false ?_
  rw [getM_kv]
  simp only [Bool.false_eq_true, if_false]
  rw [ehv]
  conv=>whnf
  refine CallG.of (pre := []) (rest := c.pieces 70 s src ++ A) (equal_spec _ (c.valV k) (hasV c k) (c.val k) (hasL c k) ((hrd.left A).left F) ((hrd2.left A).left F)) (Ent.refl _) ?_
  rintro _ _ ⟨rfl, rfl⟩
  conv=>whnf
  refine CondG.split (fun ht => ?_) (fun ht => ?_)
  ·have htk : turned c k = true := ht
   conv=>whnf
   refine LoadG.at (.here rfl) ?_
   conv=>whnf
   refine DoesG.look strT mapT zeroB trivial (MapG.left (MapG.left (.tl .here) A) F) false ?_
   rw [getM_kv]
   simp only [Bool.false_eq_true, if_false]
   rw [ehv]
   conv=>whnf
   refine CallG.of (pre := []) (rest := c.pieces 70 s src ++ A) (clone_spec _ (hasV c k) (hasL c k) (by omega) ((hrd2.left A).left F)) (Ent.refl _) ?_
   rintro ov _ ⟨hov, rfl, _⟩
   conv=>whnf
   refine CallG.of (pre := []) (rest := own 1 ov (hasL c k).length (bvs (hasL c k)) :: (c.pieces 70 s src ++ A)) (clone_spec _ (c.valV k) (c.val k) (by omega) (.tl ((hrd.left A).left F))) (Ent.refl _) ?_
   rintro nv _ ⟨hnv, rfl, _⟩
   obtain ⟨oa, oc, hoe⟩ := hov.len
   obtain ⟨na, nc, hne⟩ := hnv.len
   conv=>whnf
   refine BuildG.of (cs := [.string k, ov, nv]) (by rw [hoe, hne]; rfl) ?_
   conv=>whnf
   refine BuildG.of (cs := [.string k, ov, nv]) (by rw [hoe, hne]; rfl) ?_
   conv=>whnf
   intro b38
   conv=>whnf
   subst hA
   refine DoesG.ent (Ent.perm (List.perm_middle (l₁ := cel b38 91 [.string k, ov, nv] :: own 1 nv (c.val k).length (bvs (c.val k)) :: own 1 ov (hasL c k).length (bvs (hasL c k)) :: c.pieces 70 s src))) ?_
   refine app_ownW changesT 88 (m := 1) (ys := [.string k, ov, nv]) (.mk _ _ _ _ _ (Nat.le_refl _) (.tl (.left .all _))) rfl (by rw [hoe, hne]; simp [Value.oneCell']) (by simp only [maxLen]; omega) (.wide (by omega)) fun v2 hv2 _ _ => ?_
   conv=>whnf
   refine ArithG.i64' ((i + 1 : Nat) : Int) (by omega) (by omega) ?_
   conv=>whnf
   obtain ⟨d, hd⟩ : ∃ d : ChD, d = ⟨k, ov, hasL c k, nv, c.val k⟩ := ⟨_, rfl⟩
   have e1 : own 3 v2 (l.length + 1) (l.flatMap ChD.cells ++ [.string k, ov, nv]) = own 3 v2 (l ++ [d]).length ((l ++ [d]).flatMap ChD.cells) := by simp [hd, ChD.cells]
   have e2 : chS (l ++ [d]) = chS l ++ [own 1 ov (hasL c k).length (bvs (hasL c k)), own 1 nv (c.val k).length (bvs (c.val k))] := by simp [chS, hd]
   rw [e1]
   refine ⟨K.length - (i + 1), [(0, .pointer (some ⟨s, 0, none⟩)), (2, .slice none 0 0), (3, v2), (8, kv), (9, .int .i64 K.length), (10, .int .i64 ((i + 1 : Nat) : Int))], _, by omega, ⟨rfl, rfl, rfl, rfl, rfl, rfl, trivial⟩, ?_, i + 1, l ++ [d], v2, by omega, rfl, by rw [List.length_append]; exact hv2, by rw [List.length_append, List.length_singleton]; omega, fun x hx => ?_, ?_, rfl, rfl⟩
   ·rw [e2]
    refine Ent.cons _ ((Ent.drop _).trans (Ent.perm ?_))
    exact turn_perm
   ·rcases List.mem_append.1 hx with hx | hx
    ·exact hsv x hx
    ·rw [List.mem_singleton.1 hx, hd]
     exact ⟨hov, hnv⟩
   ·rw [List.map_append, hmap, List.take_succ_eq_append_getElem hil, List.filter_append, List.map_append, ← hkk]
    simp [htk, hd]
  ·have htk : turned c k = false := ht
   conv=>whnf
   refine ArithG.i64' ((i + 1 : Nat) : Int) (by omega) (by omega) ?_
   conv=>whnf
   refine ⟨K.length - (i + 1), [(0, .pointer (some ⟨s, 0, none⟩)), (2, .slice none 0 0), (3, v), (8, kv), (9, .int .i64 K.length), (10, .int .i64 ((i + 1 : Nat) : Int))], _, by omega, ⟨rfl, rfl, rfl, rfl, rfl, rfl, trivial⟩, ?_, i + 1, l, v, by omega, rfl, hv, by omega, hsv, ?_, rfl, rfl⟩
   ·rw [hA]
    exact Ent.perm (List.perm_append_comm (l₁ := c.pieces 70 s src) (l₂ := own 3 v l.length (l.flatMap ChD.cells) :: own 1 kv K.length (keysB K) :: chS l))
   ·rw [hmap, List.take_succ_eq_append_getElem hil, List.filter_append, List.map_append, ← hkk]
    simp [htk]
 ·have hil : i = K.length := by omega
  conv=>whnf
  refine ⟨_, ?_, ss, l, hp, hv, hsv, by rw [hmap, hil, List.take_length, hK], rfl⟩
  refine (Ent.cons _ (Ent.drop _)).trans (Ent.perm ?_)
  exact List.perm_append_comm (l₁ := own 3 v l.length (l.flatMap ChD.cells) :: chS l) (l₂ := c.pieces 70 s src)
section
variable {find : ByteArray → List Nat × Int}
end
end Go.Proofs.YtmfonkklmndhjaaGreatDoor
