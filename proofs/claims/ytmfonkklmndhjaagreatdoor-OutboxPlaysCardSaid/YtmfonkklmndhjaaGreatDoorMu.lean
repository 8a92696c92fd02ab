import Derived.Test.YtmfonkklmndhjaaGreatDoorWa
import Derived.Test.YtmfonkklmndhjaaGreatDoorR7
import Derived.Test.YtmfonkklmndhjaaGreatDoorGp
import Derived.Test.YtmfonkklmndhjaaGreatDoorZKc
import Derived.Test.YtmfonkklmndhjaaGreatDoorZTw
namespace Go.Proofs.YtmfonkklmndhjaaGreatDoor
open Go Go.Sl
end Go.Proofs.YtmfonkklmndhjaaGreatDoor
namespace Go.Proofs.YtmfonkklmndhjaaGreatDoor
open Go Go.Sl
def DocF (F : List HP) (hv nv : Value) (part : Bool) (find : SrcF) : Prop :=
 SrcF.bytes find ∧ ∃ (hs : List PairD) (no : List NoD), (∀ k, mayI k 0 = 0 → find k = refF (hs.map PairD.e) no part k) ∧ RdS F hv hs.length (pairsC hs) ∧ hs.length ≤ 4611686018427387904 ∧ (∀ p ∈ hs, RdS F p.v p.bs.length (bvs p.bs)) ∧ RdS F nv no.length (noC no) ∧ no.length ≤ 4611686018427387904
theorem DocF.left {F : List HP} {hv nv : Value} {part : Bool} {find : SrcF} (h : DocF F hv nv part find) (L : List HP) : DocF (L ++ F) hv nv part find := by
 obtain ⟨h0, hs, no, h1, h2, h3, h4, h5, h6⟩ := h
 exact ⟨h0, hs, no, h1, h2.right L, h3, fun p hp => (h4 p hp).right L, h5.right L, h6⟩
theorem may_zero {key : ByteArray} {n : Nat} (h : mayI key n = 0) : mayI key 0 = 0 := by
 unfold mayI at h ⊢
 split at h
 ·cases h
 ·rename_i h1
  rw [if_neg h1, if_neg (by omega)]
section
variable {find : SrcF} {hv nv : Value} {part : Bool}
theorem get7_p (F : List HP) (s : Nat) (R : RSt) (key : ByteArray) (hd : DocF F hv nv part find) (hl : Lim R 1) :
 SpecF Tryz.prog 71 [.pointer (some ⟨s, 0, none⟩), .string key] F [refR 73 s hv part nv R] (fun r L => ∃ x, SlV x (gtQ find R key).1.1.length ∧ r = .tuple #[x, .int .i64 (gtQ find R key).1.2] ∧ L = [own 1 x (gtQ find R key).1.1.length (bvs (gtQ find R key).1.1), refR 73 s hv part nv (gtQ find R key).2]) := by
 obtain ⟨_, hs, no, hf, h2, h3, h4, h5, h6⟩ := hd
 have a := hl.told
 have b := hl.steps
 have e : gtQ find R key = getQ (refF (hs.map PairD.e) no part key) R key := by
  unfold gtQ
  by_cases h : mayI key 0 = 0
  ·rw [hf key h]
  ·unfold getQ; rw [if_pos h, if_pos h]
 rw [e]
 exact get7_spec F s hv part nv hs no h2 h3 h4 h5 h6 (by omega) (by omega) key
theorem put7_p (F : List HP) (s : Nat) (R : RSt) (key : ByteArray) (v : Value) (bs : List Nat) (hd : DocF F hv nv part find) (hr : RdS F v bs.length (bvs bs)) (hl : Lim R 1) :
 SpecF Tryz.prog 46 [.pointer (some ⟨s, 0, none⟩), .string key, v] F [refR 73 s hv part nv R] (fun r L => r = .int .i64 (ptQ find R key bs).1 ∧ L = [refR 73 s hv part nv (ptQ find R key bs).2]) := by
 obtain ⟨_, hs, no, hf, h2, h3, h4, h5, h6⟩ := hd
 have a := hl.told
 have b := hl.steps
 have e : ptQ find R key bs = putQ (refF (hs.map PairD.e) no part key) R key bs := by
  unfold ptQ
  by_cases h : mayI key bs.length = 0
  ·rw [hf key (may_zero h)]
  ·unfold putQ; rw [if_pos h, if_pos h]
 rw [e]
 exact put7s_spec F s hv part nv hs no h2 h3 h4 h5 h6 (by omega) (by omega) key v bs hr
end
end Go.Proofs.YtmfonkklmndhjaaGreatDoor
