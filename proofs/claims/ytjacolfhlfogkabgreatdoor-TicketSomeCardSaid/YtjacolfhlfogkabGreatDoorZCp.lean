import Derived.Test.YtjacolfhlfogkabGreatDoorZWl
namespace Go.Sl
open Go
abbrev W32 := BitVec 32
def rotl (x : W32) (s : Nat) : W32 := x <<< s ||| x >>> (32 - s)
def w16 (p : List Nat) (t : Nat) : W32 := ((BitVec.ofNat 32 (p.getD (4 * t) 0) <<< 24 ||| BitVec.ofNat 32 (p.getD (4 * t + 1) 0) <<< 16) ||| BitVec.ofNat 32 (p.getD (4 * t + 2) 0) <<< 8) ||| BitVec.ofNat 32 (p.getD (4 * t + 3) 0)
def sig1 (x : W32) : W32 := (rotl x 15 ^^^ rotl x 13) ^^^ (x >>> 10)
def sig0 (x : W32) : W32 := (rotl x 25 ^^^ rotl x 14) ^^^ (x >>> 3)
def nextW (p : List Nat) (l : List W32) (t : Nat) : W32 := if t < 16 then w16 p t else ((sig1 (l.getD (t - 2) 0) + l.getD (t - 7) 0) + sig0 (l.getD (t - 15) 0)) + l.getD (t - 16) 0
def wl (p : List Nat) : Nat → List W32
 | 0 => []
 | t + 1 => wl p t ++ [nextW p (wl p t) t]
structure R8 where
 a : W32
 b : W32
 c : W32
 d : W32
 e : W32
 f : W32
 g : W32
 h : W32
def rndX (k w : W32) (s : R8) : W32 := ((rotl s.e 26 ^^^ rotl s.e 21) ^^^ rotl s.e 7) + (((s.h + ((s.e &&& s.f) ^^^ (~~~s.e &&& s.g))) + k) + w)
def rndY (s : R8) : W32 := ((rotl s.a 30 ^^^ rotl s.a 19) ^^^ rotl s.a 10) + (((s.a &&& s.b) ^^^ (s.a &&& s.c)) ^^^ (s.b &&& s.c))
def rnd (k w : W32) (s : R8) : R8 := ⟨rndX k w s + rndY s, s.a, s.b, s.c, s.d + rndX k w s, s.e, s.f, s.g⟩
def rounds (K W : List W32) (s : R8) : Nat → R8
 | 0 => s
 | t + 1 => rnd (K.getD t 0) (W.getD t 0) (rounds K W s t)
def R8.of (s : List W32) : R8 := ⟨s.getD 0 0, s.getD 1 0, s.getD 2 0, s.getD 3 0, s.getD 4 0, s.getD 5 0, s.getD 6 0, s.getD 7 0⟩
def R8.list (r : R8) : List W32 := [r.a, r.b, r.c, r.d, r.e, r.f, r.g, r.h]
def takeS (K : List W32) (s : List W32) (p : List Nat) : List W32 := List.zipWith (· + ·) s (rounds K (wl p 64) (R8.of s) 64).list
end Go.Sl
namespace Go.Sl
open Go
section
variable {P : Program} {F L : List HP} {x : Value} {cs cur : List Value} {n g o dLen dCap : Nat} {t : TypeId}
theorem DoesG.copy1 {dT ty elem : TypeId} (hu : P.underlying dT = some (.slice elem)) (hs : sizeT P elem = some 1) (hr : RdS (cel g t cur :: (L ++ F)) x n cs) (hn : cs.length = n) (hfit : o + min n dLen ≤ cur.length) (h1 : ∀ v ∈ cs, v.oneCell' = true)
 {k : Value → List HP → Prop} (hk : k (.int .i64 (min n dLen : Nat)) (cel g t (cur.take o ++ cs.take (min n dLen) ++ cur.drop (o + min n dLen)) :: L)) :
 DoesG P F (Builtin.copy_ #[dT, dT] ty #[.slice (some ⟨g, o, none⟩) dLen dCap, x]) (cel g t cur :: L) k := ⟨fun w hw => by
 have hsz := run_size hs w
 have hlen : (cs.take (min n dLen)).length = min n dLen := by simp; omega
 obtain ⟨w', hst, hx, hb, hkk⟩ := storeCells_run P g o t (cs.take (min n dLen)) 0 cur w (Sat.blk_heap hw) (by rw [hlen]; omega) (fun v hv => h1 v (List.mem_of_mem_take hv))
 have hput : Sat w' (cel g t (cur.take o ++ cs.take (min n dLen) ++ cur.drop (o + min n dLen)) :: (L ++ F)) := by
  have := Sat.put (o := .cells ⟨cur⟩ t (0, 0)) hw hb hkk
  rw [Nat.add_zero, hlen] at this
  exact this
 refine ⟨_, _, w', ?_, hx, hput, hk⟩
 cases hr with
 | nil =>
  simp at hn hst
  simp [Builtin.copy_, run_und hu, Builtin.lenOf, Builtin.firstCells, hsz, storeCells, goInt]
  simpa [storeCells] using hst
 | zero a cap =>
  simp at hn hst
  simp [Builtin.copy_, run_und hu, Builtin.lenOf, Builtin.firstCells, loadCells, loadCellsFrom, hsz, storeCells, goInt]
  simpa [storeCells] using hst
 | mk b o' n cap cs hcap h =>
  have hnews : ∀ j u, (cs.take (min n dLen))[j]? = some u → w.cell? ((⟨b, o', none⟩ : Addr).add j) = some u := fun j u hj => by
   rw [add_none]
   refine h w hw j u ?_
   rw [List.getElem?_take] at hj
   split at hj
   ·exact hj
   ·cases hj
  have hf := run_firstCells_some (P := P) w 1 (min n dLen) ⟨b, o', none⟩ n cap (cs.take (min n dLen)) (by rw [hlen]; omega) hnews
  have em : Nat.min n dLen = min n dLen := rfl
  simp [Builtin.copy_, run_und hu, Builtin.lenOf, hsz, em, hf, hst, goInt]⟩
end
/-! The plain law of the digest -/
def ivW : List W32 := [1779033703, 3144134277, 1013904242, 2773480762, 1359893119, 2600822924, 528734635, 1541459225]
def stN (K : List W32) (m : List Nat) : Nat → List W32
 | 0 => ivW
 | q + 1 => takeS K (stN K m q) ((m.drop (64 * q)).take 64)
section
variable {s s' : List W32} {wait : List Nat} {n n' : Nat}
end
def padP (m : List Nat) : List Nat := m.drop (64 * (m.length / 64)) ++ 128 :: List.replicate (63 - m.length % 64) 0
def endS (K : List W32) (m : List Nat) : List W32 := if 56 ≤ m.length % 64 then takeS K (stN K m (m.length / 64)) (padP m) else stN K m (m.length / 64)
def endP (m : List Nat) : List Nat := if 56 ≤ m.length % 64 then List.replicate 64 0 else padP m
def endQ (m : List Nat) : List Nat := (endP m).take 56 ++ be (m.length * 8) 8
def digB (s : List W32) : List Nat := (List.range 32).map fun i => (s.getD (i / 4) 0 >>> (24 - 8 * (i % 4))).toNat % 256
def dig (K : List W32) (m : List Nat) : List Nat := digB (takeS K (endS K m) (endQ m))
end Go.Sl
