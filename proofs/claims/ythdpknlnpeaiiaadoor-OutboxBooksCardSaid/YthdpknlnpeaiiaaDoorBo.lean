/-
  A book's functions, the book as one piece: contracts out of the resolved texts.
-/
import Derived.Test.YthdpknlnpeaiiaaDoorTe
import Derived.Test.YthdpknlnpeaiiaaDoorKn
namespace Go.Proofs.YthdpknlnpeaiiaaDoor
open Go Go.Sl
theorem newP (F : List HP) : SpecF Tryd.prog 15 [] F [] (fun v L => ∃ b, v = .pointer (some ⟨b, 0, none⟩) ∧ L = [bookP 60 b []]) :=
  (new_spec F).turn fun v L ⟨b, hv, hL⟩ => ⟨_, ⟨b, hv, rfl⟩, by
    subst hL
    exact book_pack (x := (.slice none 0 0, .slice none 0 0, [])) ⟨rfl, by simp, .inl ⟨rfl, rfl⟩, .inl ⟨rfl, rfl⟩, by simp⟩⟩
theorem putP (F : List HP) (b : Nat) (l : LeafD) (hl : l.wf) (hm : l.may) (ls : List LeafD) (hi : l.idx = ls.length) (hn : ls.length ≤ 1099511627776) :
    SpecF Tryd.prog 25 [.pointer (some ⟨b, 0, none⟩), .agg ⟨l.cells⟩] F [bookP 60 b ls] (fun v L => v = .int .i64 0 ∧ L = [bookP 60 b (ls ++ [l])]) := by
  refine SpecF.unpack0 fun x hx => ?_
  refine (put_spec F b x.1 x.2.1 l hl ls x.2.2 hn (by rw [hx.len]; exact hn)).turn fun v L h => ?_
  rcases h with ⟨h, _⟩ | ⟨_, h, _⟩ | ⟨_, _, rfl, lv', tv', r, h1, h2, h3, rfl⟩
  · exact absurd hm h
  · exact absurd hi h
  refine ⟨_, ⟨rfl, rfl⟩, book_pack (x := (lv', tv', x.2.2 ++ [(r, l.bytes)])) ⟨by simp [hx.ts], fun y hy => ?_, by simpa using h1, by simpa using h2, fun t ht => ?_⟩⟩
  · rcases List.mem_append.1 hy with hy | hy
    · exact hx.wf y hy
    · rw [List.mem_singleton.1 hy]; exact hl
  · rcases List.mem_append.1 ht with ht | ht
    · exact hx.each t ht
    · rw [List.mem_singleton.1 ht]; exact h3
theorem lenP (F : List HP) (b : Nat) (ls : List LeafD) : SpecF Tryd.prog 19 [.pointer (some ⟨b, 0, none⟩)] F [bookP 60 b ls] (fun v L => v = .int .i64 ls.length ∧ L = [bookP 60 b ls]) := by
  refine SpecF.unpack0 fun x hx => ?_
  intro w hw
  refine (len_spec (bookL 60 b x.1 x.2.1 ls x.2.2 ++ F) b x.1 ls.length (.left (.tl (.tl (.here rfl))) F) hx.lv w (by simpa using hw)).mono ?_
  rintro e w' ⟨v, L, rfl, ⟨rfl, rfl⟩, hx', hs⟩
  exact ⟨_, _, rfl, ⟨rfl, rfl⟩, hx', book_pack hx w' F (by simpa using hs)⟩
theorem sized_spec (F : List HP) (b : Nat) (lv : Value) (n : Int) (m : Nat) (h : Cel F b 0 lv) (hs : SlV lv m) : SpecF Tryd.prog 56 [.pointer (some ⟨b, 0, none⟩), .int .i64 n] F [] (fun v L => v = .int .i64 (if n < 0 ∨ (m : Int) < n then 112 else 0) ∧ L = []) := by
  refine fun56.spec rfl ?_
  (conv => whnf); repeat ((first | with_reducible refine CondG.tt ?_ | with_reducible refine CondG.ff ?_); conv => whnf)
  refine CondG.dec (fun h1 => ?_) (fun h1 => ?_)
  · (conv => whnf); repeat ((first | with_reducible refine CondG.tt ?_ | with_reducible refine CondG.ff ?_); conv => whnf)
    rw [if_pos (.inl h1)]
    exact ret_here ⟨rfl, rfl⟩
  (conv => whnf); repeat ((first | with_reducible refine CondG.tt ?_ | with_reducible refine CondG.ff ?_); conv => whnf)
  refine CallG.pure (len_spec _ b lv m (.right h _) hs) ?_
  rintro _ _ ⟨rfl, rfl⟩
  (conv => whnf); repeat ((first | with_reducible refine CondG.tt ?_ | with_reducible refine CondG.ff ?_); conv => whnf)
  refine CondG.dec (fun h2 => ?_) (fun h2 => ?_)
  · (conv => whnf); repeat ((first | with_reducible refine CondG.tt ?_ | with_reducible refine CondG.ff ?_); conv => whnf)
    rw [if_pos (.inr h2)]
    exact ret_here ⟨rfl, rfl⟩
  (conv => whnf); repeat ((first | with_reducible refine CondG.tt ?_ | with_reducible refine CondG.ff ?_); conv => whnf)
  rw [if_neg (by omega)]
  exact ret_here ⟨rfl, rfl⟩
theorem bleafP (F : List HP) (b : Nat) (i : Nat) (ls : List LeafD) (hi : i < ls.length) : SpecF Tryd.prog 27 [.pointer (some ⟨b, 0, none⟩), .int .i64 i] F [bookP 60 b ls] (fun v L => v = .tuple #[.agg ⟨ls[i].cells⟩, .int .i64 0] ∧ L = [bookP 60 b ls]) := by
  refine SpecF.unpack0 fun x hx => ?_
  intro w hw
  have hll := leavesC_len hx.wf
  refine (bleaf_spec (bookL 60 b x.1 x.2.1 ls x.2.2 ++ F) b x.1 i ls hx.wf (.left (.tl (.tl (.here rfl))) F) (.left (own_rd hx.lv hll) F) hx.lv w (by simpa using hw)).mono ?_
  rintro e w' ⟨v, L, rfl, ⟨rfl, h⟩, hx', hs⟩
  refine ⟨_, _, rfl, ⟨?_, rfl⟩, hx', book_pack hx w' F (by simpa using hs)⟩
  rcases h with ⟨h, rfl⟩ | ⟨h, _⟩
  · simp
  · exact absurd ⟨by omega, by omega⟩ h
theorem texts_ok {ls : List LeafD} {x : Value × Value × List (Value × List Nat)} (hx : BookOk ls x) (hb : ∀ l ∈ ls, ∀ b ∈ l.to, b < 256) : ∀ t ∈ x.2.2.map (·.2), t.length ≤ 1099511627776 ∧ ∀ b ∈ t, b < 256 := by
  intro t ht
  rw [hx.ts] at ht
  obtain ⟨l, hl, rfl⟩ := List.mem_map.1 ht
  have := LeafD.bytes_len l (hx.wf l hl)
  exact ⟨by omega, bytes_lt (hb l hl)⟩
section
variable (K : List W32) (hk : K.length = 64)
include hk
theorem brootP (F : List HP) (hK : CelN F 4 0 (wvs K)) (b : Nat) (n : Nat) (ls : List LeafD) (hn : n ≤ ls.length) (hl : ls.length ≤ 1099511627776) (hb : ∀ l ∈ ls, ∀ b ∈ l.to, b < 256) :
    SpecF Tryd.prog 17 [.pointer (some ⟨b, 0, none⟩), .int .i64 n] F [bookP 60 b ls] (fun v L => v = .tuple #[.agg ⟨bvs (rootD K ((bytesL ls).take n))⟩, .int .i64 0] ∧ L = [bookP 60 b ls]) := by
  refine SpecF.unpack0 fun x hx => ?_
  have htx := texts_ok hx hb
  have hlen := hx.len
  refine fun17.spec rfl ?_
  (conv => whnf); repeat ((first | with_reducible refine CondG.tt ?_ | with_reducible refine CondG.ff ?_); conv => whnf)
  intro b4
  (conv => whnf); repeat ((first | with_reducible refine CondG.tt ?_ | with_reducible refine CondG.ff ?_); conv => whnf)
  refine CallG.pure (sized_spec _ b x.1 n ls.length (.left (.tl (.tl (.tl (.here rfl)))) F) hx.lv) ?_
  rintro _ _ ⟨rfl, rfl⟩
  rw [if_neg (by omega)]
  (conv => whnf); repeat ((first | with_reducible refine CondG.tt ?_ | with_reducible refine CondG.ff ?_); conv => whnf)
  refine CondG.ff ?_
  (conv => whnf); repeat ((first | with_reducible refine CondG.tt ?_ | with_reducible refine CondG.ff ?_); conv => whnf)
  refine LoadG.at (v := x.2.1) (.tl (.tl (.tl (.here rfl)))) ?_
  (conv => whnf); repeat ((first | with_reducible refine CondG.tt ?_ | with_reducible refine CondG.ff ?_); conv => whnf)
  have hT : RdT (cel b4 25 (bvs (List.replicate 32 0)) :: (bookL 60 b x.1 x.2.1 ls x.2.2 ++ F)) x.2.1 (x.2.2.map (·.2)) := RdT.right (book_rdT hx.tv hx.each) [_]
  obtain ⟨us, h1, h2, h3⟩ := hT.out
  rw [List.length_map, hlen] at h2
  refine SlcG.rd h2 fun a cap hva hcap => ?_
  (conv => whnf); repeat ((first | with_reducible refine CondG.tt ?_ | with_reducible refine CondG.ff ?_); conv => whnf)
  refine SideG.of (by omega) ?_
  (conv => whnf); repeat ((first | with_reducible refine CondG.tt ?_ | with_reducible refine CondG.ff ?_); conv => whnf)
  refine SliceG.rd (by rw [← hva]; exact h2) (by omega) (by omega) (by omega) (by omega) fun v1 hv1 _ => ?_
  have hr1 := RdT.cut h1 h3 (l := (0 : Int).toNat) (h := ((n : Nat) : Int).toNat) (by simp [hlen]; omega) hv1
  have e1 : ((x.2.2.map (·.2)).drop (0 : Int).toNat).take (((n : Nat) : Int).toNat - (0 : Int).toNat) = (bytesL ls).take n := by rw [hx.ts]; simp [bytesL]
  rw [e1] at hr1
  (conv => whnf); repeat ((first | with_reducible refine CondG.tt ?_ | with_reducible refine CondG.ff ?_); conv => whnf)
  refine CallG.pure (troot_spec K hk n _ v1 ((bytesL ls).take n) (.right hK _) hr1 (by rw [List.length_take]; omega) (by rw [List.length_take]; omega) (fun l hl => htx l (by rw [hx.ts]; exact List.mem_of_mem_take hl))) ?_
  rintro _ _ ⟨rfl, rfl⟩
  (conv => whnf); repeat ((first | with_reducible refine CondG.tt ?_ | with_reducible refine CondG.ff ?_); conv => whnf)
  refine StoreG.at (by rw [bvs_len, rootD_len]) (Upd.whole (by rw [bvs_len, rootD_len]; rfl) (bvs_one _)) ?_
  (conv => whnf); repeat ((first | with_reducible refine CondG.tt ?_ | with_reducible refine CondG.ff ?_); conv => whnf)
  refine LoadNG.at (vs := bvs (rootD K ((bytesL ls).take n))) (by rw [bvs_len, rootD_len]) .all ?_
  (conv => whnf); repeat ((first | with_reducible refine CondG.tt ?_ | with_reducible refine CondG.ff ?_); conv => whnf)
  exact ⟨_, (Ent.drop _).trans (book_pack hx), rfl, rfl⟩
theorem bpathP (F : List HP) (hK : CelN F 4 0 (wvs K)) (b : Nat) (i n : Nat) (ls : List LeafD) (hi : i < n) (hn : n ≤ ls.length) (hl : ls.length ≤ 1099511627776) (hb : ∀ l ∈ ls, ∀ b ∈ l.to, b < 256) :
    SpecF Tryd.prog 28 [.pointer (some ⟨b, 0, none⟩), .int .i64 i, .int .i64 n] F [bookP 60 b ls] (fun v L => ∃ r, SlV r (pathD K ((bytesL ls).take n) i).length ∧ v = .tuple #[r, .int .i64 0] ∧
      L = [own 32 r (pathD K ((bytesL ls).take n) i).length (digsC (pathD K ((bytesL ls).take n) i)), bookP 60 b ls]) := by
  refine SpecF.unpack0 fun x hx => ?_
  have htx := texts_ok hx hb
  have hlen := hx.len
  refine fun28.spec rfl ?_
  (conv => whnf); repeat ((first | with_reducible refine CondG.tt ?_ | with_reducible refine CondG.ff ?_); conv => whnf)
  refine CallG.pure (sized_spec _ b x.1 n ls.length (.left (.tl (.tl (.here rfl))) F) hx.lv) ?_
  rintro _ _ ⟨rfl, rfl⟩
  rw [if_neg (by omega)]
  (conv => whnf); repeat ((first | with_reducible refine CondG.tt ?_ | with_reducible refine CondG.ff ?_); conv => whnf)
  refine CondG.ff ?_
  (conv => whnf); repeat ((first | with_reducible refine CondG.tt ?_ | with_reducible refine CondG.ff ?_); conv => whnf)
  refine CondG.decF (by omega) ?_
  (conv => whnf); repeat ((first | with_reducible refine CondG.tt ?_ | with_reducible refine CondG.ff ?_); conv => whnf)
  refine CondG.decF (by omega) ?_
  (conv => whnf); repeat ((first | with_reducible refine CondG.tt ?_ | with_reducible refine CondG.ff ?_); conv => whnf)
  refine LoadG.at (v := x.2.1) (.tl (.tl (.here rfl))) ?_
  (conv => whnf); repeat ((first | with_reducible refine CondG.tt ?_ | with_reducible refine CondG.ff ?_); conv => whnf)
  have hT : RdT (bookL 60 b x.1 x.2.1 ls x.2.2 ++ F) x.2.1 (x.2.2.map (·.2)) := book_rdT hx.tv hx.each
  obtain ⟨us, h1, h2, h3⟩ := hT.out
  rw [List.length_map, hlen] at h2
  refine SlcG.rd h2 fun a cap hva hcap => ?_
  (conv => whnf); repeat ((first | with_reducible refine CondG.tt ?_ | with_reducible refine CondG.ff ?_); conv => whnf)
  refine SideG.of (by omega) ?_
  (conv => whnf); repeat ((first | with_reducible refine CondG.tt ?_ | with_reducible refine CondG.ff ?_); conv => whnf)
  refine SliceG.rd (by rw [← hva]; exact h2) (by omega) (by omega) (by omega) (by omega) fun v1 hv1 _ => ?_
  have hr1 := RdT.cut h1 h3 (l := (0 : Int).toNat) (h := ((n : Nat) : Int).toNat) (by simp [hlen]; omega) hv1
  have e1 : ((x.2.2.map (·.2)).drop (0 : Int).toNat).take (((n : Nat) : Int).toNat - (0 : Int).toNat) = (bytesL ls).take n := by rw [hx.ts]; simp [bytesL]
  rw [e1] at hr1
  have hbl : (bytesL ls).length = ls.length := by simp [bytesL]
  (conv => whnf); repeat ((first | with_reducible refine CondG.tt ?_ | with_reducible refine CondG.ff ?_); conv => whnf)
  refine CallG.pure (tPath_spec K hk _ v1 ((bytesL ls).take n) i (.right hK _) hr1 (by rw [List.length_take]; omega) (by rw [List.length_take]; omega) (fun l hl => htx l (by rw [hx.ts]; exact List.mem_of_mem_take hl))) ?_
  rintro _ _ ⟨r, hr, rfl, rfl⟩
  (conv => whnf); repeat ((first | with_reducible refine CondG.tt ?_ | with_reducible refine CondG.ff ?_); conv => whnf)
  exact ⟨_, Ent.under (book_pack hx) [_], r, hr, rfl, rfl⟩
end
theorem bcut_no (F : List HP) (b : Nat) (n : Int) (ls : List LeafD) (hn : n < 0 ∨ (ls.length : Int) < n) : SpecF Tryd.prog 24 [.pointer (some ⟨b, 0, none⟩), .int .i64 n] F [bookP 60 b ls] (fun v L => v = .int .i64 112 ∧ L = [bookP 60 b ls]) := by
  refine SpecF.unpack0 fun x hx => ?_
  refine fun24.spec rfl ?_
  (conv => whnf); repeat ((first | with_reducible refine CondG.tt ?_ | with_reducible refine CondG.ff ?_); conv => whnf)
  refine CallG.pure (sized_spec _ b x.1 n ls.length (.left (.tl (.tl (.here rfl))) F) hx.lv) ?_
  rintro _ _ ⟨rfl, rfl⟩
  rw [if_pos hn]
  (conv => whnf); repeat ((first | with_reducible refine CondG.tt ?_ | with_reducible refine CondG.ff ?_); conv => whnf)
  refine CondG.tt ?_
  (conv => whnf); repeat ((first | with_reducible refine CondG.tt ?_ | with_reducible refine CondG.ff ?_); conv => whnf)
  exact ⟨_, book_pack hx, rfl, rfl⟩
theorem bcutP (F : List HP) (b : Nat) (n : Nat) (ls : List LeafD) (hn : n ≤ ls.length) (hl : ls.length ≤ 1099511627776) : SpecF Tryd.prog 24 [.pointer (some ⟨b, 0, none⟩), .int .i64 n] F [bookP 60 b ls] (fun v L => v = .int .i64 0 ∧ L = [bookP 60 b (ls.take n)]) := by
  refine SpecF.unpack0 fun x hx => ?_
  have hlen := hx.len
  have htv := hx.tv
  have hlv := hx.lv
  refine fun24.spec rfl ?_
  (conv => whnf); repeat ((first | with_reducible refine CondG.tt ?_ | with_reducible refine CondG.ff ?_); conv => whnf)
  refine CallG.pure (sized_spec _ b x.1 n ls.length (.left (.tl (.tl (.here rfl))) F) hlv) ?_
  rintro _ _ ⟨rfl, rfl⟩
  rw [if_neg (by omega)]
  (conv => whnf); repeat ((first | with_reducible refine CondG.tt ?_ | with_reducible refine CondG.ff ?_); conv => whnf)
  refine CondG.ff ?_
  (conv => whnf); repeat ((first | with_reducible refine CondG.tt ?_ | with_reducible refine CondG.ff ?_); conv => whnf)
  refine LoadG.at (v := x.2.1) (.tl (.tl (.here rfl))) ?_
  (conv => whnf); repeat ((first | with_reducible refine CondG.tt ?_ | with_reducible refine CondG.ff ?_); conv => whnf)
  obtain ⟨lv, tv, ts⟩ := x
  obtain ⟨ta, tc, hte⟩ := htv.len
  obtain ⟨la, lc, hle⟩ := hlv.len
  simp only at hte hle hlen htv hlv
  subst hte
  subst hle
  have htc : ts.length ≤ tc := by
    rcases htv with ⟨h, h0⟩ | ⟨g, c, h, h0⟩
    · omega
    · cases h; exact h0
  have hlc : ls.length ≤ lc := by
    rcases hlv with ⟨h, h0⟩ | ⟨g, c, h, h0⟩
    · omega
    · cases h; exact h0
  refine SlcG.lit ?_
  (conv => whnf); repeat ((first | with_reducible refine CondG.tt ?_ | with_reducible refine CondG.ff ?_); conv => whnf)
  refine SideG.of (by omega) ?_
  refine ⟨?_⟩
  have en : ((n : Nat) : Int).toNat = n := Int.toNat_natCast n
  have et : ((ts.length : Nat) : Int).toNat = ts.length := Int.toNat_natCast _
  have ec : ((tc : Nat) : Int).toNat = tc := Int.toNat_natCast _
  rw [en, et, ec]
  (conv => whnf); repeat ((first | with_reducible refine CondG.tt ?_ | with_reducible refine CondG.ff ?_); conv => whnf)
  refine DoesG.ent (Ent.front 1 rfl) ?_
  refine DoesG.clearO (elem := 79) (zv := .slice none 0 0) (by kernel_rfl) (by kernel_rfl) rfl htv (by omega) ?_
  (conv => whnf); repeat ((first | with_reducible refine CondG.tt ?_ | with_reducible refine CondG.ff ?_); conv => whnf)
  refine DrawG.mk 24 [] (own 1 (.slice ta ts.length tc) ts.length ((ts.map (·.1)).take n ++ List.replicate (ts.length - n) (.slice none 0 0)) :: own 27 (.slice la ls.length lc) ls.length (leavesC ls) :: cel b 60 [.slice la ls.length lc, .slice ta ts.length tc] :: textsL ts) (by rw [List.append_nil]; exact Ent.refl _) ?_
  (conv => whnf); repeat ((first | with_reducible refine CondG.tt ?_ | with_reducible refine CondG.ff ?_); conv => whnf)
  refine .take 0 ?_
  (conv => whnf); repeat ((first | with_reducible refine CondG.tt ?_ | with_reducible refine CondG.ff ?_); conv => whnf)
  refine ⟨rfl, ?_⟩
  (conv => whnf); repeat ((first | with_reducible refine CondG.tt ?_ | with_reducible refine CondG.ff ?_); conv => whnf)
  refine .take 1 ?_
  (conv => whnf); repeat ((first | with_reducible refine CondG.tt ?_ | with_reducible refine CondG.ff ?_); conv => whnf)
  refine ⟨rfl, ?_⟩
  (conv => whnf); repeat ((first | with_reducible refine CondG.tt ?_ | with_reducible refine CondG.ff ?_); conv => whnf)
  refine .take 2 ?_
  (conv => whnf); repeat ((first | with_reducible refine CondG.tt ?_ | with_reducible refine CondG.ff ?_); conv => whnf)
  refine ⟨rfl, ?_⟩
  (conv => whnf); repeat ((first | with_reducible refine CondG.tt ?_ | with_reducible refine CondG.ff ?_); conv => whnf)
  refine .take 3 ?_
  (conv => whnf); repeat ((first | with_reducible refine CondG.tt ?_ | with_reducible refine CondG.ff ?_); conv => whnf)
  refine ⟨rfl, ?_⟩
  (conv => whnf); repeat ((first | with_reducible refine CondG.tt ?_ | with_reducible refine CondG.ff ?_); conv => whnf)
  refine .take 4 ?_
  (conv => whnf); repeat ((first | with_reducible refine CondG.tt ?_ | with_reducible refine CondG.ff ?_); conv => whnf)
  refine ⟨rfl, ?_⟩
  (conv => whnf); repeat ((first | with_reducible refine CondG.tt ?_ | with_reducible refine CondG.ff ?_); conv => whnf)
  refine .take 5 ?_
  (conv => whnf); repeat ((first | with_reducible refine CondG.tt ?_ | with_reducible refine CondG.ff ?_); conv => whnf)
  refine ⟨rfl, ?_⟩
  (conv => whnf); repeat ((first | with_reducible refine CondG.tt ?_ | with_reducible refine CondG.ff ?_); conv => whnf)
  refine .take 7 ?_
  (conv => whnf); repeat ((first | with_reducible refine CondG.tt ?_ | with_reducible refine CondG.ff ?_); conv => whnf)
  refine ⟨rfl, ?_⟩
  (conv => whnf); repeat ((first | with_reducible refine CondG.tt ?_ | with_reducible refine CondG.ff ?_); conv => whnf)
  refine .take 9 ?_
  (conv => whnf); repeat ((first | with_reducible refine CondG.tt ?_ | with_reducible refine CondG.ff ?_); conv => whnf)
  refine ⟨rfl, ?_⟩
  (conv => whnf); repeat ((first | with_reducible refine CondG.tt ?_ | with_reducible refine CondG.ff ?_); conv => whnf)
  refine .take 10 ?_
  (conv => whnf); repeat ((first | with_reducible refine CondG.tt ?_ | with_reducible refine CondG.ff ?_); conv => whnf)
  refine ⟨rfl, ?_⟩
  (conv => whnf); repeat ((first | with_reducible refine CondG.tt ?_ | with_reducible refine CondG.ff ?_); conv => whnf)
  refine .take 11 ?_
  (conv => whnf); repeat ((first | with_reducible refine CondG.tt ?_ | with_reducible refine CondG.ff ?_); conv => whnf)
  refine ⟨rfl, ?_⟩
  (conv => whnf); repeat ((first | with_reducible refine CondG.tt ?_ | with_reducible refine CondG.ff ?_); conv => whnf)
  refine .take 12 ?_
  (conv => whnf); repeat ((first | with_reducible refine CondG.tt ?_ | with_reducible refine CondG.ff ?_); conv => whnf)
  refine ⟨rfl, ?_⟩
  (conv => whnf); repeat ((first | with_reducible refine CondG.tt ?_ | with_reducible refine CondG.ff ?_); conv => whnf)
  refine .take 14 ?_
  (conv => whnf); repeat ((first | with_reducible refine CondG.tt ?_ | with_reducible refine CondG.ff ?_); conv => whnf)
  refine ⟨rfl, ?_⟩
  (conv => whnf); repeat ((first | with_reducible refine CondG.tt ?_ | with_reducible refine CondG.ff ?_); conv => whnf)
  have elc : ((lc : Nat) : Int).toNat = lc := Int.toNat_natCast _
  refine .all ?_
  (conv => whnf); repeat ((first | with_reducible refine CondG.tt ?_ | with_reducible refine CondG.ff ?_); conv => whnf)
  refine ⟨by decide, ?_, ?_⟩
  (conv => whnf); repeat ((first | with_reducible refine CondG.tt ?_ | with_reducible refine CondG.ff ?_); conv => whnf)
  refine LoadG.at (v := .slice la ls.length lc) (.tl (.tl (.here rfl))) ?_
  (conv => whnf); repeat ((first | with_reducible refine CondG.tt ?_ | with_reducible refine CondG.ff ?_); conv => whnf)
  refine .take 8 ?_
  (conv => whnf); repeat ((first | with_reducible refine CondG.tt ?_ | with_reducible refine CondG.ff ?_); conv => whnf)
  refine ⟨rfl, ?_⟩
  (conv => whnf); repeat ((first | with_reducible refine CondG.tt ?_ | with_reducible refine CondG.ff ?_); conv => whnf)
  refine SlcG.lit ?_
  (conv => whnf); repeat ((first | with_reducible refine CondG.tt ?_ | with_reducible refine CondG.ff ?_); conv => whnf)
  refine SideG.of (by omega) ?_
  rw [en, elc]
  refine SliceG.zero ?_
  (conv => whnf); repeat ((first | with_reducible refine CondG.tt ?_ | with_reducible refine CondG.ff ?_); conv => whnf)
  refine .all ?_
  (conv => whnf); repeat ((first | with_reducible refine CondG.tt ?_ | with_reducible refine CondG.ff ?_); conv => whnf)
  refine ⟨by decide, ?_⟩
  (conv => whnf); repeat ((first | with_reducible refine CondG.tt ?_ | with_reducible refine CondG.ff ?_); conv => whnf)
  refine LoadG.at (v := .slice ta ts.length tc) (.tl (.tl (.here rfl))) ?_
  (conv => whnf); repeat ((first | with_reducible refine CondG.tt ?_ | with_reducible refine CondG.ff ?_); conv => whnf)
  refine .take 15 ?_
  (conv => whnf); repeat ((first | with_reducible refine CondG.tt ?_ | with_reducible refine CondG.ff ?_); conv => whnf)
  refine ⟨rfl, ?_⟩
  (conv => whnf); repeat ((first | with_reducible refine CondG.tt ?_ | with_reducible refine CondG.ff ?_); conv => whnf)
  refine SlcG.lit ?_
  (conv => whnf); repeat ((first | with_reducible refine CondG.tt ?_ | with_reducible refine CondG.ff ?_); conv => whnf)
  refine SideG.of (by omega) ?_
  rw [en, ec]
  refine SliceG.zero ?_
  rotate_left
  (conv => whnf); repeat ((first | with_reducible refine CondG.tt ?_ | with_reducible refine CondG.ff ?_); conv => whnf)
  refine LoadG.at (v := .slice ta ts.length tc) (.tl (.tl (.here rfl))) ?_
  (conv => whnf); repeat ((first | with_reducible refine CondG.tt ?_ | with_reducible refine CondG.ff ?_); conv => whnf)
  refine .take 15 ?_
  (conv => whnf); repeat ((first | with_reducible refine CondG.tt ?_ | with_reducible refine CondG.ff ?_); conv => whnf)
  refine ⟨rfl, ?_⟩
  (conv => whnf); repeat ((first | with_reducible refine CondG.tt ?_ | with_reducible refine CondG.ff ?_); conv => whnf)
  refine SlcG.lit ?_
  (conv => whnf); repeat ((first | with_reducible refine CondG.tt ?_ | with_reducible refine CondG.ff ?_); conv => whnf)
  refine SideG.of (by omega) ?_
  rw [en, ec]
  refine SliceG.zero ?_
  (conv => whnf); repeat ((first | with_reducible refine CondG.tt ?_ | with_reducible refine CondG.ff ?_); conv => whnf)
  refine .all ?_
  (conv => whnf); repeat ((first | with_reducible refine CondG.tt ?_ | with_reducible refine CondG.ff ?_); conv => whnf)
  refine ⟨by decide, ?_⟩
  (conv => whnf); repeat ((first | with_reducible refine CondG.tt ?_ | with_reducible refine CondG.ff ?_); conv => whnf)
  refine LoadG.at (v := .slice la ls.length lc) (.tl (.tl (.here rfl))) ?_
  (conv => whnf); repeat ((first | with_reducible refine CondG.tt ?_ | with_reducible refine CondG.ff ?_); conv => whnf)
  refine .take 8 ?_
  (conv => whnf); repeat ((first | with_reducible refine CondG.tt ?_ | with_reducible refine CondG.ff ?_); conv => whnf)
  refine ⟨rfl, ?_⟩
  (conv => whnf); repeat ((first | with_reducible refine CondG.tt ?_ | with_reducible refine CondG.ff ?_); conv => whnf)
  refine SlcG.lit ?_
  (conv => whnf); repeat ((first | with_reducible refine CondG.tt ?_ | with_reducible refine CondG.ff ?_); conv => whnf)
  refine SideG.of (by omega) ?_
  rw [en, elc]
  refine SliceG.zero ?_
  rotate_left
  all_goals
    (conv => whnf); repeat ((first | with_reducible refine CondG.tt ?_ | with_reducible refine CondG.ff ?_); conv => whnf)
    refine .take 16 ?_
    (conv => whnf); repeat ((first | with_reducible refine CondG.tt ?_ | with_reducible refine CondG.ff ?_); conv => whnf)
    refine ⟨rfl, ?_⟩
    (conv => whnf); repeat ((first | with_reducible refine CondG.tt ?_ | with_reducible refine CondG.ff ?_); conv => whnf)
    refine .take 17 ?_
    (conv => whnf); repeat ((first | with_reducible refine CondG.tt ?_ | with_reducible refine CondG.ff ?_); conv => whnf)
    refine ⟨rfl, ?_⟩
    (conv => whnf); repeat ((first | with_reducible refine CondG.tt ?_ | with_reducible refine CondG.ff ?_); conv => whnf)
    refine .take 18 ?_
    (conv => whnf); repeat ((first | with_reducible refine CondG.tt ?_ | with_reducible refine CondG.ff ?_); conv => whnf)
    refine ⟨rfl, ?_⟩
    (conv => whnf); repeat ((first | with_reducible refine CondG.tt ?_ | with_reducible refine CondG.ff ?_); conv => whnf)
    refine .all ?_
    (conv => whnf); repeat ((first | with_reducible refine CondG.tt ?_ | with_reducible refine CondG.ff ?_); conv => whnf)
    refine ⟨by decide, ?_⟩
    (conv => whnf); repeat ((first | with_reducible refine CondG.tt ?_ | with_reducible refine CondG.ff ?_); conv => whnf)
    refine StoreG.at rfl (Upd.tl (Upd.tl (Upd.here (by simp) rfl))) ?_
    (conv => whnf); repeat ((first | with_reducible refine CondG.tt ?_ | with_reducible refine CondG.ff ?_); conv => whnf)
    refine .take 20 ?_
    (conv => whnf); repeat ((first | with_reducible refine CondG.tt ?_ | with_reducible refine CondG.ff ?_); conv => whnf)
    refine ⟨rfl, ?_⟩
    (conv => whnf); repeat ((first | with_reducible refine CondG.tt ?_ | with_reducible refine CondG.ff ?_); conv => whnf)
    refine .take 21 ?_
    (conv => whnf); repeat ((first | with_reducible refine CondG.tt ?_ | with_reducible refine CondG.ff ?_); conv => whnf)
    refine ⟨rfl, ?_⟩
    (conv => whnf); repeat ((first | with_reducible refine CondG.tt ?_ | with_reducible refine CondG.ff ?_); conv => whnf)
    refine .take 22 ?_
    (conv => whnf); repeat ((first | with_reducible refine CondG.tt ?_ | with_reducible refine CondG.ff ?_); conv => whnf)
    refine ⟨rfl, ?_⟩
    (conv => whnf); repeat ((first | with_reducible refine CondG.tt ?_ | with_reducible refine CondG.ff ?_); conv => whnf)
    refine .all ?_
    (conv => whnf); repeat ((first | with_reducible refine CondG.tt ?_ | with_reducible refine CondG.ff ?_); conv => whnf)
    refine ⟨by decide, ?_⟩
    (conv => whnf); repeat ((first | with_reducible refine CondG.tt ?_ | with_reducible refine CondG.ff ?_); conv => whnf)
    refine StoreG.at rfl (Upd.tl (Upd.tl (Upd.here (by simp) rfl))) ?_
    (conv => whnf); repeat ((first | with_reducible refine CondG.tt ?_ | with_reducible refine CondG.ff ?_); conv => whnf)
    refine ⟨rfl, ?_⟩
    (conv => whnf); repeat ((first | with_reducible refine CondG.tt ?_ | with_reducible refine CondG.ff ?_); conv => whnf)
    refine ⟨_, ?_, rfl, rfl⟩
    have h1 : BookOk (ls.take n) (.slice la n lc, .slice ta n tc, ts.take n) := by
      refine ⟨?_, fun l hl => hx.wf l (List.mem_of_mem_take hl), ?_, ?_, fun t ht => hx.each t (List.mem_of_mem_take ht)⟩
      · have := hx.ts
        simp only at this
        rw [List.map_take, this, List.map_take]
      · rw [List.length_take, Nat.min_eq_left hn]
        rcases hlv with ⟨h, h0⟩ | ⟨g, c, h, h0⟩
        · simp only [Value.slice.injEq] at h
          obtain ⟨rfl, h1, rfl⟩ := h
          exact .inl ⟨by rw [show n = 0 by omega], by omega⟩
        · simp only [Value.slice.injEq] at h
          obtain ⟨rfl, h1, rfl⟩ := h
          exact .inr ⟨g, _, rfl, by omega⟩
      · simp only [List.length_take]
        rw [Nat.min_eq_left (by omega)]
        rcases htv with ⟨h, h0⟩ | ⟨g, c, h, h0⟩
        · simp only [Value.slice.injEq] at h
          obtain ⟨rfl, h1, rfl⟩ := h
          exact .inl ⟨by rw [show n = 0 by omega], by omega⟩
        · simp only [Value.slice.injEq] at h
          obtain ⟨rfl, h1, rfl⟩ := h
          exact .inr ⟨g, _, rfl, by omega⟩
    refine Ent.trans ?_ (book_pack h1)
    have e1 : (leavesC ls).take (n * 27) = leavesC (ls.take n) := leavesC_take hx.wf n
    have e2 : ((ts.map fun t : Value × List Nat => t.1).take n ++ List.replicate (ts.length - n) (Value.slice none 0 0)).take (n * 1) = (ts.take n).map fun t : Value × List Nat => t.1 := by
      rw [Nat.mul_one, List.take_append_of_le_length (by simp; omega), List.take_take, Nat.min_self, List.map_take]
    have l1 : (ls.take n).length = n := by rw [List.length_take, Nat.min_eq_left hn]
    have l2 : (ts.take n).length = n := by rw [List.length_take, Nat.min_eq_left (by omega)]
    simp only [bookL]
    rw [l1, l2]
    refine Ent.trans (own_cut (l := n) (by omega)) ?_
    rw [e2]
    refine Ent.trans (Ent.perm (List.Perm.swap _ _ _)) ?_
    refine Ent.trans (own_cut (l := n) hn) ?_
    rw [e1]
    refine Ent.cons _ (Ent.cons _ (Ent.cons _ ?_))
    have e3 : textsL ts = textsL (ts.take n) ++ textsL (ts.drop n) := by rw [textsL, textsL, textsL, ← List.map_append, List.take_append_drop]
    rw [e3]
    show Ent ((textsL (ts.take n) ++ textsL (ts.drop n)) ++ []) _
    rw [List.append_nil]
    exact Ent.dropL _ _
end Go.Proofs.YthdpknlnpeaiiaaDoor
