import Derived.Test.YtjkldhalmglkpaaDoorZTc
import Derived.Test.YtjkldhalmglkpaaDoorZBv
namespace Go.Sl
open Go Go.Sort
def OkF (f : ByteArray → List Nat) : Prop := ∀ k, (∀ b ∈ f k, b < 256) ∧ (f k).length ≤ 4096 ∧ (mayI k 0 ≠ 0 → f k = [])
structure OkV (V : View) : Prop where
 now : OkF V.now
 hist : ∀ f ∈ V.hist, OkF f
theorem OkF.may {f : ByteArray → List Nat} (h : OkF f) {k : ByteArray} (hk : mayI k 0 = 0) : mayI k (f k).length = 0 := by
 have := (h k).2.1
 unfold mayI at hk ⊢
 split at hk
 ·cases hk
 ·rename_i h1
  rw [if_neg h1, if_neg (by omega)]
theorem OkV.first {find : ByteArray → List Nat × Int} {f : ByteArray → List Nat} (hf : ∀ k, (find k).1 = f k) (hO : OkF f) : OkV ⟨fun k => (find k).1, []⟩ := by
 have e : (fun k => (find k).1) = f := funext hf
 rw [e]
 exact ⟨hO, fun g hg => absurd hg List.not_mem_nil⟩
theorem OkV.upd {V : View} {key : ByteArray} {bs : List Nat} (h : OkV V) (hm : mayI key bs.length = 0) (hb : ∀ b ∈ bs, b < 256) : OkV (Go.Sl.upd V key bs) := by
 refine ⟨fun k => ?_, h.hist⟩
 show (∀ b ∈ (if k = key then bs else V k), b < 256) ∧ _ ∧ (_ → (if k = key then bs else V k) = [])
 obtain ⟨h1, h2⟩ := mayI_le hm
 by_cases e : k = key
 ·rw [if_pos e]
  exact ⟨hb, by show (if k = key then bs else V k).length ≤ 4096; rw [if_pos e]; exact h1, fun h3 => absurd (by rw [e]; exact h2) h3⟩
 ·rw [if_neg e]
  exact ⟨(h.now k).1, by show (if k = key then bs else V k).length ≤ 4096; rw [if_neg e]; exact (h.now k).2.1, (h.now k).2.2⟩
theorem OkV.mark {V : View} (h : OkV V) : OkV ⟨V.now, V.hist ++ [V.now]⟩ := ⟨h.now, fun f hf => by
 rcases List.mem_append.1 hf with hf | hf
 ·exact h.hist f hf
 ·rw [List.mem_singleton.1 hf]
  exact h.now⟩
theorem OkV.back {V : View} (h : OkV V) (m : Int) : OkV (backV V m) := by
 unfold backV
 split
 ·exact h
 ·split
  ·rename_i f hf
   exact ⟨h.hist f (List.mem_of_getElem? hf), fun g hg => h.hist g (List.mem_of_mem_take hg)⟩
  ·exact h
theorem backV_len (V : View) (m : Int) : (backV V m).hist.length ≤ V.hist.length := by
 unfold backV
 split
 ·exact Nat.le_refl _
 ·split
  ·exact List.length_take_le' _ _
  ·exact Nat.le_refl _
theorem tabFind_eq {K : List W32} {c : TabD} (hg : GoodT K c) (k : ByteArray) : (tabFind c.vals k).1 = c.cont k := by
 unfold tabFind
 by_cases hk : mayI k 0 = 0
 ·rw [if_neg (by omega)]
  rfl
 ·rw [if_pos hk]
  by_cases h : c.cont k = []
  ·exact h.symm
  ·exact absurd (mayI_le (hg.may h).1).2 hk
theorem GoodT.ok {K : List W32} {c : TabD} (hg : GoodT K c) : OkF c.cont := fun k => by
 by_cases h : c.cont k = []
 ·rw [h]
  exact ⟨by simp, by simp, fun _ => rfl⟩
 ·obtain ⟨h1, h2, h3⟩ := hg.may h
  exact ⟨h3, h2, fun h4 => absurd (mayI_le h1).2 h4⟩
def applyC (f : ByteArray → List Nat) (l : List ChD) : ByteArray → List Nat := l.foldl (fun f d => fun k => if k = d.key then d.new else f k) f
theorem applyC_app (f : ByteArray → List Nat) (l : List ChD) (d : ChD) : applyC f (l ++ [d]) = fun k => if k = d.key then d.new else applyC f l k := by
 unfold applyC
 rw [List.foldl_append]
 rfl
theorem applyC_step {f : ByteArray → List Nat} {l : List ChD} {i : Nat} {d : ChD} (h : l[i]? = some d) : applyC f (l.take (i + 1)) = fun k => if k = d.key then d.new else applyC f (l.take i) k := by
 rw [List.take_add_one, h]
 exact applyC_app f _ d
theorem applyC_at (g : ByteArray → List Nat) (k : ByteArray) : ∀ {l : List ChD} {f : ByteArray → List Nat}, (∀ d ∈ l, d.new = g d.key) → (k ∈ l.map (·.key) → applyC f l k = g k) ∧ (k ∉ l.map (·.key) → applyC f l k = f k)
 | [], _, _ => ⟨fun h => (by cases h), fun _ => rfl⟩
 | d :: l, f, h => by
  obtain ⟨h1, h2⟩ := applyC_at g k (l := l) (f := fun k => if k = d.key then d.new else f k) (fun e he => h e (List.mem_cons_of_mem _ he))
  have e : applyC f (d :: l) k = applyC (fun k => if k = d.key then d.new else f k) l k := rfl
  rw [e]
  simp only [List.map_cons, List.mem_cons]
  by_cases hk : k ∈ l.map (·.key)
  ·exact ⟨fun _ => h1 hk, fun hn => absurd (.inr hk) hn⟩
  ·rw [h2 hk]
   by_cases hd : k = d.key
   ·rw [if_pos hd, hd]
    exact ⟨fun _ => h d List.mem_cons_self, fun hn => absurd (.inl rfl) hn⟩
   ·rw [if_neg hd]
    exact ⟨fun hm => absurd hm (fun hm => hm.elim hd hk), fun _ => rfl⟩
theorem strB_eq {l m : List Nat} (hl : ∀ b ∈ l, b < 256) (hm : ∀ b ∈ m, b < 256) (h : strB l = strB m) : l = m := by
 have h1 : l.map UInt8.ofNat = m.map UInt8.ofNat := by
  have := congrArg (fun b => b.data.toList) h
  simpa [strB] using this
 have h2 : (l.map UInt8.ofNat).map UInt8.toNat = (m.map UInt8.ofNat).map UInt8.toNat := by rw [h1]
 have h3 : ∀ l : List Nat, (∀ b ∈ l, b < 256) → (l.map UInt8.ofNat).map UInt8.toNat = l := fun l hl => by
  rw [List.map_map]
  have : ∀ b ∈ l, (UInt8.toNat ∘ UInt8.ofNat) b = b := fun b hb => by
   simp only [Function.comp, UInt8.toNat_ofNat']
   exact Nat.mod_eq_of_lt (hl b hb)
  rw [List.map_congr_left this]
  simp
 rw [h3 l hl, h3 m hm] at h2
 exact h2
theorem changes_lay {find : ByteArray → List Nat × Int} {V : View} {l : List ChD} {f : ByteArray → List Nat} (hc : ChIs find V l) (hf : ∀ k, (find k).1 = f k) (hO : OkF f) (hV : OkV V) : applyC f l = V.now := by
 funext k
 obtain ⟨h1, h2⟩ := applyC_at V.now k (l := l) (f := f) (fun d hd => (hc.vals d hd).2)
 by_cases hk : k ∈ l.map (·.key)
 ·exact h1 hk
 ·rw [h2 hk]
  by_cases he : strB (V k) = strB (find k).1
  ·rw [hf k] at he
   exact (strB_eq (hV.now k).1 (hO k).1 he).symm
  ·exact absurd ((hc.mem k).2 he) hk
theorem changes_ok {find : ByteArray → List Nat × Int} {V : View} {l : List ChD} {f : ByteArray → List Nat} (hc : ChIs find V l) (hf : ∀ k, (find k).1 = f k) (hO : OkF f) (hV : OkV V) : ∀ d ∈ l, mayI d.key d.new.length = 0 ∧ (∀ b ∈ d.new, b < 256) := fun d hd => by
 obtain ⟨h1, h2⟩ := hc.vals d hd
 have hne := (hc.mem d.key).1 (List.mem_map.2 ⟨d, hd, rfl⟩)
 rw [h2]
 refine ⟨hV.now.may ?_, (hV.now d.key).1⟩
 by_cases hm : mayI d.key 0 = 0
 ·exact hm
 ·exact absurd (by rw [(hV.now d.key).2.2 hm, hf, (hO d.key).2.2 hm]) hne
end Go.Sl
