import Derived.Test.YtjkldhalmglkpaaDoorZAr
import Derived.Test.YtjkldhalmglkpaaDoorZSha
namespace Go.Sl
open Go Go.ChangeShapes Go.WideShapes
def K64 : List W32 := [1116352408, 1899447441, 3049323471, 3921009573, 961987163, 1508970993, 2453635748, 2870763221, 3624381080, 310598401, 607225278, 1426881987, 1925078388, 2162078206, 2614888103, 3248222580, 3835390401, 4022224774, 264347078, 604807628, 770255983, 1249150122, 1555081692, 1996064986, 2554220882, 2821834349, 2952996808, 3210313671, 3336571891, 3584528711, 113926993, 338241895, 666307205, 773529912, 1294757372, 1396182291, 1695183700, 1986661051, 2177026350, 2456956037, 2730485921, 2820302411, 3259730800, 3345764771, 3516065817, 3600352804, 4094571909, 275423344, 430227734, 506948616, 659060556, 883997877, 958139571, 1322822218, 1537002063, 1747873779, 1955562222, 2024104815, 2227730452, 2361852424, 2428436474, 2756734187, 3204031479, 3329325298]
theorem K64_len : K64.length = 64 := rfl
def tabK (K : List W32) : List Int := K.map fun w => (w.toNat : Int)
theorem words_was {P : Program} {W : World} {name : String} {K : List W32} {rest : List (String × DataW Unit)} {g : Nat} {t e : TypeId} {n : Nat} (hl : laidMet P ((name, Lib.tabData .u32 (tabK K)) :: rest) W)
 (hg : P.globalNamed name = some g) (hty : (P.globals[g]?).map (·.type) = some t) (ht : P.underlying t = some (.array n e)) (he : P.underlying e = some (.int .u32)) (hce : P.cellsOf e = 1) (hct : P.cellsOf t = n) : CelN [was W.heap] g 0 (wvs K) := by
 have h := tab_was (Lib.tabIs_of_head hg hty ht he hce hct hl) hg
 have e : (tabK K).map (fun z => Value.int .u32 z) = wvs K := by simp [tabK, wvs, wv, Function.comp_def]
 rw [e] at h
 exact h
theorem slice_okWide {P : Program} {w : World} {base : Nat} {t e : TypeId} {v : Value} (ht : P.underlying t = some (.slice e)) (h : Value.okWide P w .any base t v) : v.cells.toList = [v] ∧ ∀ a n c, v = .slice (some a) n c → a.spot = none := by
 unfold Value.okWide at h
 rw [ht] at h
 simp only [Cell.okWide, ht, Cell.ok] at h
 cases v
 case slice a n c =>
  refine ⟨rfl, fun b m d k => ?_⟩
  simp only [Value.slice.injEq] at k
  obtain ⟨rfl, rfl, rfl⟩ := k
  have h1 : World.has P w .any base b e _ := h.2.2
  exact (show _ ∧ _ ∧ _ from h1).2.1
 all_goals exact h.elim
end Go.Sl
