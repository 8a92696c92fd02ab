/-
  Get and Put over a source that knows of all keys; a state as one piece.
-/
import Derived.Test.YtnbcbdlbejdkpaaDoorTk
import Derived.Test.YtnbcbdlbejdkpaaDoorZPk
namespace Go.Proofs.YtnbcbdlbejdkpaaDoor
open Go Go.Sl
section
variable {find : ByteArray → List Nat × Int}
theorem get_ok (F : List HP) (s : Nat) (src : Value) (c : StC) (key : ByteArray) (hs : SrcG Tryd.prog F src find) (ho : SrcOk find) (hw : c.wf) (hk : mayI key 0 = 0) :
    SpecF Tryd.prog 40 [.pointer (some ⟨s, 0, none⟩), .string key] F (c.pieces 127 s src) (fun r L => ∃ c' x, Same find c c' ∧ SlV x (lv find c key).length ∧ (lv find c key).length ≤ 4096 ∧ r = .tuple #[x, .int .i64 0] ∧ L = own 1 x (lv find c key).length (bvs (lv find c key)) :: c'.pieces 127 s src) := by
  intro w hw'
  refine (get_spec F s src c key find hs (fun k => by have := ho.len k; omega) hw w hw').mono ?_
  rintro e w' ⟨v, L, rfl, hR, hx, hs'⟩
  refine ⟨v, L, rfl, ?_, hx, hs'⟩
  rcases hR with ⟨h1, _⟩ | ⟨_, h2, _⟩ | ⟨_, _, c', x, hc', hx, rfl, rfl⟩
  · exact absurd hk h1
  · exact absurd (ho.ask hk) h2
  · have ht := hc'.tells hw
    have h4 := (StC.rd (T := 0) (s := 0) (src := .nilIface) (key := key) (hc'.wf hw)).2.2
    rw [ht] at hx h4 ⊢
    exact ⟨c', x, hc'.same hw, hx, h4, rfl, rfl⟩
theorem put_ok (F : List HP) (s : Nat) (src : Value) (c : StC) (key : ByteArray) (v : Value) (bs : List Nat) (hs : SrcG Tryd.prog F src find) (ho : SrcOk find) (hw : c.wf) (hk : mayI key bs.length = 0)
    (hv : SlV v bs.length) (hr : RdS F v bs.length (bvs bs)) (hst : c.steps.length ≤ 1099511627776) :
    SpecF Tryd.prog 39 [.pointer (some ⟨s, 0, none⟩), .string key, v] F (c.pieces 127 s src) (fun r L => ∃ c', Laid find c key bs c' ∧ r = .int .i64 0 ∧ L = c'.pieces 127 s src) := by
  obtain ⟨hb, hk0⟩ := mayI_le hk
  intro w hw'
  refine (put_spec_s F s src c key v bs find hs (fun k => by have := ho.len k; omega) hw hv hr (by omega) hst w hw').mono ?_
  rintro e w' ⟨v, L, rfl, hR, hx, hs'⟩
  refine ⟨v, L, rfl, ?_, hx, hs'⟩
  rcases hR with ⟨h1, _⟩ | ⟨_, h2, _⟩ | ⟨_, _, c', x, sv, hc', hx, rfl, rfl⟩
  · exact absurd hk h1
  · exact absurd (ho.ask hk0) h2
  · exact ⟨_, hc'.laid hw hx hb, rfl, rfl⟩
theorem get_at (F : List HP) (s : Nat) (src : Value) (V : View) (n : Nat) (key : ByteArray) (hs : SrcG Tryd.prog F src find) (ho : SrcOk find) (hk : mayI key 0 = 0) :
    SpecF Tryd.prog 40 [.pointer (some ⟨s, 0, none⟩), .string key] F [stP 127 s src find V n] (fun r L => ∃ x, SlV x (V key).length ∧ (V key).length ≤ 4096 ∧ r = .tuple #[x, .int .i64 0] ∧ L = [own 1 x (V key).length (bvs (V key)), stP 127 s src find V n]) :=
  SpecF.unpack0 fun c hc => (get_ok F s src c key hs ho hc.wf hk).turn fun v L ⟨c', x, hs', hx, hl, hv, hL⟩ => by
    rw [hc.lv key] at hx hl hL
    subst hL
    exact ⟨_, ⟨x, hx, hl, hv, rfl⟩, Ent.under (Ent.pack0 (ls := fun c => StC.pieces 127 s src c) (hc.same hs')) [_]⟩
theorem put_at (F : List HP) (s : Nat) (src : Value) (V : View) (n : Nat) (key : ByteArray) (v : Value) (bs : List Nat) (hs : SrcG Tryd.prog F src find) (ho : SrcOk find) (hk : mayI key bs.length = 0) (hv : SlV v bs.length) (hr : RdS F v bs.length (bvs bs)) (hn : n ≤ 1099511627776) :
    SpecF Tryd.prog 39 [.pointer (some ⟨s, 0, none⟩), .string key, v] F [stP 127 s src find V n] (fun r L => r = .int .i64 0 ∧ L = [stP 127 s src find (upd V key bs) (n + 1)]) :=
  SpecF.unpack0 fun c hc => (put_ok F s src c key v bs hs ho hc.wf hk hv hr (Nat.le_trans hc.steps hn)).turn fun v L ⟨c', hs', hv, hL⟩ => by
    subst hL
    exact ⟨_, ⟨hv, rfl⟩, Ent.pack0 (ls := fun c => StC.pieces 127 s src c) (hc.laid hs')⟩
end
end Go.Proofs.YtnbcbdlbejdkpaaDoor
