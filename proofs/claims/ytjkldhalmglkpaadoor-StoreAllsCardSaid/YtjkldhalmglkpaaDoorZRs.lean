import Derived.Test.YtjkldhalmglkpaaDoorZEx
import Derived.Laws.Rows
import Derived.Laws.Tables
import Derived.Laws.Strings
namespace Go.Sl
open Go

def aggT (P : Program) (t : TypeId) : Option (Option Nat) := match P.underlying t with
 | none => none
 | some (.struct _) => (P.info? t).map fun i => some i.size
 | some (.array _ _) => (P.info? t).map fun i => some i.size
 | some _ => some none
def sizeT (P : Program) (t : TypeId) : Option Nat := (P.info? t).map (·.size)
def zeroT (P : Program) (t : TypeId) : Option (List Value) := (P.info? t).bind fun i => i.zero.map fun v => v.cells.toList
def partsT (place : Nat → Option (Nat × Nat)) : List (Nat × Operand) → Option (List (Nat × Nat × RX))
 | [] => some []
 | (i, x) :: l => match place i, partsT place l with
  | some (o, n), some r => some ((o, n, rx x) :: r)
  | _, _ => none
def zerosL (len n : Nat) (z : List Value) : List Value := (List.range (len * n)).map fun i => z.getD (i % n) default
def extOk (P : Program) (f : FuncId) : Bool := match P.funcs[f]? with
 | some fn => !(fn.name == "runtime.NumGoroutine") && fn.body.isNone && (Extern.findNext fn).isNone && (Extern.find fn).isSome
 | none => false
def resOp (P : Program) (ty : TypeId) : Op → Option RO
 | .move x => some (.val (rx x))
 | .assign x => some (.val (rx x))
 | .pick c a b => some (.pick (rx c) (rx a) (rx b))
 | .binOp op t x y _ => match P.underlying t with
  | some (.int _) => some (.bin op (rx x) (rx y))
  | some .string => match op with
   | .eql => some (.eqp .str false (rx x) (rx y))
   | .neq => some (.eqp .str true (rx x) (rx y))
   | op => some (.sbin op (rx x) (rx y))
  | some (.struct _) | some (.array _ _) => match op with
   | .eql => if P.eqGuardType P.depth t then none else some (.eqn false t (rx x) (rx y))
   | .neq => if P.eqGuardType P.depth t then none else some (.eqn true t (rx x) (rx y))
   | _ => none
  | some .bool => match op with
   | .eql => some (.eqp .bool false (rx x) (rx y))
   | .neq => some (.eqp .bool true (rx x) (rx y))
   | _ => none
  | some (.pointer _) => match op with
   | .eql => some (.eqp .ptr false (rx x) (rx y))
   | .neq => some (.eqp .ptr true (rx x) (rx y))
   | _ => none
  | some (.slice _) => match op with
   | .eql => some (.eqp .slc false (rx x) (rx y))
   | .neq => some (.eqp .slc true (rx x) (rx y))
   | _ => none
  | some (.map _ _) => match op with
   | .eql => some (.eqp .map false (rx x) (rx y))
   | .neq => some (.eqp .map true (rx x) (rx y))
   | _ => none
  | some (.interface _) => match op with
   | .eql => some (.eqp .ifc false (rx x) (rx y))
   | .neq => some (.eqp .ifc true (rx x) (rx y))
   | _ => none
  | _ => none
 | .unOp .not _ x => some (.not (rx x))
 | .unOp .neg _ x => some (.neg (rx x))
 | .unOp .xor _ x => some (.bnot (rx x))
 | .convert s d x => match P.underlying s, P.underlying d with
  | some (.int _), some (.int k) => some (.conv k (rx x))
  | _, _ => some (.cvt s d (rx x))
 | .fieldAddr s x f => match P.underlying s with
  | some (.struct fs) => match fs[f]? with
   | some fd => match sizeT P fd.type with
    | some (_ + 1) => some (.fieldA fd.offset (rx x))
    | _ => none
   | none => none
  | _ => none
 | .field s x f => match P.underlying s with
  | some (.struct fs) => match fs[f]? with
   | some fd => match aggT P fd.type with
    | some n => some (.field fd.offset n (rx x))
    | none => none
   | none => none
  | _ => none
 | .indexAddr t x i => match P.underlying t with
  | some (.slice e) => (sizeT P e).map fun n => .indexS n (rx x) (rx i)
  | some (.array len e) => (sizeT P e).map fun n => .indexA len n (rx x) (rx i)
  | _ => none
 | .load t x => match aggT P t with
  | some none => some (.load (rx x))
  | some (some n) => some (.loadN n (rx x))
  | none => none
 | .store t a x => (sizeT P t).map fun n => .store n (rx a) (rx x)
 | .alloc t => (zeroT P t).map fun z => .alloc t z
 | .box t x => some (.box t (rx x))
 | .nilCheck x => some (.nilCheck (rx x))
 | .extract x i => some (.extract i (rx x))
 | .slice t x lo hi mx => match P.underlying t with
  | some (.slice e) => if mx.isNone || hi.isSome then (sizeT P e).map fun n => .slice n (rx x) (lo.map rx) (hi.map rx) (mx.map rx) else none
  | some .string => if mx.isNone then some (.sliceT (rx x) (lo.map rx) (hi.map rx)) else none
  | some (.array len e) => match mx with
   | none => (sizeT P e).map fun n => .sliceA len n (rx x) (lo.map rx) (hi.map rx)
   | some _ => none
  | _ => none
 | .build t ps => match P.underlying t, zeroT P t with
  | some (.struct fs), some z => match fs.toList.mapM (fun f => (P.info? f.type).map fun i => (f.offset, i.size)) with
   | some places => (partsT (fun i => places.toArray[i]?) ps.toList).map fun l => .build z l
   | none => none
  | some (.array _ e), some z => match sizeT P e with
   | some n => (partsT (fun i => some (i * n, n)) ps.toList).map fun l => .build z l
   | none => none
  | _, _ => none
 | .buildSlice t len ps => match P.underlying t with
  | some (.slice e) => match sizeT P e, zeroT P e with
   | some n, some z => if len * n ≤ 2 ^ 24 ∧ z.length = n then (partsT (fun i => some (i * n, n)) ps.toList).map fun l => .buildS e len (zerosL len n z) l else none
   | _, _ => none
  | _ => none
 | .makeInterface t x => match P.underlying t with
  | some (.interface _) => none
  | some _ => some (.iface t (rx x))
  | none => none
 | .makeFunc (.func f) first captured => if first.isEmpty then some (.func f (captured.toList.map rx)) else none
 | .makeMap t none => some (.mkMap t)
 | .makeSlice t l c => some (.mkS t (rx l) (rx c))
 | .lookup t x i ok => some (.look t (rx x) (rx i) ok)
 | .mapUpdate t m k v => some (.upd t (rx m) (rx k) (rx v))
 | .index t x i => some (.idx t (rx x) (rx i))
 | .typeAssert x s t ok => some (.tass s t ok (rx x))
 | .sliceToArrayPointer t x => some (.arrp t (rx x))
 | .call { callee := .value (.func f), args, .. } => if callOk P f then some (.call f (args.toList.map rx)) else if extOk P f then some (.ext f (args.toList.map rx)) else none
 | .call { callee := .invoke x name, args, .. } => some (.inv (rx x) name (args.toList.map rx))
 | .call { callee := .value (.tmp x), args, .. } => some (.callv (.t x) (args.toList.map rx))
 | .call { callee := .builtin b, args, argTypes } => match b, args.toList, argTypes.toList with
  | .len, [x], [t] => match P.underlying t with
   | some (.slice _) => some (.len (rx x))
   | some .string => some (.lenT (rx x))
   | _ => some (.blt .len argTypes ty (args.toList.map rx))
  | .append, _, _ => some (.blt .append argTypes ty (args.toList.map rx))
  | .copy, _, _ => some (.blt .copy argTypes ty (args.toList.map rx))
  | .clear, _, _ => some (.blt .clear argTypes ty (args.toList.map rx))
  | .delete, _, _ => some (.blt .delete argTypes ty (args.toList.map rx))
  | .cap, _, _ => some (.blt .cap argTypes ty (args.toList.map rx))
  | _, _, _ => none
 | _ => none

section
variable {P : Program} {F L : List HP} {e : Env} {n : Nat} {a : Act} {w w' : World} {o : Oper} {fin : Value → List HP → Prop} {Q : Exit → Act → World → Prop} {K : Act → World → Prop}

theorem wp_val {v : Value} (hrun : (execOp a.eval o).run P w = .ok (.value v) w') (h : K (a.put o.dst v) w') : o.wp P a w K Q := by
 unfold Oper.wp; rw [hrun]; exact h
theorem wp_skp (hrun : (execOp a.eval o).run P w = .ok .skip w') (h : K (a.put o.dst undef) w') : o.wp P a w K Q := by
 unfold Oper.wp; rw [hrun]; exact h
theorem wp_ent {f : FuncId} {args : Array Value} (hrun : (execOp a.eval o).run P w = .ok (.enter f args) w)
 (h : Calls P f args w fun e w' => ∃ v, e = .returned v ∧ K (a.put o.dst v) w') : o.wp P a w K Q := by
 unfold Oper.wp; rw [hrun]
 refine Calls.mono h fun e w' he => ?_
 obtain ⟨v, rfl, hk⟩ := he
 exact hk

def After (F : List HP) (w : World) (fin : Value → List HP → Prop) (a : Act) (dst : Option Tmp) (a' : Act) (w' : World) : Prop :=
 ∃ v L', a' = a.put dst v ∧ Ext w w' ∧ Sat w' (L' ++ F) ∧ fin v L'

theorem after_same {v : Value} {dst : Option Tmp} (hs : Sat w (L ++ F)) (h : fin v L) : After F w fin a dst (a.put dst v) w := ⟨v, L, rfl, Ext.refl _, hs, h⟩

def Yld (P : Program) (F L : List HP) (a : Act) (o : Oper) (fin : Value → List HP → Prop) : Prop := ∃ v, (∀ w, Sat w (L ++ F) → (execOp a.eval o).run P w = .ok (.value v) w) ∧ fin v L
theorem Yld.wp (h : Yld P F L a o fin) (hs : Sat w (L ++ F)) : o.wp P a w (After F w fin a o.dst) Q :=
 let ⟨v, h1, h2⟩ := h; wp_val (h1 w hs) (after_same hs h2)
theorem run_und {t : TypeId} {d : TypeDesc} (h : P.underlying t = some d) (w : World) : (underlying t).run P w = .ok d w := run_underlying h w
theorem run_size {t : TypeId} {k : Nat} (h : sizeT P t = some k) (w : World) : (sizeOf t).run P w = .ok k w := by
 unfold sizeT at h
 cases hi : P.info? t with
 | none => simp [hi] at h
 | some i => simp [hi] at h; simp [sizeOf, typeInfo, hi, h]
theorem run_zero {t : TypeId} {z : List Value} (h : zeroT P t = some z) (w : World) : ∃ v, (zeroValue t).run P w = .ok v w ∧ v.cells.toList = z := by
 unfold zeroT at h
 cases hi : P.info? t with
 | none => simp [hi] at h
 | some i =>
  cases hz : i.zero with
  | none => simp [hi, hz] at h
  | some v => simp [hi, hz] at h; exact ⟨v, by simp [zeroValue, typeInfo, hi, hz], by simp [h]⟩
theorem run_isAgg_no {t : TypeId} (h : aggT P t = some none) (w : World) : (isAgg t).run P w = .ok false w := by
 unfold aggT at h
 cases hu : P.underlying t with
 | none => simp [hu] at h
 | some d =>
  cases d <;> simp [hu] at h <;> simp [isAgg, run_und hu]
theorem run_isAgg_yes {t : TypeId} {k : Nat} (h : aggT P t = some (some k)) (w : World) : (isAgg t).run P w = .ok true w ∧ sizeT P t = some k := by
 unfold aggT at h
 cases hu : P.underlying t with
 | none => simp [hu] at h
 | some d =>
  cases d <;> simp [hu] at h <;> (refine ⟨by simp [isAgg, run_und hu], ?_⟩; unfold sizeT; obtain ⟨i, hi, rfl⟩ := h; simp [hi])

theorem bin_sound {op : BinOp} {t : TypeId} {x y : Operand} {u : TypeId} (hop : o.op = .binOp op t x y u) (h : ex1 P F (.bin op (rx x) (rx y)) e L fin) (hf : Fits n e a.tmps) : Yld P F L a o fin := by
 simp only [ex1] at h
 have h1 := rd_sound (rd_sound h hf) hf
 rw [rx_eval, rx_eval] at h1
 obtain ⟨k, p, hx, h2⟩ := asI_sound h1
 obtain ⟨k', q, hy, h3⟩ := asI_sound h2
 have fin0 : ∀ v, (∀ w, (binOp op t (.int k p) (.int k' q)).run P w = .ok v w) → fin v L → Yld P F L a o fin := fun v hrun hv =>
  ⟨v, fun w _ => by
   have := hrun w
   cases op <;> simp_all [execOp, eqGuard], hv⟩
 cases op
 case shl => obtain ⟨h4, h5⟩ := h3; exact fin0 _ (fun w => by simp [binOp, Op.shift, show ¬ q < 0 by omega]) h5.out
 case shr => obtain ⟨h4, h5⟩ := h3; exact fin0 _ (fun w => by simp [binOp, Op.shift, show ¬ q < 0 by omega]) h5
 all_goals
  simp only at h3
  cases hk : ksame k k' with
  | false => simp [hk] at h3
  | true =>
   simp only [hk] at h3
   have := ksame_eq hk
   subst this
   first
    | exact h3.elim
    | (obtain ⟨h4, h5⟩ := h3; refine fin0 _ (fun w => ?_) h5.out; simp only [binOp, ne_eq, not_true_eq_false, if_false, Op.intDiv, h4]; rfl)
    | (obtain ⟨h4, h5⟩ := h3; refine fin0 _ (fun w => ?_) h5; simp only [binOp, ne_eq, not_true_eq_false, if_false, Op.intDiv, h4]; rfl)
    | (refine fin0 _ (fun w => ?_) h3.out; simp only [binOp, ne_eq, not_true_eq_false, if_false, Op.intArith]; rfl)
    | (refine fin0 _ (fun w => ?_) h3; simp only [binOp, ne_eq, not_true_eq_false, if_false, Op.intBits, Op.intCmp]; rfl)

theorem nbk_sound {neq b : Bool} {k : Bool → Prop} (h : nbk neq b k) : k (bif neq then !b else b) := by cases neq <;> exact h

def opOf (neq : Bool) : BinOp := if neq then .neq else .eql
theorem eqw {neq : Bool} {t : TypeId} {x y : Operand} {u : TypeId} (hop : o.op = .binOp (opOf neq) t x y u) (b : Bool)
 (hg : ∀ w, (eqGuard (opOf neq) t x y (a.eval x) (a.eval y)).run P w = .ok () w) (hb : ∀ w, (binOp (opOf neq) t (a.eval x) (a.eval y)).run P w = .ok (.bool (bif neq then !b else b)) w)
 (h : nbk neq b fun b => fin (.bool b) L) : Yld P F L a o fin :=
 ⟨.bool (bif neq then !b else b), fun w _ => by simp only [execOp, hop, Sem.run_bind, hg, Result.andThen_ok, hb, Sem.run_pure], nbk_sound h⟩
theorem bin_other {neq : Bool} {t : TypeId} {vx vy : Value} {b : Bool} (hb : (Op.equal t vx vy).run P w = .ok b w)
 (h1 : ∀ c, vx ≠ .string c) (h2 : ∀ k m, vx ≠ .int k m) (h3 : ∀ k m, vx ≠ .float k m) (h4 : ∀ k m l, vx ≠ .complex k m l) : (binOp (opOf neq) t vx vy).run P w = .ok (.bool (bif neq then !b else b)) w := by
 cases vx <;> first
  | exact absurd rfl (h1 _)
  | exact absurd rfl (h2 _ _)
  | exact absurd rfl (h3 _ _)
  | exact absurd rfl (h4 _ _ _)
  | (cases neq <;> simp [opOf, binOp, hb])
theorem guard_other {neq : Bool} {t : TypeId} {x y : Operand} {vx vy : Value} (h1 : vx ≠ .nilIface) (h2 : ∀ c, vx ≠ .agg c) : (eqGuard (opOf neq) t x y vx vy).run P w = .ok () w := by
 cases vx <;> first
  | exact absurd rfl h1
  | exact absurd rfl (h2 _)
  | (cases neq <;> simp [opOf, eqGuard])
theorem guard_nil {neq : Bool} {t : TypeId} {x : Operand} {v : Value} : (eqGuard (opOf neq) t x (.const v) .nilIface .nilIface).run P w = .ok () w := by
 cases neq <;> simp [opOf, eqGuard]
section
variable (d : Nat) {t el : TypeId} {m : Array (String × TypeId)} (x y : Addr) (n1 c1 n2 c2 : Nat)
theorem eqn1 (h : P.underlying t = some (.pointer el)) : (Op.equalIn (d + 1) t (.pointer none) (.pointer none)).run P w = .ok true w := by simp [Op.equalIn, run_und h]
theorem eqn2 (h : P.underlying t = some (.pointer el)) : (Op.equalIn (d + 1) t (.pointer (some x)) (.pointer none)).run P w = .ok false w := by simp [Op.equalIn, run_und h]
theorem eqn3 (h : P.underlying t = some (.slice el)) : (Op.equalIn (d + 1) t (.slice none n1 c1) (.slice none n2 c2)).run P w = .ok true w := by simp [Op.equalIn, run_und h]
theorem eqn4 (h : P.underlying t = some (.slice el)) : (Op.equalIn (d + 1) t (.slice (some x) n1 c1) (.slice none n2 c2)).run P w = .ok false w := by simp [Op.equalIn, run_und h]
theorem eqn5 (p q : Bool) (h : P.underlying t = some .bool) : (Op.equalIn (d + 1) t (.bool p) (.bool q)).run P w = .ok (p == q) w := by simp [Op.equalIn, run_und h]
theorem eqn7 (h : P.underlying t = some (.interface m)) : (Op.equalIn (d + 1) t .nilIface .nilIface).run P w = .ok true w := by simp [Op.equalIn, run_und h]
theorem eqn8 {k : TypeId} (a : Option Nat) (h : P.underlying t = some (.map k el)) : (Op.equalIn (d + 1) t (.map a) (.map none)).run P w = .ok a.isNone w := by cases a <;> simp [Op.equalIn, run_und h]
theorem eqn6 (u : TypeId) (v : Value) (h : P.underlying t = some (.interface m)) : (Op.equalIn (d + 1) t (.iface u v) .nilIface).run P w = .ok false w := by simp [Op.equalIn, run_und h]
end
theorem equal_of {t : TypeId} {vx vy : Value} {b : Bool} (h : ∀ d, (Op.equalIn (d + 1) t vx vy).run P w = .ok b w) : (Op.equal t vx vy).run P w = .ok b w := h 9999

theorem eqp_sound {neq : Bool} {t : TypeId} {x y : Operand} {u : TypeId} (hop : o.op = .binOp (opOf neq) t x y u) (d : TypeDesc) (kd : EK) (hd : P.underlying t = some d)
 (hd2 : (kd = .ptr ∧ ∃ e, d = .pointer e) ∨ (kd = .slc ∧ ∃ e, d = .slice e) ∨ (kd = .bool ∧ d = .bool) ∨ (kd = .str ∧ d = .string) ∨ (kd = .ifc ∧ ∃ m, d = .interface m) ∨ (kd = .map ∧ ∃ k e, d = .map k e))
 (h : ex1 P F (.eqp kd neq (rx x) (rx y)) e L fin) (hf : Fits n e a.tmps) : Yld P F L a o fin := by
 simp only [ex1] at h
 have h1 := rd_sound (rd_sound h hf) hf
 rw [rx_eval, rx_eval] at h1
 rcases hd2 with ⟨rfl, el, rfl⟩ | ⟨rfl, el, rfl⟩ | ⟨rfl, rfl⟩ | ⟨rfl, rfl⟩ | ⟨rfl, m, rfl⟩ | ⟨rfl, mk, me, rfl⟩ <;> simp only at h1
 ·split at h1 <;> try exact h1.elim
  rename_i hy
  split at h1 <;> try exact h1.elim
  all_goals
   rename_i hx
   refine eqw hop _ (fun w => ?_) (fun w => ?_) h1 <;> rw [hx, hy]
   ·exact guard_other (by simp) (by simp)
   ·refine bin_other (equal_of fun _ => ?_) (by simp) (by simp) (by simp) (by simp)
    first | exact eqn1 _ hd | exact eqn2 _ _ hd
 ·split at h1 <;> try exact h1.elim
  rename_i hy
  obtain ⟨ad, m, c, hx, h1⟩ := h1
  refine eqw hop _ (fun w => ?_) (fun w => ?_) h1 <;> rw [hx, hy]
  ·exact guard_other (by simp) (by simp)
  ·refine bin_other (equal_of fun _ => ?_) (by simp) (by simp) (by simp) (by simp)
   cases ad with
   | none => exact eqn3 _ _ _ _ _ hd
   | some ad => exact eqn4 _ _ _ _ _ _ hd
 ·obtain ⟨p, hx, h2⟩ := asB_sound h1
  obtain ⟨q, hy, h3⟩ := asB_sound h2
  refine eqw hop _ (fun w => ?_) (fun w => ?_) h3 <;> rw [hx, hy]
  ·exact guard_other (by simp) (by simp)
  ·exact bin_other (equal_of fun _ => eqn5 _ _ _ hd) (by simp) (by simp) (by simp) (by simp)
 ·split at h1 <;> try exact h1.elim
  rename_i hx
  split at h1 <;> try exact h1.elim
  rename_i p _ q hy
  refine eqw hop _ (fun w => ?_) (fun w => ?_) h1 <;> rw [hx, hy]
  ·exact guard_other (by simp) (by simp)
  ·have he : (p.toList == q.toList) = decide (p = q) := by
    rw [Bool.eq_iff_iff]
    simp only [beq_iff_eq, decide_eq_true_eq]
    constructor
    ·intro hh
     rw [ByteArray.toList_eq, ByteArray.toList_eq] at hh
     obtain ⟨⟨x⟩⟩ := p
     obtain ⟨⟨y⟩⟩ := q
     simp at hh
     rw [hh]
    ·intro hh; rw [hh]
   cases neq <;> simp [opOf, binOp, Op.stringOp, he]
 ·split at h1 <;> try exact h1.elim
  rename_i hy
  split at h1 <;> try exact h1.elim
  ·rename_i hx
   refine eqw hop _ (fun w => ?_) (fun w => ?_) h1 <;> rw [hx, hy]
   ·exact guard_other (by simp) (by simp)
   ·exact bin_other (equal_of fun _ => eqn6 _ _ _ hd) (by simp) (by simp) (by simp) (by simp)
  ·rename_i hx
   cases y with
   | tmp i => exact h1.elim
   | global g => cases hy
   | func g => cases hy
   | const c =>
    refine eqw hop _ (fun w => ?_) (fun w => ?_) h1 <;> rw [hx, hy]
    ·exact guard_nil
    ·exact bin_other (equal_of fun _ => eqn7 _ hd) (by simp) (by simp) (by simp) (by simp)
 ·split at h1 <;> try exact h1.elim
  rename_i hy
  split at h1 <;> try exact h1.elim
  rename_i a hx
  refine eqw hop _ (fun w => ?_) (fun w => ?_) h1 <;> rw [hx, hy]
  ·exact guard_other (by simp) (by simp)
  ·exact bin_other (equal_of fun _ => eqn8 _ a hd) (by simp) (by simp) (by simp) (by simp)
end
end Go.Sl
