import Derived.Test.YtjkldhalmglkpaaDoorZHp
import Derived.Laws.Sem
import Derived.Laws.Entries
import Derived.Laws.Cells
import Derived.Tactics
import Derived.Orders
import Derived.KernelRfl
import Derived.RangeFuncLeaves
import Derived.RangeFuncSeq
import Derived.OrdersIn
import Derived.TacticsIn
namespace Go.Sl
open Go

abbrev Env := List (Nat × Value)
def look : Env → Nat → Option Value
 | [], _ => none
 | (j, v) :: e, i => match Nat.beq j i with
  | true => some v
  | false => look e i
def putE (e : Env) (d : Option Nat) (v : Value) : Env := match d with
 | some d => (d, v) :: e
 | none => e
structure Fits (n : Nat) (e : Env) (t : Array Value) : Prop where
 size : t.size = n
 get : ∀ i v, look e i = some v → t.getD i undef = v

inductive RX where
 | t (i : Nat)
 | c (v : Value)
def RX.eval (x : RX) (a : Act) : Value := match x with
 | .t i => a.tmps.getD i undef
 | .c v => v
def rx : Operand → RX
 | .tmp t => .t t
 | .const v => .c v
 | .global g => .c (.pointer (some ⟨g, 0, none⟩))
 | .func f => .c (.func (.func f) #[] #[])
theorem rx_eval (x : Operand) (a : Act) : (rx x).eval a = a.eval x := by cases x <;> rfl
def rd (e : Env) (x : RX) (k : Value → Prop) : Prop := match x with
 | .c v => k v
 | .t i => match look e i with
  | some v => k v
  | none => False
theorem rd_sound {n : Nat} {e : Env} {x : RX} {k : Value → Prop} {a : Act} (h : rd e x k) (hf : Fits n e a.tmps) : k (x.eval a) := by
 cases x with
 | c v => exact h
 | t i =>
  simp only [rd] at h
  cases hl : look e i with
  | none => simp [hl] at h
  | some v => simp only [hl] at h; simp only [RX.eval]; rw [hf.get i v hl]; exact h
def asB (v : Value) (k : Bool → Prop) : Prop := match v with
 | .bool b => k b
 | _ => False
def asG (v : Value) (k : Bool → Prop) (s : Prop) : Prop := match v with
 | .bool b => k b
 | .tuple _ => s
 | _ => False
def asI (v : Value) (k : IntKind → Int → Prop) : Prop := match v with
 | .int kd n => k kd n
 | _ => False
theorem asB_sound {v : Value} {k : Bool → Prop} (h : asB v k) : ∃ b, v = .bool b ∧ k b := by cases v <;> first | exact h.elim | exact ⟨_, rfl, h⟩
theorem asI_sound {v : Value} {k : IntKind → Int → Prop} (h : asI v k) : ∃ d n, v = .int d n ∧ k d n := by cases v <;> first | exact h.elim | exact ⟨_, _, rfl, h⟩
def rdAll (e : Env) : List RX → (List Value → Prop) → Prop
 | [], k => k []
 | x :: xs, k => rd e x fun v => rdAll e xs fun vs => k (v :: vs)
theorem rdAll_sound {n : Nat} {e : Env} {a : Act} (hf : Fits n e a.tmps) : ∀ {xs : List RX} {k : List Value → Prop}, rdAll e xs k → k (xs.map (·.eval a))
 | [], _, h => h
 | x :: xs, k, h => rdAll_sound (k := fun vs => k (x.eval a :: vs)) hf (rd_sound (k := fun v => rdAll e xs fun vs => k (v :: vs)) h hf)

def ksame : IntKind → IntKind → Bool
 | .i8, .i8 | .i16, .i16 | .i32, .i32 | .i64, .i64 | .u8, .u8 | .u16, .u16 | .u32, .u32 | .u64, .u64 => true
 | _, _ => false
theorem ksame_eq {a b : IntKind} (h : ksame a b = true) : a = b := by cases a <;> cases b <;> first | rfl | cases h

structure ArithG (k : IntKind) (z : Int) (K : Int → Prop) : Prop where
 out : K (k.wrap z)
structure CondG (b : Bool) (A B : Prop) : Prop where
 t : b = true → A
 f : b = false → B
structure SideG (p : Prop) (K : Prop) : Prop where
 side : p
 next : K
def callOk (P : Program) (f : FuncId) : Bool := match P.funcs[f]? with
 | some fn => !(fn.name == "runtime.NumGoroutine") && fn.body.isSome
 | none => false
def SpecF (P : Program) (f : FuncId) (args : List Value) (F pre : List HP) (R : Value → List HP → Prop) : Prop :=
 ∀ w, Sat w (pre ++ F) → Calls P f args.toArray w fun e w' => ∃ v L, e = .returned v ∧ R v L ∧ Ext w w' ∧ Sat w' (L ++ F)
inductive CallG (P : Program) (F : List HP) (f : FuncId) (args : List Value) (L : List HP) (k : Value → List HP → Prop) : Prop where
 | mk (pre rest : List HP) (R : Value → List HP → Prop) (spec : SpecF P f args (rest ++ F) pre R) (hL : Ent L (pre ++ rest)) (hk : ∀ v L', R v L' → k v (L' ++ rest))
def fc (r : Option Nat) : Fence := { Fence.wide with round := r }
def RoundF (P : Program) (l : Nat) (args : List Value) (F pre : List HP) (R : Bool → List HP → Prop) : Prop :=
 ∀ m w, Sat w (pre ++ F) → YieldAt (fc none) m P l args.toArray w fun e w' => ∃ b L, e = .returned (.bool b) ∧ R b L ∧ Ext w w' ∧ Sat w' (L ++ F)
inductive YieldG (P : Program) (F : List HP) (l : Nat) (args : List Value) (L : List HP) (k : Value → List HP → Prop) : Prop where
 | mk (pre rest : List HP) (R : Bool → List HP → Prop) (spec : RoundF P l args (rest ++ F) pre R) (hL : Ent L (pre ++ rest)) (hk : ∀ b L', R b L' → k (.bool b) (L' ++ rest))
inductive LoadG (F : List HP) (a : Value) (L : List HP) (k : Value → Prop) : Prop where
 | mk (p : Addr) (v : Value) (ha : a = .pointer (some p)) (hv : Gives (L ++ F) fun w => w.cell? p = some v) (hk : k v)
inductive LoadNG (F : List HP) (n : Nat) (a : Value) (L : List HP) (k : Value → Prop) : Prop where
 | mk (p : Addr) (vs : List Value) (ha : a = .pointer (some p)) (hn : vs.length = n) (hv : Gives (L ++ F) fun w => ∀ j u, vs[j]? = some u → w.cell? (p.add j) = some u) (hk : k (.agg ⟨vs⟩))
def Writes (P : Program) (F : List HP) (p : Addr) (vs : List Value) (L L' : List HP) : Prop :=
 ∀ w, Sat w (L ++ F) → ∃ w', (storeCells p vs).run P w = .ok () w' ∧ Ext w w' ∧ Sat w' (L' ++ F)
inductive StoreG (P : Program) (F : List HP) (n : Nat) (a : Value) (cs : List Value) (L : List HP) (k : List HP → Prop) : Prop where
 | mk (p : Addr) (L' : List HP) (ha : a = .pointer (some p)) (hn : cs.length = n) (hw : Writes P F p cs L L') (hk : k L')
def cel (b : Nat) (t : TypeId) (cs : List Value) : HP := blk b (.cells ⟨cs⟩ t (0, 0))
def cellsK (v : Value) (k : List Value → Prop) : Prop := match v with
 | .agg ⟨cs⟩ => k cs
 | v => k [v]
theorem cellsK_sound {v : Value} {k : List Value → Prop} (h : cellsK v k) : k v.cells.toList := by cases v <;> exact h
inductive FldG (cs : List Value) (off : Nat) (k : Value → Prop) : Prop where
 | mk (u : Value) (h : cs[off]? = some u) (hk : k u)
inductive FldNG (cs : List Value) (off n : Nat) (k : Value → Prop) : Prop where
 | mk (vs : List Value) (h : (cs.drop off).take n = vs) (hk : k (.agg ⟨vs⟩))
inductive DoesG (P : Program) (F : List HP) (s : Sem Value) (L : List HP) (k : Value → List HP → Prop) : Prop where
 | mk (h : ∀ w, Sat w (L ++ F) → ∃ v L' w', s.run P w = .ok v w' ∧ Ext w w' ∧ Sat w' (L' ++ F) ∧ k v L')

def nbk (neq : Bool) (b : Bool) (k : Bool → Prop) : Prop := match neq with
 | true => k (!b)
 | false => k b
inductive LenG (v : Value) (k : Nat → Prop) : Prop where
 | mk (a : Option Addr) (n c : Nat) (h : v = .slice a n c) (hk : k n)
inductive IdxG (v : Value) (esz : Nat) (j : Int) (k : Value → Prop) : Prop where
 | mk (b o len cap : Nat) (h : v = .slice (some ⟨b, o, none⟩) len cap) (hj : 0 ≤ j ∧ j < (len : Int)) (hk : k (.pointer (some ⟨b, o + j.toNat * esz, none⟩)))
inductive SlcG (v : Value) (k : Option Addr → Nat → Nat → Prop) : Prop where
 | mk (a : Option Addr) (n c : Nat) (h : v = .slice a n c) (hk : k a n c)
inductive NilG (v : Value) (k : Bool → Prop) : Prop where
 | mk (a : Option Addr) (n c : Nat) (h : v = .slice a n c) (hk : k a.isNone)
structure SliceG (a : Option Addr) (esz l h m : Nat) (K : Value → Prop) : Prop where
 out : K (.slice (if m = l then a else a.map (·.add (l * esz))) (h - l) (m - l))
def fillL : List Value → List (Nat × Nat × Value) → Option (List Value)
 | z, [] => some z
 | z, (off, n, v) :: ps =>
  if v.cells.size = n ∧ off + n ≤ z.length then fillL (z.take off ++ v.cells.toList ++ z.drop (off + n)) ps else none
inductive BuildG (z : List Value) (ps : List (Nat × Nat × Value)) (K : List Value → Prop) : Prop where
 | mk (cs : List Value) (h : fillL z ps = some cs) (hk : K cs)
def rdParts (e : Env) : List (Nat × Nat × RX) → (List (Nat × Nat × Value) → Prop) → Prop
 | [], k => k []
 | (o, n, x) :: xs, k => rd e x fun v => rdParts e xs fun vs => k ((o, n, v) :: vs)

inductive EK where
 | ptr | slc | bool | str | ifc | map

def extSem (P : Program) (f : FuncId) (args : Array Value) : Sem Value := match P.funcs[f]? with
 | some fn => match Extern.find fn with
  | some e => e args
  | none => stuck ""
 | none => stuck ""
inductive InvG (P : Program) (t : TypeId) (v : Value) (name : String) (k : FuncId → Value → Prop) : Prop where
 | mk (f : FuncId) (r : Value) (h : ∀ w, (method (P.types.size + Made.depth) t v name).run P w = .ok (f, r) w) (hc : callOk P f = true) (hk : k f r)
inductive RO where
 | val (x : RX)
 | pick (c a b : RX)
 | bin (op : BinOp) (x y : RX)
 | eqp (k : EK) (neq : Bool) (x y : RX)
 | eqn (neq : Bool) (t : TypeId) (x y : RX)
 | not (x : RX)
 | neg (x : RX)
 | bnot (x : RX)
 | conv (k : IntKind) (x : RX)
 | fieldA (off : Nat) (x : RX)
 | field (off : Nat) (n : Option Nat) (x : RX)
 | indexS (esz : Nat) (x i : RX)
 | indexA (len esz : Nat) (x i : RX)
 | load (x : RX)
 | loadN (n : Nat) (x : RX)
 | store (n : Nat) (a x : RX)
 | alloc (t : TypeId) (zero : List Value)
 | box (t : TypeId) (x : RX)
 | nilCheck (x : RX)
 | extract (i : Nat) (x : RX)
 | len (x : RX)
 | lenT (x : RX)
 | slice (esz : Nat) (x : RX) (lo hi mx : Option RX)
 | sliceT (x : RX) (lo hi : Option RX)
 | sliceA (len esz : Nat) (x : RX) (lo hi : Option RX)
 | build (zero : List Value) (parts : List (Nat × Nat × RX))
 | buildS (t : TypeId) (len : Nat) (zero : List Value) (parts : List (Nat × Nat × RX))
 | blt (b : Builtin) (argTypes : Array TypeId) (type : TypeId) (args : List RX)
 | mkS (t : TypeId) (l c : RX)
 | mkMap (t : TypeId)
 | look (t : TypeId) (m k : RX) (ok : Bool)
 | upd (t : TypeId) (m k v : RX)
 | cvt (src dst : TypeId) (x : RX)
 | sbin (op : BinOp) (x y : RX)
 | idx (t : TypeId) (x i : RX)
 | arrp (t : TypeId) (x : RX)
 | callv (f : RX) (args : List RX)
 | call (f : FuncId) (args : List RX)
 | ext (f : FuncId) (args : List RX)
 | inv (x : RX) (name : String) (args : List RX)
 | iface (t : TypeId) (x : RX)
 | tass (s t : TypeId) (ok : Bool) (x : RX)
 | func (fn : FuncId) (captured : List RX)

def ex1 (P : Program) (F : List HP) (r : RO) (e : Env) (L : List HP) (fin : Value → List HP → Prop) : Prop :=
 match r with
 | .val x => rd e x fun v => fin v L
 | .pick c a b => rd e c fun vc => asB vc fun bb => rd e a fun va => rd e b fun vb => CondG bb (fin va L) (fin vb L)
 | .bin op x y => rd e x fun vx => rd e y fun vy => asI vx fun k n => asI vy fun k' m =>
  match op with
  | .shl => SideG (0 ≤ m) (ArithG k (n * 2 ^ (min m.toNat k.bits)) fun z => fin (.int k z) L)
  | .shr => SideG (0 ≤ m) (fin (.int k (n.fdiv (2 ^ (min m.toNat k.bits)))) L)
  | op => match ksame k k' with
   | false => False
   | true => match op with
    | .add => ArithG k (n + m) fun z => fin (.int k z) L
    | .sub => ArithG k (n - m) fun z => fin (.int k z) L
    | .mul => ArithG k (n * m) fun z => fin (.int k z) L
    | .quo => SideG (m ≠ 0) (ArithG k (n.tdiv m) fun z => fin (.int k z) L)
    | .rem => SideG (m ≠ 0) (fin (.int k (n.tmod m)) L)
    | .and => fin (.int k (k.wrap (BitVec.ofInt k.bits n &&& BitVec.ofInt k.bits m).toNat)) L
    | .or => fin (.int k (k.wrap (BitVec.ofInt k.bits n ||| BitVec.ofInt k.bits m).toNat)) L
    | .xor => fin (.int k (k.wrap (BitVec.ofInt k.bits n ^^^ BitVec.ofInt k.bits m).toNat)) L
    | .andNot => fin (.int k (k.wrap (BitVec.ofInt k.bits n &&& ~~~BitVec.ofInt k.bits m).toNat)) L
    | .eql => fin (.bool (decide (n = m))) L
    | .neq => fin (.bool (!decide (n = m))) L
    | .lss => fin (.bool (decide (n < m))) L
    | .leq => fin (.bool (decide (n ≤ m))) L
    | .gtr => fin (.bool (decide (m < n))) L
    | .geq => fin (.bool (decide (m ≤ n))) L
    | _ => False
 | .eqp kd neq x y => rd e x fun vx => rd e y fun vy => match kd with
  | .ptr => match vy with
   | .pointer none => match vx with
    | .pointer none => nbk neq true fun b => fin (.bool b) L
    | .pointer (some _) => nbk neq false fun b => fin (.bool b) L
    | _ => False
   | _ => False
  | .slc => match vy with
   | .slice none _ _ => NilG vx fun b => nbk neq b fun b => fin (.bool b) L
   | _ => False
  | .bool => asB vx fun p => asB vy fun q => nbk neq (p == q) fun b => fin (.bool b) L
  | .str => match vx with
   | .string p => match vy with
    | .string q => nbk neq (decide (p = q)) fun b => fin (.bool b) L
    | _ => False
   | _ => False
  | .map => match vy with
   | .map none => match vx with
    | .map a => nbk neq a.isNone fun b => fin (.bool b) L
    | _ => False
   | _ => False
  | .ifc => match vy with
   | .nilIface => match vx with
    | .iface _ _ => nbk neq false fun b => fin (.bool b) L
    | .nilIface => match y with
     | .c _ => nbk neq true fun b => fin (.bool b) L
     | .t _ => False
    | _ => False
   | _ => False
 | .eqn neq t x y => rd e x fun vx => rd e y fun vy => match vx with
  | .agg xs => match vy with
   | .agg ys => DoesG P F (.bool <$> Op.equal t (.agg xs) (.agg ys)) L fun v L' => asB v fun b => nbk neq b fun b => fin (.bool b) L'
   | _ => False
  | _ => False
 | .not x => rd e x fun v => asB v fun b => fin (.bool (!b)) L
 | .neg x => rd e x fun v => asI v fun k n => ArithG k (0 - n) fun z => fin (.int k z) L
 | .bnot x => rd e x fun v => asI v fun k n => fin (.int k (k.wrap (BitVec.ofInt k.bits (if k.signed then -1 else k.max) ^^^ BitVec.ofInt k.bits n).toNat)) L
 | .conv k x => rd e x fun v => asI v fun _ n => ArithG k n fun z => fin (.int k z) L
 | .fieldA off x => rd e x fun v => match v with
  | .pointer (some ⟨b, o, none⟩) => fin (.pointer (some ⟨b, o + off, none⟩)) L
  | _ => False
 | .field off n x => rd e x fun v => match v with
  | .agg ⟨cs⟩ => match n with
   | some n => FldNG cs off n fun u => fin u L
   | none => FldG cs off fun u => fin u L
  | _ => False
 | .indexS esz x i => rd e x fun v => rd e i fun vi => asI vi fun _ j => IdxG v esz j fun u => fin u L
 | .indexA len esz x i => rd e x fun v => rd e i fun vi => asI vi fun _ j => match v with
  | .pointer (some ⟨b, o, none⟩) => SideG (0 ≤ j ∧ j < (len : Int)) (fin (.pointer (some ⟨b, o + j.toNat * esz, none⟩)) L)
  | _ => False
 | .load x => rd e x fun v => LoadG F v L fun u => fin u L
 | .loadN n x => rd e x fun v => LoadNG F n v L fun u => fin u L
 | .store n a x => rd e a fun va => rd e x fun vx => cellsK vx fun cs => StoreG P F n va cs L fun L' => fin undef L'
 | .alloc t zero => ∀ b, fin (.pointer (some ⟨b, 0, none⟩)) (cel b t zero :: L)
 | .box t x => rd e x fun v => cellsK v fun cs => ∀ b, fin (.pointer (some ⟨b, 0, none⟩)) (cel b t cs :: L)
 | .nilCheck x => rd e x fun v => match v with
  | .pointer (some p) => fin (.pointer (some p)) L
  | .iface t u => fin (.iface t u) L
  | _ => False
 | .extract i x => rd e x fun v => match v with
  | .tuple vs => match vs[i]? with
   | some u => fin u L
   | none => False
  | _ => False
 | .len x => rd e x fun v => LenG v fun n => fin (.int .i64 n) L
 | .lenT x => rd e x fun v => match v with
  | .string s => fin (.int .i64 s.size) L
  | _ => False
 | .slice esz x lo hi mx => rd e x fun v => rd e (lo.getD (.c (.int .i64 0))) fun vl => asI vl fun _ l =>
  SlcG v fun a len cap => rd e (hi.getD (.c (.int .i64 len))) fun vh => asI vh fun _ h => rd e (mx.getD (.c (.int .i64 cap))) fun vm => asI vm fun _ m =>
   SideG (0 ≤ l ∧ l ≤ h ∧ h ≤ m ∧ m ≤ (cap : Int)) (SliceG a esz l.toNat h.toNat m.toNat fun v => fin v L)
 | .sliceT x lo hi => rd e x fun v => rd e (lo.getD (.c (.int .i64 0))) fun vl => asI vl fun _ l =>
  match v with
  | .string s => rd e (hi.getD (.c (.int .i64 s.size))) fun vh => asI vh fun _ h => SideG (0 ≤ l ∧ l ≤ h ∧ h ≤ (s.size : Int)) (fin (.string (s.extract l.toNat h.toNat)) L)
  | _ => False
 | .sliceA len esz x lo hi => rd e x fun v => rd e (lo.getD (.c (.int .i64 0))) fun vl => asI vl fun _ l => rd e (hi.getD (.c (.int .i64 len))) fun vh => asI vh fun _ h =>
  match v with
  | .pointer (some a) => SideG (0 ≤ l ∧ l ≤ h ∧ h ≤ (len : Int)) (SliceG (some a) esz l.toNat h.toNat len fun v => fin v L)
  | _ => False
 | .build z ps => rdParts e ps fun vs => BuildG z vs fun cs => fin (.agg ⟨cs⟩) L
 | .buildS t len z ps => rdParts e ps fun vs => BuildG z vs fun cs => ∀ b, fin (.slice (some ⟨b, 0, none⟩) len len) (cel b t cs :: L)
 | .blt b ats t args => rdAll e args fun vs => DoesG P F (match b with
  | .append => Builtin.append_ ats t vs.toArray
  | .copy => Builtin.copy_ ats t vs.toArray
  | .clear => Builtin.clear_ ats t vs.toArray
  | .delete => Builtin.delete_ ats t vs.toArray
  | .len => Builtin.len_ ats t vs.toArray
  | .cap => Builtin.cap_ ats t vs.toArray
  | _ => stuck "") L fin
 | .mkS t l c => rd e l fun vl => rd e c fun vc => DoesG P F (Instr.makeSlice t vl vc) L fin
 | .mkMap _ => ∀ b, fin (.map (some b)) (blk b (.map #[] 0) :: L)
 | .look t m k ok => rd e m fun vm => rd e k fun vk => DoesG P F (Instr.lookup t vm vk ok) L fin
 | .upd t m k v => rd e m fun vm => rd e k fun vk => rd e v fun vv => DoesG P F (do Instr.mapUpdate t vm vk vv; pure undef) L fin
 | .cvt s d x => rd e x fun v => DoesG P F (convert s d v) L fin
 | .sbin op x y => rd e x fun vx => rd e y fun vy => match vx, vy with
  | .string a, .string b => DoesG P F (Op.stringOp op a b) L fin
  | _, _ => False
 | .idx t x i => rd e x fun v => rd e i fun vi => DoesG P F (Instr.index t v vi) L fin
 | .arrp t x => rd e x fun v => DoesG P F (Instr.arrayAt t v) L fin
 | .callv f args => rd e f fun vf => rdAll e args fun vs => match vf with
  | .func (.func g) first captured => SideG (callOk P g = true) (CallG P F g (first.toList ++ vs ++ captured.toList) L fin)
  | .func (.yield l) first _ => YieldG P F l (first.toList ++ vs) L fin
  | _ => False
 | .call f args => rdAll e args fun vs => CallG P F f vs L fin
 | .ext f args => rdAll e args fun vs => DoesG P F (extSem P f vs.toArray) L fin
 | .inv x name args => rd e x fun v => rdAll e args fun vs => match v with
  | .iface t u => InvG P t u name fun f r => CallG P F f (r :: vs) L fin
  | _ => False
 | .iface t x => rd e x fun v => fin (.iface t v) L
 | .tass s t ok x => rd e x fun v => DoesG P F (Instr.typeAssert v s t ok) L fin
 | .func fn cs => rdAll e cs fun vs => fin (.func (.func fn) #[] vs.toArray) L

def pt (d : Option Nat) (v : Value) (e : Env) (k : Env → Prop) : Prop := match d with
 | some d => k ((d, v) :: e)
 | none => k e
theorem pt_eq (d : Option Nat) (v : Value) (e : Env) (k : Env → Prop) : pt d v e k = k (putE e d v) := by cases d <;> rfl
structure ROp where
 dst : Option Nat
 op : RO
 grd : Option (Nat × Bool)
def exOp1 (P : Program) (F : List HP) (o : ROp) (e : Env) (L : List HP) (k : Env → List HP → Prop) : Prop := match o with
 | ⟨dst, op, grd⟩ => match grd with
  | none => ex1 P F op e L fun v L' => pt dst v e fun e' => k e' L'
  | some (g, true) => rd e (.t g) fun v => asG v (fun b => CondG b
   (ex1 P F op ((g, .bool true) :: e) L fun v L' => pt dst v ((g, .bool true) :: e) fun e' => k e' L')
   (pt dst undef ((g, .bool false) :: e) fun e' => k e' L)) (pt dst undef e fun e' => k e' L)
  | some (g, false) => rd e (.t g) fun v => asG v (fun b => CondG b
   (pt dst undef ((g, .bool true) :: e) fun e' => k e' L)
   (ex1 P F op ((g, .bool false) :: e) L fun v L' => pt dst v ((g, .bool false) :: e) fun e' => k e' L')) (pt dst undef e fun e' => k e' L)
def exOps (P : Program) (F : List HP) (k : Env → List HP → Prop) : List ROp → Env → List HP → Prop
 | [], e, L => k e L
 | o :: os, e, L => exOp1 P F o e L fun e' L' => exOps P F k os e' L'

inductive RC where
 | skip
 | ops (id : Nat) (draw : Bool) (l : List ROp) (dep : List (List Nat × List Nat))
 | seq (a b : RC)
 | cond (c : RX) (a b : RC)
 | block (id : Nat) (a : RC)
 | loop (a : RC)
 | exit (id : Nat)
 | ret

def Sub : Env → Env → Prop
 | [], _ => True
 | (i, v) :: s, e => look e i = some v ∧ Sub s e

inductive LoopG (body : (Env → List HP → Prop) → Env → List HP → Prop) (e : Env) (L : List HP) : Prop where
 | mk (I : Nat → Env → List HP → Prop) (n : Nat) (e' : Env) (L' : List HP) (hs : Sub e' e) (hL : Ent L L') (h0 : I n e' L')
  (step : ∀ n e l, I n e l → body (fun e' l' => ∃ m e'' l'', m < n ∧ Sub e'' e' ∧ Ent l' l'' ∧ I m e'' l'') e l)

def setB (x : RX) (b : Bool) (e : Env) : Env := match x with
 | .t i => (i, .bool b) :: e
 | .c _ => e

/-! A region whose order is open -/
def bAt (done : List Bool) (d : Bool) (i : Nat) : Bool := match done[i]? with
 | some b => b
 | none => d
def nexts (dep : List (List Nat × List Nat)) (done : List Bool) : List Nat :=
 (List.range dep.length).filter fun i => !bAt done true i && match dep[i]? with
  | some d => d.1.all (bAt done false)
  | none => false
def takeable (dep : List (List Nat × List Nat)) (n : Nat) (done : List Bool) (i : Nat) : Bool :=
 (nexts dep done).contains i && (match dep[i]? with
  | some d => d.2.all (bAt done false)
  | none => false) && decide (i < n) && (List.range dep.length).all fun j => !decide (n ≤ j) || match dep[j]? with
   | some d => d.1.contains i
   | none => false
def RO.eager : RO → Bool
 | .val _ | .pick .. | .bin .. | .eqp .. | .not _ | .neg _ | .bnot _ | .conv .. | .fieldA .. | .field .. | .indexS .. | .indexA .. | .load _ | .loadN .. | .nilCheck _ | .extract .. | .len _ | .lenT _
 | .slice .. | .sliceT .. | .sliceA .. | .build .. | .iface .. | .func .. => true
 | _ => false
inductive DrN (A : Prop) (B : Nat → Prop) (C : Prop) : Prop where
 | fin (h : A)
 | take (i : Nat) (h : B i)
 | all (h : C)
def forAll : List Nat → (Nat → Prop) → Prop
 | [], _ => True
 | [i], p => p i
 | i :: is, p => p i ∧ forAll is p
def opAt (l : List ROp) (i : Nat) (k : ROp → Prop) : Prop := match l[i]? with
 | some o => k o
 | none => False
def Dr2 (P : Program) (F : List HP) (l : List ROp) (dep : List (List Nat × List Nat)) (k : Env → List HP → Prop) : Nat → List Bool → Env → List HP → Prop
 | 0, done, e, L => nexts dep done = [] ∧ k e L
 | m + 1, done, e, L => DrN (nexts dep done = [] ∧ k e L) (fun _ => False) (nexts dep done ≠ [] ∧ forAll (nexts dep done) fun i => opAt l i fun o => exOp1 P F o e L fun e' L' => Dr2 P F l dep k m (done.set i true) e' L')
def Dr1 (P : Program) (F I : List HP) (l : List ROp) (dep : List (List Nat × List Nat)) (n : Nat) (k : Env → List HP → Prop) : Nat → List Bool → Env → List HP → Prop
 | 0, done, e, L => nexts dep done = [] ∧ k e (L ++ I)
 | m + 1, done, e, L => DrN (nexts dep done = [] ∧ k e (L ++ I))
  (fun i => opAt l i fun o => (takeable dep n done i && o.op.eager) = true ∧ exOp1 P F o e I fun e' _ => Dr1 P F I l dep n k m (done.set i true) e' L)
  (nexts dep done ≠ [] ∧ forAll (nexts dep done) fun i => opAt l i fun o => match Nat.ble n i with
   | false => exOp1 P (I ++ F) o e L fun e' L' => Dr1 P F I l dep n k m (done.set i true) e' L'
   | true => (List.range n).all (bAt done false) = true ∧ exOp1 P F o e (L ++ I) fun e' L' => Dr2 P F l dep k m (done.set i true) e' L')
inductive DrawG (P : Program) (F : List HP) (l : List ROp) (dep : List (List Nat × List Nat)) (e : Env) (L : List HP) (k : Env → List HP → Prop) : Prop where
 | mk (n : Nat) (I L0 : List HP) (hL : Ent L (L0 ++ I)) (h : Dr1 P F I l dep n k l.length (List.replicate l.length false) e L0)

def exC (P : Program) (F : List HP) : RC → (Env → List HP → Prop) → (Nat → Env → List HP → Prop) → (Env → List HP → Prop) → Env → List HP → Prop
 | .skip, n, _, _, e, L => n e L
 | .ops _ false l _, n, _, _, e, L => exOps P F n l e L
 | .ops _ true l dep, n, _, _, e, L => DrawG P F l dep e L n
 | .seq a b, n, x, r, e, L => exC P F a (fun e' L' => exC P F b n x r e' L') x r e L
 | .cond c a b, n, x, r, e, L => rd e c fun v => asB v fun t => CondG t (exC P F a n x r (setB c true e) L) (exC P F b n x r (setB c false e) L)
 | .block id a, n, x, r, e, L => exC P F a n (fun i e' L' => match Nat.beq i id with
  | true => n e' L'
  | false => x i e' L') r e L
 | .loop a, _, x, r, e, L => LoopG (fun n' e' L' => exC P F a n' x r e' L') e L
 | .exit id, _, x, _, e, L => x id e L
 | .ret, _, _, r, e, L => r e L
end Go.Sl
