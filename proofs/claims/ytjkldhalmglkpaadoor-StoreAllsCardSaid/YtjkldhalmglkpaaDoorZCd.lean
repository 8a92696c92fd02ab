import Derived.Test.YtjkldhalmglkpaaDoorZSd
import Derived.OrdersHeld
namespace Go.Sl
open Go

def resOps (P : Program) (n : Nat) (all : Array Oper) : List Oper → Option (List ROp)
 | [] => some []
 | o :: os => match resOp P o.type o.op, resOps P n all os with
  | some r, some rs =>
   match (match o.dst with | some d => decide (d < n) | none => true) with
   | false => none
   | true => match o.guard with
    | none => some (⟨o.dst, r, none⟩ :: rs)
    | some (j, b) => match (all[j]?).bind (·.dst) with
     | some g => some (⟨o.dst, r, some (g, b)⟩ :: rs)
     | none => none
  | _, _ => none
def depsOf (o : Oper) : List Nat := (o.after.toList.filter (Region.binds .any)).map (·.on)
def confOf (ops : Array Oper) (i : Nat) (oi : Oper) : List Nat := (List.range ops.size).filter fun j => !(j == i) && match ops[j]? with
 | some oj => !(oj.after.any (fun e => Region.binds .any e && e.on == i) || oi.apart ops oj)
 | none => false
def depTab (ops : Array Oper) : List (List Nat × List Nat) := ops.toList.zipIdx.map fun p => (depsOf p.1, confOf ops p.2 p.1)
def resC (P : Program) (n : Nat) : Code → Option RC
 | .skip => some .skip
 | .region id ops draw => match resOps P n ops ops.toList with
  | some l => match draw with
   | false => some (.ops id false l [])
   | true => if Region.noSelect ops && P.follows .mixedOrders then some (.ops id true l (depTab ops)) else none
  | none => none
 | .seq a b => match resC P n a, resC P n b with
  | some x, some y => some (.seq x y)
  | _, _ => none
 | .cond c a b => match resC P n a, resC P n b with
  | some x, some y => some (.cond (rx c) x y)
  | _, _ => none
 | .block id a => (resC P n a).map (.block id)
 | .loop a => (resC P n a).map .loop
 | .exit id => some (.exit id)
 | .ret => some .ret
 | _ => none

inductive RR where
 | tmp (t : Nat)
 | cell (t : Nat) (n : Option Nat)
def resR (P : Program) : List ResultVar → Option (List RR)
 | [] => some []
 | .tmp t :: l => (resR P l).map (.tmp t :: ·)
 | .cell t ty :: l => match aggT P ty, resR P l with
  | some n, some r => some (.cell t n :: r)
  | _, _ => none
def exRet (F : List HP) (e : Env) (L : List HP) : List RR → (List Value → Prop) → Prop
 | [], k => k []
 | .tmp t :: l, k => rd e (.t t) fun v => exRet F e L l fun vs => k (v :: vs)
 | .cell t none :: l, k => rd e (.t t) fun v => LoadG F v L fun u => exRet F e L l fun vs => k (u :: vs)
 | .cell t (some n) :: l, k => rd e (.t t) fun v => LoadNG F n v L fun u => exRet F e L l fun vs => k (u :: vs)
inductive RetG (L : List HP) (v : Value) (R : Value → List HP → Prop) : Prop where
 | mk (L' : List HP) (hL : Ent L L') (h : R v L')
def retV : List Value → Value
 | [v] => v
 | vs => .tuple vs.toArray
def retK (F : List HP) (rs : List RR) (R : Value → List HP → Prop) (e : Env) (L : List HP) : Prop := exRet F e L rs fun vs => RetG L (retV vs) R
def env0 : Nat → List Value → Env
 | _, [] => []
 | i, v :: vs => (i, v) :: env0 (i + 1) vs

section
variable {P : Program} {F L : List HP} {e : Env} {n : Nat} {a : Act} {w w' w0 : World} {Q : Exit → Act → World → Prop} {dfs : List Deferred} {rr : Option Nat} {mm : Nat}

def Here (dfs : List Deferred) (n : Nat) (w0 : World) (F : List HP) (k : Env → List HP → Prop) (a : Act) (w : World) : Prop :=
 ∃ e L, Fits n e a.tmps ∧ a.defers = dfs ∧ Ext w0 w ∧ Sat w (L ++ F) ∧ k e L

theorem look_put (e : Env) (d i : Nat) (v : Value) : look ((d, v) :: e) i = if d = i then some v else look e i := by
 simp only [look]
 cases h : Nat.beq d i with
 | true => rw [if_pos (Nat.eq_of_beq_eq_true h)]
 | false => rw [if_neg (Nat.ne_of_beq_eq_false h)]
theorem Fits.put {dst : Option Nat} (h : Fits n e a.tmps) (hd : ∀ d, dst = some d → d < n) (v : Value) : Fits n (putE e dst v) (a.put dst v).tmps := by
 cases dst with
 | none => exact h
 | some d =>
  have hd' := hd d rfl
  refine ⟨by simpa [Act.put] using h.size, fun i u hu => ?_⟩
  simp only [putE, look_put] at hu
  have hs := h.size
  by_cases hi : d = i
  ·rw [if_pos hi] at hu
   cases hu
   subst hi
   simp [Act.put, hs, hd']
  ·rw [if_neg hi] at hu
   have := h.get i u hu
   simpa [Act.put, Array.getElem?_setIfInBounds_ne hi] using this
theorem Fits.same {g : Nat} {v : Value} (h : Fits n e a.tmps) (hg : look e g = some v) : Fits n ((g, v) :: e) a.tmps :=
 ⟨h.size, fun i u hu => by
  rw [look_put] at hu
  by_cases hi : g = i
  ·rw [if_pos hi] at hu; cases hu; subst hi; exact h.get _ _ hg
  ·rw [if_neg hi] at hu; exact h.get i u hu⟩
theorem Fits.sub {s : Env} {t : Array Value} (h : Fits n e t) (hs : Sub s e) : Fits n s t := by
 refine ⟨h.size, ?_⟩
 induction s with
 | nil => intro i v hv; cases hv
 | cons p s ih =>
  obtain ⟨j, u⟩ := p
  intro i v hv
  rw [look_put] at hv
  by_cases hi : j = i
  ·rw [if_pos hi] at hv; cases hv; subst hi; exact h.get _ _ hs.1
  ·rw [if_neg hi] at hv; exact ih hs.2 i v hv
theorem wanted_some {all : Array Oper} {o : Oper} {j g : Nat} {want b : Bool} (hg : o.guard = some (j, want)) (hj : (all[j]?).bind (·.dst) = some g) (hf : Fits n e a.tmps) (hl : look e g = some (.bool b)) :
 Region.wanted o (yielded all a.tmps) = (b == want) := by
 have h1 := hf.get g _ hl
 have h2 : a.tmps[g]? = some (.bool b) := by
  cases ht : a.tmps[g]? with
  | none => simp [Array.getD_eq_getD_getElem?, ht, undef] at h1
  | some v => simp [Array.getD_eq_getD_getElem?, ht] at h1; rw [h1]
 simp only [Region.wanted, hg, yielded, hj, Option.bind_some, h2]
 cases b <;> cases want <;> rfl

theorem rdG {g : Nat} {k : Bool → Prop} {s : Prop} (h : rd e (.t g) fun v => asG v k s) : (∃ b, look e g = some (.bool b) ∧ k b) ∨ ∃ vs, look e g = some (.tuple vs) ∧ s := by
 simp only [rd] at h
 cases hl : look e g with
 | none => rw [hl] at h; exact h.elim
 | some v =>
  rw [hl] at h
  cases v <;> first | exact h.elim | exact .inl ⟨_, rfl, h⟩ | exact .inr ⟨_, rfl, h⟩
theorem wanted_none {all : Array Oper} {o : Oper} {j g : Nat} {want : Bool} {vs : Array Value} (hg : o.guard = some (j, want)) (hj : (all[j]?).bind (·.dst) = some g) (hf : Fits n e a.tmps) (hl : look e g = some (.tuple vs)) :
 Region.wanted o (yielded all a.tmps) = false := by
 have h1 := hf.get g _ hl
 cases ht : a.tmps[g]? with
 | none =>
  simp only [Region.wanted, hg, yielded, hj, Option.bind_some, ht]
  cases want <;> rfl
 | some v =>
  simp [Array.getD_eq_getD_getElem?, ht] at h1
  subst h1
  simp only [Region.wanted, hg, yielded, hj, Option.bind_some, ht]
  cases want <;> rfl
structure RelOp (P : Program) (n : Nat) (all : Array Oper) (oi : Oper) (o : ROp) : Prop where
 op : resOp P oi.type oi.op = some o.op
 dst : o.dst = oi.dst
 lt : ∀ d, oi.dst = some d → d < n
 grd : (oi.guard = none ∧ o.grd = none) ∨ ∃ j b g, oi.guard = some (j, b) ∧ (all[j]?).bind (·.dst) = some g ∧ o.grd = some (g, b)
theorem resOps_get {all : Array Oper} : ∀ {os : List Oper} {l : List ROp}, resOps P n all os = some l → l.length = os.length ∧ ∀ (i : Nat) o, l[i]? = some o → ∃ oi, os[i]? = some oi ∧ RelOp P n all oi o
 | [], l, h => by
  simp only [resOps, Option.some.injEq] at h
  subst h
  exact ⟨rfl, fun i o ho => by simp at ho⟩
 | o :: os, l, hr => by
  simp only [resOps] at hr
  split at hr <;> try (cases hr; done)
  rename_i r rs h1 h2
  split at hr <;> try (cases hr; done)
  rename_i hdst
  have hd' : ∀ d, o.dst = some d → d < n := fun d hd => by rw [hd] at hdst; simpa using hdst
  obtain ⟨hl, hget⟩ := resOps_get h2
  have step : ∀ g, l = ⟨o.dst, r, g⟩ :: rs → RelOp P n all o ⟨o.dst, r, g⟩ → l.length = (o :: os).length ∧ ∀ (i : Nat) o', l[i]? = some o' → ∃ oi, (o :: os)[i]? = some oi ∧ RelOp P n all oi o' := by
   rintro g rfl hrel
   refine ⟨by simp [hl], fun i o' ho => ?_⟩
   cases i with
   | zero => simp at ho; subst ho; exact ⟨o, rfl, hrel⟩
   | succ i => exact hget i o' (by simpa using ho)
  split at hr
  ·rename_i hg
   cases hr
   exact step none rfl ⟨h1, rfl, hd', .inl ⟨hg, rfl⟩⟩
  ·rename_i j b hg
   split at hr <;> try (cases hr; done)
   rename_i g hj
   cases hr
   exact step _ rfl ⟨h1, rfl, hd', .inr ⟨j, b, g, hg, hj, rfl⟩⟩

def Behind (dfs : List Deferred) (n : Nat) (F : List HP) (w : World) (X : Env → List HP → Prop) (a' : Act) (w' : World) : Prop :=
 ∃ e' L', Fits n e' a'.tmps ∧ a'.defers = dfs ∧ Ext w w' ∧ Sat w' (L' ++ F) ∧ X e' L'
theorem exOp1_step {all : Array Oper} {oi : Oper} {o : ROp} {X : Env → List HP → Prop} (hrel : RelOp P n all oi o) (h : exOp1 P F o e L X) (hf : Fits n e a.tmps) (hd : a.defers = dfs) (hs : Sat w (L ++ F)) :
 if Region.wanted oi (yielded all a.tmps) then oi.wpIn (fc rr) mm P a w (Behind dfs n F w X) Q else Behind dfs n F w X (a.put oi.dst undef) w := by
 obtain ⟨h1, h2, h3, h4⟩ := hrel
 obtain ⟨dst, op, grd⟩ := o
 simp only at h1 h2 h4
 subst h2
 have run : ∀ e', Fits n e' a.tmps → ex1 P F op e' L (fun v L' => pt oi.dst v e' fun e'' => X e'' L') → oi.wpIn (fc rr) mm P a w (Behind dfs n F w X) Q := by
  intro e' hf' h'
  refine Oper.wpIn_mono (fun a' w' haf => ?_) (op_sound h1 h' hf' hs)
  obtain ⟨v, L', rfl, hx', hs', hfin⟩ := haf
  rw [pt_eq] at hfin
  refine ⟨_, L', hf'.put h3 v, ?_, hx', hs', hfin⟩
  cases oi.dst <;> exact hd
 have skip : ∀ e', Fits n e' a.tmps → (pt oi.dst undef e' fun e'' => X e'' L) → Behind dfs n F w X (a.put oi.dst undef) w := by
  intro e' hf' h'
  rw [pt_eq] at h'
  refine ⟨_, L, hf'.put h3 undef, ?_, Ext.refl w, hs, h'⟩
  cases oi.dst <;> exact hd
 rcases h4 with ⟨hg, rfl⟩ | ⟨j, want, g, hg, hj, rfl⟩
 ·rw [if_pos (by simp [Region.wanted, hg])]
  exact run e hf h
 ·cases want with
  | true =>
   rcases rdG h with ⟨b, hl, ht, hfalse⟩ | ⟨vs, hl, hs0⟩
   rotate_left
   ·rw [wanted_none hg hj hf hl, if_neg (by simp)]
    exact skip _ hf hs0
   rw [wanted_some hg hj hf hl]
   cases b with
   | true => rw [if_pos (by rfl)]; exact run _ (hf.same hl) (ht rfl)
   | false => rw [if_neg (by simp)]; exact skip _ (hf.same hl) (hfalse rfl)
  | false =>
   rcases rdG h with ⟨b, hl, ht, hfalse⟩ | ⟨vs, hl, hs0⟩
   rotate_left
   ·rw [wanted_none hg hj hf hl, if_neg (by simp)]
    exact skip _ hf hs0
   rw [wanted_some hg hj hf hl]
   cases b with
   | true => rw [if_neg (by simp)]; exact skip _ (hf.same hl) (ht rfl)
   | false => rw [if_pos (by rfl)]; exact run _ (hf.same hl) (hfalse rfl)
theorem exOp1_yield {all : Array Oper} {oi : Oper} {o : ROp} {X : Env → Prop} {S : World → Prop} (hrel : RelOp P n all oi o) (he : o.op.eager = true) (h : exOp1 P F o e L fun e' _ => X e') (hf : Fits n e a.tmps) (hS : ∀ w, S w → Sat w (L ++ F)) :
 ∃ v e', YieldsIf P all S oi v a ∧ Fits n e' (a.put oi.dst v).tmps ∧ X e' := by
 obtain ⟨h1, h2, h3, h4⟩ := hrel
 obtain ⟨dst, op, grd⟩ := o
 simp only at h1 h2 h4 he
 subst h2
 have run : ∀ e', Fits n e' a.tmps → Region.wanted oi (yielded all a.tmps) = true → ex1 P F op e' L (fun v L' => pt oi.dst v e' fun e'' => X e'') → ∃ v e', YieldsIf P all S oi v a ∧ Fits n e' (a.put oi.dst v).tmps ∧ X e' := by
  intro e' hf' hw h'
  obtain ⟨v, hv, hfin⟩ := op_yld he h1 h' hf'
  rw [pt_eq] at hfin
  exact ⟨v, _, .inl ⟨hw, fun w hs => hv w (hS w hs)⟩, hf'.put h3 v, hfin⟩
 have skip : ∀ e', Fits n e' a.tmps → Region.wanted oi (yielded all a.tmps) = false → (pt oi.dst undef e' fun e'' => X e'') → ∃ v e', YieldsIf P all S oi v a ∧ Fits n e' (a.put oi.dst v).tmps ∧ X e' := by
  intro e' hf' hw h'
  rw [pt_eq] at h'
  exact ⟨undef, _, .inr ⟨hw, rfl⟩, hf'.put h3 undef, h'⟩
 rcases h4 with ⟨hg, rfl⟩ | ⟨j, want, g, hg, hj, rfl⟩
 ·exact run e hf (by simp [Region.wanted, hg]) h
 ·cases want with
  | true =>
   rcases rdG h with ⟨b, hl, ht, hfalse⟩ | ⟨vs, hl, hs0⟩
   rotate_left
   ·exact skip _ hf (wanted_none hg hj hf hl) hs0
   have hw := wanted_some hg hj hf hl
   cases b with
   | true => exact run _ (hf.same hl) hw (ht rfl)
   | false => exact skip _ (hf.same hl) hw (hfalse rfl)
  | false =>
   rcases rdG h with ⟨b, hl, ht, hfalse⟩ | ⟨vs, hl, hs0⟩
   rotate_left
   ·exact skip _ hf (wanted_none hg hj hf hl) hs0
   have hw := wanted_some hg hj hf hl
   cases b with
   | true => exact skip _ (hf.same hl) hw (ht rfl)
   | false => exact run _ (hf.same hl) hw (hfalse rfl)

theorem exOps_sound {all : Array Oper} {k : Env → List HP → Prop} (hQ : ∀ a w, Here dfs n w0 F k a w → Q .normal a w) : ∀ {os : List Oper} {l : List ROp} {e : Env} {L : List HP} {a : Act} {w : World}, (∀ (i : Nat) o, l[i]? = some o → ∃ oi, os[i]? = some oi ∧ RelOp P n all oi o) → l.length = os.length →
 exOps P F k l e L → Fits n e a.tmps → a.defers = dfs → Ext w0 w → Sat w (L ++ F) → wpListIn (fc rr) mm P all Q os a w := by
 intro os
 induction os with
 | nil =>
  intro l e L a w _ hlen h hf hd hx hs
  obtain rfl : l = [] := by cases l with | nil => rfl | cons _ _ => simp at hlen
  exact hQ a w ⟨e, L, hf, hd, hx, hs, h⟩
 | cons oi os ih =>
  intro l e L a w hr hlen h hf hd hx hs
  cases l with
  | nil => simp at hlen
  | cons o l =>
   obtain ⟨oi', hoi, hrel⟩ := hr 0 o rfl
   obtain rfl : oi = oi' := by simpa using hoi
   have hst := exOp1_step (rr := rr) (mm := mm) (Q := Q) hrel h hf hd hs
   have next : ∀ a' w', Behind dfs n F w (fun e' L' => exOps P F k l e' L') a' w' → wpListIn (fc rr) mm P all Q os a' w' := by
    rintro a' w' ⟨e', L', hf', hd', hx', hs', hk⟩
    exact ih (fun i o ho => hr (i + 1) o (by simpa using ho)) (by simpa using hlen) hk hf' hd' (hx.trans hx') hs'
   simp only [wpListIn]
   split
   ·rename_i hw; rw [if_pos hw] at hst; exact Oper.wpIn_mono next hst
   ·rename_i hw; rw [if_neg hw] at hst; exact ⟨fun _ _ => trivial, next _ _ hst⟩

theorem wp_loop_idx {c : Code} (I : Nat → Act → World → Prop) {m0 : Nat} (h0 : I m0 a w)
 (round : ∀ m a w, I m a w → c.wpIn (fc rr) mm P (Exit.then (fun a' w' => ∃ m', m' < m ∧ I m' a' w') Q) a w) : (Code.loop c).wpIn (fc rr) mm P Q a w := by
 intro b k cs hro hb hr
 have key : ∀ m a w, I m a w → ∃ e a' w', Q e a' w' ∧ ArrivesIn (Machine.fenced P (fc rr)) P (lone (b.atR a (.code c :: .inLoop c :: k)) cs w) b k cs e a' w' := by
  intro m
  induction m using Nat.strongRecOn with
  | _ m ih =>
   intro a w hI
   obtain ⟨e, a₁, w₁, hq, harr⟩ := round m a w hI b (.inLoop c :: k) cs hro hb hr
   cases e with
   | normal =>
    obtain ⟨m', hlt, hI₁⟩ := hq
    obtain ⟨e₂, a₂, w₂, hq₂, harr₂⟩ := ih m' hlt a₁ w₁ hI₁
    exact ⟨e₂, a₂, w₂, hq₂, .of_steps (StepsIn.trans harr (.one (fenced_calm hb hr rfl) stepR_inLoop)) harr₂⟩
   | _ => exact ⟨_, a₁, w₁, hq, .pass (x := .inLoop c) rfl (fun _ _ => .inl (by simp)) harr⟩
 obtain ⟨e, a', w', hq, harr⟩ := key _ a w h0
 exact ⟨e, a', w', hq, .of_steps (.one (fenced_calm hb hr rfl) stepR_loop) harr⟩

def Qk (dfs : List Deferred) (n : Nat) (w0 : World) (F : List HP) (kn : Env → List HP → Prop) (kx : Nat → Env → List HP → Prop) (kr : Env → List HP → Prop) : Exit → Act → World → Prop
 | .normal, a, w => Here dfs n w0 F kn a w
 | .exit id, a, w => Here dfs n w0 F (kx id) a w
 | .ret, a, w => Here dfs n w0 F kr a w
 | _, _, _ => False

/-! The order of a region that is open -/
theorem bAt_eq (done : List Bool) (d : Bool) (i : Nat) : bAt done d i = done.toArray.getD i d := by
 unfold bAt
 cases h : done[i]? with
 | none => simp [h]
 | some b => simp [h]
theorem depTab_get {ops : Array Oper} {i : Nat} {oi : Oper} (h : ops[i]? = some oi) : (depTab ops)[i]? = some (depsOf oi, confOf ops i oi) := by
 have h1 : ops.toList[i]? = some oi := by simpa using h
 simp [depTab, List.getElem?_map, List.getElem?_zipIdx, h1]
theorem depTab_len (ops : Array Oper) : (depTab ops).length = ops.size := by simp [depTab]
theorem deps_all (oi : Oper) (p : Nat → Bool) : (depsOf oi).all p = oi.after.all fun e => !Region.binds .any e || p e.on := by
 rw [← Array.all_toList]
 unfold depsOf
 generalize oi.after.toList = l
 induction l with
 | nil => rfl
 | cons e l ih =>
  by_cases hb : Region.binds .any e = true
  ·simp [hb, ih]
  ·have : Region.binds .any e = false := by simpa using hb
   simp [this, ih]
theorem nexts_eq (ops : Array Oper) (done : List Bool) : Region.ready .any ops done.toArray = nexts (depTab ops) done := by
 unfold Region.ready nexts
 rw [depTab_len]
 refine List.filter_congr fun i hi => ?_
 have hlt : i < ops.size := by simpa using hi
 have h1 : ops[i]? = some ops[i] := by simp [hlt]
 rw [depTab_get h1, h1]
 simp only [Option.map_some, Option.getD_some, bAt_eq, deps_all]
theorem set_arr (done : List Bool) (i : Nat) : (done.toArray).setIfInBounds i true = (done.set i true).toArray := by simp

def wpAnyT (rr : Option Nat) (mm : Nat) (P : Program) (ops : Array Oper) (Q : Exit → Act → World → Prop) (S : World → Prop) (m0 : Nat) : Nat → Array Bool → Act → World → Prop
 | 0, listed, a, w => Region.ready .any ops listed = [] ∧ Q .normal a w
 | fuel + 1, listed, a, w =>
  (Region.ready .any ops listed = [] → Q .normal a w) ∧
  ∀ i ∈ Region.ready .any ops listed, wpOpIn (fc rr) mm P ops Q i (fun a' w' => (i < m0 → S w') ∧ wpAnyT rr mm P ops Q S m0 fuel (listed.setIfInBounds i true) a' w') a w
theorem wpAny_of_T {ops : Array Oper} {S : World → Prop} {m0 : Nat} : ∀ (fuel : Nat) (listed : Array Bool) (a : Act) (w : World), wpAnyT rr mm P ops Q S m0 fuel listed a w → wpAnyIn (fc rr) mm P .any ops Q fuel listed a w
 | 0, _, _, _, h => h
 | fuel + 1, _, _, _, h => ⟨h.1, fun i hi => wpOpIn_mono (fun a' w' h' => wpAny_of_T fuel _ a' w' h'.2) (h.2 i hi)⟩
theorem yieldsIf_wpOp {ops : Array Oper} {S : World → Prop} {i : Nat} {o : Oper} {v : Value} {a : Act} (hi : ops[i]? = some o) (hd : ∀ c, o.op ≠ .defer c) (hy : YieldsIf P ops S o v a)
 {K : Act → World → Prop} {w : World} (hS : S w) (h : K (a.put o.dst v) w) : wpOpIn (fc rr) mm P ops Q i K a w := by
 unfold wpOpIn
 simp only [hi]
 rcases hy with ⟨hw, hv⟩ | ⟨hw, rfl⟩
 ·rw [if_pos hw]
  refine wpIn_of_wp hd ?_
  simp only [Oper.wp, hv w hS, Oper.upon]
  exact h
 ·rw [if_neg (by simp [hw])]
  exact ⟨fun _ _ => trivial, h⟩
theorem wpOpIn_putIf {ops : Array Oper} {S : World → Prop} {j : Nat} {oi oj : Oper} {v : Value} (hj : ops[j]? = some oj) (hd : ∀ c, oj.op ≠ .defer c) (hap : oi.apart ops oj = true)
 (hsi : ∀ cs b, oi.op ≠ .select cs b) (hsj : ∀ cs b, oj.op ≠ .select cs b)
 (hQ : ∀ c a w, Q (.panic c) (a.put oi.dst v) w → Q (.panic c) a w) {K : Act → World → Prop} {a : Act} {w : World}
 (hy : YieldsIf P ops S oi v a) (h : wpOpIn (fc rr) mm P ops Q j K (a.put oi.dst v) w) :
 wpOpIn (fc rr) mm P ops Q j (fun a' w' => YieldsIf P ops S oi v a' ∧ K (a'.put oi.dst v) w') a w := by
 obtain ⟨h1, h2, h3⟩ := Oper.apart_spec hap
 have keep : ∀ (a : Act), YieldsIf P ops S oi v a → ∀ u, YieldsIf P ops S oi v (a.put oj.dst u) := fun a hy u =>
  hy.of_same (execOp_put oi hsi a oj.dst u h3) (wanted_put oi a oj.dst u h3)
 unfold wpOpIn at *
 simp only [hj] at *
 rw [wanted_put oj a oi.dst v h1] at h
 split
 ·rename_i hw
  rw [if_pos hw] at h
  refine ⟨fun _ _ => trivial, ?_⟩
  have h' : oj.uponIn (fc rr) mm P (a.put oi.dst v) K Q ((oj.semAt rr (a.put oi.dst v).eval).run P w) := h.2
  show oj.uponIn (fc rr) mm P a _ Q ((oj.semAt rr a.eval).run P w)
  rw [semAt_fc hd] at h' ⊢
  rw [execOp_put oj hsj a oi.dst v h1] at h'
  generalize (execOp a.eval oj).run P w = x at h' ⊢
  have fin : ∀ u w', K ((a.put oi.dst v).put oj.dst u) w' → YieldsIf P ops S oi v (a.put oj.dst u) ∧ K ((a.put oj.dst u).put oi.dst v) w' := fun u w' hk => ⟨keep a hy u, by rw [← Act.put_comm a v u h2]; exact hk⟩
  cases x with
  | ok nx w1 =>
   cases nx with
   | value u => exact fin _ _ h'
   | skip => exact fin _ _ h'
   | defer d => exact ⟨hy.of_same (execOp_put oi hsi _ oj.dst undef h3) (wanted_put oi _ oj.dst undef h3), by rw [← Act.put_comm _ v undef h2, ← Act.put_defers]; exact h'⟩
   | enter f args =>
    refine ⟨h'.1, CallsIn.mono h'.2 fun ex w2 hq => ?_⟩
    cases ex with
    | returned u => exact fin _ _ hq
    | panicked c => exact hQ _ _ _ hq
    | outgrown => exact hq
   | row row args => exact ⟨h'.1, RowsIn.mono h'.2 fun u w2 hq => fin _ _ hq⟩
   | round l f t x y =>
    refine ⟨h'.1, RoundIn.mono h'.2 fun ex w2 hq => ?_⟩
    cases ex with
    | returned u => exact fin _ _ hq
    | panicked c => exact hQ _ _ _ hq
    | outgrown => exact hq
   | _ => exact h'.elim
  | halt x w1 => cases x <;> first | exact hQ _ _ _ h' | exact h'.elim
 ·rename_i hw
  rw [if_neg hw] at h
  exact ⟨fun _ _ => trivial, keep a hy _, by rw [← Act.put_comm a v undef h2]; exact h.2⟩
theorem wpAnyT_first {ops : Array Oper} {S : World → Prop} {m0 i : Nat} {oi : Oper} {v : Value} (hi : ops[i]? = some oi) (hsel : ∀ (j : Nat) (o : Oper) cs b, ops[j]? = some o → o.op ≠ .select cs b) (hnd : ∀ (j : Nat) (o : Oper), ops[j]? = some o → ∀ c, o.op ≠ .defer c)
 (hQ : ∀ c a w, Q (.panic c) (a.put oi.dst v) w → Q (.panic c) a w) (him : i < m0) (htl : ∀ j oj, m0 ≤ j → ops[j]? = some oj → ∃ e ∈ oj.after, Region.binds .any e = true ∧ e.on = i) :
 ∀ (fuel : Nat) (listed : Array Bool) (a : Act) (w : World),
  (∀ j oj, ops[j]? = some oj → j ≠ i → listed.getD j true = false → (∀ e ∈ oj.after, Region.binds .any e = true → e.on ≠ i) → oi.apart ops oj = true) →
  i ∈ Region.ready .any ops listed → YieldsIf P ops S oi v a → S w →
  wpAnyT rr mm P ops Q S m0 fuel (listed.setIfInBounds i true) (a.put oi.dst v) w → wpAnyT rr mm P ops Q S m0 (fuel + 1) listed a w := by
 intro fuel
 induction fuel with
 | zero =>
  intro listed a w _ hr hy hS H
  refine ⟨fun h => (by rw [h] at hr; cases hr), fun j hj => ?_⟩
  by_cases hji : j = i
  ·subst hji; exact yieldsIf_wpOp hi (hnd _ _ hi) hy hS ⟨fun _ => hS, H⟩
  ·have := ready_mono hj hji
   rw [H.1] at this
   cases this
 | succ fuel ih =>
  intro listed a w hfree hr hy hS H
  refine ⟨fun h => (by rw [h] at hr; cases hr), fun j hj => ?_⟩
  by_cases hji : j = i
  ·subst hji; exact yieldsIf_wpOp hi (hnd _ _ hi) hy hS ⟨fun _ => hS, H⟩
  ·have h1 := H.2 j (ready_mono hj hji)
   obtain ⟨hjun, oj, hoj, hall⟩ := mem_ready.1 hj
   have hnot : ∀ e ∈ oj.after, Region.binds .any e = true → e.on ≠ i := fun e he hb heq => by
    have h1 := hall e he hb
    have h0 := (mem_ready.1 hr).1
    rw [heq] at h1
    rcases Nat.lt_or_ge i listed.size with h' | h'
    ·simp [h'] at h0 h1; rw [h0] at h1; cases h1
    ·simp [Array.getElem?_eq_none h'] at h1
   have hjm : j < m0 := by
    rcases Nat.lt_or_ge j m0 with h' | h'
    ·exact h'
    ·obtain ⟨e, he, hb, hon⟩ := htl j oj h' hoj
     exact absurd hon (hnot e he hb)
   have h2 := wpOpIn_putIf hoj (hnd _ _ hoj) (hfree j oj hoj hji hjun hnot) (fun cs b => hsel i oi cs b hi) (fun cs b => hsel j oj cs b hoj) hQ hy h1
   have hfree' : ∀ k ok, ops[k]? = some ok → k ≠ i → (listed.setIfInBounds j true).getD k true = false →
    (∀ e ∈ ok.after, Region.binds .any e = true → e.on ≠ i) → oi.apart ops ok = true := fun k ok hk hki hun hno => by
    refine hfree k ok hk hki ?_ hno
    by_cases hjk : j = k
    ·subst hjk; exact hjun
    ·rw [getD_set_ne true hjk] at hun; exact hun
   refine wpOpIn_mono (fun a' w' h3 => ⟨h3.2.1, ih (listed.setIfInBounds j true) a' w' hfree' (ready_mono hr (Ne.symm hji)) h3.1 (h3.2.1 hjm) ?_⟩) h2
   rw [Array.setIfInBounds_comm _ _ hji]
   exact h3.2.2
theorem forAll_mem {p : Nat → Prop} : ∀ {l : List Nat}, forAll l p → ∀ i ∈ l, p i
 | [], _, _, hi => by cases hi
 | [j], h, i, hi => by obtain rfl : i = j := by simpa using hi
                       exact h
 | j :: j' :: l, h, i, hi => by
  rcases List.mem_cons.1 hi with rfl | hi
  ·exact h.1
  ·exact forAll_mem h.2 i hi
theorem opAt_some {l : List ROp} {i : Nat} {p : ROp → Prop} (h : opAt l i p) : ∃ o, l[i]? = some o ∧ p o := by
 unfold opAt at h
 split at h
 ·exact ⟨_, ‹_›, h⟩
 ·exact h.elim
theorem wpOp_of_step {ops : Array Oper} {i : Nat} {oi : Oper} {K : Act → World → Prop} (hi : ops[i]? = some oi) (h : if Region.wanted oi (yielded ops a.tmps) then oi.wpIn (fc rr) mm P a w K Q else K (a.put oi.dst undef) w) : wpOpIn (fc rr) mm P ops Q i K a w := by
 unfold wpOpIn
 simp only [hi]
 split
 ·rename_i hw; rw [if_pos hw] at h; exact h
 ·rename_i hw; rw [if_neg hw] at h; exact ⟨fun _ _ => trivial, h⟩
def HeadDone (m0 : Nat) (done : List Bool) : Prop := ∀ i, i < m0 → bAt done false i = true
theorem HeadDone.set {m0 : Nat} {done : List Bool} (h : HeadDone m0 done) (j : Nat) : HeadDone m0 (done.set j true) := fun i hi => by
 have h1 := h i hi
 unfold bAt at *
 rw [List.getElem?_set]
 by_cases hj : j = i
 ·subst hj
  rw [if_pos rfl]
  split at h1
  ·rename_i b hb
   have := (List.getElem?_eq_some_iff.1 hb).1
   simp [this]
  ·cases h1
 ·rw [if_neg hj]; exact h1
theorem HeadDone.next {m0 : Nat} {done : List Bool} {dep : List (List Nat × List Nat)} (h : HeadDone m0 done) {i : Nat} (hi : i ∈ nexts dep done) : ¬ i < m0 := fun hlt => by
 have h1 := h i hlt
 unfold nexts at hi
 have h2 := (List.mem_filter.1 hi).2
 simp only [Bool.and_eq_true, Bool.not_eq_true'] at h2
 have h3 := h2.1
 unfold bAt at h1 h3
 cases hd : done[i]? with
 | none => rw [hd] at h1; cases h1
 | some b => rw [hd] at h1 h3; simp only at h1 h3; rw [h1] at h3; cases h3
theorem Dr2_any {ops : Array Oper} {S : World → Prop} {m0 : Nat} {l : List ROp} {k : Env → List HP → Prop} (hQ : ∀ a w, Here dfs n w0 F k a w → Q .normal a w) (hl : ∀ (i : Nat) o, l[i]? = some o → ∃ oi, ops[i]? = some oi ∧ RelOp P n ops oi o) :
 ∀ (m : Nat) (done : List Bool) (e : Env) (L : List HP) (a : Act) (w : World), HeadDone m0 done → Dr2 P F l (depTab ops) k m done e L → Fits n e a.tmps → a.defers = dfs → Ext w0 w → Sat w (L ++ F) → wpAnyT rr mm P ops Q S m0 m done.toArray a w := by
 intro m
 induction m with
 | zero =>
  intro done e L a w _ h hf hd hx hs
  exact ⟨by rw [nexts_eq]; exact h.1, hQ a w ⟨e, L, hf, hd, hx, hs, h.2⟩⟩
 | succ m ih =>
  intro done e L a w hh h hf hd hx hs
  cases h with
  | fin h => exact ⟨fun _ => hQ a w ⟨e, L, hf, hd, hx, hs, h.2⟩, fun i hi => by rw [nexts_eq, h.1] at hi; cases hi⟩
  | take i h => exact h.elim
  | all h =>
   refine ⟨fun h0 => absurd (by rw [nexts_eq] at h0; exact h0) h.1, fun i hi => ?_⟩
   rw [nexts_eq] at hi
   obtain ⟨o, ho, hop⟩ := opAt_some (forAll_mem h.2 i hi)
   obtain ⟨oi, hoi, hrel⟩ := hl i o ho
   refine wpOpIn_mono (fun a' w' hb => ?_) (wpOp_of_step hoi (exOp1_step (Q := Q) hrel hop hf hd hs))
   obtain ⟨e', L', hf', hd', hx', hs', hk⟩ := hb
   refine ⟨fun hlt => absurd hlt (hh.next hi), ?_⟩
   rw [set_arr]
   exact ih _ _ _ _ _ (hh.set i) hk hf' hd' (hx.trans hx') hs'
theorem Dr1_any {I : List HP} {ops : Array Oper} {m0 : Nat} {l : List ROp} {k : Env → List HP → Prop} (hQ : ∀ a w, Here dfs n w0 F k a w → Q .normal a w) (hQp : ∀ c a a' w, Q (.panic c) a w → Q (.panic c) a' w) (hno : Region.noSelect ops = true) (hnd : ∀ (j : Nat) (o : Oper), ops[j]? = some o → ∀ c, o.op ≠ .defer c)
 (hl : ∀ (i : Nat) o, l[i]? = some o → ∃ oi, ops[i]? = some oi ∧ RelOp P n ops oi o) :
 ∀ (m : Nat) (done : List Bool) (e : Env) (L : List HP) (a : Act) (w : World), Dr1 P F I l (depTab ops) m0 k m done e L → Fits n e a.tmps → a.defers = dfs → Ext w0 w → Sat w ((L ++ I) ++ F) → wpAnyT rr mm P ops Q (fun w => Sat w (I ++ F)) m0 m done.toArray a w := by
 intro m
 induction m with
 | zero =>
  intro done e L a w h hf hd hx hs
  exact ⟨by rw [nexts_eq]; exact h.1, hQ a w ⟨e, L ++ I, hf, hd, hx, hs, h.2⟩⟩
 | succ m ih =>
  intro done e L a w h hf hd hx hs
  cases h with
  | fin h => exact ⟨fun _ => hQ a w ⟨e, L ++ I, hf, hd, hx, hs, h.2⟩, fun i hi => by rw [nexts_eq, h.1] at hi; cases hi⟩
  | take i h =>
   obtain ⟨o, ho, hc, hop⟩ := opAt_some h
   obtain ⟨oi, hoi, hrel⟩ := hl i o ho
   simp only [Bool.and_eq_true, takeable, decide_eq_true_eq, List.contains_eq_mem, List.all_eq_true] at hc
   obtain ⟨⟨⟨⟨h1, h2⟩, h3⟩, h4⟩, h5⟩ := hc
   have hs2 : Sat w (I ++ F) := by rw [List.append_assoc] at hs; exact hs.right
   obtain ⟨v, e', hy, hf', hk⟩ := exOp1_yield (S := fun w => Sat w (I ++ F)) hrel h5 hop hf (fun w hw => hw)
   rw [depTab_get hoi] at h2
   refine wpAnyT_first hoi (Region.noSelect_spec hno) hnd (fun c a w => hQp c _ _ w) h3 ?_ m _ a w ?_ (by rw [nexts_eq]; exact h1) hy hs2 ?_
   ·intro j oj hj hoj
    have hjl : j < (depTab ops).length := by rw [depTab_len]; exact (Array.getElem?_eq_some_iff.1 hoj).1
    have h6 := h4 j (by simpa using hjl)
    rw [depTab_get hoj] at h6
    simp only [Bool.or_eq_true, Bool.not_eq_true', decide_eq_false_iff_not] at h6
    rcases h6 with h6 | h6
    ·exact absurd hj h6
    ·have h7 : i ∈ depsOf oj := by simpa using h6
     unfold depsOf at h7
     obtain ⟨e, he, hon⟩ := List.mem_map.1 h7
     obtain ⟨he1, he2⟩ := List.mem_filter.1 he
     exact ⟨e, by simpa using he1, he2, hon⟩
   ·intro j oj hoj hji hun hnw
    cases hap : oi.apart ops oj with
    | true => rfl
    | false =>
     have hmem : j ∈ confOf ops i oi := by
      unfold confOf
      refine List.mem_filter.2 ⟨by simpa using (Array.getElem?_eq_some_iff.1 hoj).1, ?_⟩
      rw [hoj]
      simp only [hap, Bool.or_false, Bool.and_eq_true, Bool.not_eq_true', beq_eq_false_iff_ne]
      refine ⟨hji, ?_⟩
      rw [Bool.eq_false_iff]
      intro hany
      obtain ⟨e, he, hb⟩ := Array.any_eq_true'.1 hany
      simp only [Bool.and_eq_true, beq_iff_eq] at hb
      exact hnw e he hb.1 hb.2
     have h7 := List.all_eq_true.1 h2 j hmem
     rw [bAt_eq] at h7
     have hlt : j < done.toArray.size := by
      rcases Nat.lt_or_ge j done.toArray.size with h' | h'
      ·exact h'
      ·rw [Array.getD_eq_getD_getElem?, Array.getElem?_eq_none h'] at h7; cases h7
     rw [Array.getD_eq_getD_getElem?, Array.getElem?_eq_getElem hlt] at h7 hun
     simp only [Option.getD_some] at h7 hun
     rw [h7] at hun
     cases hun
   ·rw [set_arr]
    exact ih _ _ _ _ _ hk hf' (by cases oi.dst <;> exact hd) hx hs
  | all h =>
   refine ⟨fun h0 => absurd (by rw [nexts_eq] at h0; exact h0) h.1, fun i hi => ?_⟩
   rw [nexts_eq] at hi
   obtain ⟨o, ho, hop⟩ := opAt_some (forAll_mem h.2 i hi)
   obtain ⟨oi, hoi, hrel⟩ := hl i o ho
   cases hb : Nat.ble m0 i with
   | false =>
    rw [hb] at hop
    have hs' : Sat w (L ++ (I ++ F)) := by rw [← List.append_assoc]; exact hs
    refine wpOpIn_mono (fun a' w' hbh => ?_) (wpOp_of_step hoi (exOp1_step (Q := Q) hrel hop hf hd hs'))
    obtain ⟨e', L', hf', hd', hx', hs', hk⟩ := hbh
    refine ⟨fun _ => hs'.right, ?_⟩
    rw [set_arr]
    exact ih _ _ _ _ _ hk hf' hd' (hx.trans hx') (by rw [List.append_assoc]; exact hs')
   | true =>
    rw [hb] at hop
    obtain ⟨hall, hop⟩ := hop
    have hh : HeadDone m0 done := fun j hj => List.all_eq_true.1 hall j (by simpa using hj)
    refine wpOpIn_mono (fun a' w' hbh => ?_) (wpOp_of_step hoi (exOp1_step (Q := Q) hrel hop hf hd hs))
    obtain ⟨e', L', hf', hd', hx', hs', hk⟩ := hbh
    refine ⟨fun hlt => absurd hlt (hh.next hi), ?_⟩
    rw [set_arr]
    exact Dr2_any hQ hl m _ _ _ _ _ (hh.set i) hk hf' hd' (hx.trans hx') hs'
theorem resOps_nd {all : Array Oper} : ∀ {os : List Oper} {l : List ROp}, resOps P n all os = some l → ∀ oi ∈ os, ∀ c, oi.op ≠ .defer c
 | [], _, _, oi, hm => by cases hm
 | o :: os, l, h, oi, hm => by
  simp only [resOps] at h
  split at h <;> try (cases h; done)
  rename_i h1 h2
  rcases List.mem_cons.1 hm with rfl | hm
  ·exact resOp_nd h1
  ·exact resOps_nd h2 oi hm
theorem draw_any {ops : Array Oper} {l : List ROp} {kn : Env → List HP → Prop} (hQ : ∀ a w, Here dfs n w0 F kn a w → Q .normal a w) (hQp : ∀ c a a' w, Q (.panic c) a w → Q (.panic c) a' w) (hno : Region.noSelect ops = true) (hr : resOps P n ops ops.toList = some l)
 (h : DrawG P F l (depTab ops) e L kn) (hf : Fits n e a.tmps) (hd : a.defers = dfs) (hx : Ext w0 w) (hs : Sat w (L ++ F)) : wpAnyIn (fc rr) mm P .any ops Q ops.size (Array.replicate ops.size false) a { w with drawn := w.drawn + 1 } := by
 obtain ⟨m0, I, L0, hL, h1⟩ := h
 obtain ⟨hlen, hget⟩ := resOps_get hr
 have hlen' : l.length = ops.size := by simpa using hlen
 have := Dr1_any (rr := rr) (mm := mm) (w0 := w0) hQ hQp hno (fun j o ho => resOps_nd hr o (by obtain ⟨h1, h2⟩ := Array.getElem?_eq_some_iff.1 ho; rw [← h2]; simp)) (fun i o ho => by
  obtain ⟨oi, hoi, hrel⟩ := hget i o ho
  exact ⟨oi, by simpa using hoi, hrel⟩) l.length _ e L0 a { w with drawn := w.drawn + 1 } h1 hf hd (hx.trans (Ext.drew w)) ((hL w F hs).of_heap rfl)
 rw [hlen'] at this
 have h2 := wpAny_of_T _ _ _ _ this
 simpa using h2
theorem draw_sound {ops : Array Oper} {l : List ROp} {id : Nat} {kn : Env → List HP → Prop} {kx : Nat → Env → List HP → Prop} {kr : Env → List HP → Prop} (hno : Region.noSelect ops = true) (hm : P.follows .mixedOrders = true) (hr : resOps P n ops ops.toList = some l)
 (h : DrawG P F l (depTab ops) e L kn) (hf : Fits n e a.tmps) (hd : a.defers = dfs) (hx : Ext w0 w) (hs : Sat w (L ++ F)) : (Code.region id ops true).wpIn (fc rr) mm P (Qk dfs n w0 F kn kx kr) a w :=
 wpIn_region_any hm (draw_any (Q := Qk dfs n w0 F kn kx kr) (fun a w hh => hh) (fun c a a' w hq => hq.elim) hno hr h hf hd hx hs)
theorem exC_sound : ∀ {c : Code} {rc : RC} {kn : Env → List HP → Prop} {kx : Nat → Env → List HP → Prop} {kr : Env → List HP → Prop} {e : Env} {L : List HP} {a : Act} {w : World}, resC P n c = some rc → exC P F rc kn kx kr e L →
 Fits n e a.tmps → a.defers = dfs → Ext w0 w → Sat w (L ++ F) → c.wpIn (fc rr) mm P (Qk dfs n w0 F kn kx kr) a w := by
 intro c
 induction c with
 | skip => intro rc kn kx kr e L a w hr h hf hd hx hs; cases hr; exact wpIn_skip ⟨e, L, hf, hd, hx, hs, h⟩
 | region id ops draw =>
  intro rc kn kx kr e L a w hr h hf hd hx hs
  simp only [resC] at hr
  split at hr <;> try (cases hr; done)
  rename_i l hl
  obtain ⟨hlen, hget⟩ := resOps_get hl
  cases draw with
  | false => cases hr; exact wpIn_region_list (exOps_sound (k := kn) (fun a w hh => hh) hget hlen h hf hd hx hs)
  | true =>
   simp only at hr
   split at hr <;> cases hr
   rename_i hc
   simp only [Bool.and_eq_true] at hc
   exact draw_sound hc.1 hc.2 hl h hf hd hx hs
 | seq x y ihx ihy =>
  intro rc kn kx kr e L a w hr h hf hd hx hs
  simp only [resC] at hr
  split at hr <;> try (cases hr; done)
  rename_i rx ry h1 h2
  cases hr
  refine wpIn_seq (wpIn_mono (ihx h1 h hf hd hx hs) fun ex a' w' hq => ?_)
  cases ex with
  | normal => obtain ⟨e', L', hf', hd', hx', hs', hk⟩ := hq; exact ihy h2 hk hf' hd' hx' hs'
  | exit id => exact hq
  | ret => exact hq
  | _ => exact hq.elim
 | cond c x y ihx ihy =>
  intro rc kn kx kr e L a w hr h hf hd hx hs
  simp only [resC] at hr
  split at hr <;> try (cases hr; done)
  rename_i rcx rcy h1 h2
  cases hr
  simp only [exC] at h
  have h3 := rd_sound h hf
  rw [rx_eval] at h3
  obtain ⟨b, hb, h4⟩ := asB_sound h3
  have hset : Fits n (setB (rx c) b e) a.tmps := by
   cases c with
   | tmp t =>
    have hl : look e t = some (.bool b) := by
     simp only [rx, rd] at h
     cases hl : look e t with
     | none => rw [hl] at h; exact h.elim
     | some v => have := hf.get t v hl; rw [show a.eval (.tmp t) = a.tmps.getD t undef from rfl, this] at hb; rw [hb]
    exact hf.same hl
   | _ => exact hf
  cases b with
  | true => exact wpIn_cond_true hb (ihx h1 (h4.t rfl) hset hd hx hs)
  | false => exact wpIn_cond_false hb (ihy h2 (h4.f rfl) hset hd hx hs)
 | block id x ih =>
  intro rc kn kx kr e L a w hr h hf hd hx hs
  simp only [resC, Option.map_eq_some_iff] at hr
  obtain ⟨r, hr, rfl⟩ := hr
  refine wpIn_block (wpIn_mono (ih hr h hf hd hx hs) fun ex a' w' hq => ?_)
  cases ex with
  | normal => exact hq
  | exit i =>
   obtain ⟨e', L', hf', hd', hx', hs', hk⟩ := hq
   simp only [Exit.inBlock]
   by_cases hi : i = id
   ·rw [if_pos hi]
    subst hi
    rw [show Nat.beq i i = true from Nat.beq_refl i] at hk
    exact ⟨e', L', hf', hd', hx', hs', hk⟩
   ·rw [if_neg hi]
    have hbf : Nat.beq i id = false := by cases hb : Nat.beq i id with | false => rfl | true => exact absurd (Nat.eq_of_beq_eq_true hb) hi
    rw [hbf] at hk
    exact ⟨e', L', hf', hd', hx', hs', hk⟩
  | ret => exact hq
  | _ => exact hq.elim
 | loop x ih =>
  intro rc kn kx kr e L a w hr h hf hd hx hs
  simp only [resC, Option.map_eq_some_iff] at hr
  obtain ⟨r, hr, rfl⟩ := hr
  obtain ⟨I, m0, e', L', hsub, hL, h0, step⟩ := h
  refine wp_loop_idx (fun m a w => ∃ e L, Fits n e a.tmps ∧ a.defers = dfs ∧ Ext w0 w ∧ Sat w (L ++ F) ∧ I m e L) (m0 := m0) ⟨e', L', hf.sub hsub, hd, hx, hL w F hs, h0⟩ ?_
  rintro m a w ⟨e, L, hf, hd, hx, hs, hI⟩
  refine wpIn_mono (ih hr (step m e L hI) hf hd hx hs) fun ex a' w' hq => ?_
  cases ex with
  | normal =>
   obtain ⟨e1, L1, hf1, hd1, hx1, hs1, m', e2, L2, hlt, hsub2, hL2, hI2⟩ := hq
   exact ⟨m', hlt, e2, L2, hf1.sub hsub2, hd1, hx1, hL2 _ _ hs1, hI2⟩
  | exit i => exact hq
  | ret => exact hq
  | _ => exact hq.elim
 | exit id => intro rc kn kx kr e L a w hr h hf hd hx hs; cases hr; exact wpIn_exit ⟨e, L, hf, hd, hx, hs, h⟩
 | ret => intro rc kn kx kr e L a w hr h hf hd hx hs; cases hr; exact wpIn_ret ⟨e, L, hf, hd, hx, hs, h⟩
 | _ => intros; simp only [resC] at *; contradiction

def resSem (a : Act) : ResultVar → Sem Value
 | .tmp t => pure (a.tmps.getD t undef)
 | .cell x t => do loadVar t (← asAddr (a.tmps.getD x undef))
theorem ret_sound (hs : Sat w (L ++ F)) (hf : Fits n e a.tmps) : ∀ {rs : List ResultVar} {l : List RR} {k : List Value → Prop}, resR P rs = some l → exRet F e L l k →
 ∃ vs, k vs ∧ (rs.mapM (resSem a)).run P w = .ok vs w := by
 intro rs
 induction rs with
 | nil => intro l k hr h; cases hr; exact ⟨[], h, by simp⟩
 | cons r rs ih =>
  intro l k hr h
  have step : ∀ v vs, (resSem a r).run P w = .ok v w → (rs.mapM (resSem a)).run P w = .ok vs w → ((r :: rs).mapM (resSem a)).run P w = .ok (v :: vs) w := fun v vs h1 h2 => by
   simp only [List.mapM_cons, Sem.run_bind, h1, Result.andThen_ok, h2, Sem.run_pure]
  cases r with
  | tmp t =>
   simp only [resR, Option.map_eq_some_iff] at hr
   obtain ⟨l', hr', rfl⟩ := hr
   have h1 := rd_sound h hf
   obtain ⟨vs, hk, hrun⟩ := ih hr' h1
   exact ⟨_, hk, step _ _ rfl hrun⟩
  | cell x t =>
   simp only [resR] at hr
   split at hr <;> try (cases hr; done)
   rename_i m l' hm hr'
   cases hr
   cases m with
   | none =>
    have h1 := rd_sound h hf
    obtain ⟨p, v, ha, hv, hk⟩ := h1
    obtain ⟨vs, hk, hrun⟩ := ih hr' hk
    have ha' : a.tmps.getD x undef = .pointer (some p) := ha
    refine ⟨_, hk, step _ _ ?_ hrun⟩
    simp only [resSem, ha', asAddr, Sem.run_bind, Sem.run_pure, Result.andThen_ok, loadVar, run_isAgg_no hm, Bool.false_eq_true, if_false, run_load, hv w hs]
   | some m =>
    have h1 := rd_sound h hf
    obtain ⟨p, us, ha, hn, hv, hk⟩ := h1
    obtain ⟨vs, hk, hrun⟩ := ih hr' hk
    have ha' : a.tmps.getD x undef = .pointer (some p) := ha
    obtain ⟨h2, h3⟩ := run_isAgg_yes hm w
    have hl := run_loadCells_list (P := P) (w := w) p us (hv w hs)
    rw [hn] at hl
    refine ⟨_, hk, step _ _ ?_ hrun⟩
    simp only [resSem, ha', asAddr, Sem.run_bind, Sem.run_pure, Result.andThen_ok, loadVar, h2, if_true, run_size h3, hl]
theorem retK_sound {fn : Func} {l : List RR} {R : Value → List HP → Prop} (hr : resR P fn.results.toList = some l) (hh : Here dfs n w0 F (retK F l R) a w) :
 a.defers = dfs ∧ ∃ v, (results fn a.tmps).run P w = .ok v w ∧ ∃ v' L', Ending.returned v = .returned v' ∧ R v' L' ∧ Ext w0 w ∧ Sat w (L' ++ F) := by
 obtain ⟨e, L, hf, hd, hx, hs, hk⟩ := hh
 obtain ⟨vs, ⟨L', hL, hR⟩, hrun⟩ := ret_sound hs hf hr hk
 refine ⟨hd, retV vs, ?_, _, L', rfl, hR, hx, hL w F hs⟩
 have hv : (if h : vs.toArray.size = 1 then vs.toArray[0] else .tuple vs.toArray) = retV vs := by
  match vs with
  | [] => rfl
  | [v] => rfl
  | _ :: _ :: _ => simp [retV]
 have he : results fn a.tmps = (do
  let vs ← fn.results.mapM (resSem a)
  pure (if h : vs.size = 1 then vs[0] else .tuple vs)) := by
  unfold results
  congr 1
 rw [he]
 simp only [Array.mapM_eq_mapM_toList, Sem.run_bind, Sem.run_map, hrun, Result.andThen_ok, Sem.run_pure, hv]

theorem env0_look : ∀ (vs : List Value) (j i : Nat) (v : Value), look (env0 j vs) i = some v → j ≤ i ∧ vs[i - j]? = some v
 | [], _, _, _, h => by cases h
 | u :: vs, j, i, v, h => by
  simp only [env0, look_put] at h
  by_cases hi : j = i
  ·rw [if_pos hi] at h; cases h; subst hi; simp
  ·rw [if_neg hi] at h
   obtain ⟨h1, h2⟩ := env0_look vs (j + 1) i v h
   refine ⟨by omega, ?_⟩
   rw [show i - j = (i - (j + 1)) + 1 by omega]
   simpa using h2
theorem spec_of {f : FuncId} {fn : Func} {c : Code} {rc : RC} {l : List RR} {args : List Value} {pre : List HP} {R : Value → List HP → Prop}
 (hf : P.funcs[f]? = some fn) (hb : fn.body = some c) (hc : resC P fn.ntmps c = some rc) (hr : resR P fn.results.toList = some l) (hn : args.length ≤ fn.ntmps)
 (h : exC P F rc (retK F l R) (fun _ _ _ => False) (retK F l R) (env0 0 args) pre) : SpecF P f args F pre R := by
 intro w hs
 refine calls_of_wp hf hb ?_
 refine wp_mono ((wpIn_wide (n := 0)).1 (exC_sound (rr := none) (mm := 0) (n := fn.ntmps) (w0 := w) hc h ?_ rfl (Ext.refl w) hs)) fun ex a' w' hq => ?_
 ·refine ⟨by simp; omega, fun i v hv => ?_⟩
  obtain ⟨_, h2⟩ := env0_look args 0 i v hv
  have hlt : i < args.length := (List.getElem?_eq_some_iff.1 h2).1
  simp only [Nat.sub_zero] at h2
  rw [List.getElem?_eq_getElem hlt] at h2
  cases h2
  simp [Array.getElem?_append, hlt]
 ·cases ex with
  | normal => exact retK_sound hr hq
  | ret => exact retK_sound hr hq
  | exit id => obtain ⟨_, _, _, _, _, _, hk⟩ := hq; exact hk.elim
  | _ => exact hq.elim
structure FunR (P : Program) (f : FuncId) (rc : RC) (rs : List RR) (N : Nat) : Prop where
 out : ∃ fn, P.funcs[f]? = some fn ∧ fn.body.bind (resC P fn.ntmps) = some rc ∧ resR P fn.results.toList = some rs ∧ fn.ntmps = N
theorem FunR.spec {f : FuncId} {rc : RC} {l : List RR} {N : Nat} {args : List Value} {pre : List HP} {R : Value → List HP → Prop} (hf : FunR P f rc l N) (hn : Nat.ble args.length N = true)
 (h : exC P F rc (retK F l R) (fun _ _ _ => False) (retK F l R) (env0 0 args) pre) : SpecF P f args F pre R := by
 obtain ⟨fn, h1, h2, h3, h4⟩ := hf.out
 cases hb : fn.body with
 | none => rw [hb] at h2; cases h2
 | some c =>
  rw [hb] at h2
  exact spec_of h1 hb h2 h3 (by rw [h4]; exact Nat.le_of_ble_eq_true hn) h
end
end Go.Sl
