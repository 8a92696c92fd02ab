import Derived.Test.YtjkldhalmglkpaaDoorZRl
import Derived.RangeFuncNested
namespace Go.Sl
open Go
inductive RCI where
 | plain (rc : RC)
 | seq (a b : RCI)
 | cond (c : RX) (a b : RCI)
 | block (id : Nat) (a : RCI)
 | range (g : RX) (ps : List Nat) (asg body : RCI)
def resCI (P : Program) (n : Nat) : Code → Option RCI
 | .seq a b => match resCI P n a, resCI P n b with
  | some (.plain x), some (.plain y) => some (.plain (.seq x y))
  | some x, some y => some (.seq x y)
  | _, _ => none
 | .cond c a b => match resCI P n a, resCI P n b with
  | some (.plain x), some (.plain y) => some (.plain (.cond (rx c) x y))
  | some x, some y => some (.cond (rx c) x y)
  | _, _ => none
 | .block id a => match resCI P n a with
  | some (.plain x) => some (.plain (.block id x))
  | some x => some (.block id x)
  | none => none
 | .rangeFunc g ps x y => match resCI P n x, resCI P n y with
  | some rx', some ry => if ps.toList.all (fun p => decide (p < n)) then some (.range (rx g) ps.toList rx' ry) else none
  | _, _ => none
 | c => (resC P n c).map .plain
def dfr (D : Nat) : HP := blk D (.deferred (some []))
def markD (D : Nat) : Deferred := { target := .collected D, args := #[] }
def zipE (e : Env) : List Nat → List Value → Env
 | p :: ps, v :: vs => zipE ((p, v) :: e) ps vs
 | _, _ => e
def SeqF (P : Program) (g : FuncId) (lb : List Value) (cnt : Nat) (Y : Nat → List Value → List HP → Prop) (M F : List HP) : Prop :=
 ∀ (l : Nat) (J : Nat → List HP → Prop) (Jx : List HP → Prop),
  (∀ i vs A L1 G, i < cnt → Y i vs A → J i L1 → RoundF P l vs (G ++ F) (A ++ L1) (fun b L' => match b with
   | true => J (i + 1) L'
   | false => Jx L')) →
  ∀ L0, J 0 L0 → SpecF P g (.func (.yield l) #[] #[] :: lb) F (M ++ L0) (fun _ L => ∃ L', (J cnt L' ∨ Jx L') ∧ Ent L (M ++ L'))
abbrev KI := List Nat → Env → List HP → Prop
abbrev ExI := List HP → Option Nat → KI → (Nat → KI) → KI → KI
def Rec (F : List HP) (r : Option Nat) : Prop := ∀ l, r = some l → Gives F fun w => ∃ x, w.heap[l]? = some (.loop x)
def aftD (r : Option Nat) (D : Nat) (ds : List Nat) : List Nat := match r with
 | none => D :: ds
 | some _ => ds
def markL (r : Option Nat) (D : Nat) : List Deferred := match r with
 | none => [markD D]
 | some _ => []
def dfrs (r : Option Nat) (D : Nat) : List HP := match r with
 | none => [dfr D]
 | some _ => []
inductive RangeG (P : Program) (F : List HP) (r : Option Nat) (gf : FuncId) (lb : List Value) (ps : List Nat) (asg body : ExI) (kn : KI) (kx : Nat → KI) (kr : KI) (ds : List Nat) (e : Env) (L : List HP) : Prop where
 | mk (cnt : Nat) (Y : Nat → List Value → List HP → Prop) (M : List HP) (J : Nat → List HP → Prop) (X : Option Nat → List HP → Prop) (L0 rest : List HP)
  (seq : ∀ G, SeqF P gf lb cnt Y M (G ++ (rest ++ F))) (hY : ∀ i vs A, Y i vs A → vs.length = ps.length)
  (hL : Ent L (M ++ (L0 ++ rest))) (h0 : J 0 L0)
  (step : ∀ i vs A L1 l G, i < cnt → Y i vs A → J i L1 → Rec (G ++ (rest ++ F)) (some l) →
   asg (G ++ (rest ++ F)) (some l) (fun ds' e' L' => ds' = [] ∧ ∀ G', Rec (G' ++ (rest ++ F)) (some l) → body (G' ++ (rest ++ F)) (some l) (fun _ _ L2 => ∃ L3, Ent L2 L3 ∧ J (i + 1) L3) (fun id _ _ L2 => ∃ L3, Ent L2 L3 ∧ X (some id) L3) (fun _ _ L2 => ∃ L3, Ent L2 L3 ∧ X none L3) [] e' L')
    (fun _ _ _ _ => False) (fun _ _ _ => False) [] (zipE e ps vs) (A ++ L1))
  (done : ∀ D L', J cnt L' → kn (aftD r D ds) e (dfrs r D ++ (M ++ (L' ++ rest))))
  (stopx : ∀ D id L', X (some id) L' → kx id (aftD r D ds) e (dfrs r D ++ (M ++ (L' ++ rest))))
  (stopr : ∀ D L', X none L' → kr (aftD r D ds) e (dfrs r D ++ (M ++ (L' ++ rest))))
def exCI (P : Program) : RCI → ExI
 | .plain rc, F, _, kn, kx, kr, ds, e, L => exC P F rc (kn ds) (fun i => kx i ds) (kr ds) e L
 | .seq a b, F, r, kn, kx, kr, ds, e, L => exCI P a F r (fun ds' e' L' => exCI P b F r kn kx kr ds' e' L') kx kr ds e L
 | .cond c a b, F, r, kn, kx, kr, ds, e, L => rd e c fun v => asB v fun t => CondG t (exCI P a F r kn kx kr ds (setB c true e) L) (exCI P b F r kn kx kr ds (setB c false e) L)
 | .block id a, F, r, kn, kx, kr, ds, e, L => exCI P a F r kn (fun i ds' e' L' => match Nat.beq i id with
  | true => kn ds' e' L'
  | false => kx i ds' e' L') kr ds e L
 | .range g ps asg body, F, r, kn, kx, kr, ds, e, L => rd e g fun v => match v with
  | .func (.func gf) ⟨[]⟩ ⟨lb⟩ => SideG (callOk P gf = true) (RangeG P F r gf lb ps (exCI P asg) (exCI P body) kn kx kr ds e L)
  | _ => False
section
variable {P : Program} {F L : List HP} {e : Env} {n : Nat} {a : Act} {w w' w0 : World} {r : Option Nat}
def HereI (n : Nat) (w0 : World) (F : List HP) (k : KI) (a : Act) (w : World) : Prop := ∃ ds, Here (ds.map markD) n w0 F (k ds) a w
def QI (n : Nat) (w0 : World) (F : List HP) (kn : KI) (kx : Nat → KI) (kr : KI) : Exit → Act → World → Prop
 | .normal, a, w => HereI n w0 F kn a w
 | .exit id, a, w => HereI n w0 F (kx id) a w
 | .ret, a, w => HereI n w0 F kr a w
 | _, _, _ => False
theorem QI.of {kn : KI} {kx : Nat → KI} {kr : KI} {ds : List Nat} {ex : Exit} (h : Qk (ds.map markD) n w0 F (kn ds) (fun i => kx i ds) (kr ds) ex a w) : QI n w0 F kn kx kr ex a w := by
 cases ex <;> first | exact ⟨ds, h⟩ | exact h.elim
theorem Fits.set {t : Array Value} {p : Nat} (h : Fits n e t) (hp : p < n) (v : Value) : Fits n ((p, v) :: e) (t.setIfInBounds p v) :=
 Fits.put (a := { tmps := t, defers := [] }) (dst := some p) h (fun d hd => by cases hd; exact hp) v
theorem fits_zip : ∀ {ps : List Nat} {vs : List Value} {e : Env} {t : Array Value}, (∀ p ∈ ps, p < n) → Fits n e t → Fits n (zipE e ps vs) ((ps.zip vs).foldl (fun t q => t.setIfInBounds q.1 q.2) t)
 | [], _, _, _, _, h => h
 | _ :: _, [], _, _, _, h => h
 | p :: ps, v :: vs, e, t, hp, h => fits_zip (ps := ps) (fun q hq => hp q (by simp [hq])) (h.set (hp p (by simp)) v)
theorem Ext.putObj (w : World) (b : Nat) (o : Obj) : Ext w (w.putObj b o) := ⟨rfl, rfl, rfl, by simp⟩
theorem Sat.putObj {b : Nat} {o : Obj} {l : List HP} (h : Sat w (blk b o :: l)) (o' : Obj) : Sat (w.putObj b o') (blk b o' :: l) :=
 Sat.put h (World.putObj_heap_same h.blk_lt) fun k hk => World.putObj_heap_other hk
def recO (fn : FuncId) (t : Array Value) (ps : Array Tmp) (asg body : Code) (D : Nat) (st : LoopState) (pe : Option Code) : Obj := .loop { state := st, pending := pe, fn, tmps := t, params := ps, assign := asg, body, defers := D }
theorem enter_sat (hin : Rec F r) (fn : FuncId) (ps : Array Tmp) (asg body : Code) (hs : Sat w (L ++ F)) :
 ∃ l D D' W1, (Instr.enterLoop fn a.tmps ps asg body r).run P w = .ok (l, markL r D) W1 ∧ Ext w W1 ∧ Sat W1 (blk l (recO fn a.tmps ps asg body D' .ready none) :: (dfrs r D ++ (L ++ F))) := by
 cases r with
 | none => exact ⟨_, _, _, _, run_enterLoop_outer fn a.tmps ps asg body, (Ext.alloc _ _).trans (Ext.alloc _ _), by
  have h := (hs.alloc (.deferred (some []))).alloc (recO fn a.tmps ps asg body w.heap.size .ready none)
  rw [World.size_alloc] at h
  exact h⟩
 | some l0 =>
  obtain ⟨x, hx⟩ := hin l0 rfl w hs.right
  exact ⟨_, 0, x.defers, _, run_enterLoop_inner hx fn a.tmps ps asg body, Ext.alloc _ _, hs.alloc _⟩
def codeX : Option Nat → Code
 | none => .ret
 | some id => .exit id
theorem exCI_sound : ∀ {c : Code} {rc : RCI} {F : List HP} {r : Option Nat} {kn : KI} {kx : Nat → KI} {kr : KI} {ds : List Nat} {e : Env} {L : List HP} {a : Act} {w w0 : World} {mm : Nat}, resCI P n c = some rc → exCI P rc F r kn kx kr ds e L →
 Fits n e a.tmps → a.defers = ds.map markD → Ext w0 w → Sat w (L ++ F) → Rec F r → c.wpIn (fc r) mm P (QI n w0 F kn kx kr) a w := by
 intro c
 have leaf : ∀ {c : Code} {rc : RCI} {F : List HP} {r : Option Nat} {kn : KI} {kx : Nat → KI} {kr : KI} {ds : List Nat} {e : Env} {L : List HP} {a : Act} {w w0 : World} {mm : Nat}, (resC P n c).map RCI.plain = some rc → exCI P rc F r kn kx kr ds e L →
  Fits n e a.tmps → a.defers = ds.map markD → Ext w0 w → Sat w (L ++ F) → c.wpIn (fc r) mm P (QI n w0 F kn kx kr) a w := by
  intro c rc F r kn kx kr ds e L a w w0 mm hr h hf hd hx hs
  simp only [Option.map_eq_some_iff] at hr
  obtain ⟨rc, hr, rfl⟩ := hr
  exact wpIn_mono (exC_sound hr h hf hd hx hs) fun ex a w hq => QI.of hq
 induction c with
 | rangeFunc g ps asg body iha ihb =>
  intro rc F r kn kx kr ds e L a w w0 mm hr h hf hd hx hs hin
  simp only [resCI] at hr
  split at hr <;> try (cases hr; done)
  rename_i ra rb hra hrb
  split at hr <;> cases hr
  rename_i hps
  have hps' : ∀ p ∈ ps.toList, p < n := fun p hp => by simpa using List.all_eq_true.1 hps p hp
  simp only [exCI] at h
  have h1 := rd_sound h hf
  rw [rx_eval] at h1
  split at h1 <;> try exact h1.elim
  rename_i gf lb hg
  obtain ⟨hc, cnt, Y, M, J, X, L0, rest, seq, hY, hL, h0, step, hdone, hstopx, hstopr⟩ := h1
  refine wpIn_rangeFunc ?_
  intro fn _
  obtain ⟨l, D, D', W1, he, hx1, hs1⟩ := enter_sat (P := P) (a := a) hin fn ps asg body (hL w F hs)
  refine ⟨l, _, W1, { target := .fn (.func gf) ⟨lb⟩, args := #[.func (.yield l) #[] #[]] }, W1, gf, #[.func (.yield l) #[] #[]] ++ ⟨lb⟩, W1, he, ?_, fun _ _ => trivial, ?_, fun hh => (by cases hh), ?_⟩
  ·simp only [resolve, hg]
   simp [rangeCall, Act.eval, Deferred.ofValue, hg]
  ·simp [invoke, run_callFunc hc]
  have spec := seq (dfrs r D) l (fun i L1 => ∃ L2, J i L2 ∧ L1 = blk l (recO fn a.tmps ps asg body D' .ready none) :: L2)
   (fun L1 => ∃ o L2, X o L2 ∧ L1 = blk l (recO fn a.tmps ps asg body D' .done (some (codeX o))) :: L2) ?_ _ ⟨L0, h0, rfl⟩
  ·have hend : dfrs r D ++ (M ++ (L0 ++ (rest ++ F))) = dfrs r D ++ ((M ++ (L0 ++ rest)) ++ F) := by simp only [List.append_assoc]
   have hsp : Sat W1 ((M ++ blk l (recO fn a.tmps ps asg body D' .ready none) :: L0) ++ (dfrs r D ++ (rest ++ F))) := by
    refine hs1.perm ?_
    have p1 : (M ++ blk l (recO fn a.tmps ps asg body D' .ready none) :: L0).Perm (blk l (recO fn a.tmps ps asg body D' .ready none) :: (M ++ L0)) := List.perm_middle
    refine ((p1.append_right _).trans ?_).symm
    refine List.Perm.cons _ ?_
    have p2 : ((M ++ L0) ++ (dfrs r D ++ (rest ++ F))).Perm (dfrs r D ++ ((M ++ L0) ++ (rest ++ F))) := by
     rw [← List.append_assoc, ← List.append_assoc (dfrs r D)]
     exact List.perm_append_comm.append_right _
    refine p2.trans (List.Perm.append_left _ ?_)
    rw [List.append_assoc, List.append_assoc, List.append_assoc]
   have hcall := fc_calls (r := r) (m := mm - 1) (spec W1 hsp)
   have harr : (.func (.yield l) #[] #[] :: lb).toArray = #[Value.func (.yield l) #[] #[]] ++ (⟨lb⟩ : Array Value) := by
    apply Array.toList_inj.1
    simp
   rw [harr] at hcall
   refine hcall.mono fun ex w2 hq => ?_
   obtain ⟨v, L3, rfl, ⟨L4, hor, hent⟩, hx2, hs2⟩ := hq
   have hs3 : Sat w2 ((M ++ L4) ++ (dfrs r D ++ (rest ++ F))) := hent _ _ hs2
   have hx3 : Ext w0 w2 := (hx.trans hx1).trans hx2
   have mk : ∀ (o : Loop) (L5 : List HP), L4 = blk l (.loop o) :: L5 → Sat w2 (blk l (.loop o) :: ((dfrs r D ++ (M ++ (L5 ++ rest))) ++ F)) := by
    rintro o L5 rfl
    refine hs3.perm ?_
    have p1 : (M ++ blk l (.loop o) :: L5).Perm (blk l (.loop o) :: (M ++ L5)) := List.perm_middle
    refine (p1.append_right _).trans ?_
    refine List.Perm.cons _ ?_
    have p2 : ((M ++ L5) ++ (dfrs r D ++ (rest ++ F))).Perm (dfrs r D ++ ((M ++ L5) ++ (rest ++ F))) := by
     rw [← List.append_assoc, ← List.append_assoc (dfrs r D)]
     exact List.perm_append_comm.append_right _
    refine p2.trans ?_
    rw [List.append_assoc, List.append_assoc, List.append_assoc, List.append_assoc]
   have hdf : ∀ (a' : Act), a'.defers = markL r D ++ a.defers → a'.defers = (aftD r D ds).map markD := fun a' h => by
    rw [h, hd]
    cases r <;> rfl
   rcases hor with ⟨L5, hj, hL4⟩ | ⟨o, L5, hxo, hL4⟩
   ·have h4 := mk _ L5 hL4
    refine ⟨none, _, run_endLoop h4.blk_heap (by simp), ?_⟩
    exact ⟨aftD r D ds, e, _, hf, hdf _ rfl, hx3.trans (Ext.putObj _ _ _), (h4.putObj _).tail, hdone D L5 hj⟩
   ·have h4 := mk _ L5 hL4
    refine ⟨some (codeX o), _, run_endLoop h4.blk_heap (by simp), ?_⟩
    cases o with
    | none => exact wpIn_ret ⟨aftD r D ds, e, _, hf, hdf _ rfl, hx3.trans (Ext.putObj _ _ _), (h4.putObj _).tail, hstopr D L5 hxo⟩
    | some id => exact wpIn_exit ⟨aftD r D ds, e, _, hf, hdf _ rfl, hx3.trans (Ext.putObj _ _ _), (h4.putObj _).tail, hstopx D id L5 hxo⟩
  ·rintro i vs A _ G hi hy ⟨L2, hj, rfl⟩ m' W hW
   obtain ⟨Z, hZ⟩ : ∃ Z, Z = G ++ (dfrs r D ++ (rest ++ F)) := ⟨_, rfl⟩
   have hFF : ∀ o, (blk l o :: (G ++ dfrs r D)) ++ (rest ++ F) = blk l o :: Z := fun o => by rw [hZ]; simp only [List.cons_append, List.append_assoc]
   rw [← hZ] at hW
   have hrec : ∀ o : Loop, Rec (blk l (.loop o) :: Z) (some l) := fun o l' e' => by cases e'; exact fun w hs => ⟨_, hs.blk_heap⟩
   have hW1 : Sat W ((A ++ L2) ++ blk l (recO fn a.tmps ps asg body D' .ready none) :: Z) := hW.perm (by
    have p1 : (A ++ blk l (recO fn a.tmps ps asg body D' .ready none) :: L2).Perm (blk l (recO fn a.tmps ps asg body D' .ready none) :: (A ++ L2)) := List.perm_middle
    exact (p1.append_right _).trans List.perm_middle.symm)
   have hW2 := hW1.perm List.perm_middle
   have hsz := hY i vs A hy
   have hrun := run_yield (P := P) (args := vs.toArray) hW2.blk_heap (by simp [hsz])
   refine ⟨_, _, _, _, hrun, ?_⟩
   refine roundIn_of_wpIn (F := fc none) trivial ?_
   have hfit : Fits n (zipE e ps.toList vs) ((ps.zip vs.toArray).foldl (fun t q => t.setIfInBounds q.1 q.2) a.tmps) := by
    rw [← Array.foldl_toList]
    simpa using fits_zip (vs := vs) hps' hf
   have ha := step i vs A L2 l (blk l (recO fn a.tmps ps asg body D' .ready none) :: (G ++ dfrs r D)) hi hy hj (by rw [hFF]; exact hrec _)
   rw [hFF] at ha
   have hasg := iha (mm := m') (w0 := W) (a := { tmps := (ps.zip vs.toArray).foldl (fun t q => t.setIfInBounds q.1 q.2) a.tmps, defers := [] }) hra ha hfit rfl (Ext.refl W) hW1 (hrec _)
   refine wpIn_mono hasg fun ex a1 w1 hq => ?_
   cases ex with
   | normal =>
    obtain ⟨ds1, e1, L3, hf1, hd1, hx1', hs1', rfl, hbody⟩ := hq
    have h2 := hs1'.perm List.perm_middle
    refine ⟨_, run_beginRound h2.blk_heap rfl, ?_⟩
    have h3 := (h2.putObj (recO fn a.tmps ps asg body D' .busy none)).perm List.perm_middle.symm
    have hb := hbody (blk l (recO fn a.tmps ps asg body D' .busy none) :: (G ++ dfrs r D)) (by rw [hFF]; exact hrec _)
    rw [hFF] at hb
    refine wpIn_mono (ihb (mm := m') (w0 := W) hrb hb hf1 hd1 (hx1'.trans (Ext.putObj _ _ _)) h3 (hrec _)) fun ex a2 w2 hq => ?_
    have fin : ∀ (jump : Option Code) (L4 : List HP), Sat w2 (L4 ++ blk l (recO fn a.tmps ps asg body D' .busy none) :: Z) → Ext W w2 →
     ∃ w3, (Instr.endRound l jump).run P w2 = .ok (.bool jump.isNone) w3 ∧ Ext W w3 ∧ Sat w3 ((blk l (recO fn a.tmps ps asg body D' (if jump.isNone then .ready else .done) jump) :: L4) ++ Z) := fun jump L4 h hx => by
     have h5 := h.perm List.perm_middle
     exact ⟨_, run_endRound jump h5.blk_heap, hx.trans (Ext.putObj _ _ _), h5.putObj _⟩
    cases ex with
    | normal =>
     obtain ⟨_, e2, L4, _, _, hx2', hs2', L5, hent, hj5⟩ := hq
     obtain ⟨w3, h5, h6, h7⟩ := fin none L5 (hent _ _ hs2') hx2'
     exact ⟨_, w3, h5, true, _, rfl, ⟨L5, hj5, rfl⟩, h6, by rw [← hZ]; exact h7⟩
    | ret =>
     obtain ⟨_, e2, L4, _, _, hx2', hs2', L5, hent, hj5⟩ := hq
     obtain ⟨w3, h5, h6, h7⟩ := fin (some .ret) L5 (hent _ _ hs2') hx2'
     exact ⟨_, w3, h5, false, _, rfl, ⟨none, L5, hj5, rfl⟩, h6, by rw [← hZ]; exact h7⟩
    | exit id =>
     obtain ⟨_, e2, L4, _, _, hx2', hs2', L5, hent, hj5⟩ := hq
     obtain ⟨w3, h5, h6, h7⟩ := fin (some (.exit id)) L5 (hent _ _ hs2') hx2'
     exact ⟨_, w3, h5, false, _, rfl, ⟨some id, L5, hj5, rfl⟩, h6, by rw [← hZ]; exact h7⟩
    | _ => exact hq.elim
   | exit id => obtain ⟨_, _, _, _, _, _, _, hf⟩ := hq; exact hf.elim
   | ret => obtain ⟨_, _, _, _, _, _, _, hf⟩ := hq; exact hf.elim
   | _ => exact hq.elim
 | seq x y ihx ihy =>
  intro rc F r kn kx kr ds e L a w w0 mm hr h hf hd hx hs hin
  have go : ∀ {rx' ry : RCI}, resCI P n x = some rx' → resCI P n y = some ry → exCI P (.seq rx' ry) F r kn kx kr ds e L → (Code.seq x y).wpIn (fc r) mm P (QI n w0 F kn kx kr) a w := by
   intro rx' ry h1 h2 h
   refine wpIn_seq (wpIn_mono (ihx h1 h hf hd hx hs hin) fun ex a' w' hq => ?_)
   cases ex with
   | normal => obtain ⟨ds', e', L', hf', hd', hx', hs', hk⟩ := hq; exact ihy h2 hk hf' hd' hx' hs' hin
   | exit id => exact hq
   | ret => exact hq
   | _ => exact hq.elim
  simp only [resCI] at hr
  split at hr <;> try (cases hr; done)
  ·rename_i p q h1 h2
   cases hr
   exact go h1 h2 h
  ·rename_i p q _ h1 h2
   cases hr
   exact go h1 h2 h
 | cond c x y ihx ihy =>
  intro rc F r kn kx kr ds e L a w w0 mm hr h hf hd hx hs hin
  have go : ∀ {rx' ry : RCI}, resCI P n x = some rx' → resCI P n y = some ry → exCI P (.cond (rx c) rx' ry) F r kn kx kr ds e L → (Code.cond c x y).wpIn (fc r) mm P (QI n w0 F kn kx kr) a w := by
   intro rx' ry h1 h2 h
   simp only [exCI] at h
   have h3 := rd_sound h hf
   rw [rx_eval] at h3
   obtain ⟨b, hb, h4⟩ := asB_sound h3
   have hset : Fits n (setB (rx c) b e) a.tmps := by
    cases c with
    | tmp t =>
     have hl : look e t = some (.bool b) := by
      simp only [rx, rd] at h
      cases hl : look e t with
      | none => rw [hl] at h; exact h.elim
      | some v => have := hf.get t v hl; rw [show a.eval (.tmp t) = a.tmps.getD t undef from rfl, this] at hb; rw [hb]
     exact hf.same hl
    | _ => exact hf
   cases b with
   | true => exact wpIn_cond_true hb (ihx h1 (h4.t rfl) hset hd hx hs hin)
   | false => exact wpIn_cond_false hb (ihy h2 (h4.f rfl) hset hd hx hs hin)
  simp only [resCI] at hr
  split at hr <;> try (cases hr; done)
  ·rename_i p q h1 h2
   cases hr
   exact go h1 h2 h
  ·rename_i p q _ h1 h2
   cases hr
   exact go h1 h2 h
 | block id x ih =>
  intro rc F r kn kx kr ds e L a w w0 mm hr h hf hd hx hs hin
  have go : ∀ {rx' : RCI}, resCI P n x = some rx' → exCI P (.block id rx') F r kn kx kr ds e L → (Code.block id x).wpIn (fc r) mm P (QI n w0 F kn kx kr) a w := by
   intro rx' h1 h
   refine wpIn_block (wpIn_mono (ih h1 h hf hd hx hs hin) fun ex a' w' hq => ?_)
   cases ex with
   | normal => exact hq
   | exit i =>
    obtain ⟨ds', e', L', hf', hd', hx', hs', hk⟩ := hq
    simp only [Exit.inBlock]
    by_cases hi : i = id
    ·rw [if_pos hi]
     subst hi
     rw [show Nat.beq i i = true from Nat.beq_refl i] at hk
     exact ⟨ds', e', L', hf', hd', hx', hs', hk⟩
    ·rw [if_neg hi]
     have hbf : Nat.beq i id = false := by cases hb : Nat.beq i id with | false => rfl | true => exact absurd (Nat.eq_of_beq_eq_true hb) hi
     rw [hbf] at hk
     exact ⟨ds', e', L', hf', hd', hx', hs', hk⟩
   | ret => exact hq
   | _ => exact hq.elim
  simp only [resCI] at hr
  split at hr <;> try (cases hr; done)
  ·rename_i p h1
   cases hr
   exact go h1 h
  ·rename_i p _ h1
   cases hr
   exact go h1 h
 | _ =>
  intro rc F r kn kx kr ds e L a w w0 mm hr h hf hd hx hs hin
  exact leaf hr h hf hd hx hs
def retI (F : List HP) (rs : List RR) (R : Value → List HP → Prop) : KI := fun ds e L => ∃ L', Ent L (ds.map dfr ++ L') ∧ retK F rs R e L'
theorem leaves {fn : Func} {rs : List RR} {R : Value → List HP → Prop} {m : Nat} (hr : resR P fn.results.toList = some rs) (hf : Fits n e a.tmps) (hk : retK F rs R e L) : ∀ {ds : List Nat} {w : World}, Ext w0 w → Sat w ((ds.map dfr ++ L) ++ F) →
 LeavesInM (fc none) m P fn a.tmps (fun ex w' => ∃ v L', ex = .returned v ∧ R v L' ∧ Ext w0 w' ∧ Sat w' (L' ++ F)) (ds.map markD) .returning w
 | [], w, hx, hs => by
  obtain ⟨_, v, h1, v', L', h2, h3, h4, h5⟩ := retK_sound (dfs := []) (a := { tmps := a.tmps, defers := [] }) hr ⟨e, L, hf, rfl, hx, hs, hk⟩
  exact ⟨v, h1, v', L', h2, h3, h4, h5⟩
 | D :: ds, w, hx, hs => ⟨by simp, .inl ⟨D, _, rfl, run_takeDeferred (Sat.blk_heap hs), leaves hr hf hk (hx.trans (Ext.putObj _ _ _)) (Sat.putObj hs (.deferred none)).tail⟩⟩
structure FunRI (P : Program) (f : FuncId) (rc : RCI) (rs : List RR) (N : Nat) : Prop where
 out : ∃ fn, P.funcs[f]? = some fn ∧ fn.body.bind (resCI P fn.ntmps) = some rc ∧ resR P fn.results.toList = some rs ∧ fn.ntmps = N
theorem FunRI.spec {f : FuncId} {rc : RCI} {l : List RR} {N : Nat} {args : List Value} {pre : List HP} {R : Value → List HP → Prop} (hf : FunRI P f rc l N) (hn : Nat.ble args.length N = true)
 (h : exCI P rc F none (retI F l R) (fun _ _ _ _ => False) (retI F l R) [] (env0 0 args) pre) : SpecF P f args F pre R := by
 obtain ⟨fn, h1, h2, h3, h4⟩ := hf.out
 cases hb : fn.body with
 | none => rw [hb] at h2; cases h2
 | some c =>
  rw [hb] at h2
  have hN : args.length ≤ fn.ntmps := by rw [h4]; exact Nat.le_of_ble_eq_true hn
  intro w hs
  refine (callsIn_wide (n := 0)).1 (callsIn_of_wp_marks (F := Fence.wide) h1 hb trivial ?_ rfl)
  have hs0 := exCI_sound (n := fn.ntmps) (w0 := w) (w := w) (a := { tmps := args.toArray ++ Array.replicate (fn.ntmps - args.toArray.size) undef, defers := [] }) (mm := 0) h2 h ?_ rfl (Ext.refl w) hs (fun _ hh => by cases hh)
  ·refine wpIn_mono hs0 fun ex a' w' hq => ?_
   have fin : HereI fn.ntmps w F (retI F l R) a' w' → LeavesInM Fence.wide 0 P fn a'.tmps _ a'.defers .returning w' := fun hq => by
    obtain ⟨ds, e', L1, hf', hd', hx', hs', L', hent, hk⟩ := hq
    rw [hd']
    exact leaves h3 hf' hk hx' (hent _ _ hs')
   cases ex with
   | normal => exact fin hq
   | ret => exact fin hq
   | exit id => obtain ⟨_, _, _, _, _, _, _, hk⟩ := hq; exact hk.elim
   | _ => exact hq.elim
  ·refine ⟨by simp; omega, fun i v hv => ?_⟩
   obtain ⟨_, h2⟩ := env0_look args 0 i v hv
   have hlt : i < args.length := (List.getElem?_eq_some_iff.1 h2).1
   simp only [Nat.sub_zero] at h2
   rw [List.getElem?_eq_getElem hlt] at h2
   cases h2
   simp [Array.getElem?_append, hlt]
theorem YieldG.of {l : Nat} {args : List Value} {pre rest : List HP} {R : Bool → List HP → Prop} {k : Value → List HP → Prop} (spec : RoundF P l args (rest ++ F) pre R) (hL : Ent L (pre ++ rest)) (hk : ∀ b L', R b L' → k (.bool b) (L' ++ rest)) : YieldG P F l args L k := ⟨pre, rest, R, spec, hL, hk⟩
end
end Go.Sl
