import Derived.Test.YtjkldhalmglkpaaDoorZRs
namespace Go.Sl
open Go
section
variable {P : Program} {F L : List HP} {e : Env} {n : Nat} {a : Act} {w w' : World} {o : Oper} {fin : Value → List HP → Prop} {Q : Exit → Act → World → Prop} {K : Act → World → Prop}

theorem doesG_sound {s : Sem Value} (h : DoesG P F s L fin) (hs : Sat w (L ++ F)) (hrun : ∀ v w', s.run P w = .ok v w' → (execOp a.eval o).run P w = .ok (.value v) w') :
    o.wp P a w (After F w fin a o.dst) Q := by
  obtain ⟨h⟩ := h
  obtain ⟨v, L', w', hr, hx, hs', hf⟩ := h w hs
  exact wp_val (hrun v w' hr) ⟨v, L', rfl, hx, hs', hf⟩

theorem val_sound {x : Operand} (hop : o.op = .move x ∨ o.op = .assign x) (h : ex1 P F (.val (rx x)) e L fin) (hf : Fits n e a.tmps) : Yld P F L a o fin := by
  have h1 := rd_sound h hf
  rw [rx_eval] at h1
  exact ⟨a.eval x, fun w hs => (by rcases hop with hop | hop <;> simp [execOp, hop]), h1⟩

theorem pick_sound {c x y : Operand} (hop : o.op = .pick c x y) (h : ex1 P F (.pick (rx c) (rx x) (rx y)) e L fin) (hf : Fits n e a.tmps) : Yld P F L a o fin := by
  have h1 := rd_sound h hf
  rw [rx_eval] at h1
  obtain ⟨b, hb, h2⟩ := asB_sound h1
  have h3 := rd_sound (rd_sound h2 hf) hf
  rw [rx_eval, rx_eval] at h3
  obtain ⟨ht, hff⟩ := h3
  cases b
  · exact ⟨a.eval y, fun w hs => (by simp [execOp, hop, hb, asBool]), (hff rfl)⟩
  · exact ⟨a.eval x, fun w hs => (by simp [execOp, hop, hb, asBool]), (ht rfl)⟩

theorem eqn_sound {neq : Bool} {t : TypeId} {x y : Operand} {u : TypeId} (hop : o.op = .binOp (opOf neq) t x y u) (hgt : P.eqGuardType P.depth t = false)
    (h : ex1 P F (.eqn neq t (rx x) (rx y)) e L fin) (hf : Fits n e a.tmps) (hs : Sat w (L ++ F)) : o.wp P a w (After F w fin a o.dst) Q := by
  simp only [ex1] at h
  have h1 := rd_sound (rd_sound h hf) hf
  rw [rx_eval, rx_eval] at h1
  split at h1 <;> try exact h1.elim
  rename_i xs hx
  split at h1 <;> try exact h1.elim
  rename_i ys hy
  obtain ⟨h1⟩ := h1
  obtain ⟨v, L', w', hr, hxt, hs', hfn⟩ := h1 w hs
  obtain ⟨b, rfl, hb⟩ := asB_sound hfn
  have hr2 : (Op.equal t (.agg xs) (.agg ys)).run P w = .ok b w' := by
    rw [Sem.run_map] at hr
    cases hq : (Op.equal t (.agg xs) (.agg ys)).run P w with
    | ok c w2 => rw [hq] at hr; simp at hr; rw [hr.1, hr.2]
    | halt c w2 => rw [hq] at hr; simp at hr
  refine wp_val (v := .bool (bif neq then !b else b)) (w' := w') ?_ ⟨_, L', rfl, hxt, hs', nbk_sound hb⟩
  have hg : (eqGuard (opOf neq) t x y (.agg xs) (.agg ys)).run P w = .ok () w := by cases neq <;> simp [opOf, eqGuard, hgt]
  have hbin : (binOp (opOf neq) t (.agg xs) (.agg ys)).run P w = .ok (.bool (bif neq then !b else b)) w' := by cases neq <;> simp [opOf, binOp, hr2]
  simp only [execOp, hop, hx, hy, Sem.run_bind, hg, Result.andThen_ok, hbin, Sem.run_pure]

theorem not_sound {t : TypeId} {x : Operand} (hop : o.op = .unOp .not t x) (h : ex1 P F (.not (rx x)) e L fin) (hf : Fits n e a.tmps) : Yld P F L a o fin := by
  have h1 := rd_sound h hf
  rw [rx_eval] at h1
  obtain ⟨b, hb, h2⟩ := asB_sound h1
  exact ⟨.bool (!b), fun w hs => (by simp [execOp, hop, hb, Op.unary]), h2⟩
theorem neg_sound {t : TypeId} {x : Operand} (hop : o.op = .unOp .neg t x) (h : ex1 P F (.neg (rx x)) e L fin) (hf : Fits n e a.tmps) : Yld P F L a o fin := by
  have h1 := rd_sound h hf
  rw [rx_eval] at h1
  obtain ⟨k, m, hb, h2⟩ := asI_sound h1
  exact ⟨.int k (k.wrap (0 - m)), fun w hs => (by simp [execOp, hop, hb, Op.unary, Op.intArith]), h2.out⟩
theorem bnot_sound {t : TypeId} {x : Operand} (hop : o.op = .unOp .xor t x) (h : ex1 P F (.bnot (rx x)) e L fin) (hf : Fits n e a.tmps) : Yld P F L a o fin := by
  have h1 := rd_sound h hf
  rw [rx_eval] at h1
  obtain ⟨k, m, hb, h2⟩ := asI_sound h1
  exact ⟨_, fun w hs => by simp only [execOp, hop, hb, Op.unary, Op.intBits, Sem.run_bind]; rfl, h2⟩
theorem conv_sound {s d : TypeId} {k : IntKind} {j : IntKind} (hd : P.underlying d = some (.int k)) (hsr : P.underlying s = some (.int j)) {x : Operand} (hop : o.op = .convert s d x) (h : ex1 P F (.conv k (rx x)) e L fin) (hf : Fits n e a.tmps) : Yld P F L a o fin := by
  have h1 := rd_sound h hf
  rw [rx_eval] at h1
  obtain ⟨k', m, hb, h2⟩ := asI_sound h1
  exact ⟨.int k (k.wrap m), fun w hs => (by simp [execOp, hop, hb, convert, run_und hd, run_und hsr, Conv.intToInt]), h2.out⟩

theorem add_none (b o k : Nat) : (⟨b, o, none⟩ : Addr).add k = ⟨b, o + k, none⟩ := by
  unfold Addr.add
  split
  · rename_i h; subst h; rfl
  · rfl

theorem fieldA_sound {s : TypeId} {x : Operand} {f : Nat} {fs : Array Field} {fd : Field} {k : Nat} (h1 : P.underlying s = some (.struct fs)) (h2 : fs[f]? = some fd) (h3 : sizeT P fd.type = some (k + 1)) (hop : o.op = .fieldAddr s x f)
    (h : ex1 P F (.fieldA fd.offset (rx x)) e L fin) (hf : Fits n e a.tmps) : Yld P F L a o fin := by
  have h4 := rd_sound h hf
  rw [rx_eval] at h4
  split at h4 <;> try exact h4.elim
  rename_i b off hx
  exact ⟨.pointer (some ⟨b, off + fd.offset, none⟩), fun w hs => (by simp [execOp, hop, hx, Instr.fieldAt, run_und h1, h2, Instr.sureAddr, fieldPlace, run_size h3, add_none]), h4⟩

theorem run_part_agg {t : TypeId} {k : Nat} (h : aggT P t = some (some k)) (cs : Array Value) (off : Nat) (w : World) : (part t cs off).run P w = .ok (.agg (cs.extract off (off + k))) w := by
  obtain ⟨h1, h2⟩ := run_isAgg_yes h w
  simp [part, h1, run_size h2]
theorem run_part_one {t : TypeId} (h : aggT P t = some none) (cs : Array Value) (off : Nat) (w : World) {v : Value} (hv : cs[off]? = some v) : (part t cs off).run P w = .ok v w := by
  simp [part, run_isAgg_no h, hv]
theorem field_sound {s : TypeId} {x : Operand} {f : Nat} {fs : Array Field} {fd : Field} {k : Option Nat} (h1 : P.underlying s = some (.struct fs)) (h2 : fs[f]? = some fd) (h3 : aggT P fd.type = some k) (hop : o.op = .field s x f)
    (h : ex1 P F (.field fd.offset k (rx x)) e L fin) (hf : Fits n e a.tmps) : Yld P F L a o fin := by
  have h4 := rd_sound h hf
  rw [rx_eval] at h4
  split at h4 <;> try exact h4.elim
  rename_i cs hx
  cases k with
  | some k =>
    obtain ⟨vs, hvs, h5⟩ := h4
    have he : (⟨cs⟩ : Array Value).extract fd.offset (fd.offset + k) = ⟨vs⟩ := by
      apply Array.toList_inj.1
      simp only [Array.toList_extract, List.extract_eq_take_drop]
      rw [← hvs]
      simp
    exact ⟨.agg ⟨vs⟩, fun w hs => (by simp only [execOp, hop, hx, Instr.field, Sem.run_bind, run_und h1, Result.andThen_ok, h2, asAgg, Sem.run_pure, run_part_agg h3, he]), h5⟩
  | none =>
    obtain ⟨u, hu, h4⟩ := h4
    exact ⟨u, fun w hs => (by simp [execOp, hop, hx, Instr.field, run_und h1, h2, asAgg, run_part_one h3 ⟨cs⟩ _ w (by simpa using hu)]), h4⟩

theorem indexS_sound {t el : TypeId} {x i : Operand} {k : Nat} (h1 : P.underlying t = some (.slice el)) (h3 : sizeT P el = some k) (hop : o.op = .indexAddr t x i)
    (h : ex1 P F (.indexS k (rx x) (rx i)) e L fin) (hf : Fits n e a.tmps) : Yld P F L a o fin := by
  simp only [ex1] at h
  have h4 := rd_sound (rd_sound h hf) hf
  rw [rx_eval, rx_eval] at h4
  obtain ⟨kd, j, hi, h5⟩ := asI_sound h4
  obtain ⟨b, off, len, cap, hx, hr, h6⟩ := h5
  exact ⟨.pointer (some ⟨b, off + j.toNat * k, none⟩), fun w hs => (by
    simp [execOp, hop, hx, hi, Instr.indexAt, asIntOf, run_und h1, hr, run_size h3, add_none]), h6⟩
theorem indexA_sound {t el : TypeId} {len : Nat} {x i : Operand} {k : Nat} (h1 : P.underlying t = some (.array len el)) (h3 : sizeT P el = some k) (hop : o.op = .indexAddr t x i)
    (h : ex1 P F (.indexA len k (rx x) (rx i)) e L fin) (hf : Fits n e a.tmps) : Yld P F L a o fin := by
  simp only [ex1] at h
  have h4 := rd_sound (rd_sound h hf) hf
  rw [rx_eval, rx_eval] at h4
  obtain ⟨kd, j, hi, h5⟩ := asI_sound h4
  split at h5 <;> try exact h5.elim
  rename_i b off hx
  obtain ⟨hr, h6⟩ := h5
  exact ⟨.pointer (some ⟨b, off + j.toNat * k, none⟩), fun w hs => (by
    simp [execOp, hop, hx, hi, Instr.indexAt, asIntOf, run_und h1, hr, run_size h3, add_none, Instr.sureAddr]), h6⟩

theorem load_sound {t : TypeId} {x : Operand} (ht : aggT P t = some none) (hop : o.op = .load t x) (h : ex1 P F (.load (rx x)) e L fin) (hf : Fits n e a.tmps) : Yld P F L a o fin := by
  have h1 := rd_sound h hf
  rw [rx_eval] at h1
  obtain ⟨p, v, ha, hv, hk⟩ := h1
  exact ⟨v, fun w hs => (by simp [execOp, hop, ha, Instr.loadAt, Instr.sureAddr, loadVar, run_isAgg_no ht, hv w hs]), hk⟩
theorem loadN_sound {t : TypeId} {k : Nat} {x : Operand} (ht : aggT P t = some (some k)) (hop : o.op = .load t x) (h : ex1 P F (.loadN k (rx x)) e L fin) (hf : Fits n e a.tmps) : Yld P F L a o fin := by
  have h1 := rd_sound h hf
  rw [rx_eval] at h1
  obtain ⟨p, vs, ha, hn, hv, hk⟩ := h1
  refine ⟨.agg ⟨vs⟩, fun w hs => ?_, hk⟩
  obtain ⟨h2, h3⟩ := run_isAgg_yes ht w
  have hl := run_loadCells_list (P := P) (w := w) p vs (hv w hs)
  rw [hn] at hl
  simp [execOp, hop, ha, Instr.loadAt, Instr.sureAddr, loadVar, h2, run_size h3, hl]
theorem store_sound {t : TypeId} {k : Nat} {x y : Operand} (ht : sizeT P t = some k) (hop : o.op = .store t x y) (h : ex1 P F (.store k (rx x) (rx y)) e L fin) (hf : Fits n e a.tmps) (hs : Sat w (L ++ F)) : o.wp P a w (After F w fin a o.dst) Q := by
  have h1 := rd_sound (rd_sound h hf) hf
  rw [rx_eval, rx_eval] at h1
  obtain ⟨p, L', ha, hn, hw, hk⟩ := cellsK_sound h1
  obtain ⟨w', hrun, hx, hs'⟩ := hw w hs
  refine wp_skp (w' := w') ?_ ⟨undef, L', rfl, hx, hs', hk⟩
  have hn' : (a.eval y).cells.size = k := by simpa using hn
  simp [execOp, hop, ha, Instr.storeAt, Instr.sureAddr, storeVar, run_size ht, hn', hrun]

theorem alloc_sound {t : TypeId} {z : List Value} (ht : zeroT P t = some z) (hop : o.op = .alloc t) (h : ex1 P F (.alloc t z) e L fin) (hs : Sat w (L ++ F)) : o.wp P a w (After F w fin a o.dst) Q := by
  obtain ⟨v, hz, hc⟩ := run_zero ht w
  have h2 : v.cells = z.toArray := by rw [← hc]
  refine wp_val (v := .pointer (some ⟨w.heap.size, 0, none⟩)) (w' := w.alloc (.cells z.toArray t)) ?_ ⟨_, _, rfl, Ext.alloc _ _, hs.alloc _, h _⟩
  simp [execOp, hop, Instr.alloc, hz, newVar, newRow, h2]
theorem box_sound {t : TypeId} {x : Operand} (hop : o.op = .box t x) (h : ex1 P F (.box t (rx x)) e L fin) (hf : Fits n e a.tmps) (hs : Sat w (L ++ F)) : o.wp P a w (After F w fin a o.dst) Q := by
  have h1 := rd_sound h hf
  rw [rx_eval] at h1
  have h2 := cellsK_sound h1
  refine wp_val (v := .pointer (some ⟨w.heap.size, 0, none⟩)) (w' := w.alloc (.cells (a.eval x).cells t)) ?_ ⟨_, _, rfl, Ext.alloc _ _, hs.alloc _, h2 _⟩
  simp [execOp, hop, Instr.box, newVar, newRow]
theorem nilCheck_sound {x : Operand} (hop : o.op = .nilCheck x) (h : ex1 P F (.nilCheck (rx x)) e L fin) (hf : Fits n e a.tmps) : Yld P F L a o fin := by
  have h1 := rd_sound h hf
  rw [rx_eval] at h1
  split at h1 <;> try exact h1.elim
  all_goals
    rename_i hx
    exact ⟨_, fun w hs => (by simp [execOp, hop, hx]), h1⟩
theorem extract_sound {x : Operand} {i : Nat} (hop : o.op = .extract x i) (h : ex1 P F (.extract i (rx x)) e L fin) (hf : Fits n e a.tmps) : Yld P F L a o fin := by
  have h1 := rd_sound h hf
  rw [rx_eval] at h1
  split at h1 <;> try exact h1.elim
  rename_i vs hx
  split at h1 <;> try exact h1.elim
  rename_i u hu
  exact ⟨u, fun w hs => (by simp [execOp, hop, hx, Instr.extract, hu]), h1⟩
theorem makeI_sound {t : TypeId} {d : TypeDesc} {x : Operand} (hd : P.underlying t = some d) (hd2 : ∀ m, d ≠ .interface m) (hop : o.op = .makeInterface t x) (h : ex1 P F (.iface t (rx x)) e L fin) (hf : Fits n e a.tmps) : Yld P F L a o fin := by
  have h1 := rd_sound h hf
  rw [rx_eval] at h1
  exact ⟨.iface t (a.eval x), fun w hs => (by cases d <;> first | exact absurd rfl (hd2 _) | simp [execOp, hop, Instr.makeInterface, run_und hd]), h1⟩
theorem makeF_sound {f : FuncId} {first cs : Array Operand} (hfi : first.isEmpty = true) (hop : o.op = .makeFunc (.func f) first cs) (h : ex1 P F (.func f (cs.toList.map rx)) e L fin) (hf : Fits n e a.tmps) : Yld P F L a o fin := by
  have h1 := rdAll_sound hf h
  have h2 : ((cs.toList.map rx).map (·.eval a)).toArray = cs.map a.eval := by
    apply Array.toList_inj.1
    simp [rx_eval]
  have h3 : first = #[] := by simpa using hfi
  rw [h2] at h1
  exact ⟨.func (.func f) #[] (cs.map a.eval), fun w hs => (by simp [execOp, hop, Instr.makeFunc, h3]), h1⟩
theorem makeM_sound {t : TypeId} (hop : o.op = .makeMap t none) (h : ex1 P F (.mkMap t) e L fin) (hs : Sat w (L ++ F)) : o.wp P a w (After F w fin a o.dst) Q := by
  refine wp_val (v := .map (some w.heap.size)) (w' := w.alloc (.map #[] 0)) ?_ ⟨_, _, rfl, Ext.alloc _ _, hs.alloc _, h _⟩
  simp [execOp, hop, Instr.makeMap]

theorem sliceBound_ok {k : IntKind} {i : Int} {y : Nat} {c : BoundsCode} (h : 0 ≤ i ∧ i ≤ (y : Int)) (w : World) : (Instr.sliceBound (.int k i) y c).run P w = .ok i.toNat w := by
  simp [Instr.sliceBound, asIntOf, h]
theorem optX {lo : Option Operand} {z : Int} {a : Act} {k : IntKind} {l : Int} (h : ((lo.map rx).getD (.c (.int .i64 z))).eval a = .int k l) : (lo = none ∧ l = z) ∨ (∃ x, lo = some x ∧ a.eval x = .int k l) := by
  cases lo with
  | none => simp [RX.eval] at h; exact .inl ⟨rfl, h.2.symm⟩
  | some x => simp only [Option.map_some, Option.getD_some, rx_eval] at h; exact .inr ⟨x, rfl, h⟩
theorem bounds_ok {isS : Bool} {len cap : Nat} {lo hi mx : Option Operand} {a : Act} {k1 k2 k3 : IntKind} {l h m : Int} (h1 : ((lo.map rx).getD (.c (.int .i64 0))).eval a = .int k1 l) (h2 : ((hi.map rx).getD (.c (.int .i64 len))).eval a = .int k2 h)
    (h3 : ((mx.map rx).getD (.c (.int .i64 cap))).eval a = .int k3 m) (hm : mx = none ∨ hi ≠ none) (hb : 0 ≤ l ∧ l ≤ h ∧ h ≤ m ∧ m ≤ (cap : Int)) (w : World) :
    (Instr.sliceBounds isS len cap (lo.map a.eval) (hi.map a.eval) (mx.map a.eval)).run P w = .ok (l.toNat, h.toNat, m.toNat) w := by
  have e1 : 0 ≤ l := by omega
  have e2 : 0 ≤ h ∧ h ≤ ((m.toNat : Nat) : Int) := by omega
  have e3 : 0 ≤ l ∧ l ≤ ((h.toNat : Nat) : Int) := by omega
  have e4 : 0 ≤ m ∧ m ≤ (cap : Int) := by omega
  rcases optX h3 with ⟨rfl, rfl⟩ | ⟨xm, rfl, hxm⟩
  · rcases optX h2 with ⟨rfl, rfl⟩ | ⟨xh, rfl, hxh⟩ <;> rcases optX h1 with ⟨rfl, rfl⟩ | ⟨xl, rfl, hxl⟩
    · simp [Instr.sliceBounds]
    · have := sliceBound_ok (P := P) (k := k1) (c := .sliceB) e3 w
      simp at this
      simp [Instr.sliceBounds, hxl, this]
    · have := sliceBound_ok (P := P) (k := k2) (c := if isS then .sliceAcap else .sliceAlen) (y := cap) ⟨e2.1, hb.2.2.1⟩ w
      simp [Instr.sliceBounds, hxh, this]
    · have t1 := sliceBound_ok (P := P) (k := k2) (c := if isS then .sliceAcap else .sliceAlen) (y := cap) ⟨e2.1, hb.2.2.1⟩ w
      have t2 := sliceBound_ok (P := P) (k := k1) (c := .sliceB) e3 w
      simp [Instr.sliceBounds, hxh, hxl, t1, t2]
  · have t0 := sliceBound_ok (P := P) (k := k3) (c := if isS then .slice3Acap else .slice3Alen) e4 w
    rcases optX h2 with ⟨rfl, rfl⟩ | ⟨xh, rfl, hxh⟩
    · simp at hm
    · have t1 := sliceBound_ok (P := P) (k := k2) (c := .slice3B) e2 w
      rcases optX h1 with ⟨rfl, rfl⟩ | ⟨xl, rfl, hxl⟩
      · simp [Instr.sliceBounds, hxh, hxm, t0, t1]
      · have t2 := sliceBound_ok (P := P) (k := k1) (c := .slice3C) e3 w
        simp [Instr.sliceBounds, hxh, hxm, hxl, t0, t1, t2]

theorem sliceAt_other {t : TypeId} {d : TypeDesc} (hd : P.underlying t = some d) (h : ∀ n el, d ≠ .array n el) (x : Value) (lo hi mx : Option Value) (w : World) : (Instr.sliceAt t x lo hi mx).run P w = (Instr.slice t x lo hi mx).run P w := by
  cases d <;> first | exact absurd rfl (h _ _) | simp [Instr.sliceAt, run_und hd]

theorem slice_sound {t el : TypeId} {x : Operand} {lo hi mx : Option Operand} {k : Nat} (h1 : P.underlying t = some (.slice el)) (h3 : sizeT P el = some k) (hm : mx = none ∨ hi ≠ none) (hop : o.op = .slice t x lo hi mx)
    (h : ex1 P F (.slice k (rx x) (lo.map rx) (hi.map rx) (mx.map rx)) e L fin) (hf : Fits n e a.tmps) : Yld P F L a o fin := by
  simp only [ex1] at h
  have h4 := rd_sound (rd_sound h hf) hf
  rw [rx_eval] at h4
  obtain ⟨k1, l, hl, h5⟩ := asI_sound h4
  · obtain ⟨ad, len, cap, hx, h5⟩ := h5
    obtain ⟨k2, hh, hhe, h6⟩ := asI_sound (rd_sound h5 hf)
    obtain ⟨k3, mm, hme, h7⟩ := asI_sound (rd_sound h6 hf)
    obtain ⟨hb, h8⟩ := h7
    refine ⟨_, fun w hs => ?_, h8.out⟩
    simp only [execOp, hop, Sem.run_bind, sliceAt_other h1 (by simp), hx, Instr.slice, run_und h1, Result.andThen_ok, bounds_ok hl hhe hme hm hb w, run_size h3, Sem.run_pure]

theorem sliceT_sound {t : TypeId} {x : Operand} {lo hi : Option Operand} (h1 : P.underlying t = some .string) (hop : o.op = .slice t x lo hi none)
    (h : ex1 P F (.sliceT (rx x) (lo.map rx) (hi.map rx)) e L fin) (hf : Fits n e a.tmps) : Yld P F L a o fin := by
  simp only [ex1] at h
  have h4 := rd_sound (rd_sound h hf) hf
  rw [rx_eval] at h4
  obtain ⟨k1, l, hl, h5⟩ := asI_sound h4
  split at h5 <;> try exact h5.elim
  rename_i s hx
  obtain ⟨k2, hh, hhe, h6⟩ := asI_sound (rd_sound h5 hf)
  obtain ⟨hb, h8⟩ := h6
  refine ⟨_, fun w hs => ?_, h8⟩
  have hbd := bounds_ok (P := P) (isS := false) (mx := none) (cap := s.size) (len := s.size) hl hhe (k3 := .i64) (m := s.size) rfl (.inl rfl) ⟨hb.1, hb.2.1, hb.2.2, Int.le_refl _⟩ w
  simp only [Option.map_none] at hbd
  simp [execOp, hop, sliceAt_other h1, hx, Instr.slice, run_und h1, hbd]

theorem sliceA_sound {t el : TypeId} {len : Nat} {x : Operand} {lo hi : Option Operand} {k : Nat} (h1 : P.underlying t = some (.array len el)) (h3 : sizeT P el = some k) (hop : o.op = .slice t x lo hi none)
    (h : ex1 P F (.sliceA len k (rx x) (lo.map rx) (hi.map rx)) e L fin) (hf : Fits n e a.tmps) : Yld P F L a o fin := by
  simp only [ex1] at h
  have h4 := rd_sound (rd_sound h hf) hf
  rw [rx_eval] at h4
  obtain ⟨k1, l, hl, h5⟩ := asI_sound h4
  obtain ⟨k2, hh, hhe, h6⟩ := asI_sound (rd_sound h5 hf)
  split at h6 <;> try exact h6.elim
  rename_i ad hx
  obtain ⟨hb, h8⟩ := h6
  have h9 := h8.out
  refine ⟨_, fun w hs => ?_, h9⟩
  have hbd := bounds_ok (P := P) (isS := false) (mx := none) (cap := len) (len := len) hl hhe (k3 := .i64) (m := len) rfl (.inl rfl) ⟨hb.1, hb.2.1, hb.2.2, Int.le_refl _⟩ w
  simp only [Option.map_none] at hbd
  simp [execOp, hop, Instr.sliceAt, hx, run_und h1, Instr.sureAddr, hbd, run_size h3]
  split <;> rfl

/-! What is laid together -/
theorem take_set_succ : ∀ (z : List Value) (i : Nat) (c : Value), i < z.length → (z.set i c).take (i + 1) = z.take i ++ [c]
  | [], _, _, h => by simp at h
  | y :: z, 0, c, _ => by simp
  | y :: z, i + 1, c, h => by
    have := take_set_succ z i c (by simpa using h)
    simp only [List.set_cons_succ, List.take_succ_cons, List.cons_append, this]
theorem fold_set (off : Nat) : ∀ (l : List Value) (k : Nat) (z : List Value), off + k + l.length ≤ z.length →
    (l.zipIdx k).foldl (fun (cs : Array Value) (p : Value × Nat) => cs.setIfInBounds (off + p.2) p.1) z.toArray = (z.take (off + k) ++ l ++ z.drop (off + k + l.length)).toArray
  | [], k, z, _ => by simp
  | c :: l, k, z, h => by
    have hlt : off + k < z.length := by simp at h; omega
    have ih := fold_set off l (k + 1) (z.set (off + k) c) (by simp at h ⊢; omega)
    simp only [List.zipIdx_cons, List.foldl_cons, List.setIfInBounds_toArray]
    rw [ih]
    have e1 : off + (k + 1) = off + k + 1 := by omega
    rw [e1, take_set_succ z _ c hlt, List.drop_set_of_lt (by omega)]
    simp only [List.length_cons, List.append_assoc, List.cons_append, List.nil_append]
    rw [show off + k + (l.length + 1) = off + k + 1 + l.length by omega]
theorem parts_sound {place : Nat → Option (Nat × Nat)} (hf : Fits n e a.tmps) : ∀ {ps : List (Nat × Operand)} {l : List (Nat × Nat × RX)} {k : List (Nat × Nat × Value) → Prop}, partsT place ps = some l → rdParts e l k →
    ∃ vs, k vs ∧ vs.length = ps.length ∧ ∀ z cs, fillL z vs = some cs → Instr.fill place z.toArray (ps.map fun p => (p.1, a.eval p.2)) = some cs.toArray := by
  intro ps
  induction ps with
  | nil =>
    intro l k h hk
    simp only [partsT, Option.some.injEq] at h
    subst h
    exact ⟨[], hk, rfl, fun z cs hc => by simp only [fillL, Option.some.injEq] at hc; subst hc; rfl⟩
  | cons p ps ih =>
    obtain ⟨i, x⟩ := p
    intro l k h hk
    simp only [partsT] at h
    split at h <;> try (cases h; done)
    rename_i off sz r hp hr
    cases h
    simp only [rdParts] at hk
    have h1 := rd_sound hk hf
    rw [rx_eval] at h1
    obtain ⟨vs, hk2, hlen, hfill⟩ := ih hr h1
    refine ⟨_, hk2, by simp [hlen], fun z cs hc => ?_⟩
    simp only [fillL] at hc
    split at hc <;> try (cases hc; done)
    rename_i hcond
    simp only [List.map_cons, Instr.fill, hp]
    have h3 := hfill _ _ hc
    have hsz : (a.eval x).cells.size = sz := hcond.1
    have hle : off + (a.eval x).cells.size ≤ z.length := by rw [hsz]; exact hcond.2
    have hif : ((a.eval x).cells.size ≠ sz || off + (a.eval x).cells.size > z.toArray.size) = false := by
      simp [hsz]; omega
    rw [if_neg (by rw [hif]; simp)]
    have hfold : Array.foldl (fun cs (p : Value × Nat) => cs.setIfInBounds (off + p.2) p.1) z.toArray (a.eval x).cells.zipIdx = (z.take off ++ (a.eval x).cells.toList ++ z.drop (off + sz)).toArray := by
      rw [← Array.foldl_toList, Array.toList_zipIdx]
      have := fold_set off (a.eval x).cells.toList 0 z (by simpa using hle)
      simp only [Nat.add_zero, Array.length_toList, hsz] at this
      exact this
    refine Eq.trans ?_ h3
    exact congrArg (fun c => Instr.fill place c _) hfold

theorem build_sound {t : TypeId} {z : List Value} {ps : Array (Nat × Operand)} {l : List (Nat × Nat × RX)} (hz : zeroT P t = some z) (place : Nat → Option (Nat × Nat))
    (hrun : ∀ parts cs w, Instr.fill place z.toArray parts = some cs → (Instr.build t parts.toArray).run P w = .ok (.agg cs) w) (hl : partsT place ps.toList = some l) (hop : o.op = .build t ps)
    (h : ex1 P F (.build z l) e L fin) (hf : Fits n e a.tmps) : Yld P F L a o fin := by
  simp only [ex1] at h
  obtain ⟨vs, ⟨cs, hc, hk⟩, _, hfill⟩ := parts_sound hf hl h
  have h1 := fun w => hrun _ _ w (hfill _ _ hc)
  have h2 : (ps.toList.map fun p => (p.1, a.eval p.2)).toArray = ps.map fun (i, x) => (i, a.eval x) := by
    apply Array.toList_inj.1
    simp
  rw [h2] at h1
  exact ⟨.agg ⟨cs⟩, fun w hs => (by simp [execOp, hop, h1]), hk⟩

theorem zeros_eq {len k : Nat} {v : Value} {z : List Value} (hv : v.cells.toList = z) (hn : z.length = k) : ((Array.range (len * k)).map (v.cells[· % v.cells.size]!)) = (zerosL len k z).toArray := by
  have h1 : v.cells = z.toArray := by rw [← hv]
  rw [h1]
  apply Array.toList_inj.1
  simp only [Array.toList_map, Array.toList_range, zerosL]
  refine List.map_congr_left fun i hi => ?_
  simp only [List.size_toArray, hn]
  rw [getElem!_def]
  cases h : z.toArray[i % k]? with
  | none => simp at h; simp [List.getD, h]
  | some u => simp at h; simp [List.getD, h]
theorem buildS_sound {t el : TypeId} {len k : Nat} {z : List Value} {ps : Array (Nat × Operand)} {l : List (Nat × Nat × RX)} (ht : P.underlying t = some (.slice el)) (hk : sizeT P el = some k) (hz : zeroT P el = some z) (hle : len * k ≤ 2 ^ 24) (hzn : z.length = k)
    (hl : partsT (fun i => some (i * k, k)) ps.toList = some l) (hop : o.op = .buildSlice t len ps)
    (h : ex1 P F (.buildS el len (zerosL len k z) l) e L fin) (hf : Fits n e a.tmps) (hs : Sat w (L ++ F)) : o.wp P a w (After F w fin a o.dst) Q := by
  simp only [ex1] at h
  obtain ⟨vs, ⟨cs, hc, hk2⟩, _, hfill⟩ := parts_sound hf hl h
  have h1 := hfill _ _ hc
  have h2 : (ps.map fun (i, x) => (i, a.eval x)).toList = ps.toList.map fun p => (p.1, a.eval p.2) := by simp
  obtain ⟨zv, hzv, hzc⟩ := run_zero hz w
  refine wp_val (v := .slice (some ⟨w.heap.size, 0, none⟩) len len) (w' := w.alloc (.cells cs.toArray el)) ?_ ⟨_, _, rfl, Ext.alloc _ _, hs.alloc _, hk2 _⟩
  have hno : ¬ (len * k > 2 ^ 24) := by omega
  by_cases h0 : len * k = 0
  · have hz0 : zerosL len k z = [] := by simp [zerosL, h0]
    rw [hz0] at h1
    have hr0 : (Array.range 0) = (#[] : Array Nat) := rfl
    simp [execOp, hop, Instr.buildSlice, run_und ht, run_size hk, h0, h1, newRow, hr0]
  · have hze := zeros_eq (len := len) hzc hzn
    simp only [execOp, hop, Instr.buildSlice, Sem.run_bind, run_und ht, Result.andThen_ok, run_size hk, if_neg hno, Sem.run_pure, if_neg h0, hzv, hze, h2, h1]
    simp [newRow]

theorem blt_sound {ats : Array TypeId} {b : Builtin} {args : Array Operand} (hop : o.op = .call { callee := .builtin b, args, argTypes := ats }) (hb : b = .append ∨ b = .copy ∨ b = .clear ∨ b = .delete ∨ b = .len ∨ b = .cap)
    (h : ex1 P F (.blt b ats o.type (args.toList.map rx)) e L fin) (hf : Fits n e a.tmps) (hs : Sat w (L ++ F)) : o.wp P a w (After F w fin a o.dst) Q := by
  have h1 := rdAll_sound hf h
  have h2 : ((args.toList.map rx).map (·.eval a)).toArray = args.map a.eval := by
    apply Array.toList_inj.1
    simp [rx_eval]
  rw [h2] at h1
  refine doesG_sound h1 hs fun v w' hr => ?_
  rcases hb with rfl | rfl | rfl | rfl | rfl | rfl <;> simp only at hr <;> simp [execOp, hop, resolve, invoke, builtin, hr]
theorem mkS_sound {t : TypeId} {l c : Operand} (hop : o.op = .makeSlice t l c) (h : ex1 P F (.mkS t (rx l) (rx c)) e L fin) (hf : Fits n e a.tmps) (hs : Sat w (L ++ F)) : o.wp P a w (After F w fin a o.dst) Q := by
  have h1 := rd_sound (rd_sound h hf) hf
  rw [rx_eval, rx_eval] at h1
  exact doesG_sound h1 hs fun v w' hr => by simp [execOp, hop, hr]
theorem look_sound {t : TypeId} {m k : Operand} {ok : Bool} (hop : o.op = .lookup t m k ok) (h : ex1 P F (.look t (rx m) (rx k) ok) e L fin) (hf : Fits n e a.tmps) (hs : Sat w (L ++ F)) : o.wp P a w (After F w fin a o.dst) Q := by
  have h1 := rd_sound (rd_sound h hf) hf
  rw [rx_eval, rx_eval] at h1
  exact doesG_sound h1 hs fun v w' hr => by simp [execOp, hop, hr]
theorem idx_sound {t : TypeId} {m k : Operand} (hop : o.op = .index t m k) (h : ex1 P F (.idx t (rx m) (rx k)) e L fin) (hf : Fits n e a.tmps) (hs : Sat w (L ++ F)) : o.wp P a w (After F w fin a o.dst) Q := by
  have h1 := rd_sound (rd_sound h hf) hf
  rw [rx_eval, rx_eval] at h1
  exact doesG_sound h1 hs fun v w' hr => by simp [execOp, hop, hr]
theorem tass_sound {s t : TypeId} {ok : Bool} {x : Operand} (hop : o.op = .typeAssert x s t ok) (h : ex1 P F (.tass s t ok (rx x)) e L fin) (hf : Fits n e a.tmps) (hs : Sat w (L ++ F)) : o.wp P a w (After F w fin a o.dst) Q := by
  have h1 := rd_sound h hf
  rw [rx_eval] at h1
  exact doesG_sound h1 hs fun v w' hr => by simp [execOp, hop, hr]
theorem arrp_sound {t : TypeId} {x : Operand} (hop : o.op = .sliceToArrayPointer t x) (h : ex1 P F (.arrp t (rx x)) e L fin) (hf : Fits n e a.tmps) (hs : Sat w (L ++ F)) : o.wp P a w (After F w fin a o.dst) Q := by
  have h1 := rd_sound h hf
  rw [rx_eval] at h1
  exact doesG_sound h1 hs fun v w' hr => by simp [execOp, hop, hr]
theorem cvt_sound {t u : TypeId} {x : Operand} (hop : o.op = .convert t u x) (h : ex1 P F (.cvt t u (rx x)) e L fin) (hf : Fits n e a.tmps) (hs : Sat w (L ++ F)) : o.wp P a w (After F w fin a o.dst) Q := by
  have h1 := rd_sound h hf
  rw [rx_eval] at h1
  exact doesG_sound h1 hs fun v w' hr => by simp [execOp, hop, hr]
theorem sbin_sound {op : BinOp} {t u : TypeId} {x y : Operand} (hop : o.op = .binOp op t x y u) (h : ex1 P F (.sbin op (rx x) (rx y)) e L fin) (hf : Fits n e a.tmps) (hs : Sat w (L ++ F)) : o.wp P a w (After F w fin a o.dst) Q := by
  simp only [ex1] at h
  have h1 := rd_sound (rd_sound h hf) hf
  rw [rx_eval, rx_eval] at h1
  split at h1 <;> try exact h1.elim
  rename_i hx hy
  refine doesG_sound h1 hs fun v w' hr => ?_
  have hg : ∀ p q, (eqGuard op t x y (.string p) (.string q)).run P w = .ok () w := fun p q => by cases op <;> simp [eqGuard]
  have hb : ∀ p q, binOp op t (.string p) (.string q) = Op.stringOp op p q := fun p q => by cases op <;> rfl
  simp [execOp, hop, hx, hy, hg, hb, hr]
theorem upd_sound {t : TypeId} {m k v : Operand} (hop : o.op = .mapUpdate t m k v) (h : ex1 P F (.upd t (rx m) (rx k) (rx v)) e L fin) (hf : Fits n e a.tmps) (hs : Sat w (L ++ F)) : o.wp P a w (After F w fin a o.dst) Q := by
  have h1 := rd_sound (rd_sound (rd_sound h hf) hf) hf
  rw [rx_eval, rx_eval, rx_eval] at h1
  obtain ⟨h1⟩ := h1
  obtain ⟨u, L', w', hr, hx, hs', hfn⟩ := h1 w hs
  rw [Sem.run_bind] at hr
  cases hq : (Instr.mapUpdate t (a.eval m) (a.eval k) (a.eval v)).run P w with
  | halt c w2 => rw [hq] at hr; simp at hr
  | ok c w2 =>
    rw [hq] at hr
    simp at hr
    obtain ⟨rfl, rfl⟩ := hr
    exact wp_skp (w' := w2) (by simp [execOp, hop, hq]) ⟨_, L', rfl, hx, hs', hfn⟩

theorem callG_sound {f : FuncId} {args : List Value} (h : CallG P F f args L fin) (hs : Sat w (L ++ F)) (hrun : (execOp a.eval o).run P w = .ok (.enter f args.toArray) w) : o.wp P a w (After F w fin a o.dst) Q := by
  obtain ⟨pre, rest, R, spec, hL, hk⟩ := h
  refine wp_ent hrun ?_
  have hs2 : Sat w (pre ++ (rest ++ F)) := by rw [← List.append_assoc]; exact hL w F hs
  refine (spec w hs2).mono fun e w' hh => ?_
  obtain ⟨v, L', rfl, hR, hx, hs'⟩ := hh
  exact ⟨v, rfl, v, L' ++ rest, rfl, hx, by rw [List.append_assoc]; exact hs', hk v L' hR⟩
theorem run_callFunc {f : FuncId} (hc : callOk P f = true) (args : Array Value) (w : World) : (callFunc f args).run P w = .ok (.enter f args) w := by
  unfold callOk at hc
  split at hc
  · rename_i fn hfn
    simp only [Bool.and_eq_true, Bool.not_eq_true'] at hc
    have h2 : fn.body.isNone = false := by
      cases hb : fn.body <;> simp_all
    have h3 : (fn.name = "runtime.NumGoroutine") = False := by
      have := hc.1
      simp at this
      simp [this]
    simp [callFunc, hfn, h3]
    intro hb
    simp [hb] at h2
  · cases hc
theorem call_sound {ats : Array TypeId} {f : FuncId} {args : Array Operand} (hc : callOk P f = true) (hop : o.op = .call { callee := .value (.func f), args, argTypes := ats })
    (h : ex1 P F (.call f (args.toList.map rx)) e L fin) (hf : Fits n e a.tmps) (hs : Sat w (L ++ F)) : o.wp P a w (After F w fin a o.dst) Q := by
  have h1 := rdAll_sound hf h
  refine callG_sound h1 hs ?_
  have h2 : ((args.toList.map rx).map (·.eval a)).toArray = args.map a.eval := by
    apply Array.toList_inj.1
    simp [rx_eval]
  rw [h2]
  simp [execOp, hop, resolve, Act.eval, Deferred.ofValue, invoke, run_callFunc hc]
theorem ext_sound {ats : Array TypeId} {f : FuncId} {args : Array Operand} (hc : extOk P f = true) (hop : o.op = .call { callee := .value (.func f), args, argTypes := ats })
    (h : ex1 P F (.ext f (args.toList.map rx)) e L fin) (hf : Fits n e a.tmps) (hs : Sat w (L ++ F)) : o.wp P a w (After F w fin a o.dst) Q := by
  have h1 := rdAll_sound hf h
  have h2 : ((args.toList.map rx).map (·.eval a)).toArray = args.map a.eval := by
    apply Array.toList_inj.1
    simp [rx_eval]
  rw [h2] at h1
  refine doesG_sound h1 hs fun v w' hr => ?_
  unfold extOk at hc
  split at hc <;> try (cases hc; done)
  rename_i fn hfn
  simp only [Bool.and_eq_true, Bool.not_eq_true', Option.isNone_iff_eq_none] at hc
  obtain ⟨⟨⟨hc1, hc2⟩, hc3⟩, hc4⟩ := hc
  simp only [extSem, hfn] at hr
  cases hx : Extern.find fn with
  | none => rw [hx] at hc4; cases hc4
  | some ef =>
    rw [hx] at hr
    have hn : (fn.name = "runtime.NumGoroutine") = False := by simpa using hc1
    simp [execOp, hop, resolve, Act.eval, Deferred.ofValue, invoke, callFunc, hfn, hn, hc2, hc3, hx, hr]
theorem inv_sound {ats : Array TypeId} {x : Operand} {name : String} {args : Array Operand} (hop : o.op = .call { callee := .invoke x name, args, argTypes := ats })
    (h : ex1 P F (.inv (rx x) name (args.toList.map rx)) e L fin) (hf : Fits n e a.tmps) (hs : Sat w (L ++ F)) : o.wp P a w (After F w fin a o.dst) Q := by
  simp only [ex1] at h
  have h1 := rdAll_sound hf (rd_sound h hf)
  rw [rx_eval] at h1
  split at h1 <;> try exact h1.elim
  rename_i t u hx
  obtain ⟨f, r, hm, hc, hk⟩ := h1
  refine callG_sound hk hs ?_
  have h2 : (r :: (args.toList.map rx).map (·.eval a)).toArray = #[r] ++ args.map a.eval := by
    apply Array.toList_inj.1
    simp [rx_eval]
  rw [h2]
  have h3 : (#[Value.iface t u] ++ args.map a.eval)[0]? = some (.iface t u) := by
    rw [Array.getElem?_append_left (by simp)]
    rfl
  have h4 : (args.map a.eval).extract 0 args.size = args.map a.eval := by
    apply Array.toList_inj.1
    simp only [Array.toList_extract, Array.toList_map, List.extract_eq_take_drop, List.drop_zero, Nat.sub_zero]
    exact List.take_of_length_le (by simp)
  have h5 : callMethod (.iface t u) name (args.map a.eval) = (do
      let (f, receiver) ← method ((← program).types.size + Made.depth) t u name
      callFunc f (#[receiver] ++ args.map a.eval)) := rfl
  have h6 : (callMethod (.iface t u) name (args.map a.eval)).run P w = .ok (.enter f (#[r] ++ args.map a.eval)) w := by
    rw [h5]
    simp [hm, run_callFunc hc]
  have h7 : execOp a.eval o = callMethod (.iface t u) name (args.map a.eval) := by
    simp only [execOp, hop, resolve, hx]
    show invoke (.fn (.method name) #[]) (#[Value.iface t u] ++ args.map a.eval) = _
    simp only [invoke, h3]
    simp
    rw [h4]
  rw [h7, h6]
theorem fc_calls {r : Option Nat} {m : Nat} {f : FuncId} {args : Array Value} {R : Ending → World → Prop} (h : Calls P f args w R) : CallsIn (fc r) m P f args w R := (callsIn_wide (n := m)).2 h
theorem fc_rows {r : Option Nat} {m : Nat} {row : String} {args : Array Value} {R : Value → World → Prop} (h : Rows P row args w R) : RowsIn (fc r) m P row args w R := fun c cs _ =>
  let ⟨v, w', hr, s⟩ := h c cs; ⟨v, w', hr, stepsIn_wide.2 s⟩
theorem semAt_fc {r : Option Nat} (hd : ∀ c, o.op ≠ .defer c) : o.semAt r a.eval = execOp a.eval o := by
  cases r with
  | none => exact Oper.semAt_none _ _
  | some l => exact Oper.semAt_some l _ o hd
theorem wpIn_of_wp {r : Option Nat} {m : Nat} {next : Act → World → Prop} (hd : ∀ c, o.op ≠ .defer c) (h : o.wp P a w next Q) : o.wpIn (fc r) m P a w next Q := by
  refine ⟨fun f _ => trivial, ?_⟩
  show o.uponIn (fc r) m P a next Q ((o.semAt r a.eval).run P w)
  rw [semAt_fc hd]
  unfold Oper.wp at h
  generalize (execOp a.eval o).run P w = x at h ⊢
  cases x with
  | ok nx w1 =>
    cases nx with
    | value v => exact h
    | skip => exact h
    | defer d => exact h
    | enter f args =>
      refine ⟨fun hh => (by cases hh), fc_calls (Calls.mono h fun ex w2 hq => ?_)⟩
      cases ex with
      | returned v => exact hq
      | panicked c => exact hq
      | outgrown => exact hq
    | row row args => exact ⟨fun hh => (by cases hh), fc_rows h⟩
    | _ => exact h.elim
  | halt x w1 => cases x <;> first | exact h | exact h.elim
theorem resOp_nd {t : TypeId} {op : Op} {ro : RO} (h : resOp P t op = some ro) : ∀ c, op ≠ .defer c := by
  rintro c rfl
  simp [resOp] at h
theorem yield_sound {r : Option Nat} {m : Nat} {ats : Array TypeId} {x : Nat} {args : Array Operand} {l : Nat} {c1 c2 : Array Value} (hop : o.op = .call { callee := .value (.tmp x), args, argTypes := ats })
    (hx : a.eval (.tmp x) = .func (.yield l) c1 c2) (h : YieldG P F l (c1.toList ++ (args.toList.map rx).map (·.eval a)) L fin) (hs : Sat w (L ++ F)) : o.wpIn (fc r) m P a w (After F w fin a o.dst) Q := by
  obtain ⟨pre, rest, R, spec, hL, hk⟩ := h
  have hs2 : Sat w (pre ++ (rest ++ F)) := by rw [← List.append_assoc]; exact hL w F hs
  obtain ⟨fn, tmps, assign, body, hy, hR⟩ := spec (m - 1) w hs2
  have h3 : (c1.toList ++ (args.toList.map rx).map (·.eval a)).toArray = c1 ++ args.map a.eval := by
    apply Array.toList_inj.1
    simp [rx_eval]
  rw [h3] at hy
  refine ⟨fun f _ => trivial, ?_⟩
  show o.uponIn (fc r) m P a _ Q ((o.semAt r a.eval).run P w)
  rw [semAt_fc (by rw [hop]; intro c hc; cases hc)]
  have he : (execOp a.eval o).run P w = .ok (.round l fn tmps assign body) w := by
    simp [execOp, hop, resolve, hx, Deferred.ofValue, invoke, hy]
  rw [he]
  refine ⟨fun hh => (by cases hh), ?_⟩
  have hR' : RoundIn (fc r) (m - 1) P l fn tmps assign body w _ := hR
  refine hR'.mono fun ex w' hq => ?_
  obtain ⟨b, L', rfl, hb, hx, hs'⟩ := hq
  exact ⟨_, _, rfl, hx, by rw [List.append_assoc]; exact hs', hk b L' hb⟩
theorem callv_sound {r : Option Nat} {m : Nat} {ats : Array TypeId} {x : Nat} {args : Array Operand} (hop : o.op = .call { callee := .value (.tmp x), args, argTypes := ats })
    (h : ex1 P F (.callv (.t x) (args.toList.map rx)) e L fin) (hf : Fits n e a.tmps) (hs : Sat w (L ++ F)) : o.wpIn (fc r) m P a w (After F w fin a o.dst) Q := by
  simp only [ex1] at h
  have h1 := rdAll_sound hf (rd_sound h hf)
  split at h1 <;> try exact h1.elim
  case h_2 l c1 c2 hx => exact yield_sound hop hx h1 hs
  rename_i g first captured hx
  obtain ⟨hc, h2⟩ := h1
  refine wpIn_of_wp (by rw [hop]; intro c hc; cases hc) (callG_sound h2 hs ?_)
  have h3 : (first.toList ++ (args.toList.map rx).map (·.eval a) ++ captured.toList).toArray = first ++ args.map a.eval ++ captured := by
    apply Array.toList_inj.1
    simp [rx_eval]
  rw [h3]
  have hx' : a.eval (.tmp x) = .func (.func g) first captured := hx
  simp [execOp, hop, resolve, hx', Deferred.ofValue, invoke, run_callFunc hc]
theorem len_sound {t el : TypeId} {x : Operand} {ats : Array TypeId} {args : Array Operand} (ha : args.toList = [x]) (hat : ats.toList = [t]) (hd : P.underlying t = some (.slice el)) (hop : o.op = .call { callee := .builtin .len, args, argTypes := ats })
    (h : ex1 P F (.len (rx x)) e L fin) (hf : Fits n e a.tmps) : Yld P F L a o fin := by
  have h1 := rd_sound h hf
  rw [rx_eval] at h1
  obtain rfl : args = #[x] := Array.toList_inj.1 ha
  obtain rfl : ats = #[t] := Array.toList_inj.1 hat
  obtain ⟨ad, m, c, hx, h1⟩ := h1
  exact ⟨_, fun w hs => (by simp [execOp, hop, resolve, invoke, builtin, Builtin.len_, run_und hd, hx, goInt]), h1⟩
theorem lenT_sound {t : TypeId} {x : Operand} {ats : Array TypeId} {args : Array Operand} (ha : args.toList = [x]) (hat : ats.toList = [t]) (hd : P.underlying t = some .string) (hop : o.op = .call { callee := .builtin .len, args, argTypes := ats })
    (h : ex1 P F (.lenT (rx x)) e L fin) (hf : Fits n e a.tmps) : Yld P F L a o fin := by
  have h1 := rd_sound h hf
  rw [rx_eval] at h1
  obtain rfl : args = #[x] := Array.toList_inj.1 ha
  obtain rfl : ats = #[t] := Array.toList_inj.1 hat
  split at h1 <;> try exact h1.elim
  rename_i hx
  exact ⟨_, fun w hs => (by simp [execOp, hop, resolve, invoke, builtin, Builtin.len_, run_und hd, hx, goInt]), h1⟩

theorem op_cases {r : RO} (hr : resOp P o.type o.op = some r) (h : ex1 P F r e L fin) (hf : Fits n e a.tmps) : Yld P F L a o fin ∨ (r.eager = false ∧ ((∀ w Q, Sat w (L ++ F) → o.wp P a w (After F w fin a o.dst) Q) ∨ ∀ w Q rr mm, Sat w (L ++ F) → o.wpIn (fc rr) mm P a w (After F w fin a o.dst) Q)) := by
  cases hop : o.op <;> rw [hop] at hr <;> simp only [resOp] at hr
  case move x => cases hr; exact .inl (val_sound (.inl hop) h hf)
  case assign x => cases hr; exact .inl (val_sound (.inr hop) h hf)
  case pick => cases hr; exact .inl (pick_sound hop h hf)
  case binOp op t x y u =>
    split at hr
    · cases hr; exact .inl (bin_sound hop h hf)
    · rename_i hd
      split at hr <;> cases hr
      · exact .inl (eqp_sound (neq := false) hop _ _ hd (by simp) h hf)
      · exact .inl (eqp_sound (neq := true) hop _ _ hd (by simp) h hf)
      · exact .inr ⟨rfl, .inl fun w Q hs => sbin_sound hop h hf hs⟩
    · rename_i hd
      split at hr <;> first
        | (cases hr; done)
        | (split at hr <;> first
            | (cases hr; done)
            | (rename_i hg; cases hr; first | exact .inr ⟨rfl, .inl fun w Q hs => eqn_sound (neq := false) hop (by simpa using hg) h hf hs⟩ | exact .inr ⟨rfl, .inl fun w Q hs => eqn_sound (neq := true) hop (by simpa using hg) h hf hs⟩))
    · rename_i hd
      split at hr <;> first
        | (cases hr; done)
        | (split at hr <;> first
            | (cases hr; done)
            | (rename_i hg; cases hr; first | exact .inr ⟨rfl, .inl fun w Q hs => eqn_sound (neq := false) hop (by simpa using hg) h hf hs⟩ | exact .inr ⟨rfl, .inl fun w Q hs => eqn_sound (neq := true) hop (by simpa using hg) h hf hs⟩))
    all_goals first
      | (rename_i hd
         split at hr <;> cases hr
         · exact .inl (eqp_sound (neq := false) hop _ _ hd (by simp) h hf)
         · exact .inl (eqp_sound (neq := true) hop _ _ hd (by simp) h hf))
      | (cases hr; done)
  case unOp op t x =>
    cases op <;> simp only [resOp] at hr <;> cases hr
    · exact .inl (neg_sound hop h hf)
    · exact .inl (bnot_sound hop h hf)
    · exact .inl (not_sound hop h hf)
  case convert s d x =>
    split at hr <;> cases hr
    · rename_i h1 h2
      exact .inl (conv_sound h2 h1 hop h hf)
    · exact .inr ⟨rfl, .inl fun w Q hs => cvt_sound hop h hf hs⟩
  case fieldAddr s x f =>
    split at hr <;> try (cases hr; done)
    rename_i fs h1
    split at hr <;> try (cases hr; done)
    rename_i fd h2
    split at hr <;> try (cases hr; done)
    rename_i h3
    cases hr
    exact .inl (fieldA_sound h1 h2 h3 hop h hf)
  case field s x f =>
    split at hr <;> try (cases hr; done)
    rename_i fs h1
    split at hr <;> try (cases hr; done)
    rename_i fd h2
    split at hr <;> try (cases hr; done)
    rename_i h3
    cases hr
    exact .inl (field_sound h1 h2 h3 hop h hf)
  case indexAddr t x i =>
    split at hr <;> try (cases hr; done)
    · rename_i h1
      simp only [Option.map_eq_some_iff] at hr
      obtain ⟨k, h3, rfl⟩ := hr
      exact .inl (indexS_sound h1 h3 hop h hf)
    · rename_i h1
      simp only [Option.map_eq_some_iff] at hr
      obtain ⟨k, h3, rfl⟩ := hr
      exact .inl (indexA_sound h1 h3 hop h hf)
  case load t x =>
    split at hr <;> cases hr
    · rename_i h1; exact .inl (load_sound h1 hop h hf)
    · rename_i h1; exact .inl (loadN_sound h1 hop h hf)
  case store t x y =>
    simp only [Option.map_eq_some_iff] at hr
    obtain ⟨k, h3, rfl⟩ := hr
    exact .inr ⟨rfl, .inl fun w Q hs => store_sound h3 hop h hf hs⟩
  case alloc t =>
    simp only [Option.map_eq_some_iff] at hr
    obtain ⟨k, h3, rfl⟩ := hr
    exact .inr ⟨rfl, .inl fun w Q hs => alloc_sound h3 hop h hs⟩
  case box => cases hr; exact .inr ⟨rfl, .inl fun w Q hs => box_sound hop h hf hs⟩
  case nilCheck => cases hr; exact .inl (nilCheck_sound hop h hf)
  case extract => cases hr; exact .inl (extract_sound hop h hf)
  case slice t x lo hi mx =>
    split at hr <;> try (cases hr; done)
    · rename_i h1
      split at hr <;> try (cases hr; done)
      rename_i hm
      simp only [Option.map_eq_some_iff] at hr
      obtain ⟨k, h3, rfl⟩ := hr
      exact .inl (slice_sound h1 h3 (by cases mx <;> cases hi <;> simp_all) hop h hf)
    · rename_i h1
      split at hr <;> cases hr
      rename_i hm
      obtain rfl : mx = none := by simpa using hm
      exact .inl (sliceT_sound h1 hop h hf)
    · rename_i h1
      split at hr <;> try (cases hr; done)
      simp only [Option.map_eq_some_iff] at hr
      obtain ⟨k, h3, rfl⟩ := hr
      exact .inl (sliceA_sound h1 h3 hop h hf)
  case build t ps =>
    split at hr <;> try (cases hr; done)
    · rename_i fs z h1 h2
      split at hr <;> try (cases hr; done)
      rename_i places h4
      simp only [Option.map_eq_some_iff] at hr
      obtain ⟨l, h3, rfl⟩ := hr
      refine .inl (build_sound h2 _ (fun parts cs w hc => ?_) h3 hop h hf)
      obtain ⟨zv, hzv, hzc⟩ := run_zero h2 w
      have hza : zv.cells = z.toArray := by rw [← hzc]
      have hc' : Instr.fill (fun i => places[i]?) z.toArray parts = some cs := by simpa using hc
      simp [Instr.build, hzv, run_und h1, Array.mapM_eq_mapM_toList, run_places w _ _ h4, hza, hc']
    · rename_i el z h1 h2
      split at hr <;> try (cases hr; done)
      rename_i k h4
      simp only [Option.map_eq_some_iff] at hr
      obtain ⟨l, h3, rfl⟩ := hr
      refine .inl (build_sound h2 _ (fun parts cs w hc => ?_) h3 hop h hf)
      obtain ⟨zv, hzv, hzc⟩ := run_zero h2 w
      have hza : zv.cells = z.toArray := by rw [← hzc]
      simp [Instr.build, hzv, run_und h1, run_size h4, hza, hc]
  case buildSlice t len ps =>
    split at hr <;> try (cases hr; done)
    rename_i h1
    split at hr <;> try (cases hr; done)
    rename_i k z h2 h3
    split at hr <;> try (cases hr; done)
    rename_i hc
    simp only [Option.map_eq_some_iff] at hr
    obtain ⟨l, h4, rfl⟩ := hr
    exact .inr ⟨rfl, .inl fun w Q hs => buildS_sound h1 h2 h3 hc.1 hc.2 h4 hop h hf hs⟩
  case makeInterface t x =>
    split at hr <;> cases hr
    rename_i d hne h1
    exact .inl (makeI_sound h1 (fun m hm => hne m hm) hop h hf)
  case makeFunc fn first cs =>
    cases fn <;> try (cases hr; done)
    simp only [resOp] at hr
    split at hr <;> cases hr
    rename_i hfi
    exact .inl (makeF_sound hfi hop h hf)
  case makeMap t r =>
    cases r <;> cases hr
    exact .inr ⟨rfl, .inl fun w Q hs => makeM_sound hop h hs⟩
  case makeSlice => cases hr; exact .inr ⟨rfl, .inl fun w Q hs => mkS_sound hop h hf hs⟩
  case lookup => cases hr; exact .inr ⟨rfl, .inl fun w Q hs => look_sound hop h hf hs⟩
  case mapUpdate => cases hr; exact .inr ⟨rfl, .inl fun w Q hs => upd_sound hop h hf hs⟩
  case index => cases hr; exact .inr ⟨rfl, .inl fun w Q hs => idx_sound hop h hf hs⟩
  case typeAssert => cases hr; exact .inr ⟨rfl, .inl fun w Q hs => tass_sound hop h hf hs⟩
  case sliceToArrayPointer => cases hr; exact .inr ⟨rfl, .inl fun w Q hs => arrp_sound hop h hf hs⟩
  case call c =>
    obtain ⟨callee, args, ats⟩ := c
    cases callee
    case value x =>
      cases x <;> try (cases hr; done)
      · cases hr; exact .inr ⟨rfl, .inr fun w Q rr mm hs => callv_sound hop h hf hs⟩
      · simp only [resOp] at hr
        split at hr
        · cases hr
          rename_i hc
          exact .inr ⟨rfl, .inl fun w Q hs => call_sound hc hop h hf hs⟩
        · split at hr <;> cases hr
          rename_i hc
          exact .inr ⟨rfl, .inl fun w Q hs => ext_sound hc hop h hf hs⟩
    case builtin b =>
      simp only [resOp] at hr
      split at hr
      · rename_i x t h1 h2
        split at hr <;> cases hr
        · rename_i h3; exact .inl (len_sound h1 h2 h3 hop h hf)
        · rename_i h3; exact .inl (lenT_sound h1 h2 h3 hop h hf)
        · exact .inr ⟨rfl, .inl fun w Q hs => blt_sound hop (by simp) h hf hs⟩
      all_goals first
        | (cases hr; done)
        | (cases hr; exact .inr ⟨rfl, .inl fun w Q hs => blt_sound hop (by simp) h hf hs⟩)
    case invoke x name => cases hr; exact .inr ⟨rfl, .inl fun w Q hs => inv_sound hop h hf hs⟩
  all_goals (cases hr; done)
theorem op_sound {r : RO} {rr : Option Nat} {mm : Nat} (hr : resOp P o.type o.op = some r) (h : ex1 P F r e L fin) (hf : Fits n e a.tmps) (hs : Sat w (L ++ F)) : o.wpIn (fc rr) mm P a w (After F w fin a o.dst) Q :=
  (op_cases hr h hf).elim (fun h1 => wpIn_of_wp (resOp_nd hr) (h1.wp hs)) fun h1 => h1.2.elim (fun h2 => wpIn_of_wp (resOp_nd hr) (h2 w Q hs)) fun h2 => h2 w Q rr mm hs
theorem op_yld {r : RO} (he : r.eager = true) (hr : resOp P o.type o.op = some r) (h : ex1 P F r e L fin) (hf : Fits n e a.tmps) : Yld P F L a o fin :=
  (op_cases hr h hf).elim id fun h1 => by rw [he] at h1; cases h1.1
end
end Go.Sl
