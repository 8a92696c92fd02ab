import Derived.Test.YtnbcbdlbejdkpaaDoorTm
namespace Go.Proofs.YtnbcbdlbejdkpaaDoor
open Go Go.Sl
structure StepK where
  what : Int
  num : Int
  t : TicketD
structure StepK.wf (x : StepK) : Prop where
  w1 : -9223372036854775808 ≤ x.what
  w2 : x.what ≤ 9223372036854775807
  n1 : -9223372036854775808 ≤ x.num
  n2 : x.num ≤ 9223372036854775807
  e1 : -9223372036854775808 ≤ x.t.ent
  e2 : x.t.ent ≤ 9223372036854775807
  k1 : -9223372036854775808 ≤ x.t.tok
  k2 : x.t.tok ≤ 9223372036854775807
  t : x.t.wf
  snd : adr x.t.snd
  to : adr x.t.to
  amt : wOk x.t.amt
def StepK.cells (x : StepK) : List Value := .int .i64 x.what :: .int .i64 x.num :: x.t.cells
theorem StepK.cells_len {x : StepK} (h : x.wf) : x.cells.length = 49 := by
  show (x.t.cells).length + 1 + 1 = 49
  rw [TicketD.cells_len h.t]
theorem StepK.cells_one (x : StepK) : ∀ u ∈ x.cells, u.oneCell' = true := by
  intro u hu
  simp only [StepK.cells, List.mem_cons] at hu
  rcases hu with rfl | rfl | h
  · rfl
  · rfl
  · exact TicketD.cells_one _ u h
theorem StepK.t_at (x : StepK) : (x.cells.drop 2).take x.t.cells.length = x.t.cells := by simp [StepK.cells]
theorem fit_good {W : List (List Nat)} {x : StepK} (h : x.wf) (hm : x.t.to ∈ W) : GoodT W (fitD x.t) := by
  have ha : wOk (if x.t.amt = z4 then [0, 0, 5, 0] else x.t.amt) := by
    split
    · exact ⟨rfl, by decide⟩
    · exact h.amt
  have h1 : pickN x.t.ent 1099511627776 < 1099511627776 := pickN_lt _ (by decide)
  have h2 : pickN x.t.tok 3 < 3 := pickN_lt _ (by decide)
  refine ⟨⟨h.t.snd, h.t.to, ha.len⟩, h.snd, h.to, hm, ha, ⟨⟨?_, ?_⟩, ⟨?_, ?_⟩, ?_⟩, ?_⟩
  · show (0 : Int) ≤ (pickN x.t.ent 1099511627776 : Nat); omega
  · show ((pickN x.t.ent 1099511627776 : Nat) : Int) < 1099511627776; omega
  · show (0 : Int) ≤ (pickN x.t.tok 3 : Nat); omega
  · show ((pickN x.t.tok 3 : Nat) : Int) < 64; omega
  · show (if x.t.amt = z4 then [0, 0, 5, 0] else x.t.amt) ≠ List.replicate 4 0
    split
    · decide
    · rename_i hz; exact hz
  · show ((pickN x.t.tok 3 : Nat) : Int) < 3; omega
section
variable {find : ByteArray → List Nat × Int}
theorem does_at (F : List HP) (h s : Nat) (src : Value) (V : View) (n : Nat) (op : List TicketD) (cl : List Bool) (all : Nat → Nat) (opv clv : Value) {W : List (List Nat)} {m : Md} (hnd : W.Nodup) (hI : KeepI W V m op cl all) (hs : SrcG Tryd.prog F src find) (ho : SrcOk find)
    (hov : SlV opv op.length) (hcv : SlV clv cl.length) (hn : n + 2 ≤ 549755813888) (hop : op.length ≤ 1073741824) (x : StepK) (hx : x.wf) (hm : x.t.to ∈ W) :
    SpecF Tryd.prog 34 [.pointer (some ⟨h, 0, none⟩), .agg ⟨x.cells⟩] F (HL 127 79 h s src find V n op cl all opv clv) (fun r L => r = .bool true ∧ HR 127 79 h s src find W n op.length L) := by
  have hlen := hI.len
  have hall47 : ∀ d ∈ op, d.cells.length = 47 := fun d hd => by
    obtain ⟨i, hi⟩ := List.getElem?_of_mem hd
    exact TicketD.cells_len (hI.good i d hi).1.wf
  have l47 : (op.flatMap TicketD.cells).length = op.length * 47 := flat_len hall47
  have t47 := TicketD.cells_len hx.t
  obtain ⟨d, hd⟩ : ∃ d, d = fitD x.t := ⟨_, rfl⟩
  have hg : GoodT W d := by rw [hd]; exact fit_good hx hm
  have d47 := TicketD.cells_len hg.wf
  have hnum0 : d.num = 0 := by rw [hd]; rfl
  obtain ⟨k, hkd⟩ : ∃ k : Nat, d.tok = k := ⟨d.tok.toNat, by have := hg.may.2.1.1; omega⟩
  have hk3 : k < 3 := by have := hg.tok; omega
  unfold HL
  refine fun34.spec rfl ?_
  conv=>whnf
  intro b3
  conv=>whnf
  refine LoadNG.at (vs := x.t.cells) t47 (.here (StepK.t_at x)) ?_
  conv=>whnf
  refine CallG.pure (fit9_spec _ x.t hx.t hx.e1 hx.e2 hx.k1 hx.k2) ?_
  rintro _ _ ⟨rfl, rfl⟩
  rw [← hd]
  conv=>whnf
  intro b5
  conv=>whnf
  refine StoreG.at d47 (Upd.whole (by rw [d47]; rfl) (TicketD.cells_one _)) ?_
  conv=>whnf
  refine LoadG.at (v := .int .i64 x.num) (.tl (.here rfl)) ?_
  conv=>whnf
  refine CallG.pure (hnumber_spec _ h s opv clv all op (.tl (.tl (.tl .all))) (.tl (.tl (.tl (.tl (own_rd hov l47))))) (by omega) x.num hx.n1 hx.n2) ?_
  rintro _ _ ⟨rfl, rfl⟩
  obtain ⟨j, hj⟩ : ∃ j, j = numB op.length x.num := ⟨_, rfl⟩
  have j12 : -9223372036854775808 ≤ j ∧ j ≤ 9223372036854775807 := by
    rw [hj]
    unfold numB
    have h1 := hx.n1
    have h2 := hx.n2
    split
    · exact ⟨h1, h2⟩
    · rename_i hne
      have := pickN_lt x.num (show 0 < op.length by omega)
      omega
  obtain ⟨j1, j2⟩ := j12
  rw [← hj]
  conv=>whnf
  refine LoadG.at (v := .int .i64 x.what) (.tl (.here rfl)) ?_
  conv=>whnf
  refine CallG.pure (pick9_spec _ x.what 11 hx.w1 hx.w2 (by decide)) ?_
  rintro _ _ ⟨rfl, rfl⟩
  have hq := pickN_lt x.what (show 0 < 11 by decide)
  generalize pickN x.what 11 = q at hq
  conv=>whnf
  rcases (show q = 0 ∨ q = 1 ∨ q = 2 ∨ q = 3 ∨ q = 4 ∨ q = 5 ∨ q = 6 ∨ q = 7 ∨ q = 8 ∨ q = 9 ∨ q = 10 by omega) with hqk | hqk | hqk | hqk | hqk | hqk | hqk | hqk | hqk | hqk | hqk
  · have c0 : (q : Int) = 0 := by omega
    repeat ((first | (with_reducible first | refine CondG.tt ?_ | refine CondG.ff ?_ | refine CondG.ntt ?_ | refine CondG.nff ?_) | refine CondG.decT (by assumption) ?_ | refine CondG.decF (by assumption) ?_); conv=>whnf)
    refine LoadNG.at (vs := d.cells) d47 .all ?_
    conv=>whnf
    refine CallG.of (pre := HL 127 79 h s src find V n op cl all opv clv) (rest := [cel b5 82 d.cells, cel b3 84 x.cells]) (hopens_at _ h s src V n op cl all opv clv hI (hs.left [_, _]) ho hov hcv (by omega) hop d hg hnum0) (Ent.sel (T := []) (A := [_, _, _, _, _, _]) [2, 3, 4, 5, 0, 1] rfl) ?_
    rintro _ _ ⟨rfl, U, op', cl', all', opv', clv', hI', hov', hcv', hl', rfl⟩
    conv=>whnf
    exact ⟨_, Ent.sel (T := []) (A := [_, _, _, _, _, _]) [0, 1, 2, 3] rfl, rfl, U, m, n + 2, op', cl', all', opv', clv', hI', hov', hcv', hl', by omega, rfl⟩
  · have c0 : ¬ (q : Int) = 0 := by omega
    have c1 : (q : Int) = 1 := by omega
    repeat ((first | (with_reducible first | refine CondG.tt ?_ | refine CondG.ff ?_ | refine CondG.ntt ?_ | refine CondG.nff ?_) | refine CondG.decT (by assumption) ?_ | refine CondG.decF (by assumption) ?_); conv=>whnf)
    refine LoadNG.at (vs := d.cells) d47 .all ?_
    conv=>whnf
    refine CallG.of (pre := HL 127 79 h s src find V n op cl all opv clv) (rest := [cel b5 82 d.cells, cel b3 84 x.cells]) (hopens_at _ h s src V n op cl all opv clv hI (hs.left [_, _]) ho hov hcv (by omega) hop d hg hnum0) (Ent.sel (T := []) (A := [_, _, _, _, _, _]) [2, 3, 4, 5, 0, 1] rfl) ?_
    rintro _ _ ⟨rfl, U, op', cl', all', opv', clv', hI', hov', hcv', hl', rfl⟩
    conv=>whnf
    exact ⟨_, Ent.sel (T := []) (A := [_, _, _, _, _, _]) [0, 1, 2, 3] rfl, rfl, U, m, n + 2, op', cl', all', opv', clv', hI', hov', hcv', hl', by omega, rfl⟩
  · have c0 : ¬ (q : Int) = 0 := by omega
    have c1 : ¬ (q : Int) = 1 := by omega
    have c2 : (q : Int) = 2 := by omega
    repeat ((first | (with_reducible first | refine CondG.tt ?_ | refine CondG.ff ?_ | refine CondG.ntt ?_ | refine CondG.nff ?_) | refine CondG.decT (by assumption) ?_ | refine CondG.decF (by assumption) ?_); conv=>whnf)
    refine LoadNG.at (vs := d.cells) d47 .all ?_
    conv=>whnf
    refine CallG.of (pre := HL 127 79 h s src find V n op cl all opv clv) (rest := [cel b5 82 d.cells, cel b3 84 x.cells]) (hopens_at _ h s src V n op cl all opv clv hI (hs.left [_, _]) ho hov hcv (by omega) hop d hg hnum0) (Ent.sel (T := []) (A := [_, _, _, _, _, _]) [2, 3, 4, 5, 0, 1] rfl) ?_
    rintro _ _ ⟨rfl, U, op', cl', all', opv', clv', hI', hov', hcv', hl', rfl⟩
    conv=>whnf
    exact ⟨_, Ent.sel (T := []) (A := [_, _, _, _, _, _]) [0, 1, 2, 3] rfl, rfl, U, m, n + 2, op', cl', all', opv', clv', hI', hov', hcv', hl', by omega, rfl⟩
  · have c0 : ¬ (q : Int) = 0 := by omega
    have c1 : ¬ (q : Int) = 1 := by omega
    have c2 : ¬ (q : Int) = 2 := by omega
    have c3 : (q : Int) = 3 := by omega
    repeat ((first | (with_reducible first | refine CondG.tt ?_ | refine CondG.ff ?_ | refine CondG.ntt ?_ | refine CondG.nff ?_) | refine CondG.decT (by assumption) ?_ | refine CondG.decF (by assumption) ?_); conv=>whnf)
    refine CallG.of (pre := HL 127 79 h s src find V n op cl all opv clv) (rest := [cel b5 82 d.cells, cel b3 84 x.cells]) (hretries_at _ h s src V n op cl all opv clv hnd hI (hs.left [_, _]) ho hov hcv (by omega) hop j j1 j2) (Ent.sel (T := []) (A := [_, _, _, _, _, _]) [2, 3, 4, 5, 0, 1] rfl) ?_
    rintro _ _ ⟨rfl, U, m', n', op', cl', all', opv', clv', hI', hov', hcv', hl', hn', rfl⟩
    conv=>whnf
    exact ⟨_, Ent.sel (T := []) (A := [_, _, _, _, _, _]) [0, 1, 2, 3] rfl, rfl, U, m', n', op', cl', all', opv', clv', hI', hov', hcv', hl', hn', rfl⟩
  · have c0 : ¬ (q : Int) = 0 := by omega
    have c1 : ¬ (q : Int) = 1 := by omega
    have c2 : ¬ (q : Int) = 2 := by omega
    have c3 : ¬ (q : Int) = 3 := by omega
    have c4 : (q : Int) = 4 := by omega
    repeat ((first | (with_reducible first | refine CondG.tt ?_ | refine CondG.ff ?_ | refine CondG.ntt ?_ | refine CondG.nff ?_) | refine CondG.decT (by assumption) ?_ | refine CondG.decF (by assumption) ?_); conv=>whnf)
    refine CallG.of (pre := HL 127 79 h s src find V n op cl all opv clv) (rest := [cel b5 82 d.cells, cel b3 84 x.cells]) (hretries_at _ h s src V n op cl all opv clv hnd hI (hs.left [_, _]) ho hov hcv (by omega) hop j j1 j2) (Ent.sel (T := []) (A := [_, _, _, _, _, _]) [2, 3, 4, 5, 0, 1] rfl) ?_
    rintro _ _ ⟨rfl, U, m', n', op', cl', all', opv', clv', hI', hov', hcv', hl', hn', rfl⟩
    conv=>whnf
    exact ⟨_, Ent.sel (T := []) (A := [_, _, _, _, _, _]) [0, 1, 2, 3] rfl, rfl, U, m', n', op', cl', all', opv', clv', hI', hov', hcv', hl', hn', rfl⟩
  · have c0 : ¬ (q : Int) = 0 := by omega
    have c1 : ¬ (q : Int) = 1 := by omega
    have c2 : ¬ (q : Int) = 2 := by omega
    have c3 : ¬ (q : Int) = 3 := by omega
    have c4 : ¬ (q : Int) = 4 := by omega
    have c5 : (q : Int) = 5 := by omega
    repeat ((first | (with_reducible first | refine CondG.tt ?_ | refine CondG.ff ?_ | refine CondG.ntt ?_ | refine CondG.nff ?_) | refine CondG.decT (by assumption) ?_ | refine CondG.decF (by assumption) ?_); conv=>whnf)
    have s20 : (bvs d.snd).length = 20 := by rw [bvs_len, hg.wf.snd]
    refine LoadNG.at (vs := bvs d.snd) s20 (.here (TicketD.snd_at d)) ?_
    conv=>whnf
    intro b7
    conv=>whnf
    refine StoreG.at s20 (Upd.whole (by rw [s20]; rfl) (bvs_one _)) ?_
    conv=>whnf
    refine CallG.pure (hopen_spec _ h s opv clv all op cl hlen (.tl (.tl (.tl (.tl .all)))) (.tl (.tl (.tl (.tl (.tl (own_rd hov l47)))))) (.tl (.tl (.tl (.tl (.tl (.tl (own_rd hcv (by rw [bls_len, Nat.mul_one])))))))) (by omega) j j1 j2) ?_
    rintro _ _ ⟨rfl, rfl⟩
    rcases keep_find hI (by omega) j with ⟨hop1, _⟩ | ⟨hop1, i, e, hji, he, hc, _⟩
    · rw [hop1]
      (conv=>whnf); repeat ((with_reducible first | refine .tt ?_ | refine .ff ?_ | refine .ntt ?_ | refine .nff ?_); conv=>whnf)
      obtain ⟨a, haa⟩ : ∃ a, a = d.snd := ⟨_, rfl⟩
      have ha : a.length = 20 := by rw [haa]; exact hg.wf.snd
      have a20 : (bvs a).length = 20 := by rw [bvs_len, ha]
      rw [← haa]
      refine LoadNG.at (vs := bvs a) a20 .all ?_
      conv=>whnf
      refine CallG.of (pre := HL 127 79 h s src find V n op cl all opv clv) (rest := [cel b7 33 (bvs a), cel b5 82 d.cells, cel b3 84 x.cells]) (hcancels_at _ h s src V n op cl all opv clv hI (hs.left [_, _, _]) ho hov hcv (by omega) hop j j1 j2 a ha) (Ent.sel (T := []) (A := [_, _, _, _, _, _, _]) [3, 4, 5, 6, 0, 1, 2] rfl) ?_
      rintro _ _ ⟨rfl, U, m', n', op', cl', all', opv', clv', hI', hov', hcv', hl', hn', rfl⟩
      conv=>whnf
      exact ⟨_, Ent.sel (T := []) (A := [_, _, _, _, _, _, _]) [0, 1, 2, 3] rfl, rfl, U, m', n', op', cl', all', opv', clv', hI', hov', hcv', hl', hn', rfl⟩
    · rw [hop1]
      (conv=>whnf); repeat ((with_reducible first | refine .tt ?_ | refine .ff ?_ | refine .ntt ?_ | refine .nff ?_); conv=>whnf)
      refine LoadG.at (v := .int .i64 x.num) (.tl (.tl (.here rfl))) ?_
      (conv=>whnf); repeat ((with_reducible first | refine .tt ?_ | refine .ff ?_ | refine .ntt ?_ | refine .nff ?_); conv=>whnf)
      refine CallG.pure (pick9_spec _ x.num 2 hx.n1 hx.n2 (by decide)) ?_
      rintro _ _ ⟨rfl, rfl⟩
      (conv=>whnf); repeat ((with_reducible first | refine .tt ?_ | refine .ff ?_ | refine .ntt ?_ | refine .nff ?_); conv=>whnf)
      refine CondG.dec (fun h2 => ?_) (fun h2 => ?_)
      · have hio : i < op.length := (List.getElem?_eq_some_iff.1 he).1
        have hei : op[i] = e := (List.getElem?_eq_some_iff.1 he).2
        have e47 : e.cells.length = 47 := by rw [← hei]; exact hall47 _ (List.getElem_mem hio)
        have ewf := (hI.good i e he).1.wf
        have ha : e.snd.length = 20 := ewf.snd
        have a20 : (bvs e.snd).length = 20 := by rw [bvs_len, ha]
        conv=>whnf
        refine LoadG.at (.tl (.tl (.tl (.tl (.here rfl))))) ?_
        conv=>whnf
        refine ArithG.i64' (i : Int) (by omega) (by omega) ?_
        conv=>whnf
        refine IdxG.rd (L := own 47 opv op.length (op.flatMap TicketD.cells) :: [own 1 clv cl.length (bls cl)]) (own_rd hov l47) (by omega) fun cb o hcc => ?_
        have hce : CelN (own 47 opv op.length (op.flatMap TicketD.cells) :: [own 1 clv cl.length (bls cl)]) cb (o + ((i : Nat) : Int).toNat * 47) e.cells := hcc.part (by rw [e47, Int.toNat_natCast, ← hei]; exact flat_get hall47 hio)
        clear hcc
        conv=>whnf
        refine LoadNG.at (vs := bvs e.snd) a20 (.tl (.tl (.tl (.tl (.tl (hce.part (i := 2) (TicketD.snd_at e))))))) ?_
        clear hce
        conv=>whnf
        refine StoreG.at a20 (Upd.whole (by rw [a20, s20]) (bvs_one _)) ?_
        conv=>whnf
        obtain ⟨a, haa⟩ : ∃ a, a = e.snd := ⟨_, rfl⟩
        rw [← haa] at ha a20
        rw [← haa]
        refine LoadNG.at (vs := bvs a) a20 .all ?_
        conv=>whnf
        refine CallG.of (pre := HL 127 79 h s src find V n op cl all opv clv) (rest := [cel b7 33 (bvs a), cel b5 82 d.cells, cel b3 84 x.cells]) (hcancels_at _ h s src V n op cl all opv clv hI (hs.left [_, _, _]) ho hov hcv (by omega) hop j j1 j2 a ha) (Ent.sel (T := []) (A := [_, _, _, _, _, _, _]) [3, 4, 5, 6, 0, 1, 2] rfl) ?_
        rintro _ _ ⟨rfl, U, m', n', op', cl', all', opv', clv', hI', hov', hcv', hl', hn', rfl⟩
        conv=>whnf
        exact ⟨_, Ent.sel (T := []) (A := [_, _, _, _, _, _, _]) [0, 1, 2, 3] rfl, rfl, U, m', n', op', cl', all', opv', clv', hI', hov', hcv', hl', hn', rfl⟩
      · conv=>whnf
        obtain ⟨a, haa⟩ : ∃ a, a = d.snd := ⟨_, rfl⟩
        have ha : a.length = 20 := by rw [haa]; exact hg.wf.snd
        have a20 : (bvs a).length = 20 := by rw [bvs_len, ha]
        rw [← haa]
        refine LoadNG.at (vs := bvs a) a20 .all ?_
        conv=>whnf
        refine CallG.of (pre := HL 127 79 h s src find V n op cl all opv clv) (rest := [cel b7 33 (bvs a), cel b5 82 d.cells, cel b3 84 x.cells]) (hcancels_at _ h s src V n op cl all opv clv hI (hs.left [_, _, _]) ho hov hcv (by omega) hop j j1 j2 a ha) (Ent.sel (T := []) (A := [_, _, _, _, _, _, _]) [3, 4, 5, 6, 0, 1, 2] rfl) ?_
        rintro _ _ ⟨rfl, U, m', n', op', cl', all', opv', clv', hI', hov', hcv', hl', hn', rfl⟩
        conv=>whnf
        exact ⟨_, Ent.sel (T := []) (A := [_, _, _, _, _, _, _]) [0, 1, 2, 3] rfl, rfl, U, m', n', op', cl', all', opv', clv', hI', hov', hcv', hl', hn', rfl⟩
  · have c0 : ¬ (q : Int) = 0 := by omega
    have c1 : ¬ (q : Int) = 1 := by omega
    have c2 : ¬ (q : Int) = 2 := by omega
    have c3 : ¬ (q : Int) = 3 := by omega
    have c4 : ¬ (q : Int) = 4 := by omega
    have c5 : ¬ (q : Int) = 5 := by omega
    have c6 : (q : Int) = 6 := by omega
    repeat ((first | (with_reducible first | refine CondG.tt ?_ | refine CondG.ff ?_ | refine CondG.ntt ?_ | refine CondG.nff ?_) | refine CondG.decT (by assumption) ?_ | refine CondG.decF (by assumption) ?_); conv=>whnf)
    refine DrawG.mk 7 [cel b5 82 d.cells, cel b3 84 x.cells, cel h 79 (hcells s opv clv all), own 47 opv op.length (op.flatMap TicketD.cells), own 1 clv cl.length (bls cl)] [stP 127 s src find V n] (Ent.front 2 rfl) ?_
    conv=>whnf
    refine .take 0 ?_
    conv=>whnf
    refine ⟨rfl, ?_⟩
    conv=>whnf
    refine .take 1 ?_
    conv=>whnf
    refine ⟨rfl, ?_⟩
    conv=>whnf
    refine .take 2 ?_
    conv=>whnf
    refine ⟨rfl, ?_⟩
    conv=>whnf
    refine .take 3 ?_
    conv=>whnf
    refine ⟨rfl, ?_⟩
    conv=>whnf
    refine LoadG.at (.tl (.tl (.here rfl))) ?_
    conv=>whnf
    refine .take 4 ?_
    conv=>whnf
    refine ⟨rfl, ?_⟩
    conv=>whnf
    refine .take 5 ?_
    conv=>whnf
    refine ⟨rfl, ?_⟩
    conv=>whnf
    refine LoadG.at (v := .int .i64 (k : Int)) (.here (by rw [← hkd]; exact TicketD.tok_at hg.wf)) ?_
    conv=>whnf
    refine .all ?_
    conv=>whnf
    refine ⟨by decide, ?_⟩
    conv=>whnf
    refine CallG.of (pre := [stP 127 s src find V n]) (rest := []) (register_at _ s src V n (k : Int) (hs.left [_, _, _, _, _]) ho (by omega)) (Ent.refl _) ?_
    rintro _ _ ⟨rfl, rfl⟩
    conv=>whnf
    refine ⟨rfl, ?_⟩
    conv=>whnf
    have hI' : KeepI W (registerL V (k : Int)).2 (registerM m (k : Int)).2 op cl all := hI.ledger (hI.led.registerM (k : Int)).2 (hI.inv.register (k : Int)).2 (fun _ hk => registerL_keep hk _) fun t ht => by
      have h1 := hI.sums t ht
      have h2 : (((registerM m (k : Int)).2.T t).sup) = (m.T t).sup := register_sup hI.inv _ _
      omega
    exact ⟨_, Ent.sel (T := []) (A := [_, _, _, _, _, _]) [0, 3, 4, 5] rfl, rfl, _, _, n + 2, op, cl, all, opv, clv, hI', hov, hcv, by omega, by omega, rfl⟩
  · have c0 : ¬ (q : Int) = 0 := by omega
    have c1 : ¬ (q : Int) = 1 := by omega
    have c2 : ¬ (q : Int) = 2 := by omega
    have c3 : ¬ (q : Int) = 3 := by omega
    have c4 : ¬ (q : Int) = 4 := by omega
    have c5 : ¬ (q : Int) = 5 := by omega
    have c6 : ¬ (q : Int) = 6 := by omega
    have c7 : (q : Int) = 7 := by omega
    repeat ((first | (with_reducible first | refine CondG.tt ?_ | refine CondG.ff ?_ | refine CondG.ntt ?_ | refine CondG.nff ?_) | refine CondG.decT (by assumption) ?_ | refine CondG.decF (by assumption) ?_); conv=>whnf)
    refine DrawG.mk 7 [cel b5 82 d.cells, cel b3 84 x.cells, cel h 79 (hcells s opv clv all), own 47 opv op.length (op.flatMap TicketD.cells), own 1 clv cl.length (bls cl)] [stP 127 s src find V n] (Ent.front 2 rfl) ?_
    conv=>whnf
    refine .take 0 ?_
    conv=>whnf
    refine ⟨rfl, ?_⟩
    conv=>whnf
    refine .take 1 ?_
    conv=>whnf
    refine ⟨rfl, ?_⟩
    conv=>whnf
    refine .take 2 ?_
    conv=>whnf
    refine ⟨rfl, ?_⟩
    conv=>whnf
    refine .take 3 ?_
    conv=>whnf
    refine ⟨rfl, ?_⟩
    conv=>whnf
    refine LoadG.at (.tl (.tl (.here rfl))) ?_
    conv=>whnf
    refine .take 4 ?_
    conv=>whnf
    refine ⟨rfl, ?_⟩
    conv=>whnf
    refine .take 5 ?_
    conv=>whnf
    refine ⟨rfl, ?_⟩
    conv=>whnf
    refine LoadG.at (v := .int .i64 (k : Int)) (.here (by rw [← hkd]; exact TicketD.tok_at hg.wf)) ?_
    conv=>whnf
    refine .all ?_
    conv=>whnf
    refine ⟨by decide, ?_⟩
    conv=>whnf
    refine CallG.of (pre := [stP 127 s src find V n]) (rest := []) (pause_at _ s src V n (k : Int) (hs.left [_, _, _, _, _]) ho (by omega)) (Ent.refl _) ?_
    rintro _ _ ⟨rfl, rfl⟩
    conv=>whnf
    refine ⟨rfl, ?_⟩
    conv=>whnf
    have hI' : KeepI W (pauseL V (k : Int)).2 (pauseM m (k : Int)).2 op cl all := hI.ledger (hI.led.pauseM (k : Int)).2 (hI.inv.pause (k : Int)).2 (fun _ hk => pauseL_keep hk _) fun t ht => by
      have h1 := hI.sums t ht
      have h2 : (((pauseM m (k : Int)).2.T t).sup) = (m.T t).sup := pause_sup _ _
      omega
    exact ⟨_, Ent.sel (T := []) (A := [_, _, _, _, _, _]) [0, 3, 4, 5] rfl, rfl, _, _, n + 2, op, cl, all, opv, clv, hI', hov, hcv, by omega, by omega, rfl⟩
  · have c0 : ¬ (q : Int) = 0 := by omega
    have c1 : ¬ (q : Int) = 1 := by omega
    have c2 : ¬ (q : Int) = 2 := by omega
    have c3 : ¬ (q : Int) = 3 := by omega
    have c4 : ¬ (q : Int) = 4 := by omega
    have c5 : ¬ (q : Int) = 5 := by omega
    have c6 : ¬ (q : Int) = 6 := by omega
    have c7 : ¬ (q : Int) = 7 := by omega
    have c8 : (q : Int) = 8 := by omega
    repeat ((first | (with_reducible first | refine CondG.tt ?_ | refine CondG.ff ?_ | refine CondG.ntt ?_ | refine CondG.nff ?_) | refine CondG.decT (by assumption) ?_ | refine CondG.decF (by assumption) ?_); conv=>whnf)
    refine DrawG.mk 7 [cel b5 82 d.cells, cel b3 84 x.cells, cel h 79 (hcells s opv clv all), own 47 opv op.length (op.flatMap TicketD.cells), own 1 clv cl.length (bls cl)] [stP 127 s src find V n] (Ent.front 2 rfl) ?_
    conv=>whnf
    refine .take 0 ?_
    conv=>whnf
    refine ⟨rfl, ?_⟩
    conv=>whnf
    refine .take 1 ?_
    conv=>whnf
    refine ⟨rfl, ?_⟩
    conv=>whnf
    refine .take 2 ?_
    conv=>whnf
    refine ⟨rfl, ?_⟩
    conv=>whnf
    refine .take 3 ?_
    conv=>whnf
    refine ⟨rfl, ?_⟩
    conv=>whnf
    refine LoadG.at (.tl (.tl (.here rfl))) ?_
    conv=>whnf
    refine .take 4 ?_
    conv=>whnf
    refine ⟨rfl, ?_⟩
    conv=>whnf
    refine .take 5 ?_
    conv=>whnf
    refine ⟨rfl, ?_⟩
    conv=>whnf
    refine LoadG.at (v := .int .i64 (k : Int)) (.here (by rw [← hkd]; exact TicketD.tok_at hg.wf)) ?_
    conv=>whnf
    refine .all ?_
    conv=>whnf
    refine ⟨by decide, ?_⟩
    conv=>whnf
    refine CallG.of (pre := [stP 127 s src find V n]) (rest := []) (resume_at _ s src V n (k : Int) (hs.left [_, _, _, _, _]) ho (by omega)) (Ent.refl _) ?_
    rintro _ _ ⟨rfl, rfl⟩
    conv=>whnf
    refine ⟨rfl, ?_⟩
    conv=>whnf
    have hI' : KeepI W (resumeL V (k : Int)).2 (resumeM m (k : Int)).2 op cl all := hI.ledger (hI.led.resumeM (k : Int)).2 (hI.inv.resume (k : Int)).2 (fun _ hk => resumeL_keep hk _) fun t ht => by
      have h1 := hI.sums t ht
      have h2 : (((resumeM m (k : Int)).2.T t).sup) = (m.T t).sup := resume_sup _ _
      omega
    exact ⟨_, Ent.sel (T := []) (A := [_, _, _, _, _, _]) [0, 3, 4, 5] rfl, rfl, _, _, n + 2, op, cl, all, opv, clv, hI', hov, hcv, by omega, by omega, rfl⟩
  · have c0 : ¬ (q : Int) = 0 := by omega
    have c1 : ¬ (q : Int) = 1 := by omega
    have c2 : ¬ (q : Int) = 2 := by omega
    have c3 : ¬ (q : Int) = 3 := by omega
    have c4 : ¬ (q : Int) = 4 := by omega
    have c5 : ¬ (q : Int) = 5 := by omega
    have c6 : ¬ (q : Int) = 6 := by omega
    have c7 : ¬ (q : Int) = 7 := by omega
    have c8 : ¬ (q : Int) = 8 := by omega
    have c9 : (q : Int) = 9 := by omega
    repeat ((first | (with_reducible first | refine CondG.tt ?_ | refine CondG.ff ?_ | refine CondG.ntt ?_ | refine CondG.nff ?_) | refine CondG.decT (by assumption) ?_ | refine CondG.decF (by assumption) ?_); conv=>whnf)
    refine LoadNG.at (vs := d.cells) d47 .all ?_
    conv=>whnf
    refine CallG.of (pre := HL 127 79 h s src find V n op cl all opv clv) (rest := [cel b5 82 d.cells, cel b3 84 x.cells]) (hmints_at _ h s src V n op cl all opv clv hnd hI (hs.left [_, _]) ho hov hcv (by omega) hop d hg) (Ent.sel (T := []) (A := [_, _, _, _, _, _]) [2, 3, 4, 5, 0, 1] rfl) ?_
    rintro _ _ ⟨U, m', n', op', cl', all', opv', clv', hI', hov', hcv', hl', hn', rfl⟩
    conv=>whnf
    exact ⟨_, Ent.sel (T := []) (A := [_, _, _, _, _, _]) [0, 1, 2, 3] rfl, rfl, U, m', n', op', cl', all', opv', clv', hI', hov', hcv', hl', hn', rfl⟩
  · have c0 : ¬ (q : Int) = 0 := by omega
    have c1 : ¬ (q : Int) = 1 := by omega
    have c2 : ¬ (q : Int) = 2 := by omega
    have c3 : ¬ (q : Int) = 3 := by omega
    have c4 : ¬ (q : Int) = 4 := by omega
    have c5 : ¬ (q : Int) = 5 := by omega
    have c6 : ¬ (q : Int) = 6 := by omega
    have c7 : ¬ (q : Int) = 7 := by omega
    have c8 : ¬ (q : Int) = 8 := by omega
    have c9 : ¬ (q : Int) = 9 := by omega
    have c10 : (q : Int) = 10 := by omega
    repeat ((first | (with_reducible first | refine CondG.tt ?_ | refine CondG.ff ?_ | refine CondG.ntt ?_ | refine CondG.nff ?_) | refine CondG.decT (by assumption) ?_ | refine CondG.decF (by assumption) ?_); conv=>whnf)
    refine LoadNG.at (vs := d.cells) d47 .all ?_
    conv=>whnf
    refine CallG.of (pre := HL 127 79 h s src find V n op cl all opv clv) (rest := [cel b5 82 d.cells, cel b3 84 x.cells]) (hburns_at _ h s src V n op cl all opv clv hnd hI (hs.left [_, _]) ho hov hcv (by omega) hop d hg) (Ent.sel (T := []) (A := [_, _, _, _, _, _]) [2, 3, 4, 5, 0, 1] rfl) ?_
    rintro _ _ ⟨U, m', n', op', cl', all', opv', clv', hI', hov', hcv', hl', hn', rfl⟩
    conv=>whnf
    exact ⟨_, Ent.sel (T := []) (A := [_, _, _, _, _, _]) [0, 1, 2, 3] rfl, rfl, U, m', n', op', cl', all', opv', clv', hI', hov', hcv', hl', hn', rfl⟩
end
end Go.Proofs.YtnbcbdlbejdkpaaDoor
namespace Go.Proofs.YtnbcbdlbejdkpaaDoor
open Go Go.Sl
def acells (f : Nat → Nat) : List Value := uvs (w5 (f 0)) ++ (uvs (w5 (f 1)) ++ uvs (w5 (f 2)))
theorem ac_len (f : Nat → Nat) : (acells f).length = 15 := rfl
theorem ac_at (f : Nat → Nat) {k : Nat} (hk : k < 3) : ((acells f).drop (k * 5)).take (uvs (w5 (f k))).length = uvs (w5 (f k)) := by
  rcases (show k = 0 ∨ k = 1 ∨ k = 2 by omega) with rfl | rfl | rfl <;> rfl
theorem ac_set (f g : Nat → Nat) {k v : Nat} (hk : k < 3) (h1 : g k = v) (h2 : ∀ t, t ≠ k → g t = f t) :
    (acells f).take (k * 5) ++ uvs (w5 v) ++ (acells f).drop (k * 5 + (uvs (w5 v)).length) = acells g := by
  rcases (show k = 0 ∨ k = 1 ∨ k = 2 by omega) with rfl | rfl | rfl
  · rw [acells, acells, h2 1 (by decide), h2 2 (by decide), h1]; rfl
  · rw [acells, acells, h2 0 (by decide), h2 2 (by decide), h1]; rfl
  · rw [acells, acells, h2 0 (by decide), h2 1 (by decide), h1]; rfl
theorem ac_eq {f g : Nat → Nat} (h : ∀ t, t < 3 → f t = g t) : acells f = acells g := by
  rw [acells, acells, h 0 (by decide), h 1 (by decide), h 2 (by decide)]
theorem ac_wt (f : Nat → Nat) : wt (List.replicate 15 (.int .u64)) (acells f) := wt_join (ks := List.replicate 5 (.int .u64)) (wt_uvs rfl) (wt_join (ks := List.replicate 5 (.int .u64)) (wt_uvs rfl) (wt_uvs (n := 5) rfl))
def openTo (op : List TicketD) (cl : List Bool) (i t : Nat) : Nat := openAmt t (op.take i) (cl.take i)
theorem openTo_le {op : List TicketD} {cl : List Bool} (h : ∀ d ∈ op, wOk d.amt) (hl : op.length ≤ 1073741824) (i t : Nat) : openTo op cl i t ≤ 1073741824 * m256 := by
  have h1 := openAmt_le t (op.take i) (cl.take i) fun d hd => h d (List.mem_of_mem_take hd)
  have h2 : (op.take i).length * m256 ≤ 1073741824 * m256 := Nat.mul_le_mul_right _ (by rw [List.length_take]; omega)
  exact Nat.le_trans h1 h2
theorem openTo_snoc {op : List TicketD} {cl : List Bool} (hlen : cl.length = op.length) {i : Nat} {d : TicketD} {c : Bool} (hd : op[i]? = some d) (hc : cl[i]? = some c) (t : Nat) : openTo op cl (i + 1) t = openTo op cl i t + if c = false ∧ d.tok = (t : Int) then nat4 d.amt else 0 := by
  obtain ⟨h1, rfl⟩ := List.getElem?_eq_some_iff.1 hd
  obtain ⟨h2, rfl⟩ := List.getElem?_eq_some_iff.1 hc
  unfold openTo
  rw [List.take_succ_eq_append_getElem h1, List.take_succ_eq_append_getElem h2]
  exact openAmt_snoc t _ _ (by rw [List.length_take, List.length_take, hlen])
theorem openTo_skip {op : List TicketD} {cl : List Bool} (hlen : cl.length = op.length) {i : Nat} (h : isOpen op cl ((i + 1 : Nat) : Int) = false) (t : Nat) : openTo op cl (i + 1) t = openTo op cl i t := by
  rcases Nat.lt_or_ge i op.length with hi | hi
  · have hi2 : i < cl.length := by omega
    have hc : cl[i]? = some true := by
      unfold isOpen at h
      rw [decide_eq_true (by omega), show (((i + 1 : Nat) : Int) - 1).toNat = i by omega] at h
      simp [List.getD, hi2] at h
      rw [List.getElem?_eq_getElem hi2, h]
    rw [openTo_snoc hlen (List.getElem?_eq_getElem hi) hc t, if_neg (fun h => by cases h.1), Nat.add_zero]
  · unfold openTo
    rw [List.take_of_length_le (by omega), List.take_of_length_le (by omega), List.take_of_length_le hi, List.take_of_length_le (by omega)]
theorem openTo_all {op : List TicketD} {cl : List Bool} (hlen : cl.length = op.length) {i : Nat} (h : op.length ≤ i) (t : Nat) : openTo op cl i t = openAmt t op cl := by
  unfold openTo
  rw [List.take_of_length_le h, List.take_of_length_le (by omega)]
section
variable {find : ByteArray → List Nat × Int}
theorem stands_at (F : List HP) (h s : Nat) (src : Value) (V : View) (n : Nat) (op : List TicketD) (cl : List Bool) (all : Nat → Nat) (opv clv : Value) {W : List (List Nat)} {m : Md} (hI : KeepI W V m op cl all) (hs : SrcG Tryd.prog F src find) (ho : SrcOk find)
    (hov : SlV opv op.length) (hcv : SlV clv cl.length) (hop : op.length ≤ 1073741824) :
    SpecF Tryd.prog 35 [.pointer (some ⟨h, 0, none⟩)] F (HL 127 79 h s src find V n op cl all opv clv) (fun r L => r = .bool true ∧ L = HL 127 79 h s src find V n op cl all opv clv) := by
  have hlen := hI.len
  have hamt : ∀ d ∈ op, wOk d.amt := fun d hd => by
    obtain ⟨i, hi⟩ := List.getElem?_of_mem hd
    exact (hI.good i d hi).1.amt
  have hall47 : ∀ d ∈ op, d.cells.length = 47 := fun d hd => by
    obtain ⟨i, hi⟩ := List.getElem?_of_mem hd
    exact TicketD.cells_len (hI.good i d hi).1.wf
  have l47 : (op.flatMap TicketD.cells).length = op.length * 47 := flat_len hall47
  have hm320 : m320 = 18446744073709551616 * m256 := by decide
  have hbig : ∀ i t, t < 64 → (m.T t).sup + openTo op cl i t + m256 < m320 := fun i t ht => by
    have h1 := hI.inv.lt t ht
    have h2 := openTo_le (cl := cl) hamt hop i t
    rw [hm320]
    omega
  unfold HL
  refine fun35.spec rfl ?_
  conv=>whnf
  intro b3
  conv=>whnf
  refine LoopG.mk (fun mm e L => ∃ (i : Nat) (f : Nat → Nat), i ≤ 3 ∧ mm = 3 - i ∧ (∀ t, f t = if t < i then (m.T t).sup else 0) ∧
      e = [(0, .pointer (some ⟨h, 0, none⟩)), (2, .bool false), (3, .pointer (some ⟨b3, 0, none⟩)), (4, .int .i64 i)] ∧ L = [cel b3 77 (acells f), stP 127 s src find V n, cel h 79 (hcells s opv clv all), own 47 opv op.length (op.flatMap TicketD.cells), own 1 clv cl.length (bls cl)]) 3
    [(0, .pointer (some ⟨h, 0, none⟩)), (2, .bool false), (3, .pointer (some ⟨b3, 0, none⟩)), (4, .int .i64 0)] _ ⟨rfl, rfl, rfl, rfl, trivial⟩ (Ent.refl _) ⟨0, fun _ => 0, by omega, rfl, fun t => by simp, rfl, rfl⟩ ?_
  rintro mm e L ⟨i, f, hi, rfl, hf, rfl, rfl⟩
  conv=>whnf
  refine CondG.dec (fun h1 => ?_) (fun h1 => ?_)
  · have hi3 : i < 3 := by omega
    have htok : tokenL V (i : Int) = ((m.T i).d, 0) := by
      rw [hI.led.tokenM, tokenM, if_neg (by rw [show begE (i : Int) = 0 by unfold begE; rw [if_neg (by omega)]]; decide), Int.toNat_natCast]
    have hfi : f i = 0 := by rw [hf, if_neg (by omega)]
    conv=>whnf
    refine LoadG.at (.tl (.tl (.here rfl))) ?_
    conv=>whnf
    refine CallG.of (pre := [stP 127 s src find V n]) (token_at _ s src V n i (hs.left _) ho) (Ent.front 1 rfl) ?_
    rintro _ _ ⟨rfl, rfl⟩
    rw [htok]
    conv=>whnf
    intro b5
    conv=>whnf
    refine StoreG.at rfl (Upd.whole rfl (TokD.cells_one _)) ?_
    conv=>whnf
    refine CondG.ndec (fun h => absurd rfl h) (fun _ => ?_)
    conv=>whnf
    refine DrawG.mk 9 [cel b5 44 (m.T i).d.cells, stP 127 s src find V n, cel h 79 (hcells s opv clv all), own 47 opv op.length (op.flatMap TicketD.cells), own 1 clv cl.length (bls cl)] [cel b3 77 (acells f)] (Ent.front 2 rfl) ?_
    conv=>whnf
    refine .take 0 ?_
    conv=>whnf
    refine ⟨rfl, ?_⟩
    conv=>whnf
    refine .take 1 ?_
    conv=>whnf
    refine ⟨rfl, ?_⟩
    conv=>whnf
    refine .take 2 ?_
    conv=>whnf
    refine ⟨rfl, ?_⟩
    conv=>whnf
    refine SideG.of (by omega) ?_
    conv=>whnf
    refine .take 4 ?_
    conv=>whnf
    refine ⟨rfl, ?_⟩
    conv=>whnf
    refine .take 5 ?_
    conv=>whnf
    refine ⟨rfl, ?_⟩
    conv=>whnf
    refine LoadNG.at (vs := uvs (w4 (m.T i).sup)) rfl (.here (sup_at (m.T i).d)) ?_
    conv=>whnf
    refine .all ?_
    conv=>whnf
    refine ⟨by decide, ?_⟩
    conv=>whnf
    have eo : 0 + ((i : Nat) : Int).toNat * 5 = i * 5 := by omega
    rw [eo]
    refine LoadNG.at (vs := uvs (w5 (f i))) rfl (.here (ac_at f hi3)) ?_
    conv=>whnf
    refine .all ?_
    conv=>whnf
    refine ⟨by decide, ?_⟩
    conv=>whnf
    refine CallG.pure (grown_spec _ (w5 (f i)) (w4 (m.T i).sup) rfl (w5_lt _) (w4_ok _) false) ?_
    rintro _ _ ⟨R, c, hR, hRl, hG, rfl, rfl⟩
    have hsl := hI.inv.lt i (by omega)
    have hRe : R = w5 (f i + nat4 (w4 (m.T i).sup)) := grown_add hR hRl rfl rfl (by rw [hfi, nat4_w4 hsl]; have := hbig 0 i (by omega); omega) hG
    rw [hRe, hfi, nat4_w4 hsl, Nat.zero_add]
    conv=>whnf
    refine .take 7 ?_
    conv=>whnf
    refine ⟨rfl, ?_⟩
    conv=>whnf
    refine SideG.of (by omega) ?_
    conv=>whnf
    refine .all ?_
    conv=>whnf
    refine ⟨by decide, ?_⟩
    conv=>whnf
    rw [eo]
    refine StoreG.at rfl (Upd.hereN (by rw [ac_len]; show i * 5 + 5 ≤ 15; omega) (uvs_one _) (ac_set f (fun t => if t < i + 1 then (m.T t).sup else 0) hi3 (if_pos (by omega)) fun t ht => by
      rw [hf]
      by_cases e : t < i
      · rw [if_pos e, if_pos (by omega)]
      · rw [if_neg e, if_neg (by omega)])) ?_
    conv=>whnf
    refine ⟨rfl, ?_⟩
    conv=>whnf
    refine ArithG.i64' ((i + 1 : Nat) : Int) (by omega) (by omega) ?_
    conv=>whnf
    exact ⟨3 - (i + 1), [(0, .pointer (some ⟨h, 0, none⟩)), (2, .bool false), (3, .pointer (some ⟨b3, 0, none⟩)), (4, .int .i64 ((i + 1 : Nat) : Int))], _, by omega, ⟨rfl, rfl, rfl, rfl, trivial⟩, Ent.sel (T := []) (A := [_, _, _, _, _, _]) [0, 2, 3, 4, 5] rfl, i + 1, _, by omega, rfl, fun _ => rfl, rfl, rfl⟩
  · have hi3 : i = 3 := by omega
    conv=>whnf
    refine LoopG.mk (fun mm e L => ∃ (nn : Nat) (f : Nat → Nat), nn ≤ op.length + 2 ∧ mm = op.length + 2 - nn ∧ (∀ t, t < 3 → f t = (m.T t).sup + openTo op cl (nn - 1) t) ∧
        e = [(0, .pointer (some ⟨h, 0, none⟩)), (2, .bool false), (3, .pointer (some ⟨b3, 0, none⟩)), (7, .int .i64 nn)] ∧ L = [cel b3 77 (acells f), stP 127 s src find V n, cel h 79 (hcells s opv clv all), own 47 opv op.length (op.flatMap TicketD.cells), own 1 clv cl.length (bls cl)]) (op.length + 2)
      [(0, .pointer (some ⟨h, 0, none⟩)), (2, .bool false), (3, .pointer (some ⟨b3, 0, none⟩)), (7, .int .i64 0)] _ ⟨rfl, rfl, rfl, rfl, trivial⟩ (Ent.refl _) ⟨0, f, by omega, rfl, fun t ht => by rw [hf, if_pos (by omega)]; show _ = _ + openAmt t (op.take 0) (cl.take 0); simp [openAmt], rfl, rfl⟩ ?_
    clear hf hi h1 hi3 i f
    rintro mm e L ⟨nn, f, hnn, rfl, hf, rfl, rfl⟩
    conv=>whnf
    refine LoadG.at (.tl (.tl (.here rfl))) ?_
    conv=>whnf
    refine LenG.sl hov ?_
    conv=>whnf
    refine ArithG.i64' ((op.length + 1 : Nat) : Int) (by omega) (by omega) ?_
    conv=>whnf
    refine CondG.dec (fun h1 => ?_) (fun h1 => ?_)
    · conv=>whnf
      refine LoadG.at (.tl (.tl (.here rfl))) ?_
      conv=>whnf
      refine CallG.of (pre := [stP 127 s src find V n]) (tfind_at _ s src V n nn (hs.left _) ho) (Ent.front 1 rfl) ?_
      rintro _ _ ⟨rfl, rfl⟩
      rcases keep_find hI (by omega) (nn : Int) with ⟨hop1, hfd⟩ | ⟨hop1, i, d, hni, hd, hc, hfd⟩
      · rw [hfd]
        conv=>whnf
        intro b8
        conv=>whnf
        refine StoreG.at rfl (Upd.whole rfl (TicketD.cells_one _)) ?_
        conv=>whnf
        refine CallG.pure (hopen_spec _ h s opv clv all op cl hlen (.tl (.tl (.tl .all))) (.tl (.tl (.tl (.tl (own_rd hov l47))))) (.tl (.tl (.tl (.tl (.tl (own_rd hcv (by rw [bls_len, Nat.mul_one]))))))) (by omega) _ (by omega) (by omega)) ?_
        rintro _ _ ⟨rfl, rfl⟩
        rw [hop1]
        (conv=>whnf); repeat ((with_reducible first | refine .tt ?_ | refine .ff ?_ | refine .ntt ?_ | refine .nff ?_); conv=>whnf)
        refine CondG.ndec (fun h => absurd rfl h) (fun _ => ?_)
        conv=>whnf
        refine LoadNG.at (vs := zeroT'.cells) rfl .all ?_
        (conv=>whnf); repeat ((with_reducible first | refine .tt ?_ | refine .ff ?_ | refine .ntt ?_ | refine .nff ?_); conv=>whnf)
        refine BuildG.of (cs := zeroT'.cells) rfl ?_
        (conv=>whnf); repeat ((with_reducible first | refine .tt ?_ | refine .ff ?_ | refine .ntt ?_ | refine .nff ?_); conv=>whnf)
        refine DoesG.eqv 8 tickK (by kernel_rfl) (by decide) (by kernel_rfl) (by kernel_rfl) (TicketD.wt zeroT_wf) (TicketD.wt zeroT_wf) ?_
        (conv=>whnf); repeat ((with_reducible first | refine .tt ?_ | refine .ff ?_ | refine .ntt ?_ | refine .nff ?_); conv=>whnf)
        refine CondG.split (fun h => absurd h (by simp)) (fun _ => ?_)
        conv=>whnf
        refine ArithG.i64' ((nn + 1 : Nat) : Int) (by omega) (by omega) ?_
        conv=>whnf
        refine ⟨op.length + 2 - (nn + 1), [(0, .pointer (some ⟨h, 0, none⟩)), (2, .bool false), (3, .pointer (some ⟨b3, 0, none⟩)), (7, .int .i64 ((nn + 1 : Nat) : Int))], _, by omega, ⟨rfl, rfl, rfl, rfl, trivial⟩, Ent.sel (T := []) (A := [_, _, _, _, _, _]) [2, 1, 3, 4, 5] rfl, nn + 1, f, by omega, rfl, fun t ht => ?_, rfl, rfl⟩
        rw [hf t ht]
        congr 1
        show openTo op cl (nn - 1) t = openTo op cl nn t
        rcases Nat.eq_zero_or_pos nn with h0 | h0
        · rw [h0]
        · obtain ⟨i, rfl⟩ : ∃ i, nn = i + 1 := ⟨nn - 1, by omega⟩
          exact (openTo_skip hlen hop1 t).symm
      · obtain rfl : nn = i + 1 := by omega
        have hio : i < op.length := (List.getElem?_eq_some_iff.1 hd).1
        have hdi : op[i] = d := (List.getElem?_eq_some_iff.1 hd).2
        obtain ⟨hgd, hnum⟩ := hI.good i d hd
        have d47 := TicketD.cells_len hgd.wf
        obtain ⟨k, hkd⟩ : ∃ k : Nat, d.tok = k := ⟨d.tok.toNat, by have := hgd.may.2.1.1; omega⟩
        have hk3 : k < 3 := by have := hgd.tok; omega
        rw [hfd]
        conv=>whnf
        intro b8
        conv=>whnf
        refine StoreG.at d47 (Upd.whole (by rw [d47]; rfl) (TicketD.cells_one _)) ?_
        conv=>whnf
        refine CallG.pure (hopen_spec _ h s opv clv all op cl hlen (.tl (.tl (.tl .all))) (.tl (.tl (.tl (.tl (own_rd hov l47))))) (.tl (.tl (.tl (.tl (.tl (own_rd hcv (by rw [bls_len, Nat.mul_one]))))))) (by omega) _ (by omega) (by omega)) ?_
        rintro _ _ ⟨rfl, rfl⟩
        rw [hop1]
        (conv=>whnf); repeat ((with_reducible first | refine .tt ?_ | refine .ff ?_ | refine .ntt ?_ | refine .nff ?_); conv=>whnf)
        refine DrawG.mk 14 [cel b8 82 d.cells, stP 127 s src find V n, cel b3 77 (acells f), cel h 79 (hcells s opv clv all), own 47 opv op.length (op.flatMap TicketD.cells), own 1 clv cl.length (bls cl)] [] (Ent.refl _) ?_
        conv=>whnf
        refine .take 0 ?_
        conv=>whnf
        refine ⟨rfl, ?_⟩
        conv=>whnf
        refine .take 1 ?_
        conv=>whnf
        refine ⟨rfl, ?_⟩
        conv=>whnf
        refine .take 2 ?_
        conv=>whnf
        refine ⟨rfl, ?_⟩
        conv=>whnf
        refine .take 3 ?_
        conv=>whnf
        refine ⟨rfl, ?_⟩
        conv=>whnf
        refine CondG.ndec (fun h => absurd rfl h) (fun _ => ?_)
        conv=>whnf
        refine LoadNG.at (vs := d.cells) d47 .all ?_
        conv=>whnf
        refine .take 4 ?_
        conv=>whnf
        refine ⟨rfl, ?_⟩
        (conv=>whnf); repeat ((with_reducible first | refine .tt ?_ | refine .ff ?_ | refine .ntt ?_ | refine .nff ?_); conv=>whnf)
        refine .take 5 ?_
        conv=>whnf
        refine ⟨rfl, ?_⟩
        (conv=>whnf); repeat ((with_reducible first | refine .tt ?_ | refine .ff ?_ | refine .ntt ?_ | refine .nff ?_); conv=>whnf)
        refine .take 6 ?_
        conv=>whnf
        refine ⟨rfl, ?_⟩
        (conv=>whnf); repeat ((with_reducible first | refine .tt ?_ | refine .ff ?_ | refine .ntt ?_ | refine .nff ?_); conv=>whnf)
        refine .take 7 ?_
        conv=>whnf
        refine ⟨rfl, ?_⟩
        (conv=>whnf); repeat ((with_reducible first | refine .tt ?_ | refine .ff ?_ | refine .ntt ?_ | refine .nff ?_); conv=>whnf)
        refine LoadG.at (.tl (.tl (.tl (.here rfl)))) ?_
        conv=>whnf
        refine .take 8 ?_
        conv=>whnf
        refine ⟨rfl, ?_⟩
        (conv=>whnf); repeat ((with_reducible first | refine .tt ?_ | refine .ff ?_ | refine .ntt ?_ | refine .nff ?_); conv=>whnf)
        refine .take 9 ?_
        conv=>whnf
        refine ⟨rfl, ?_⟩
        (conv=>whnf); repeat ((with_reducible first | refine .tt ?_ | refine .ff ?_ | refine .ntt ?_ | refine .nff ?_); conv=>whnf)
        refine ArithG.i64' (i : Int) (by omega) (by omega) ?_
        conv=>whnf
        refine .take 10 ?_
        conv=>whnf
        refine ⟨rfl, ?_⟩
        (conv=>whnf); repeat ((with_reducible first | refine .tt ?_ | refine .ff ?_ | refine .ntt ?_ | refine .nff ?_); conv=>whnf)
        refine IdxG.rd (L := own 47 opv op.length (op.flatMap TicketD.cells) :: [own 1 clv cl.length (bls cl)]) (own_rd hov l47) (by omega) fun cb o hcc => ?_
        conv=>whnf
        refine .take 11 ?_
        conv=>whnf
        refine ⟨rfl, ?_⟩
        (conv=>whnf); repeat ((with_reducible first | refine .tt ?_ | refine .ff ?_ | refine .ntt ?_ | refine .nff ?_); conv=>whnf)
        refine LoadNG.at (vs := d.cells) d47 (.tl (.tl (.tl (.tl (hcc.part (by rw [d47, Int.toNat_natCast, ← hdi]; exact flat_get hall47 hio)))))) ?_
        clear hcc
        conv=>whnf
        refine .all ?_
        conv=>whnf
        refine ⟨by decide, ?_⟩
        (conv=>whnf); repeat ((with_reducible first | refine .tt ?_ | refine .ff ?_ | refine .ntt ?_ | refine .nff ?_); conv=>whnf)
        refine DoesG.eqv 8 tickK (by kernel_rfl) (by decide) (by kernel_rfl) (by kernel_rfl) (TicketD.wt hgd.wf) (TicketD.wt hgd.wf) ?_
        conv=>whnf
        refine .all ?_
        conv=>whnf
        refine ⟨by decide, ?_⟩
        (conv=>whnf); repeat ((with_reducible first | refine .tt ?_ | refine .ff ?_ | refine .ntt ?_ | refine .nff ?_); conv=>whnf)
        refine ⟨rfl, ?_⟩
        conv=>whnf
        refine CondG.split (fun h => absurd h (by simp)) (fun _ => ?_)
        conv=>whnf
        refine DrawG.mk 11 [cel b8 82 d.cells, stP 127 s src find V n, cel h 79 (hcells s opv clv all), own 47 opv op.length (op.flatMap TicketD.cells), own 1 clv cl.length (bls cl)] [cel b3 77 (acells f)] (Ent.front 2 rfl) ?_
        conv=>whnf
        refine .take 0 ?_
        conv=>whnf
        refine ⟨rfl, ?_⟩
        conv=>whnf
        refine .take 1 ?_
        conv=>whnf
        refine ⟨rfl, ?_⟩
        conv=>whnf
        refine LoadG.at (v := .int .i64 (k : Int)) (.here (by rw [← hkd]; exact TicketD.tok_at hgd.wf)) ?_
        conv=>whnf
        refine .take 2 ?_
        conv=>whnf
        refine ⟨rfl, ?_⟩
        conv=>whnf
        refine .take 3 ?_
        conv=>whnf
        refine ⟨rfl, ?_⟩
        conv=>whnf
        refine LoadG.at (v := .int .i64 (k : Int)) (.here (by rw [← hkd]; exact TicketD.tok_at hgd.wf)) ?_
        conv=>whnf
        refine .take 4 ?_
        conv=>whnf
        refine ⟨rfl, ?_⟩
        conv=>whnf
        refine SideG.of (by omega) ?_
        conv=>whnf
        refine .take 6 ?_
        conv=>whnf
        refine ⟨rfl, ?_⟩
        conv=>whnf
        refine .take 7 ?_
        conv=>whnf
        refine ⟨rfl, ?_⟩
        conv=>whnf
        refine LoadNG.at (vs := uvs d.amt) (by rw [uvs_len, hgd.wf.amt]) (.here (TicketD.amt_at hgd.wf)) ?_
        conv=>whnf
        refine .all ?_
        conv=>whnf
        refine ⟨by decide, ?_⟩
        conv=>whnf
        have eo : 0 + ((k : Nat) : Int).toNat * 5 = k * 5 := by omega
        rw [eo]
        refine LoadNG.at (vs := uvs (w5 (f k))) rfl (.here (ac_at f hk3)) ?_
        conv=>whnf
        refine .all ?_
        conv=>whnf
        refine ⟨by decide, ?_⟩
        conv=>whnf
        refine CallG.pure (grown_spec _ (w5 (f k)) d.amt rfl (w5_lt _) hgd.amt false) ?_
        rintro _ _ ⟨R, c, hR, hRl, hG, rfl, rfl⟩
        have hRe : R = w5 (f k + nat4 d.amt) := grown_add hR hRl rfl hgd.amt.len (by
          have h2 := hf k hk3
          have h3 := hbig (i + 1 - 1) k (by omega)
          have h4 := nat4_lt hgd.amt
          omega) hG
        rw [hRe]
        conv=>whnf
        refine .take 9 ?_
        conv=>whnf
        refine ⟨rfl, ?_⟩
        conv=>whnf
        refine SideG.of (by omega) ?_
        conv=>whnf
        refine .all ?_
        conv=>whnf
        refine ⟨by decide, ?_⟩
        conv=>whnf
        rw [eo]
        refine StoreG.at rfl (Upd.hereN (by rw [ac_len]; show k * 5 + 5 ≤ 15; omega) (uvs_one _) (ac_set f (addAt f k (nat4 d.amt)) hk3 (if_pos rfl) fun t ht => if_neg ht)) ?_
        conv=>whnf
        refine ⟨rfl, ?_⟩
        conv=>whnf
        refine ArithG.i64' ((i + 1 + 1 : Nat) : Int) (by omega) (by omega) ?_
        conv=>whnf
        refine ⟨op.length + 2 - (i + 1 + 1), [(0, .pointer (some ⟨h, 0, none⟩)), (2, .bool false), (3, .pointer (some ⟨b3, 0, none⟩)), (7, .int .i64 ((i + 1 + 1 : Nat) : Int))], _, by omega, ⟨rfl, rfl, rfl, rfl, trivial⟩, Ent.sel (T := []) (A := [_, _, _, _, _, _]) [0, 2, 3, 4, 5] rfl, i + 1 + 1, addAt f k (nat4 d.amt), by omega, rfl, fun t ht => ?_, rfl, rfl⟩
        show (if t = k then f t + nat4 d.amt else f t) = (m.T t).sup + openTo op cl (i + 1) t
        have h2 := hf t ht
        rw [show i + 1 - 1 = i from rfl] at h2
        rw [openTo_snoc hlen hd hc t]
        by_cases e : t = k
        · rw [if_pos e, if_pos ⟨rfl, by rw [hkd, e]⟩]
          omega
        · rw [if_neg e, if_neg (fun h => e (by have := h.2; rw [hkd] at this; omega))]
          omega
    · have hnl : nn = op.length + 2 := by omega
      have hfa : acells f = acells all := ac_eq fun t ht => by
        rw [hf t ht, hI.sums t ht, openTo_all hlen (by omega)]
      rw [hfa]
      conv=>whnf
      refine LoadG.at (.tl (.tl (.here rfl))) ?_
      conv=>whnf
      refine CallG.of (pre := [stP 127 s src find V n]) (made_at _ s src V n (hs.left _) ho) (Ent.front 1 rfl) ?_
      rintro _ _ ⟨rfl, rfl⟩
      rw [keep_made hI (by omega)]
      conv=>whnf
      refine DrawG.mk 20 [stP 127 s src find V n, cel b3 77 (acells all), cel h 79 (hcells s opv clv all), own 47 opv op.length (op.flatMap TicketD.cells), own 1 clv cl.length (bls cl)] [] (Ent.refl _) ?_
      conv=>whnf
      refine .take 0 ?_
      conv=>whnf
      refine ⟨rfl, ?_⟩
      conv=>whnf
      refine .take 1 ?_
      conv=>whnf
      refine ⟨rfl, ?_⟩
      conv=>whnf
      refine .take 2 ?_
      conv=>whnf
      refine ⟨rfl, ?_⟩
      conv=>whnf
      refine .take 3 ?_
      conv=>whnf
      refine ⟨rfl, ?_⟩
      conv=>whnf
      refine CondG.decT rfl ?_
      conv=>whnf
      refine .take 4 ?_
      conv=>whnf
      refine ⟨rfl, ?_⟩
      (conv=>whnf); repeat ((with_reducible first | refine .tt ?_ | refine .ff ?_ | refine .ntt ?_ | refine .nff ?_); conv=>whnf)
      refine .take 5 ?_
      conv=>whnf
      refine ⟨rfl, ?_⟩
      (conv=>whnf); repeat ((with_reducible first | refine .tt ?_ | refine .ff ?_ | refine .ntt ?_ | refine .nff ?_); conv=>whnf)
      refine .take 6 ?_
      conv=>whnf
      refine ⟨rfl, ?_⟩
      (conv=>whnf); repeat ((with_reducible first | refine .tt ?_ | refine .ff ?_ | refine .ntt ?_ | refine .nff ?_); conv=>whnf)
      refine .take 7 ?_
      conv=>whnf
      refine ⟨rfl, ?_⟩
      (conv=>whnf); repeat ((with_reducible first | refine .tt ?_ | refine .ff ?_ | refine .ntt ?_ | refine .nff ?_); conv=>whnf)
      refine LoadG.at (.tl (.tl (.here rfl))) ?_
      conv=>whnf
      refine .take 8 ?_
      conv=>whnf
      refine ⟨rfl, ?_⟩
      (conv=>whnf); repeat ((with_reducible first | refine .tt ?_ | refine .ff ?_ | refine .ntt ?_ | refine .nff ?_); conv=>whnf)
      refine LenG.sl hov ?_
      conv=>whnf
      refine .take 9 ?_
      conv=>whnf
      refine ⟨rfl, ?_⟩
      (conv=>whnf); repeat ((with_reducible first | refine .tt ?_ | refine .ff ?_ | refine .ntt ?_ | refine .nff ?_); conv=>whnf)
      refine .take 10 ?_
      conv=>whnf
      refine ⟨rfl, ?_⟩
      (conv=>whnf); repeat ((with_reducible first | refine .tt ?_ | refine .ff ?_ | refine .ntt ?_ | refine .nff ?_); conv=>whnf)
      refine .take 11 ?_
      conv=>whnf
      refine ⟨rfl, ?_⟩
      conv=>whnf
      refine .take 12 ?_
      conv=>whnf
      refine ⟨rfl, ?_⟩
      conv=>whnf
      refine CondG.decT rfl ?_
      conv=>whnf
      refine LoadNG.at (vs := acells all) rfl (.tl .all) ?_
      conv=>whnf
      refine .take 13 ?_
      conv=>whnf
      refine ⟨rfl, ?_⟩
      (conv=>whnf); repeat ((with_reducible first | refine .tt ?_ | refine .ff ?_ | refine .ntt ?_ | refine .nff ?_); conv=>whnf)
      refine .take 14 ?_
      conv=>whnf
      refine ⟨rfl, ?_⟩
      (conv=>whnf); repeat ((with_reducible first | refine .tt ?_ | refine .ff ?_ | refine .ntt ?_ | refine .nff ?_); conv=>whnf)
      refine .take 15 ?_
      conv=>whnf
      refine ⟨rfl, ?_⟩
      (conv=>whnf); repeat ((with_reducible first | refine .tt ?_ | refine .ff ?_ | refine .ntt ?_ | refine .nff ?_); conv=>whnf)
      refine .take 16 ?_
      conv=>whnf
      refine ⟨rfl, ?_⟩
      (conv=>whnf); repeat ((with_reducible first | refine .tt ?_ | refine .ff ?_ | refine .ntt ?_ | refine .nff ?_); conv=>whnf)
      refine LoadNG.at (vs := acells all) rfl (.tl (.tl (.here rfl))) ?_
      conv=>whnf
      refine .all ?_
      conv=>whnf
      refine ⟨by decide, ?_⟩
      (conv=>whnf); repeat ((with_reducible first | refine .tt ?_ | refine .ff ?_ | refine .ntt ?_ | refine .nff ?_); conv=>whnf)
      refine DoesG.eqv 8 (List.replicate 15 (.int .u64)) (by kernel_rfl) (by decide) (by kernel_rfl) (by kernel_rfl) (ac_wt all) (ac_wt all) ?_
      conv=>whnf
      refine .all ?_
      conv=>whnf
      refine ⟨by decide, ?_⟩
      (conv=>whnf); repeat ((with_reducible first | refine .tt ?_ | refine .ff ?_ | refine .ntt ?_ | refine .nff ?_); conv=>whnf)
      refine .all ?_
      conv=>whnf
      refine ⟨by decide, ?_⟩
      conv=>whnf
      refine ⟨rfl, ?_⟩
      conv=>whnf
      exact ⟨_, Ent.sel (T := []) (A := [_, _, _, _, _]) [0, 2, 3, 4] rfl, congrArg Value.bool (by simp), rfl⟩
end
end Go.Proofs.YtnbcbdlbejdkpaaDoor
namespace Go.Proofs.YtnbcbdlbejdkpaaDoor
open Go Go.Sl
def V00 : View := ⟨fun _ => [], []⟩
theorem fresh_at (F : List HP) : SpecF Tryd.prog 32 [.slice none 0 0] F [] (fun r L => ∃ s t vb q ob, r = .pointer (some ⟨s, 0, none⟩) ∧ L = stP 127 s (.iface 87 (.pointer (some ⟨t, 0, none⟩))) (tabFind []) V00 0 :: emptyL 154 177 t vb q ob) :=
  (fresh_nil F).turn fun v L ⟨s, t, vb, q, ob, hb, nb, hv, hL⟩ => by
    subst hL
    exact ⟨_, ⟨s, t, vb, q, ob, hv, rfl⟩, Ent.pack (L := emptyL 154 177 t vb q ob) (φ := At (tabFind []) V00 0) (ls := fun c => StC.pieces 127 s (.iface 87 (.pointer (some ⟨t, 0, none⟩))) c) ⟨lv_nil hb nb _ _, ⟨by simp, by simp, by simp⟩, Nat.le_refl 0, rfl, List.Pairwise.nil, fun j a f h => by simp at h⟩⟩
theorem inv_m0 (W : List (List Nat)) : InvM W m0 where
  sum t _ := by
    show (W.map fun _ => 0).sum = 0
    induction W with
    | nil => rfl
    | cons a W ih => rw [List.map_cons, List.sum_cons, ih]
  lt t _ := by show 0 < m256; decide
  non t _ h := rfl
theorem keep0 (W : List (List Nat)) : KeepI W V00 m0 [] [] (fun _ => 0) :=
  ⟨led_none, inv_m0 W, rfl, fun i d c h => by simp at h, fun _ _ _ => rfl, rfl, fun i d h => by simp at h, fun t _ => rfl⟩
theorem keeps_loop (F : List HP) (sv av : Value) (xs : List StepK) (hx : ∀ x ∈ xs, x.wf) (hxl : xs.length ≤ 1073741824) (hxr : RdS F sv xs.length (xs.flatMap StepK.cells)) (bs : List Bool) (har : RdS F av bs.length (bls bs)) :
    SpecF Tryd.prog 7 [sv, av] F [] (fun r L => r = .bool true) := by
  refine fun7.spec rfl ?_
  conv=>whnf
  refine CallG.pure (fresh_at _) ?_
  rintro _ _ ⟨s, t, vb, q, ob, rfl, rfl⟩
  (conv=>whnf); repeat ((with_reducible first | refine .tt ?_ | refine .ff ?_ | refine .ntt ?_ | refine .nff ?_); conv=>whnf)
  refine CallG.pure ((tknown_spec _).turn (R' := fun v L => v = .bool true ∧ L = []) fun v L h => ⟨[], ⟨h, rfl⟩, Ent.nil _⟩) ?_
  rintro _ _ ⟨rfl, rfl⟩
  (conv=>whnf); repeat ((with_reducible first | refine .tt ?_ | refine .ff ?_ | refine .ntt ?_ | refine .nff ?_); conv=>whnf)
  refine BuildG.of (cs := hcells s (.slice none 0 0) (.slice none 0 0) (fun _ => 0)) rfl ?_
  conv=>whnf
  intro h
  conv=>whnf
  obtain ⟨W, hnd, hcov⟩ := coverL (xs.map fun x => x.t.to)
  have hto : ∀ x ∈ xs, x.t.to ∈ W := fun x hm => hcov _ (List.mem_map_of_mem hm)
  obtain ⟨src, hsrc⟩ : ∃ src, src = Value.iface 87 (.pointer (some ⟨t, 0, none⟩)) := ⟨_, rfl⟩
  obtain ⟨find, hfind⟩ : ∃ find, find = tabFind [] := ⟨_, rfl⟩
  have ho : SrcOk find := by rw [hfind]; exact tabOk
  obtain ⟨R, hR⟩ : ∃ R, R = emptyL 154 177 t vb q ob := ⟨_, rfl⟩
  have hs : SrcG Tryd.prog (R ++ F) src find := by
    rw [hR, hsrc, hfind]
    exact tab_src _ t vb [] (.left (.here rfl) F) (.left (.tl .here) F) (by simp)
  rw [← hsrc, ← hfind]
  refine LoopG.mk (fun mm e L => ∃ (i : Nat) (V : View) (m : Md) (n : Nat) (op : List TicketD) (cl : List Bool) (all : Nat → Nat) (opv clv : Value), i ≤ xs.length ∧ mm = xs.length - i ∧ KeepI W V m op cl all ∧ SlV opv op.length ∧ SlV clv cl.length ∧ op.length ≤ i ∧ n ≤ 3 * i ∧
      e = [(0, sv), (1, av), (4, .bool false), (6, .pointer (some ⟨h, 0, none⟩)), (7, .int .i64 i)] ∧ L = HL 127 79 h s src find V n op cl all opv clv ++ R) xs.length
    [(0, sv), (1, av), (4, .bool false), (6, .pointer (some ⟨h, 0, none⟩)), (7, .int .i64 0)] (HL 127 79 h s src find V00 0 [] [] (fun _ => 0) (.slice none 0 0) (.slice none 0 0) ++ R) ⟨rfl, rfl, rfl, rfl, rfl, trivial⟩ ?_
    ⟨0, V00, m0, 0, [], [], fun _ => 0, .slice none 0 0, .slice none 0 0, by omega, rfl, keep0 W, .inl ⟨rfl, rfl⟩, .inl ⟨rfl, rfl⟩, Nat.le_refl _, Nat.le_refl _, rfl, rfl⟩ ?_
  · rw [hR]
    have e2 : ∀ L : List HP, Ent L (own 47 (.slice none 0 0) 0 [] :: own 1 (.slice none 0 0) 0 [] :: L) := fun L w G hs => Sat.own_nil (Sat.own_nil hs)
    exact (e2 _).trans (Ent.sel (T := emptyL 154 177 t vb q ob) (A := [_, _, _, _]) [3, 2, 0, 1] rfl)
  rintro mm e L ⟨i, V, m, n, op, cl, all, opv, clv, hi, rfl, hI, hov, hcv, hol, hn, rfl, rfl⟩
  conv=>whnf
  refine LenG.rd hxr ?_
  conv=>whnf
  refine CondG.dec (fun h1 => ?_) (fun h1 => ?_)
  · have hil : i < xs.length := by omega
    obtain ⟨x, hxi⟩ : ∃ x, x = xs[i] := ⟨_, rfl⟩
    have hxm : x ∈ xs := by rw [hxi]; exact List.getElem_mem hil
    have hxw : x.wf := hx _ hxm
    have h49 : x.cells.length = 49 := StepK.cells_len hxw
    conv=>whnf
    refine IdxG.rd hxr (by omega) fun cb o hcc => ?_
    conv=>whnf
    refine LoadNG.atF (vs := x.cells) h49 (hcc.part (by rw [h49, Int.toNat_natCast, hxi]; exact flat_get (fun y h => StepK.cells_len (hx y h)) hil)) ?_
    clear hcc
    conv=>whnf
    refine CallG.of (pre := HL 127 79 h s src find V n op cl all opv clv) (rest := R) (does_at _ h s src V n op cl all opv clv hnd hI hs ho hov hcv (by omega) (by omega) x hxw (hto x hxm)) (Ent.refl _) ?_
    rintro _ _ ⟨rfl, U, m', n', op', cl', all', opv', clv', hI', hov', hcv', hl', hn', rfl⟩
    (conv=>whnf); repeat ((with_reducible first | refine .tt ?_ | refine .ff ?_ | refine .ntt ?_ | refine .nff ?_); conv=>whnf)
    refine LenG.rd har ?_
    (conv=>whnf); repeat ((with_reducible first | refine .tt ?_ | refine .ff ?_ | refine .ntt ?_ | refine .nff ?_); conv=>whnf)
    refine CondG.dec (fun h2 => ?_) (fun h2 => ?_)
    · have hbl : i < bs.length := by omega
      (conv=>whnf); repeat ((with_reducible first | refine .tt ?_ | refine .ff ?_ | refine .ntt ?_ | refine .nff ?_); conv=>whnf)
      refine IdxG.rd har (by omega) fun cb o hcc => ?_
      (conv=>whnf); repeat ((with_reducible first | refine .tt ?_ | refine .ff ?_ | refine .ntt ?_ | refine .nff ?_); conv=>whnf)
      refine LoadG.atF (v := .bool bs[i]) (hcc.one (i := ((i : Nat) : Int).toNat * 1) (by rw [Int.toNat_natCast, Nat.mul_one]; exact bls_get (List.getElem?_eq_getElem hbl))) ?_
      clear hcc
      (conv=>whnf); repeat ((with_reducible first | refine .tt ?_ | refine .ff ?_ | refine .ntt ?_ | refine .nff ?_); conv=>whnf)
      refine CondG.split (fun hb => ?_) (fun hb => ?_)
      · (conv=>whnf); repeat ((with_reducible first | refine .tt ?_ | refine .ff ?_ | refine .ntt ?_ | refine .nff ?_); conv=>whnf)
        refine CallG.of (pre := HL 127 79 h s src find U n' op' cl' all' opv' clv') (rest := R) (stands_at _ h s src U n' op' cl' all' opv' clv' hI' hs ho hov' hcv' (by omega)) (Ent.refl _) ?_
        rintro _ _ ⟨rfl, rfl⟩
        (conv=>whnf); repeat ((with_reducible first | refine .tt ?_ | refine .ff ?_ | refine .ntt ?_ | refine .nff ?_); conv=>whnf)
        refine ArithG.i64' ((i + 1 : Nat) : Int) (by omega) (by omega) ?_
        conv=>whnf
        exact ⟨xs.length - (i + 1), [(0, sv), (1, av), (4, .bool false), (6, .pointer (some ⟨h, 0, none⟩)), (7, .int .i64 ((i + 1 : Nat) : Int))], _, by omega, ⟨rfl, rfl, rfl, rfl, rfl, trivial⟩, Ent.refl _, i + 1, U, m', n', op', cl', all', opv', clv', by omega, rfl, hI', hov', hcv', by omega, by omega, rfl, rfl⟩
      · (conv=>whnf); repeat ((with_reducible first | refine .tt ?_ | refine .ff ?_ | refine .ntt ?_ | refine .nff ?_); conv=>whnf)
        refine ArithG.i64' ((i + 1 : Nat) : Int) (by omega) (by omega) ?_
        conv=>whnf
        exact ⟨xs.length - (i + 1), [(0, sv), (1, av), (4, .bool false), (6, .pointer (some ⟨h, 0, none⟩)), (7, .int .i64 ((i + 1 : Nat) : Int))], _, by omega, ⟨rfl, rfl, rfl, rfl, rfl, trivial⟩, Ent.refl _, i + 1, U, m', n', op', cl', all', opv', clv', by omega, rfl, hI', hov', hcv', by omega, by omega, rfl, rfl⟩
    · (conv=>whnf); repeat ((with_reducible first | refine .tt ?_ | refine .ff ?_ | refine .ntt ?_ | refine .nff ?_); conv=>whnf)
      refine ArithG.i64' ((i + 1 : Nat) : Int) (by omega) (by omega) ?_
      conv=>whnf
      exact ⟨xs.length - (i + 1), [(0, sv), (1, av), (4, .bool false), (6, .pointer (some ⟨h, 0, none⟩)), (7, .int .i64 ((i + 1 : Nat) : Int))], _, by omega, ⟨rfl, rfl, rfl, rfl, rfl, trivial⟩, Ent.refl _, i + 1, U, m', n', op', cl', all', opv', clv', by omega, rfl, hI', hov', hcv', by omega, by omega, rfl, rfl⟩
  · conv=>whnf
    refine CallG.of (pre := HL 127 79 h s src find V n op cl all opv clv) (rest := R) (stands_at _ h s src V n op cl all opv clv hI hs ho hov hcv (by omega)) (Ent.refl _) ?_
    rintro _ _ ⟨rfl, rfl⟩
    conv=>whnf
    exact ret_here rfl
end Go.Proofs.YtnbcbdlbejdkpaaDoor
