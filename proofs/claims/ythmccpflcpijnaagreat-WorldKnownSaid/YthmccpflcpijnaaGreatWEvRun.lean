/- A call in the evaluator stands for a call in the model. -/
import Derived.Test.YthmccpflcpijnaaGreatWEvCode2
namespace Go.Ev

section
variable {Q : Program} {Rr : Type} {N : Nat}

theorem setArgs_len : ∀ {ps : List P} {vs : List V} {E E' : Env}, setArgs ps vs E = some E' → ps.length = vs.length
  | [], [], _, _, _ => rfl
  | _ :: ps, _ :: vs, _, _, h => by simpa using setArgs_len (ps := ps) (vs := vs) (by simpa [setArgs] using h)
  | [], _ :: _, _, _, h => by simp [setArgs] at h
  | _ :: _, [], _, _, h => by simp [setArgs] at h

/- the arguments of a round are laid over the loop's temporaries -/
theorem setArgs_R {φ : Phi} : ∀ (ts : List Nat) (vs : List V) (us : List Value) (E E' : Env) (tmps : Array Value), (∀ t ∈ ts, t < N) → setArgs (ts.map P.of) vs E = some E' → Rs φ vs us → EnvR φ N E tmps →
    EnvR φ N E' ((ts.zip us).foldl (fun tmps (t, a) => tmps.setIfInBounds t a) tmps)
  | [], [], _, E, E', tmps, _, h, hv, he => by
    simp [setArgs] at h; subst h
    simpa using he
  | t :: ts, v :: vs, us, E, E', tmps, hlt, h, hv, he => by
    cases hv with
    | cons _ u _ us hv hvs =>
      simp only [List.map_cons, setArgs] at h
      have h1 := he.put (d := some t) hv (fun x hx => by cases hx; exact hlt t (by simp))
      exact setArgs_R ts vs us _ E' _ (fun x hx => hlt x (by simp [hx])) h hvs h1
  | [], _ :: _, _, _, _, _, _, h, _, _ => by simp [setArgs] at h
  | _ :: _, [], _, _, _, _, _, h, _, _ => by simp [setArgs] at h

theorem setArgs_get : ∀ (m a : Nat) (vs : List V) (E E' : Env), setArgs ((List.range' a m).map P.of) vs E = some E' → ∀ t, E'.get (P.of t) = if a ≤ t ∧ t < a + m then vs.getD (t - a) undef else E.get (P.of t)
  | 0, a, vs, E, E', h, t => by
    cases vs with
    | nil =>
      simp [setArgs] at h; subst h
      rw [if_neg (by omega)]
    | cons v vs => simp [setArgs] at h
  | m + 1, a, vs, E, E', h, t => by
    cases vs with
    | nil => simp [range'_cons, setArgs] at h
    | cons v vs =>
      rw [range'_cons, List.map_cons] at h
      simp only [setArgs] at h
      rw [setArgs_get m (a + 1) vs _ E' h t, Env.get_set]
      by_cases e : t = a
      · subst e
        rw [if_neg (by omega), if_pos rfl, if_pos (by omega)]
        simp
      · rw [if_neg (fun x => e (P.of_inj x))]
        by_cases hin : a + 1 ≤ t ∧ t < a + 1 + m
        · rw [if_pos hin, if_pos (by omega)]
          have : t - a = (t - (a + 1)) + 1 := by omega
          rw [this]
          simp
        · rw [if_neg hin, if_neg (by omega)]

theorem enter_R {φ : Phi} {m : Nat} {vs : List V} {args : Array Value} {E : Env} (h : setArgs ((List.range m).map P.of) vs .e = some E) (hm : m ≤ N) (hv : Rs φ vs args.toList) :
    EnvR φ N E (args ++ Array.replicate (N - args.size) Go.undef) := by
  have hl := setArgs_len h
  have hl2 := hv.length
  simp only [List.length_map, List.length_range, Array.length_toList] at hl hl2
  refine ⟨by simp; omega, fun t => ?_⟩
  rw [List.range_eq_range'] at h
  rw [setArgs_get m 0 vs .e E h t]
  simp only [Array.getD_eq_getD_getElem?]
  by_cases ht : t < m
  · rw [if_pos (by omega)]
    have hlt : t < vs.length := by omega
    obtain ⟨u, hu, hr⟩ := hv.get t vs[t] (by simp [hlt])
    rw [Array.getElem?_append_left (by omega)]
    simp only [Array.getElem?_toList] at hu
    rw [hu]
    simpa [hlt] using hr
  · rw [if_neg (by omega), Array.getElem?_append_right (by omega)]
    have : Env.get (P.of t) .e = undef := by cases P.of t <;> rfl
    rw [this]
    rw [Array.getElem?_replicate]
    split <;> exact R_undef φ

/- what a function gives back -/
theorem results_R {φ : Phi} {s : S} {w : World} (k : Sim Q φ s w) {E : Env} {tmps : Array Value} (he : EnvR φ N E tmps) : ∀ (rs : List ResultVar) (rv : List RV) (vs : List V), cRes Q rs = some rv → resVals s E rv = some vs →
    ∃ us : List Value, (rs.mapM fun | .tmp t => pure (tmps.getD t Go.undef) | .cell a t => do loadVar t (← asAddr (tmps.getD a Go.undef)) : Sem (List Value)).run Q w = .ok us w ∧ Rs φ vs us
  | [], rv, vs, h, hv => by
    simp [cRes] at h; subst h
    simp [resVals] at hv; subst hv
    exact ⟨[], by simp, .nil⟩
  | .tmp t :: rs, rv, vs, h, hv => by
    simp only [cRes] at h
    obtain ⟨rv', h1, rfl⟩ := Option.map_eq_some_iff.1 h
    simp only [resVals] at hv
    split at hv
    · rename_i l hl
      cases hv
      obtain ⟨us, q1, q2⟩ := results_R k he rs rv' l h1 hl
      exact ⟨_ :: us, by simp only [List.mapM_cons, Sem.run_bind, Sem.run_pure, Result.andThen_ok, q1], .cons _ _ _ _ (he.2 t) q2⟩
    · cases hv
  | .cell a t :: rs, rv, vs, h, hv => by
    simp only [cRes] at h
    split at h
    rotate_left
    · cases h
    rename_i n rv' hn h1
    cases h
    simp only [resVals] at hv
    split at hv
    · cases hv
    · rename_i l hl
      obtain ⟨us, q1, q2⟩ := results_R k he rs rv' l h1 hl
      have ha := he.2 a
      split at hv
      · rename_i b o hE
        rw [hE] at ha
        generalize hu : tmps.getD a Go.undef = u at ha
        cases ha
        rename_i pl hpl
        obtain ⟨v, hld, hvs⟩ : ∃ v, ldV s n b o = some v ∧ vs = v :: l := by
          cases n with
          | none =>
            simp only at hv
            split at hv
            · rename_i v hc; cases hv; exact ⟨v, by simp [ldV, hc], rfl⟩
            · cases hv
          | some n =>
            simp only at hv
            split at hv
            · rename_i w' hc; cases hv; exact ⟨.a w', by simp [ldV, hc], rfl⟩
            · cases hv
        subst hvs
        obtain ⟨u, g1, g2⟩ := loadVar_run k hn hpl hld
        refine ⟨u :: us, ?_, .cons _ _ _ _ g2 q2⟩
        have hA : asAddr (tmps.getD a Go.undef) = pure ⟨pl.blk, pl.off + o, none⟩ := by rw [hu]; rfl
        simp only [List.mapM_cons, Sem.run_bind, Sem.run_pure, Result.andThen_ok, q1, hA, g1]
      · cases hv

theorem results_run {φ : Phi} {s : S} {w : World} (k : Sim Q φ s w) {E : Env} {tmps : Array Value} (he : EnvR φ N E tmps) {fn : Func} {rv : List RV} {vs : List V} (h1 : cRes Q fn.results.toList = some rv) (h2 : resVals s E rv = some vs) :
    ∃ u, (results fn tmps).run Q w = .ok u w ∧ R φ (tupOf vs) u := by
  obtain ⟨us, q1, q2⟩ := results_R k he _ _ _ h1 h2
  have hm : (fn.results.mapM fun | .tmp t => pure (tmps.getD t Go.undef) | .cell a t => do loadVar t (← asAddr (tmps.getD a Go.undef)) : Sem (Array Value)).run Q w = .ok us.toArray w := by
    rw [Array.mapM_eq_mapM_toList]
    simp only [Sem.run_map, q1]
    rfl
  refine ⟨if h : us.toArray.size = 1 then us.toArray[0] else .tuple us.toArray, ?_, ?_⟩
  · unfold results
    simp only [Sem.run_bind, Sem.run_pure]
    erw [hm]
    rfl
  · cases q2 with
    | nil => exact .tup [] #[] .nil
    | cons v u l r hv ht =>
      cases ht with
      | nil => exact hv
      | cons v' u' l' r' hv' ht' =>
        have : tupOf (v :: v' :: l') = .tup (v :: v' :: l') := rfl
        rw [this, dif_neg (by simp)]
        exact .tup _ _ (.cons _ _ _ _ hv (.cons _ _ _ _ hv' ht'))

/- the marks go, one by one -/
def unwW : List Nat → World → World
  | [], w => w
  | rr :: rs, w => unwW rs (w.putObj rr (.deferred none))

theorem unwind_steps {φ : Phi} {s : S} {w0 : World} : ∀ (rs : List Nat) (w : World), Marks w0 φ s w rs → Sim Q φ s w → Sim Q φ s (unwW rs w) ∧ (unwW rs w).os = w.os ∧ (unwW rs w).tape = w.tape ∧ (unwW rs w).output = w.output ∧ (unwW rs w).heap.size = w.heap.size ∧ (∀ B, B < w0.heap.size → (unwW rs w).heap[B]? = w.heap[B]?) ∧
      ∀ (fr0 : Frame) (cs : List Frame), Steps Q (lone { fr0 with defers := rs.map mkD, mode := .returning } cs w) (lone { fr0 with defers := [], mode := .returning } cs (unwW rs w))
  | [], w, _, k => ⟨k, rfl, rfl, rfl, rfl, fun _ _ => rfl, fun _ _ => .refl _ _⟩
  | rr :: rs, w, hm, k => by
    obtain ⟨h1, h2, h3, h4⟩ := hm.2 rr (by simp)
    have hstep : ∀ (fr0 : Frame) (cs : List Frame), step Q (lone { fr0 with defers := (rr :: rs).map mkD, mode := .returning } cs w) = .next (lone { fr0 with defers := rs.map mkD, mode := .returning } cs (w.putObj rr (.deferred none))) := fun fr0 cs =>
      step_lone_go (by simp [stepG, unwind, mkD, Sem.runT_eq, run_takeDeferred h3])
    have hno : ∀ b pl o, φ b = some pl → s.get b = some o → live o = true → pl.blk ≠ rr := fun b pl o hb hg hl e => by
      have := k.obj b pl o hb hg
      cases o with
      | cells l rw => obtain ⟨cs, el, fr, g1, _⟩ := this; rw [e, h3] at g1; cases g1
      | map es => obtain ⟨mes, clock, g1, _⟩ := this; rw [e, h3] at g1; cases g1
      | loop a b c d e' f => obtain ⟨r', N', g1, _⟩ := this; rw [e, h3] at g1; cases g1
      | dead => simp [live] at hl
    have k' : Sim Q φ s (w.putObj rr (.deferred none)) := by
      refine ⟨fun b pl o hb hg => ?_, k.lt, fun b pl hb => by simpa using k.inh b pl hb, k.dis⟩
      by_cases hl : live o = true
      · exact (k.obj b pl o hb hg).mono (Ext.refl φ) (World.putObj_heap_other (hno b pl o hb hg hl))
      · cases o <;> simp_all [live, RO]
    have hm' : Marks w0 φ s (w.putObj rr (.deferred none)) rs := ⟨(List.nodup_cons.1 hm.1).2, fun x hx => by
      obtain ⟨q1, q2, q3, q4⟩ := hm.2 x (by simp [hx])
      have hne : x ≠ rr := fun e => (List.nodup_cons.1 hm.1).1 (e ▸ hx)
      exact ⟨q1, by simpa using q2, by rw [World.putObj_heap_other hne]; exact q3, q4⟩⟩
    obtain ⟨u1, u2, u3, u4, u5, u6, u7⟩ := unwind_steps rs _ hm' k'
    refine ⟨u1, u2, u3, u4, by simpa [unwW] using u5, fun B hB => ?_, fun fr0 cs => .head (hstep fr0 cs) (u7 fr0 cs)⟩
    simp only [unwW]
    rw [u6 B hB, World.putObj_heap_other (by omega)]

/- the table holds the program's functions -/
def TabOk (Q : Program) (tab : Nat → Option CF) : Prop := ∀ g cf, tab g = some cf → ∃ fn, Q.funcs[g]? = some fn ∧ cFunc Q fn = some cf

theorem run_fn (hm : Q.follows .mixedOrders = true) {tab : Nat → Option CF} (htab : TabOk Q tab) {n : Nat} (hcall : CallOk Q (Rr := Rr) (run tab n)) {g : Nat} {args : List V} {s : S} {k : V → S → Option Rr} {r : Rr}
    (hr : run tab (n + 1) (.fn g) args s k = some r) {φ : Phi} {w : World} {args' : Array Value} (hs : Sim Q φ s w) (ha : Rs φ args args'.toList) :
    ∃ v s' φ' val w', k v s' = some r ∧ Sim Q φ' s' w' ∧ R φ' v val ∧ Keep φ s w φ' s' w' ∧ DomN φ s φ' ∧ (callFunc g args').run Q w = .ok (.enter g args') w ∧
      ∀ cs, ∃ fr', Steps Q (lone (Frame.enter Q g args' .normal) cs w) (lone fr' cs w') ∧ fr'.fn = g ∧ fr'.leaving Q w' (.returned val) := by
  simp only [run] at hr
  obtain ⟨cf, hcf, hr⟩ := optK_some hr
  obtain ⟨E, hE, hr⟩ := optK_some hr
  obtain ⟨fn, hfn, hc⟩ := htab g cf hcf
  unfold cFunc at hc
  split at hc
  rotate_left
  · cases hc
  rename_i b rv hb hrv
  split at hc
  rotate_left
  · cases hc
  rename_i hsz
  cases hc
  simp only at hE hr
  have henv := enter_R (φ := φ) (N := fn.ntmps) hE hsz.1 ha
  obtain ⟨x, E', s', φ', w', tmps', rs, h1, h2, h3, h4, h5, h6, h7⟩ := code_ok hm hcall n b E s _ r hr φ w _ g henv hs
  obtain ⟨vs, hvs, hk⟩ : ∃ vs, resVals s' E' rv = some vs ∧ k (tupOf vs) s' = some r ∧ (∀ id, x ≠ .exit id) := by
    cases x with
    | exit id => simp at h1
    | nrm => obtain ⟨vs, q1, q2⟩ := optK_some h1; exact ⟨vs, q1, q2, by simp⟩
    | ret => obtain ⟨vs, q1, q2⟩ := optK_some h1; exact ⟨vs, q1, q2, by simp⟩
  obtain ⟨u1, u2, u3, u4, u5, u6, u7⟩ := unwind_steps rs w' h6 h3
  obtain ⟨val, hres, hval⟩ := results_run u1 h2 hrv hvs
  refine ⟨tupOf vs, s', φ', val, unwW rs w', hk.1, u1, hval, ⟨h4.ext, h4.nx, u2.trans h4.os, u3.trans h4.tape, u4.trans h4.output, by rw [u5]; exact h4.size, fun B hB ho => ?_⟩, h5, ?_, fun cs => ?_⟩
  · obtain ⟨q1, q2⟩ := h4.old B hB ho
    exact ⟨(u6 B hB).trans q1, q2⟩
  · simp [callFunc, run_program, hfn, hsz.2, hb]
  · let fb : Frame := { fn := g, tmps := #[], todo := [], defers := [], mode := .run, kind := .normal }
    have hent : Frame.enter Q g args' .normal = Fr fb (args' ++ Array.replicate (fn.ntmps - args'.size) Go.undef) [] [.code b] := by
      simp [Frame.enter, Fr, fb, hfn, hb]
    obtain ⟨k', hat, hst⟩ := h7 fb ⟨rfl, .inl rfl⟩ [] [] cs
    rw [List.append_nil] at hst
    refine ⟨{ Fr fb tmps' (rs.map mkD) k' with defers := [], mode := .returning }, ?_, rfl, rfl, rfl, rfl, fn, hfn, hres⟩
    rw [hent]
    refine hst.trans (.trans ?_ (u7 (Fr fb tmps' (rs.map mkD) k') cs))
    cases x with
    | nrm =>
      simp only [At] at hat
      subst hat
      exact .one (st_end rfl)
    | ret =>
      obtain ⟨k2, rfl⟩ := hat
      exact .one (st_ret rfl)
    | exit id => exact absurd rfl (hk.2 id)

/- a round -/
theorem st_beginRound {b : Frame} {l : Nat} {tmps : Array Value} {dd : List Deferred} {k : List Item} {cs : List Frame} {w w' : World} (hb : b.roundOf = some l) (hr : (Instr.beginRound l).run Q w = .ok () w') :
    step Q (lone (Fr b tmps dd (.beginRound :: k)) cs w) = .next (lone (Fr b tmps dd k) cs w') :=
  step_lone_go (by simp [stepG, stepG.exec, stepG.apply, Fr, hb, Sem.runT_eq, hr, Result.andThen, Frame.finish])

theorem st_roundEnd {b c : Frame} {l : Nat} {tmps : Array Value} {dd : List Deferred} {cs : List Frame} {w w' : World} {v : Value} (hb : b.roundOf = some l) (hk : b.kind = .normal) (hr : (Instr.endRound l none).run Q w = .ok v w') :
    step Q (lone (Fr b tmps dd []) (c :: cs) w) = .next (lone (c.finish v) cs w') :=
  step_lone_go (by simp [stepG, stepG.exec, Fr, hb, hk, Sem.runT_eq, hr, doReturn])

theorem st_roundRet {b c : Frame} {l : Nat} {tmps : Array Value} {dd : List Deferred} {k : List Item} {cs : List Frame} {w w' : World} {v : Value} (hb : b.roundOf = some l) (hk : b.kind = .normal) (hr : (Instr.endRound l (some .ret)).run Q w = .ok v w') :
    step Q (lone (Fr b tmps dd (.code .ret :: k)) (c :: cs) w) = .next (lone (c.finish v) cs w') :=
  step_lone_go (by simp [stepG, stepG.exec, Fr, hb, hk, Sem.runT_eq, hr, doReturn])

theorem st_roundExit {b c : Frame} {l id : Nat} {tmps : Array Value} {dd : List Deferred} {k : List Item} {cs : List Frame} {w w' : World} {v : Value} (hb : b.roundOf = some l) (hk : b.kind = .normal) (hx : exitTo id k = none) (hr : (Instr.endRound l (some (.exit id))).run Q w = .ok v w') :
    step Q (lone (Fr b tmps dd (.code (.exit id) :: k)) (c :: cs) w) = .next (lone (c.finish v) cs w') :=
  step_lone_go (by simp [stepG, stepG.exec, Fr, hb, hk, hx, Sem.runT_eq, hr, doReturn])

theorem run_yld (hm : Q.follows .mixedOrders = true) {tab : Nat → Option CF} {n : Nat} (hcall : CallOk Q (Rr := Rr) (run tab n)) {l : Nat} {args : List V} {s : S} {k : V → S → Option Rr} {r : Rr}
    (hr : run tab (n + 1) (.yld l) args s k = some r) {φ : Phi} {w : World} {args' : Array Value} (hs : Sim Q φ s w) {pl : Pl} (hpl : φ l = some pl) (ha : Rs φ args args'.toList) :
    ∃ v s' φ' val w', k v s' = some r ∧ Sim Q φ' s' w' ∧ R φ' v val ∧ Keep φ s w φ' s' w' ∧ DomN φ s φ' ∧
      ∃ nx fr, (Instr.yield pl.blk args').run Q w = .ok nx w ∧ Entered Q nx = some fr ∧ ∀ c cs, Steps Q (lone fr (c :: cs) w) (lone (c.finish val) cs w') := by
  simp only [run] at hr
  split at hr
  rotate_left
  · cases hr
  rename_i st pd E ps as bd hg
  obtain ⟨E1, hE1, hr1⟩ := optK_some hr
  clear hr
  obtain ⟨rr, N, hh, hRS, hRJ, hRE, rfl, hlt, rfl, rfl, hna, hnb, _⟩ := hs.loop hpl hg
  have hlen : args'.size = rr.params.size := by
    have h1 := setArgs_len hE1
    have h2 := ha.length
    simp at h1 h2
    omega
  have henv := setArgs_R _ _ _ _ _ _ hlt hE1 ha hRE
  have htm : (rr.params.zip args').foldl (fun tmps (t, a) => tmps.setIfInBounds t a) rr.tmps = (rr.params.toList.zip args'.toList).foldl (fun tmps (t, a) => tmps.setIfInBounds t a) rr.tmps := by
    rw [← Array.foldl_toList, Array.toList_zip]
  rw [← htm] at henv
  generalize htmps : (rr.params.zip args').foldl (fun tmps (t, a) => tmps.setIfInBounds t a) rr.tmps = tmps at henv
  -- the assignments
  obtain ⟨x, E2, s2, φ2, w2, tmps2, rs2, a1, a2, a3, a4, a5, a6, a7⟩ := code_ok hm hcall n rr.assign E1 s _ r hr1 φ w tmps rr.fn henv hs
  cases x with
  | ret => simp at a1
  | exit id => simp at a1
  | nrm =>
  simp only at a1
  split at a1
  rotate_left
  · cases a1
  rename_i pd' E' ps' as' bd' hg2
  have hpl2 := a4.ext _ _ hpl
  obtain ⟨r2, N2, hh2, hRS2, hRJ2, _, _, _, _, hbd2, _, _, hput2⟩ := a3.loop hpl2 hg2
  have hready : r2.state = .ready := by
    generalize r2.state = q at hRS2
    cases hRS2; rfl
  obtain ⟨hs3, hk3⟩ := hput2 1 pd' .busy r2.pending .busy hRJ2
  -- the body
  obtain ⟨y, E3, s4, φ4, w4, tmps4, rs4, b1, b2, b3, b4, b5, b6, b7⟩ := code_ok hm hcall n rr.body E2 _ _ r a1 φ2 _ tmps2 rr.fn a2 hs3
  simp only at b1
  split at b1
  rotate_left
  · cases b1
  rename_i st4 pd4 E4 ps4 as4 bd4 hg4
  obtain ⟨r4, N4, hh4, _, _, _, _, _, _, _, _, _, hput4⟩ := b3.loop (b4.ext _ _ hpl2) hg4
  let fb : Frame := Frame.round pl.blk rr.fn tmps rr.assign rr.body .normal
  have key : ∀ (jump : Option Code), RJ y jump → ∃ v s' φ' val w', k v s' = some r ∧ Sim Q φ' s' w' ∧ R φ' v val ∧ Keep φ s w φ' s' w' ∧ DomN φ s φ' ∧ val = .bool jump.isNone ∧ (Instr.endRound pl.blk jump).run Q w4 = .ok val w' := fun jump hj => by
    have hnone : jump.isNone = isNrm y := by cases hj <;> rfl
    obtain ⟨hs5, hk5⟩ := hput4 (bif isNrm y then 0 else 2) y (if jump.isNone then .ready else .done) jump (by rw [hnone]; cases isNrm y; exact .done; exact .ready) hj
    refine ⟨.b (isNrm y), _, φ4, .bool jump.isNone, _, b1, hs5, by rw [hnone]; exact .b _, ((a4.trans hk3).trans b4).trans hk5, (DomN.trans a5 a4.nx (DomN.refl _ _)).trans (a4.trans hk3).nx b5, rfl, run_endRound jump hh4⟩
  have start : ∀ c cs, ∃ k', At y k' [] ∧ Steps Q (lone fb (c :: cs) w) (lone (Fr fb tmps4 (rs4.map mkD ++ (rs2.map mkD ++ [])) k') (c :: cs) w4) := fun c cs => by
    have hfb : fb = Fr fb tmps [] [.code rr.assign, .beginRound, .code rr.body] := rfl
    obtain ⟨k1, hat1, hst1⟩ := a7 fb ⟨rfl, .inr hna⟩ [] [.beginRound, .code rr.body] (c :: cs)
    simp only [At] at hat1
    subst hat1
    obtain ⟨k2, hat2, hst2⟩ := b7 fb ⟨rfl, .inr hnb⟩ (rs2.map mkD ++ []) [] (c :: cs)
    refine ⟨k2, hat2, ?_⟩
    rw [hfb]
    exact hst1.trans (.head (st_beginRound (l := pl.blk) rfl (run_beginRound hh2 hready)) hst2)
  have hyield := run_yield (P := Q) hh hlen
  rw [htmps] at hyield
  cases y with
  | nrm =>
    obtain ⟨v, s', φ', val, w', c1, c2, c3, c4, c5, c6, c7⟩ := key none .nrm
    refine ⟨v, s', φ', val, w', c1, c2, c3, c4, c5, _, fb, hyield, rfl, fun c cs => ?_⟩
    obtain ⟨k', hat, hst⟩ := start c cs
    simp only [At] at hat
    subst hat
    exact hst.trans (.one (st_roundEnd rfl rfl c7))
  | ret =>
    obtain ⟨v, s', φ', val, w', c1, c2, c3, c4, c5, c6, c7⟩ := key (some .ret) .ret
    refine ⟨v, s', φ', val, w', c1, c2, c3, c4, c5, _, fb, hyield, rfl, fun c cs => ?_⟩
    obtain ⟨k', hat, hst⟩ := start c cs
    obtain ⟨k2, rfl⟩ := hat
    exact hst.trans (.one (st_roundRet rfl rfl c7))
  | exit id =>
    obtain ⟨v, s', φ', val, w', c1, c2, c3, c4, c5, c6, c7⟩ := key (some (.exit id)) (.exit id)
    refine ⟨v, s', φ', val, w', c1, c2, c3, c4, c5, _, fb, hyield, rfl, fun c cs => ?_⟩
    obtain ⟨k', hat, hst⟩ := start c cs
    obtain ⟨k2, rfl, hx⟩ := hat
    exact hst.trans (.one (st_roundExit rfl rfl (hx.trans rfl) c7))

theorem run_ok (hm : Q.follows .mixedOrders = true) {tab : Nat → Option CF} (htab : TabOk Q tab) : ∀ n, CallOk Q (Rr := Rr) (run tab n)
  | 0 => fun g args s k r hr => by cases g <;> simp [run] at hr
  | n + 1 => fun g args s k r hr φ w fn args' hs hf ha => by
    have ih := run_ok hm htab n
    cases hf with
    | fn g =>
      obtain ⟨v, s', φ', val, w', h1, h2, h3, h4, h5, h6, h7⟩ := run_fn hm htab ih hr hs ha
      refine ⟨v, s', φ', val, w', h1, h2, h3, h4, h5.toD, _, _, h6, rfl, fun c cs => ?_⟩
      obtain ⟨fr', q1, q2, q3⟩ := h7 (c :: cs)
      exact q1.trans (.one (step_leave_returned q3))
    | yld l pl hpl =>
      obtain ⟨v, s', φ', val, w', h1, h2, h3, h4, h5, nx, fr, h6, h7, h8⟩ := run_yld hm ih hr hs hpl ha
      exact ⟨v, s', φ', val, w', h1, h2, h3, h4, h5.toD, nx, fr, h6, h7, h8⟩

/- what the evaluator answers, the program's function answers -/
theorem run_calls (hm : Q.follows .mixedOrders = true) {tab : Nat → Option CF} (htab : TabOk Q tab) {n : Nat} {g : Nat} {args : List V} {s : S} {k : V → S → Option Rr} {r : Rr}
    (hr : run tab n (.fn g) args s k = some r) {φ : Phi} {w : World} {args' : Array Value} (hs : Sim Q φ s w) (ha : Rs φ args args'.toList) :
    ∃ v s' φ' val w', k v s' = some r ∧ Sim Q φ' s' w' ∧ R φ' v val ∧ Keep φ s w φ' s' w' ∧ Calls Q g args' w fun e w'' => e = .returned val ∧ w'' = w' := by
  cases n with
  | zero => simp [run] at hr
  | succ n =>
    obtain ⟨v, s', φ', val, w', h1, h2, h3, h4, h5, h6, h7⟩ := run_fn hm htab (run_ok hm htab n) hr hs ha
    refine ⟨v, s', φ', val, w', h1, h2, h3, h4, fun cs => ?_⟩
    obtain ⟨fr', q1, q2, q3⟩ := h7 cs
    exact ⟨.returned val, w', fr', ⟨rfl, rfl⟩, q1, q2, q3⟩

end
end Go.Ev
