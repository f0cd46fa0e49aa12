/- Code: loops over functions, and code of any form. -/
import Derived.Test.YthmccpflcpijnaaGreatWEvCode
namespace Go.Ev

section
variable {Q : Program} {Rr : Type} {call : FV → List V → S → (V → S → Option Rr) → Option Rr} {N : Nat}

/- a block that the evaluator does not know -/
theorem Sim.alloc {φ : Phi} {s : S} {w : World} (k : Sim Q φ s w) (o : Go.Obj) : Sim Q φ s (w.alloc o) ∧ Keep φ s w φ s (w.alloc o) := by
  refine ⟨⟨fun b pl ob hb hg => (k.obj b pl ob hb hg).mono (Ext.refl φ) (push_get _ _ _ (k.inh b pl hb)), k.lt, fun b pl hb => ?_, k.dis⟩, Ext.refl φ, Nat.le_refl _, rfl, rfl, rfl, ?_, fun B hB hno => ⟨push_get _ _ _ hB, hno⟩⟩
  · have := k.inh b pl hb
    show pl.blk < (w.heap.push o).size
    rw [Array.size_push]; omega
  · show w.heap.size ≤ (w.heap.push o).size
    rw [Array.size_push]; omega

theorem st_rangeFunc {b : Frame} (hb : b.roundOf = none) {tmps : Array Value} {dd : List Deferred} {k : List Item} {cs : List Frame} {w : World} {f : Operand} {ps : Array Tmp} {as bd : Code} {fn : Fn} {first cap : Array Value}
    (hf : opv tmps f = .func fn first cap) {nx : Next} {fr : Frame}
    {w1 : World} (hw1 : w1 = (w.alloc (.deferred (some []))).alloc (.loop { state := .ready, pending := none, fn := b.fn, tmps, params := ps, assign := as, body := bd, defers := w.heap.size }))
    (hr : (invoke (.fn fn cap) (first ++ #[.func (.yield (w.heap.size + 1)) #[] #[]])).run Q w1 = .ok nx w1) (hfr : Entered Q nx = some fr) :
    step Q (lone (Fr b tmps dd (.code (.rangeFunc f ps as bd) :: k)) cs w) = .next (lone fr (Fr b tmps (mkD w.heap.size :: dd) (.inRangeFunc (w.heap.size + 1) :: k) :: cs) w1) := by
  subst hw1
  have he : ∀ x, Frame.eval (Fr b tmps (mkD w.heap.size :: dd) (.inRangeFunc (w.heap.size + 1) :: k)) x = opv tmps x := congrFun (Fr_eval _ _ _ _)
  simp only [Fr, hb, mkD] at he
  cases nx <;> simp only [Entered, reduceCtorEq, Option.some.injEq] at hfr
  all_goals
    subst hfr
    refine step_lone_go ?_
    simp only [stepG, stepG.exec, Fr, hb, Sem.runT_eq, run_enterLoop_outer, GStep.bare_after, stepG.apply, if_true, resolve, Sem.run_bind, List.singleton_append]
    have hc : ∀ v, opv tmps (.const v) = v := fun _ => rfl
    simp only [he, hf]
    simp only [List.map_toArray, List.map_cons, List.map_nil, he, hc, Deferred.ofValue, Sem.run_pure, Result.andThen_ok, hr]
    rfl

theorem st_endRange {b : Frame} {tmps : Array Value} {dd : List Deferred} {k : List Item} {cs : List Frame} {w w' : World} {l : Nat} {jump : Option Code} (hr : (Instr.endLoop l).run Q w = .ok jump w') :
    step Q (lone (Fr b tmps dd (.endRangeFunc l :: k)) cs w) = .next (lone (Fr b tmps dd ((jump.map Item.code).toList ++ k)) cs w') :=
  step_lone_go (by simp [stepG, stepG.exec, Fr, Sem.runT_eq, hr])

/- the record of a loop over a function -/
theorem Sim.loop {φ : Phi} {s : S} {w : World} (k : Sim Q φ s w) {b : Nat} {pl : Pl} (hb : φ b = some pl) {st : Nat} {pd : J} {E : Env} {ps : List P} {as bd : C} (hg : s.get b = some (.loop st pd E ps as bd)) :
    ∃ (r : Loop) (N : Nat), w.heap[pl.blk]? = some (.loop r) ∧ RS st r.state ∧ RJ pd r.pending ∧ EnvR φ N E r.tmps ∧ ps = r.params.toList.map P.of ∧ (∀ t ∈ r.params.toList, t < N) ∧ as = cC Q N r.assign ∧ bd = cC Q N r.body ∧
      noRange r.assign = true ∧ noRange r.body = true ∧
      ∀ (st' : Nat) (pd' : J) (st1 : LoopState) (pd1 : Option Code), RS st' st1 → RJ pd' pd1 → Sim Q φ (s.put b (.loop st' pd' E ps as bd)) (w.putObj pl.blk (.loop { r with state := st1, pending := pd1 })) ∧
        Keep φ s w φ (s.put b (.loop st' pd' E ps as bd)) (w.putObj pl.blk (.loop { r with state := st1, pending := pd1 })) := by
  have hro := k.obj b pl _ hb hg
  simp only [RO] at hro
  obtain ⟨r, N, h1, h2, h3, h4, h5, h6, h7, h8, h9, h10, h11, h12⟩ := hro
  refine ⟨r, N, h1, h4, h5, h6, h7, h8, h9, h10, h11, h12, fun st' pd' st1 pd1 hs hj => ?_⟩
  refine k.upd hb hg rfl ?_ ?_
  · refine ⟨{ r with state := st1, pending := pd1 }, N, set_get_same _ _ _ (k.inh b pl hb), h2, h3, hs, hj, h6, h7, h8, h9, h10, h11, h12⟩
  · intro pl' q hB hd hl hq
    cases q with
    | cells l rw => obtain ⟨cs, el, fr, g1, _⟩ := hq; rw [hB, h1] at g1; cases g1
    | map es => obtain ⟨mes, clock, g1, _⟩ := hq; rw [hB, h1] at g1; cases g1
    | loop a b c d e f =>
      obtain ⟨r', N', g1, g2, g3, _⟩ := hq
      rcases hd with h | h | h
      · exact absurd hB.symm h
      · omega
      · omega
    | dead => simp [live] at hl

theorem Own.notNew {φ : Phi} {s : S} {w : World} (k : Sim Q φ s w) : ¬ Own φ s w.heap.size := by
  rintro ⟨b, pl, o, h1, _, _, h4⟩
  have := k.inh b pl h1
  omega

theorem code_rangeFunc (hcall : CallOk Q call) {it : (Env → S → (J → Env → S → Option Rr) → Option Rr) → Env → S → (J → Env → S → Option Rr) → Option Rr} {f : Operand} {ps : Array Tmp} {as bd : Code} :
    CodeOk Q N call it (.rangeFunc f ps as bd) := by
  intro E s K r hr φ w tmps fid he hs
  simp only [cC] at hr
  split at hr
  rotate_left
  · simp [evC] at hr
  rename_i x hx
  split at hr
  rotate_left
  · simp [evC] at hr
  rename_i hcond
  simp only [Bool.and_eq_true, List.all_eq_true, decide_eq_true_eq] at hcond
  obtain ⟨⟨hna, hnb⟩, hps⟩ := hcond
  simp only [evC, newK, S.newAt] at hr
  -- the two blocks
  obtain ⟨ha1, ha2⟩ := hs.alloc (.deferred (some []))
  have hsz : (w.alloc (.deferred (some []))).heap.size = w.heap.size + 1 := by simp
  have hm0 : Marks w φ s (w.alloc (.deferred (some []))) [w.heap.size] := ⟨by simp, fun rr hrr => by
    simp at hrr; subst hrr
    exact ⟨Nat.le_refl _, by omega, World.alloc_heap_new _ _, Own.notNew hs⟩⟩
  obtain ⟨hn1, hn2⟩ := ha1.new none (fun b hb => by cases hb) ha1.nx_none (o := .loop 0 .nrm E (ps.toList.map P.of) (cC Q N as) (cC Q N bd))
    (o' := .loop { state := .ready, pending := none, fn := fid, tmps, params := ps, assign := as, body := bd, defers := w.heap.size }) (fin := 1) (by
      refine ⟨{ state := .ready, pending := none, fn := fid, tmps, params := ps, assign := as, body := bd, defers := w.heap.size }, N, ?_, rfl, rfl, .ready, .nrm, he.mono (Phi.ext_set ha1.nx_none), rfl, hps, rfl, rfl, hna, hnb⟩
      exact World.alloc_heap_new (w.alloc (.deferred (some []))) _)
  simp only [S.newAt] at hn1 hn2
  rw [hsz] at hn1 hn2
  generalize hφ1 : φ.set s.nx ⟨w.heap.size + 1, 0, 1⟩ = φ1 at hn1 hn2
  generalize hs1 : s.new none (.loop 0 .nrm E (ps.toList.map P.of) (cC Q N as) (cC Q N bd)) = s1 at hn1 hn2 hr
  generalize hw1 : (w.alloc (.deferred (some []))).alloc (.loop { state := .ready, pending := none, fn := fid, tmps, params := ps, assign := as, body := bd, defers := w.heap.size }) = w1 at hn1 hn2
  have hpl : φ1 s.nx = some ⟨w.heap.size + 1, 0, 1⟩ := by rw [← hφ1]; exact Phi.set_self
  have hdom1 : DomN φ s φ1 := fun b hb h => by
    rw [← hφ1]
    unfold Phi.set
    rw [if_neg (by omega)]
    exact h
  have hyv : R φ1 (.f (.yld s.nx) [] []) (.func (.yield (w.heap.size + 1)) #[] #[]) := .f _ _ _ _ _ _ (.yld s.nx ⟨w.heap.size + 1, 0, 1⟩ hpl) .nil .nil
  have hk1 : Keep φ s w φ1 s1 w1 := ha2.trans hn2
  have hR := (cX_R he hx).mono hk1.ext
  -- the call
  obtain ⟨fn, first, cap, nx, fr, v, s2, φ2, val, w2, hfn, hinv, hfr, hk, hs2, hkp2, hdm2, hst⟩ : ∃ fn first cap nx fr v s2 φ2 val w2, opv tmps f = .func fn first cap ∧ (invoke (.fn fn cap) (first ++ #[.func (.yield (w.heap.size + 1)) #[] #[]])).run Q w1 = .ok nx w1 ∧ Entered Q nx = some fr ∧
      (match s2.get s.nx with
        | some (.loop st pd E' ps' as' bd') => bif Nat.beq st 1 then none else K pd E (s2.put s.nx (.loop 3 pd E' ps' as' bd'))
        | _ => none) = some r ∧ Sim Q φ2 s2 w2 ∧ Keep φ1 s1 w1 φ2 s2 w2 ∧ Dom none φ1 s1 φ2 ∧ ∀ c cs, Steps Q (lone fr (c :: cs) w1) (lone (c.finish val) cs w2) := by
    unfold callK at hr
    split at hr
    · rename_i g first cap hv
      rw [hv] at hR
      cases hf : opv tmps f <;> rw [hf] at hR <;> cases hR
      rename_i fn fs cs hRF hfs hcs
      cases hRF
      obtain ⟨v, s2, φ2, val, w2, k1, k2, k3, k4, k5, nx, fr, k6, k7, k8⟩ := hcall _ _ _ _ _ hr φ1 w1 (.func g) (fs ++ #[.func (.yield (w.heap.size + 1)) #[] #[]] ++ cs) hn1 (.fn g) (by simpa using hfs.append (Rs.cons _ _ _ _ hyv hcs))
      exact ⟨_, _, _, nx, fr, v, s2, φ2, val, w2, rfl, k6, k7, k1, k2, k4, k5, k8⟩
    · rename_i l first hv
      rw [hv] at hR
      cases hf : opv tmps f <;> rw [hf] at hR <;> cases hR
      rename_i fn fs cs hRF hfs hcs
      cases hRF
      rename_i pl hpl'
      obtain ⟨v, s2, φ2, val, w2, k1, k2, k3, k4, k5, nx, fr, k6, k7, k8⟩ := hcall _ _ _ _ _ hr φ1 w1 (.yield pl.blk) (fs ++ #[.func (.yield (w.heap.size + 1)) #[] #[]]) hn1 (.yld l pl hpl') (by simpa using hfs.append (Rs.cons _ _ _ _ hyv .nil))
      exact ⟨_, _, _, nx, fr, v, s2, φ2, val, w2, rfl, k6, k7, k1, k2, k4, k5, k8⟩
    · cases hr
  split at hk
  rotate_left
  · cases hk
  rename_i st pd E' ps' as' bd' hg
  obtain ⟨rr, N', hh, hRS, hRJ, _, _, _, _, _, _, _, hput⟩ := hs2.loop (hkp2.ext _ _ hpl) hg
  cases hb : Nat.beq st 1 with
  | true => rw [hb, cond_true] at hk; cases hk
  | false =>
    rw [hb, cond_false] at hk
    have hnb : rr.state ≠ .busy := fun e => by
      rw [e] at hRS
      cases hRS
      simp [Nat.beq] at hb
    obtain ⟨hs3, hk3⟩ := hput 3 pd .exhausted rr.pending .exhausted hRJ
    refine ⟨pd, E, _, φ2, _, tmps, [w.heap.size], hk, he.mono (hk1.trans hkp2).ext, hs3, (hk1.trans hkp2).trans hk3, hdom1.trans hk1.nx hdm2.toN, ((hm0.keep hn2).keep hkp2).keep hk3, fun b hbk dd kk cs => ?_⟩
    have hro : b.roundOf = none := hbk.2.resolve_right (by simp [noRange])
    have hstep1 : step Q (lone (Fr b tmps dd (.code (.rangeFunc f ps as bd) :: kk)) cs w) = .next (lone fr (Fr b tmps (mkD w.heap.size :: dd) (.inRangeFunc (w.heap.size + 1) :: kk) :: cs) w1) :=
      st_rangeFunc hro hfn (by rw [hbk.1]; exact hw1.symm) hinv hfr
    have hstep2 := hst (Fr b tmps (mkD w.heap.size :: dd) (.inRangeFunc (w.heap.size + 1) :: kk)) cs
    have hfin : (Fr b tmps (mkD w.heap.size :: dd) (.inRangeFunc (w.heap.size + 1) :: kk)).finish val = Fr b tmps (mkD w.heap.size :: dd) (.endRangeFunc (w.heap.size + 1) :: kk) := rfl
    rw [hfin] at hstep2
    have hstep3 := st_endRange (Q := Q) (b := b) (tmps := tmps) (dd := mkD w.heap.size :: dd) (k := kk) (cs := cs) (run_endLoop (P := Q) hh hnb)
    refine ⟨(rr.pending.map Item.code).toList ++ kk, ?_, .head hstep1 (hstep2.trans (.one hstep3))⟩
    cases pd <;> cases hp : rr.pending <;> rw [hp] at hRJ <;> cases hRJ
    · rfl
    · exact ⟨kk, rfl⟩
    · exact ⟨kk, rfl, rfl⟩

theorem code_ok (hm : Q.follows .mixedOrders = true) (hcall : CallOk Q call) (n : Nat) : ∀ c : Code, CodeOk Q N call (iter n) c := by
  intro c
  induction c with
  | skip =>
    intro E s K r hr φ w tmps fid he hs
    exact Lands.here he hs hr fun b _ dd kk cs => ⟨kk, rfl, .one st_skip⟩
  | label l =>
    intro E s K r hr φ w tmps fid he hs
    exact Lands.here he hs hr fun b _ dd kk cs => ⟨kk, rfl, .one st_label⟩
  | region id ops d => exact code_region hm hcall
  | seq a b ha hb => exact code_seq ha hb
  | cond x a b ha hb =>
    intro E s K r hr φ w tmps fid he hs
    simp only [cC] at hr
    split at hr
    rotate_left
    · simp [evC] at hr
    rename_i y hy
    simp only [evC] at hr
    have hR := cX_R he hy
    split at hr
    · rename_i t hv
      rw [hv] at hR
      cases hf : opv tmps x <;> rw [hf] at hR <;> cases hR
      cases t with
      | true =>
        rw [cond_true] at hr
        obtain ⟨x', E1, s1, φ1, w1, tmps1, rs1, q1, q2, q3, q4, q5, q6, q7⟩ := ha E s K r hr φ w tmps fid he hs
        refine ⟨x', E1, s1, φ1, w1, tmps1, rs1, q1, q2, q3, q4, q5, q6, fun b hb dd kk cs => ?_⟩
        obtain ⟨k2, u1, u2⟩ := q7 b (hb.imp_right fun h => h.imp_right fun h => by simp [noRange] at h; exact h.1) dd kk cs
        exact ⟨k2, u1, .head (by rw [st_cond hf]; rfl) u2⟩
      | false =>
        rw [cond_false] at hr
        obtain ⟨x', E1, s1, φ1, w1, tmps1, rs1, q1, q2, q3, q4, q5, q6, q7⟩ := hb E s K r hr φ w tmps fid he hs
        refine ⟨x', E1, s1, φ1, w1, tmps1, rs1, q1, q2, q3, q4, q5, q6, fun b hb dd kk cs => ?_⟩
        obtain ⟨k2, u1, u2⟩ := q7 b (hb.imp_right fun h => h.imp_right fun h => by simp [noRange] at h; exact h.2) dd kk cs
        exact ⟨k2, u1, .head (by rw [st_cond hf]; rfl) u2⟩
    · cases hr
  | block id a ha => exact code_block ha
  | loop a ha => exact code_loop ha
  | rangeFunc f ps as bd _ _ => exact code_rangeFunc hcall
  | exit id =>
    intro E s K r hr φ w tmps fid he hs
    exact Lands.here he hs hr fun b _ dd kk cs => ⟨.code (.exit id) :: kk, ⟨kk, rfl, rfl⟩, .refl _ _⟩
  | scope a ha =>
    intro E s K r hr φ w tmps fid he hs
    simp only [cC] at hr
    have h := ha E s K r hr φ w tmps fid he hs
    refine Lands.head (φ1 := φ) (s1 := s) (w1 := w) (tmps1 := tmps) (st1 := fun kk => .code a :: .inScope a :: kk) ?_ (Keep.refl _ _ _) (DomN.refl _ _) fun fr _ dd kk cs => .one st_scope
    refine Lands.then (st := fun kk => .code a :: kk) (st1 := fun kk => .inScope a :: kk) h (fun fr hf => hf.imp_right fun h => h.imp_right fun h => by simpa [noRange] using h) ?_
    intro x E' s' φ' w' tmps' hK he' hs'
    cases x with
    | nrm =>
      refine ⟨.nrm, E', s', φ', w', tmps', [], hK, he', hs', Keep.refl _ _ _, DomN.refl _ _, Marks.nil, fun fr hf dd k' kk cs hat => ⟨kk, rfl, ?_⟩⟩
      simp only [At] at hat
      subst hat
      exact .one st_inScope
    | ret =>
      exact ⟨.ret, E', s', φ', w', tmps', [], hK, he', hs', Keep.refl _ _ _, DomN.refl _ _, Marks.nil, fun fr hf dd k' kk cs hat => ⟨k', hat, .refl _ _⟩⟩
    | exit j =>
      refine ⟨.exit j, E', s', φ', w', tmps', [], hK, he', hs', Keep.refl _ _ _, DomN.refl _ _, Marks.nil, fun fr hf dd k' kk cs hat => ⟨k', ?_, .refl _ _⟩⟩
      obtain ⟨k2, h1, h2⟩ := hat
      exact ⟨k2, h1, h2.trans (by simp [exitTo])⟩
  | ret =>
    intro E s K r hr φ w tmps fid he hs
    exact Lands.here he hs hr fun b _ dd kk cs => ⟨.code .ret :: kk, ⟨kk, rfl⟩, .refl _ _⟩
  | goto l =>
    intro E s K r hr
    simp [cC, evC] at hr
  | refuse w =>
    intro E s K r hr
    simp [cC, evC] at hr

end
end Go.Ev
