/- Operations that enter a function, and lists of operations. -/
import Derived.Test.YthmccpflcpijnaaGreatWEvMach
namespace Go.Ev

def Entered (P : Program) : Next → Option Frame
  | .enter f args => some (Frame.enter P f args .normal)
  | .round l f ts x y => some (Frame.round l f ts x y .normal)
  | _ => none

/- how a function's value is entered -/
def enters (Q : Program) (fn : Fn) (args : Array Value) (w : World) : Result Next :=
  match fn with
  | .func f => (callFunc f args).run Q w
  | .yield l => (Instr.yield l args).run Q w
  | _ => .halt .blocked w

def CallOk (Q : Program) {Rr : Type} (call : FV → List V → S → (V → S → Option Rr) → Option Rr) : Prop :=
  ∀ g args s k r, call g args s k = some r → ∀ (φ : Phi) (w : World) (fn : Fn) (args' : Array Value), Sim Q φ s w → RF φ g fn → Rs φ args args'.toList →
  ∃ v s' φ' val w', k v s' = some r ∧ Sim Q φ' s' w' ∧ R φ' v val ∧ Keep φ s w φ' s' w' ∧ Dom none φ s φ' ∧
    ∃ nx fr, enters Q fn args' w = .ok nx w ∧ Entered Q nx = some fr ∧ ∀ c cs, Steps Q (lone fr (c :: cs) w) (lone (c.finish val) cs w')

def isNew : O → Bool
  | .box _ | .bsl .. | .mkM | .mkS .. | .s2b _ => true
  | _ => false

section
variable {Q : Program} {φ : Phi} {s : S} {w : World} {N : Nat} {E : Env} {tmps : Array Value} {sl : Option Nat} {Rr : Type}
  {call : FV → List V → S → (V → S → Option Rr) → Option Rr} {K : V → S → Option Rr} {r : Rr}

/- an operation is done -/
def Good2 (Q : Program) (φ : Phi) (s : S) (w : World) (tmps : Array Value) (sl : Option Nat) (K : V → S → Option Rr) (r : Rr) (o : Oper) : Prop :=
  ∃ v s' φ' val w', K v s' = some r ∧ Sim Q φ' s' w' ∧ R φ' v val ∧ Keep φ s w φ' s' w' ∧ Dom sl φ s φ' ∧
    ∀ (b : Frame) (tm : Array Value) (ds : List Deferred) (ops : Array Oper) (i : Nat) (rest : List Nat) (kk : List Item) (cs : List Frame), ops[i]? = some o → execOp (opv tm) o = execOp (opv tmps) o → Region.wanted o (yielded ops tm) = true →
      Steps Q (lone (Fr b tm ds (.inRegion ops (i :: rest) :: kk)) cs w) (lone (Fr b (putA tm o.dst val) ds (.inRegion ops rest :: kk)) cs w')

theorem Good2.of_one {o : Oper} (hnd : ∀ c, o.op ≠ .defer c) (h : Good1 Q φ s w tmps sl K r o) : Good2 Q φ s w tmps sl K r o := by
  obtain ⟨v, s', hk, φ', u, w', hres, h1, h2, h3, h4⟩ := h
  refine ⟨v, s', φ', u, w', hk, h1, h2, h3, h4, fun b tm ds ops i rest kk cs ho he hw => ?_⟩
  rw [← he] at hres
  rcases hres with hres | ⟨hres, rfl⟩
  · exact .one (st_value ho hw hnd hres)
  · exact .one (st_skipped ho hw hnd hres)

theorem Good2.of_enter {o : Oper} (hnd : ∀ c, o.op ≠ .defer c) {v : V} {s' : S} {φ' : Phi} {val : Value} {w' : World} (hk : K v s' = some r) (h1 : Sim Q φ' s' w') (h2 : R φ' v val) (h3 : Keep φ s w φ' s' w') (h4 : Dom sl φ s φ')
    {nx : Next} {fr : Frame} (hrun : (execOp (opv tmps) o).run Q w = .ok nx w) (hfr : Entered Q nx = some fr) (hst : ∀ c cs, Steps Q (lone fr (c :: cs) w) (lone (c.finish val) cs w')) : Good2 Q φ s w tmps sl K r o := by
  refine ⟨v, s', φ', val, w', hk, h1, h2, h3, h4, fun b tm ds ops i rest kk cs ho he hw => ?_⟩
  rw [← he] at hrun
  rw [← Fr_finish (b := b) (tmps := tm) (ds := ds) (k := kk) ops i rest val ho]
  cases nx <;> simp only [Entered, reduceCtorEq, Option.some.injEq] at hfr
  · subst hfr
    exact .head (st_enter ho hw hnd hrun) (hst _ _)
  · subst hfr
    exact .head (st_round ho hw hnd hrun) (hst _ _)

theorem Dom.weak {φ' : Phi} (h : Dom none φ s φ') (sl : Option Nat) : Dom sl φ s φ' := fun b hb hn _ => h b hb hn (by simp)

theorem ok_callK (hcall : CallOk Q call) (c : Cx Q φ s w N E tmps sl) (o : Oper) {cl : Call} (ho : o.op = .call cl) {f : Operand} (hcl : cl.callee = .value f) {x : X} {xs : List X} (hx : cX f = some x) (hxs : cXs cl.args.toList = some xs)
    (hr : callK call (E.val x) (E.vals xs) s K = some r) : Good2 Q φ s w tmps sl K r o := by
  have hnd : ∀ c, o.op ≠ .defer c := by rw [ho]; simp
  have hR := cX_R c.env hx
  have hA := cXs_R c.env hxs
  rw [← Array.toList_map] at hA
  have hexec : ∀ fn first cap, opv tmps f = .func fn first cap → (execOp (opv tmps) o).run Q w = (invoke (.fn fn cap) (first ++ cl.args.map (opv tmps))).run Q w := by
    intro fn first cap hf
    simp [execOp, ho, resolve, hcl, hf, Deferred.ofValue]
  unfold callK at hr
  split at hr
  · rename_i g first cap hv
    rw [hv] at hR
    cases hf : opv tmps f <;> rw [hf] at hR <;> cases hR
    rename_i fn fs cs hRF hfs hcs
    cases hRF
    obtain ⟨v, s', φ', val, w', k1, k2, k3, k4, k5, nx, fr, k6, k7, k8⟩ := hcall _ _ _ _ _ hr φ w (.func g) (fs ++ cl.args.map (opv tmps) ++ cs) c.sim (.fn g) (by simpa using (hfs.append hA).append hcs)
    refine Good2.of_enter hnd k1 k2 k3 k4 (k5.weak sl) ?_ k7 k8
    rw [hexec _ _ _ hf]; exact k6
  · rename_i l first hv
    rw [hv] at hR
    cases hf : opv tmps f <;> rw [hf] at hR <;> cases hR
    rename_i fn fs cs hRF hfs hcs
    cases hRF
    rename_i pl hpl
    obtain ⟨v, s', φ', val, w', k1, k2, k3, k4, k5, nx, fr, k6, k7, k8⟩ := hcall _ _ _ _ _ hr φ w (.yield pl.blk) (fs ++ cl.args.map (opv tmps)) c.sim (.yld l pl hpl) (by simpa using hfs.append hA)
    refine Good2.of_enter hnd k1 k2 k3 k4 (k5.weak sl) ?_ k7 k8
    rw [hexec _ _ _ hf]; exact k6
  · cases hr

theorem lookT_mem {t g : Nat} : ∀ {l : List (Nat × Nat)}, lookT t l = some g → (t, g) ∈ l
  | [], h => by simp [lookT] at h
  | (u, f) :: l, h => by
    simp only [lookT] at h
    cases e : Nat.beq t u with
    | true =>
      rw [e, cond_true] at h
      cases h
      rw [Nat.eq_of_beq_eq_true e]; simp
    | false =>
      rw [e, cond_false] at h
      exact List.mem_cons_of_mem _ (lookT_mem h)

theorem invTbl_inv {name : String} {t g : Nat} (h : lookT t (invTbl Q name) = some g) :
    ∃ i m e, Q.info? t = some i ∧ i.methods.find? (·.name == name) = some m ∧ m.func = some (g, true) ∧ m.path = #[] ∧ Q.underlying t = some (.pointer e) := by
  have hm := lookT_mem h
  unfold invTbl at hm
  rw [List.mem_filterMap] at hm
  obtain ⟨u, hu, hm⟩ := hm
  split at hm
  · rename_i i hi
    split at hm
    · rename_i m hmf
      split at hm
      · rename_i g' hg
        split at hm
        · rename_i hp
          split at hm
          · rename_i e he
            simp only [Option.some.injEq, Prod.mk.injEq] at hm
            obtain ⟨rfl, rfl⟩ := hm
            have hlt : u < Q.types.size := by simpa using hu
            refine ⟨i, m, e, ?_, hmf, hg, by simpa using hp, he⟩
            unfold Tables.info?
            rw [if_pos hlt]; exact hi
          · cases hm
        · cases hm
      · cases hm
    · cases hm
  · cases hm

theorem ok_invoke (hcall : CallOk Q call) (c : Cx Q φ s w N E tmps sl) (o : Oper) {cl : Call} (ho : o.op = .call cl) {f : Operand} {name : String} (hcl : cl.callee = .invoke f name) {x : X} {xs : List X} (hx : cX f = some x) (hxs : cXs cl.args.toList = some xs)
    (hr : evO call sl (.inv (invTbl Q name) x xs) E s K = some r) : Good2 Q φ s w tmps sl K r o := by
  have hnd : ∀ c, o.op ≠ .defer c := by rw [ho]; simp
  have hR := cX_R c.env hx
  have hA := cXs_R c.env hxs
  rw [← Array.toList_map] at hA
  simp only [evO] at hr
  split at hr
  · rename_i t v hv
    rw [hv] at hR
    obtain ⟨g, hg, hr⟩ := optK_some hr
    cases hf : opv tmps f <;> rw [hf] at hR <;> cases hR
    rename_i u hu
    obtain ⟨i, m, e, h1, h2, h3, h4, h5⟩ := invTbl_inv hg
    obtain ⟨v', s', φ', val, w', k1, k2, k3, k4, k5, nx, fr, k6, k7, k8⟩ := hcall _ _ _ _ _ hr φ w (.func g) (#[u] ++ cl.args.map (opv tmps)) c.sim (.fn g) (by simpa using Rs.cons _ _ _ _ hu hA)
    refine Good2.of_enter hnd k1 k2 k3 k4 (k5.weak sl) ?_ k7 k8
    have hmeth : (method (Q.types.size + Made.depth) t u name).run Q w = .ok (g, u) w := by
      have : Q.types.size + Made.depth = (Q.types.size + 99) + 1 := by unfold Made.depth; omega
      rw [this]
      generalize Q.types.size + 99 = n
      unfold method
      simp only [Sem.run_bind, run_info h1, Result.andThen_ok, h2, h3, h4]
      simp [follow, receiverAt, run_und h5, Place.get]
    have hex : ((#[opv tmps f] ++ cl.args.map (opv tmps)).extract 1 (#[opv tmps f] ++ cl.args.map (opv tmps)).size) = cl.args.map (opv tmps) := by
      apply Array.ext'
      simp
      rw [List.take_of_length_le (by simp)]
    have h0 : (#[opv tmps f] ++ cl.args.map (opv tmps))[0]? = some (.iface t u) := by
      rw [Array.getElem?_append_left (by simp)]; simp [hf]
    have : (execOp (opv tmps) o).run Q w = (callFunc g (#[u] ++ cl.args.map (opv tmps))).run Q w := by
      simp only [execOp, ho, resolve, hcl, Sem.run_bind, Sem.run_pure, Result.andThen_ok, invoke, h0, hex, callMethod, run_program, hmeth]
    rw [this]; exact k6
  · cases hr

theorem builtin_notNew {b : Builtin} {ts : Array TypeId} {args : Array Operand} {co : O} (h : cBuiltin Q b ts args = some co) : isNew co = false := by
  unfold cBuiltin at h
  repeat' split at h
  all_goals first
    | cases h
    | skip
  all_goals first
    | rfl
    | skip

/- each operation of the evaluator stands for the model's -/
theorem op_any (hcall : CallOk Q call) (o : Oper) {co : O} (hc : cOp? Q o.op = some co) (hsl : isNew co = false → sl = none) (c : Cx Q φ s w N E tmps sl) (hr : evO call sl co E s K = some r) : Good2 Q φ s w tmps sl K r o := by
  have hnd : ∀ c, o.op ≠ .defer c := by
    intro c h
    rw [h] at hc; simp [cOp?] at hc
  have plain : Plain Q o → Good2 Q φ s w tmps sl K r o := fun hp => Good2.of_one hnd (op_plain o hc hp (fun cl b ho hb => by
    rw [ho] at hc
    have hc' : cCall Q cl = some co := hc
    have hb' : cBuiltin Q b cl.argTypes cl.args = some co := by simpa [cCall, hb] using hc'
    exact hsl (builtin_notNew hb')) c hr)
  cases ho : o.op with
  | call cl =>
    rw [ho] at hc
    have hc' : cCall Q cl = some co := hc
    cases hcl : cl.callee with
    | builtin b => exact plain (by simp [Plain, ho, hcl])
    | value f =>
      unfold cCall at hc'
      rw [hcl] at hc'
      cases f with
      | func g =>
        simp only at hc'
        split at hc'
        · rename_i fn hf
          split at hc'
          · obtain ⟨xs, hxs, rfl⟩ := optMap hc'
            exact ok_callK hcall c o ho hcl (x := .c (.f (.fn g) [] [])) rfl hxs hr
          · rename_i hb
            exact plain (by simpa [Plain, ho, hcl] using ⟨fn, hf, by simpa using hb⟩)
        · cases hc'
      | _ =>
        simp only at hc'
        split at hc'
        · rename_i x xs hx hxs
          cases hc'
          exact ok_callK hcall c o ho hcl hx hxs hr
        · cases hc'
    | invoke f name =>
      unfold cCall at hc'
      rw [hcl] at hc'
      simp only at hc'
      split at hc'
      · rename_i x xs hx hxs
        cases hc'
        exact ok_invoke hcall c o ho hcl hx hxs hr
      · cases hc'
  | _ => exact plain (by simp [Plain, ho])

end
end Go.Ev
