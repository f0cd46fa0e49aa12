/- Each operation of the evaluator that enters no function stands for the model's (seventh part: the other builtins, and all together). -/
import Derived.Test.YthmccpflcpijnaaGreatWEvOp6
namespace Go.Ev
section
variable {Q : Program} {φ : Phi} {s : S} {w : World} {N : Nat} {E : Env} {tmps : Array Value} {sl : Option Nat} {Rr : Type}
  {call : FV → List V → S → (V → S → Option Rr) → Option Rr} {K : V → S → Option Rr} {r : Rr}

theorem cXs_two {l : List Operand} {x y : X} (h : cXs l = some [x, y]) : ∃ a b, l = [a, b] ∧ cX a = some x ∧ cX b = some y := by
  match l, h with
  | [], h => simp [cXs] at h
  | [a], h =>
    simp only [cXs] at h
    split at h
    · rename_i h1 h2; cases h2; cases h
    · cases h
  | [a, b], h =>
    simp only [cXs] at h
    split at h
    · rename_i x' r' h1 h2
      cases h
      split at h2
      · rename_i y' r2 h3 h4
        cases h4; cases h2
        exact ⟨a, b, rfl, h1, h3⟩
      · cases h2
    · cases h
  | a :: b :: d :: l, h =>
    exfalso
    simp only [cXs] at h
    split at h
    · rename_i x' r' h1 h2
      cases h
      split at h2
      · rename_i y' r2 h3 h4
        split at h4
        · cases h4; cases h2
        · cases h4
      · cases h2
    · cases h

theorem cXs_one {l : List Operand} {x : X} (h : cXs l = some [x]) : ∃ a, l = [a] ∧ cX a = some x := by
  match l, h with
  | [], h => simp [cXs] at h
  | [a], h =>
    simp only [cXs] at h
    split at h
    · rename_i h1 h2; cases h2; cases h; exact ⟨a, rfl, by assumption⟩
    · cases h
  | a :: b :: l, h =>
    exfalso
    simp only [cXs] at h
    split at h
    · rename_i x' r' h1 h2
      cases h
      split at h2
      · cases h2
      · cases h2
    · cases h

theorem cXs_three {l : List Operand} {x y z : X} (h : cXs l = some [x, y, z]) : ∃ a b d, l = [a, b, d] ∧ cX a = some x ∧ cX b = some y ∧ cX d = some z := by
  cases l with
  | nil => simp [cXs] at h
  | cons a l =>
    simp only [cXs] at h
    split at h
    · rename_i x' r' h1 h2
      cases h
      obtain ⟨b, d, rfl, h3, h4⟩ := cXs_two h2
      exact ⟨a, b, d, rfl, h1, h3, h4⟩
    · cases h

theorem arr_two {xs : Array Operand} {a b : Operand} (h : xs.toList = [a, b]) : xs = #[a, b] := by
  apply Array.ext'; rw [h]
theorem arr_one {xs : Array Operand} {a : Operand} (h : xs.toList = [a]) : xs = #[a] := by
  apply Array.ext'; rw [h]

theorem exec_bi (o : Oper) {cl : Call} {b : Builtin} (ho : o.op = .call cl) (hcl : cl.callee = .builtin b) (tmps : Array Value) (w : World) :
    ∃ cs, (execOp (opv tmps) o).run Q w = (builtin b cl.argTypes o.type cs (cl.args.map (opv tmps))).run Q w := by
  simp only [execOp, ho, resolve, hcl, invoke, Sem.run_bind, Sem.run_pure, Result.andThen_ok]
  exact ⟨_, rfl⟩

theorem delE_run {j : IntKind} {n : Int} : ∀ {es es' : List (V × V)} {mes : List MapEntry}, delE n j es = some es' → Rs φ (es.map (·.1)) (mes.map (·.key)) → Rs φ (es.map (·.2)) (mes.map (·.val)) →
    ∀ k i, (Instr.findNow (.int k) (.int j n) mes i = some none ∧ es' = es) ∨
      ∃ d x, Instr.findNow (.int k) (.int j n) mes i = some (some (i + d, x)) ∧ d < mes.length ∧
        Rs φ (es'.map (·.1)) ((mes.eraseIdx d).map (·.key)) ∧ Rs φ (es'.map (·.2)) ((mes.eraseIdx d).map (·.val))
  | [], es', mes, h, hk, hvs, k, i => by
    cases mes with
    | nil => simp [delE] at h; subst h; exact .inl ⟨rfl, rfl⟩
    | cons m mes => simp at hk; cases hk
  | (x, y) :: es, es', mes, h, hk, hvs, k, i => by
    cases mes with
    | nil => simp at hk; cases hk
    | cons m mes =>
      simp only [List.map_cons] at hk hvs
      cases hk with
      | cons _ _ _ _ hk1 hk2 =>
        cases hvs with
        | cons _ _ _ _ hv1 hv2 =>
          unfold delE at h
          split at h
          · rename_i heq; cases heq
          · rename_i j' k' v' es2 heq
            cases heq
            obtain ⟨hj, h'⟩ := bif_some h
            have hj := same_eq hj
            subst hj
            have hkey := hk1.i_inv
            by_cases e : n = k'
            · have : decide (n = k') = true := by simp [e]
              rw [this, cond_true] at h'
              cases h'
              exact .inr ⟨0, m.val, by simp [Instr.findNow, hkey, Instr.sameNow, e], by simp, by simpa using hk2, by simpa using hv2⟩
            · have : decide (n = k') = false := by simp [e]
              rw [this, cond_false] at h'
              have e' : (n == k') = false := by simpa using e
              split at h'
              · rename_i es3 hes3
                cases h'
                rcases delE_run hes3 hk2 hv2 k (i + 1) with ⟨e1, rfl⟩ | ⟨d, x, e1, e2, e4, e5⟩
                · exact .inl ⟨by simp [Instr.findNow, hkey, Instr.sameNow, e', e1], rfl⟩
                · refine .inr ⟨d + 1, x, ?_, by simp; omega, ?_, ?_⟩
                  · simp only [Instr.findNow, hkey, Instr.sameNow, if_true, e', e1]
                    simp; omega
                  · simp only [List.map_cons, List.eraseIdx_cons_succ]
                    exact .cons _ _ _ _ hk1 e4
                  · simp only [List.map_cons, List.eraseIdx_cons_succ]
                    exact .cons _ _ _ _ hv1 e5
              · cases h'
          · cases h

theorem ok_builtin (c : Cx Q φ s w N E tmps none) (o : Oper) {cl : Call} {b : Builtin} (ho : o.op = .call cl) (hcl : cl.callee = .builtin b) {co : O} (hc : cBuiltin Q b cl.argTypes cl.args = some co)
    (hr : evO call none co E s K = some r) : Good1 Q φ s w tmps none K r o := by
  unfold cBuiltin at hc
  obtain ⟨consts, hex⟩ := exec_bi (Q := Q) o ho hcl tmps w
  split at hc
  · -- append
    rename_i x y hargs
    obtain ⟨a, b, hl, hx, hy⟩ := cXs_two hargs
    split at hc
    · rename_i t u ht hu
      split at hc
      · rename_i e hte
        split at hc
        · cases hc
        rename_i hru
        split at hc
        · rename_i n wd z h1 h2 h3
          split at hc
          · cases hc
          · rename_i hcond
            cases hc
            exact ok_append c o ho hcl (arr_two hl) hx hy ht hu hte (by simpa using hru) h1 h2 h3 (fun e => hcond (.inl e)) (fun e => hcond (.inr (.inl e))) (Decidable.not_not.1 fun e => hcond (.inr (.inr e))) hr
        · cases hc
      · cases hc
    · cases hc
  · -- clear
    rename_i x hargs
    obtain ⟨a, hl, hx⟩ := cXs_one hargs
    have hargs' := arr_one hl
    split at hc
    · rename_i t ht
      split at hc
      · rename_i e hte
        split at hc
        case h_2 => cases hc
        rename_i z hz
        split at hc
        · cases hc
        rename_i hz0
        cases hc
        obtain ⟨zv, hzv, hcz⟩ := zeroT_some hz
        have hxR := cX_R c.env hx
        simp only [evO] at hr
        split at hr
        · rename_i hv
          rw [hv] at hxR
          have hx' : opv tmps a = .slice none 0 0 := by cases hx' : opv tmps a <;> rw [hx'] at hxR <;> cases hxR; rfl
          refine ⟨_, s, hr, Done.pure c (.tup _ #[] .nil) ?_⟩
          rw [hex, hargs']
          simp [builtin, Builtin.clear_, ht, hx', run_und hte]
        · rename_i zz bb off n cap ex hv
          rw [hv] at hxR
          obtain ⟨pl, ad, cc, hx', hpl, hcapc, hexx, hlc, hp⟩ := hxR.sl_inv
          cases hn : Nat.beq n 0 with
          | true =>
            rw [hn, cond_true] at hr
            have := Nat.eq_of_beq_eq_true hn
            subst this
            refine ⟨_, s, hr, Done.pure c (.tup _ #[] .nil) ?_⟩
            rw [hex, hargs']
            simp [builtin, Builtin.clear_, ht, hx', run_und hte]
          | false =>
            rw [hn, cond_false] at hr
            have hn0 : n ≠ 0 := by rintro rfl; simp [Nat.beq] at hn
            simp only [stK] at hr
            split at hr
            · rename_i l hg
              obtain ⟨hb, hr⟩ := bif_some hr
              simp only [Bool.and_eq_true] at hb
              obtain ⟨l', hl', hk⟩ := optK_some hr
              obtain ⟨rfl, hfin⟩ := hp (by omega)
              have hzR : Rs φ z.cells zv.cells.toList := cv_cells hcz
              have hpos : 0 < z.cells.length := by omega
              have hrep := rep_R (φ := φ) hzR hpos n (n * zv.cells.size) (by have := hzR.length; simp at this; rw [this])
              obtain ⟨a1, a2, a3⟩ := c.sim.write hpl hg hl' hrep hb.2
              refine ⟨_, _, hk, φ, .tuple #[], _, .inl ?_, a2, .tup _ #[] .nil, a3, Dom.refl _ _ _⟩
              rw [hex, hargs']
              have hzc : (Builtin.zeroCells zv.cells n).toList = ((Array.range (n * zv.cells.size)).map fun x => zv.cells[x % zv.cells.size]!).toList := rfl
              rw [← hzc] at a1
              obtain ⟨m, rfl⟩ : ∃ m, n = m + 1 := ⟨n - 1, by omega⟩
              simp [builtin, Builtin.clear_, ht, hx', run_und hte, hzv, a1]
              simp [Builtin.zeroCells]
            · cases hr
        · cases hr
      · cases hc
    · cases hc
  · -- delete
    rename_i x y hargs
    obtain ⟨a, b, hl, hx, hy⟩ := cXs_two hargs
    have hargs' := arr_two hl
    split at hc
    · rename_i t ht
      split at hc
      · rename_i kt e hte
        split at hc
        · rename_i hkt
          cases hc
          obtain ⟨kk, hkk⟩ := isIntT_inv hkt
          simp only [evO] at hr
          split at hr
          · rename_i bb j n hv1 hv2
            have h1 := cX_R c.env hx
            have h2 := cX_R c.env hy
            rw [hv1] at h1
            rw [hv2] at h2
            have h2 := h2.i_inv
            obtain ⟨pl, hpl, h1'⟩ := h1.m_inv
            split at hr
            · rename_i es hg
              obtain ⟨es', hes, hk⟩ := optK_some hr
              obtain ⟨mes, clock, g1, g2, g3, g4, g5⟩ := getMap c.sim hpl hg
              have hget := getObj_map (Q := Q) g1
              have ck : ∀ b w, (Instr.checkKey b 10000 kt (.int j n)).run Q w = .ok () w := fun b w => checkKey_int hkk b 9999 w
              rcases delE_run hes g4 g5 kk 0 with ⟨e1, rfl⟩ | ⟨d, x0, e1, e2, e3, e4⟩
              · have hfk := findKey_run hkk e1 w
                have := c.sim.mapUpd hpl hg (es' := es') (mes' := mes) (clock' := clock) g4 g5
                refine ⟨_, _, hk, φ, .tuple #[], _, .inl ?_, this.1, .tup _ #[] .nil, this.2, Dom.refl _ _ _⟩
                rw [hex, hargs']
                simp [builtin, Builtin.delete_, ht, h1', h2, run_und hte, ck, hget, hfk, setObj_map _ g1]
              · have hfk := findKey_run hkk e1 w
                have hera : (mes.eraseIdxIfInBounds d).toList = mes.toList.eraseIdx d := by simp
                have := c.sim.mapUpd hpl hg (es' := es') (mes' := mes.eraseIdxIfInBounds d) (clock' := clock) (by rw [hera]; exact e3) (by rw [hera]; exact e4)
                refine ⟨_, _, hk, φ, .tuple #[], _, .inl ?_, this.1, .tup _ #[] .nil, this.2, Dom.refl _ _ _⟩
                rw [hex, hargs']
                simp [builtin, Builtin.delete_, ht, h1', h2, run_und hte, ck, hget, hfk, setObj_map _ g1]
            · cases hr
          · cases hr
        · cases hc
      · cases hc
    · cases hc
  · -- len
    rename_i x hargs
    obtain ⟨a, hl, hx⟩ := cXs_one hargs
    have hargs' := arr_one hl
    have hxR := cX_R c.env hx
    split at hc
    · rename_i t ht
      split at hc
      · rename_i e hd
        cases hc
        simp only [evO] at hr
        split at hr
        · rename_i hv
          rw [hv] at hxR
          have hx' : opv tmps a = .slice none 0 0 := by cases hx' : opv tmps a <;> rw [hx'] at hxR <;> cases hxR; rfl
          refine ⟨_, s, hr, Done.pure c (.i _ _) ?_⟩
          rw [hex, hargs']
          simp [builtin, Builtin.len_, ht, hx', run_und hd, goInt]
        · rename_i hv
          rw [hv] at hxR
          obtain ⟨pl, ad, cc, hx', _⟩ := hxR.sl_inv
          refine ⟨_, s, hr, Done.pure c (.i _ _) ?_⟩
          rw [hex, hargs']
          simp [builtin, Builtin.len_, ht, hx', run_und hd, goInt]
        · cases hr
      · rename_i hd
        cases hc
        simp only [evO] at hr
        split at hr
        · rename_i hv
          rw [hv] at hxR
          obtain ⟨t', hx', rfl⟩ := hxR.s_inv
          refine ⟨_, s, hr, Done.pure c (.i _ _) ?_⟩
          rw [hex, hargs']
          simp [builtin, Builtin.len_, ht, hx', run_und hd, goInt]
        · cases hr
      · rename_i k e hd
        cases hc
        simp only [evO] at hr
        split at hr
        · rename_i hv
          rw [hv] at hxR
          have hx' : opv tmps a = .map none := by cases hx' : opv tmps a <;> rw [hx'] at hxR <;> cases hxR; rfl
          refine ⟨_, s, hr, Done.pure c (.i _ _) ?_⟩
          rw [hex, hargs']
          simp [builtin, Builtin.len_, ht, hx', run_und hd, goInt]
        · rename_i b hv
          rw [hv] at hxR
          obtain ⟨pl, hpl, hx'⟩ := hxR.m_inv
          split at hr
          · rename_i es hg
            obtain ⟨mes, clock, g1, g2, g3, g4, g5⟩ := getMap c.sim hpl hg
            have hget := getObj_map (Q := Q) g1
            have hlen : es.length = mes.size := by have := g4.length; simpa using this
            refine ⟨_, s, hr, Done.pure c (.i _ _) ?_⟩
            rw [hex, hargs']
            simp [builtin, Builtin.len_, ht, hx', run_und hd, goInt, hget, hlen]
          · cases hr
        · cases hr
      · rename_i n e hd
        cases hc
        refine ⟨_, s, hr, Done.pure c (.i _ _) ?_⟩
        rw [hex, hargs']
        simp [builtin, Builtin.len_, ht, run_und hd, goInt]
      · rename_i e hd
        split at hc
        · rename_i n e2 hd2
          cases hc
          refine ⟨_, s, hr, Done.pure c (.i _ _) ?_⟩
          rw [hex, hargs']
          simp [builtin, Builtin.len_, ht, run_und hd, run_und hd2, goInt]
        · cases hc
      · cases hc
    · cases hc
  · -- max
    rename_i x y hargs
    obtain ⟨a, b, hl, hx, hy⟩ := cXs_two hargs
    have hargs' := arr_two hl
    cases hc
    simp only [evO] at hr
    split at hr
    · rename_i j p k q h1 h2
      have hxR := cX_R c.env hx
      have hyR := cX_R c.env hy
      rw [h1] at hxR
      rw [h2] at hyR
      have e1 := hxR.i_inv
      have e2 := hyR.i_inv
      refine ⟨_, s, hr, Done.pure c (.i _ _) ?_⟩
      rw [hex, hargs']
      simp [builtin, Builtin.max_, Builtin.max2, e1, e2]
    · cases hr
  · -- min
    rename_i x y hargs
    obtain ⟨a, b, hl, hx, hy⟩ := cXs_two hargs
    have hargs' := arr_two hl
    cases hc
    simp only [evO] at hr
    split at hr
    · rename_i j p k q h1 h2
      have hxR := cX_R c.env hx
      have hyR := cX_R c.env hy
      rw [h1] at hxR
      rw [h2] at hyR
      have e1 := hxR.i_inv
      have e2 := hyR.i_inv
      refine ⟨_, s, hr, Done.pure c (.i _ _) ?_⟩
      rw [hex, hargs']
      simp [builtin, Builtin.min_, Builtin.min2, e1, e2]
    · cases hr
  · cases hc

theorem add64_look : Extern.allGenericRows.lookup "math/bits.Add64" = none ∧ Extern.allTypedRows.lookup "math/bits.Add64" = none ∧ Extern.allRows.lookup "math/bits.Add64" = some add64Entry :=
  ⟨by kernel_rfl, by kernel_rfl, by kernel_rfl⟩

theorem add64_row {fn : Func} (h : (Extern.findNext fn).isNone = true) (hb : fn.body.isSome = false) (hn : (fn.name == "math/bits.Add64") = true)
    {f : FuncId} (hf : Q.funcs[f]? = some fn) (args : Array Value) (w : World) : (callFunc f args).run Q w = ((add64Entry args).run Q w).andThen fun v w' => .ok (.value v) w' := by
  have hn' : fn.name = "math/bits.Add64" := by simpa using hn
  obtain ⟨l1, l2, l3⟩ := add64_look
  refine run_callFunc_extern hf (by rw [hn']; decide) (by cases hb' : fn.body <;> simp_all) (by simpa using h) ?_ args w
  unfold Extern.find
  simp only [hn', l1, l2, l3, Option.map_none]
  rfl

/- the operation enters no function of the program -/
def Plain (Q : Program) (o : Oper) : Prop :=
  match o.op with
  | .call cl => match cl.callee with
    | .builtin _ => True
    | .value (.func g) => ∃ fn, Q.funcs[g]? = some fn ∧ fn.body.isSome = false
    | _ => False
  | _ => True

theorem wide_fail {Rr : Type} {call : FV → List V → S → (V → S → Option Rr) → Option Rr} {K : V → S → Option Rr} {r : Rr} {E : Env} {s : S} {sl : Option Nat} (h : evO call sl .fail E s K = some r) : False := by
  simp [evO] at h

theorem ok_add64 (c : Cx Q φ s w N E tmps sl) (o : Oper) {cl : Call} {g : FuncId} (ho : o.op = .call cl) (hcl : cl.callee = .value (.func g)) {fn : Func} (hf : Q.funcs[g]? = some fn) (hb : fn.body.isSome = false)
    {co : O} (hc : cCall Q cl = some co) (hr : evO call sl co E s K = some r) : Good1 Q φ s w tmps sl K r o := by
  unfold cCall at hc
  rw [hcl] at hc
  simp only [hf, hb, Bool.false_eq_true, if_false] at hc
  split at hc
  · rename_i hcond
    simp only [Bool.and_eq_true] at hcond
    split at hc
    · rename_i x y z hargs
      cases hc
      simp only [evO] at hr
      split at hr
      · rename_i a b d h1 h2 h3
        obtain ⟨hb2, hk⟩ := bif_some hr
        simp only [Bool.and_eq_true, decide_eq_true_eq] at hb2
        obtain ⟨ax, ay, az, hl, hx, hy, hz⟩ := cXs_three hargs
        have e1 := cX_R c.env hx
        have e2 := cX_R c.env hy
        have e3 := cX_R c.env hz
        rw [h1] at e1
        rw [h2] at e2
        rw [h3] at e3
        have e1 := e1.i_inv
        have e2 := e2.i_inv
        have e3 := e3.i_inv
        have hargs' : cl.args = #[ax, ay, az] := by apply Array.ext'; rw [hl]
        refine ⟨_, s, hk, Done.pure c (.tup _ #[.int .u64 ((a + b + d) % 18446744073709551616), .int .u64 ((a + b + d) / 18446744073709551616)] (.cons _ _ _ _ (.i _ _) (.cons _ _ _ _ (.i _ _) .nil))) ?_⟩
        have hrow := add64_row hcond.2 hb hcond.1 hf #[.int .u64 a, .int .u64 b, .int .u64 d] w
        rw [run_add64 a b d hb2.1.1.1 hb2.1.1.2 hb2.1.2 hb2.2] at hrow
        simp only [Result.andThen_ok] at hrow
        have hof : opv tmps (.func g) = .func (.func g) #[] #[] := rfl
        simp [execOp, ho, resolve, hcl, hargs', invoke, hof, Deferred.ofValue, e1, e2, e3, hrow]
      · cases hr
    · cases hc
  · cases hc

/- what enters no function of the program: each operation of the evaluator stands for the model's -/
theorem op_plain (o : Oper) {co : O} (hc : cOp? Q o.op = some co) (hp : Plain Q o) (hsl : ∀ cl b, o.op = .call cl → cl.callee = .builtin b → sl = none) (c : Cx Q φ s w N E tmps sl)
    (hr : evO call sl co E s K = some r) : Good1 Q φ s w tmps sl K r o := by
  cases ho : o.op with
  | move x => exact ok_move c o (.inl ho) (by rw [ho] at hc; exact hc) hr
  | assign x => exact ok_move c o (.inr ho) (by rw [ho] at hc; exact hc) hr
  | pick x y z => exact ok_pick c o ho (by rw [ho] at hc; exact hc) hr
  | alloc t => exact ok_alloc c o ho (by rw [ho] at hc; exact hc) hr
  | box t x => exact ok_box c o ho (by rw [ho] at hc; exact hc) hr
  | build t ps => exact ok_build c o ho (by rw [ho] at hc; exact hc) hr
  | buildSlice t n ps => exact ok_buildSlice c o ho (by rw [ho] at hc; exact hc) hr
  | load t x => exact ok_load c o ho (by rw [ho] at hc; exact hc) hr
  | store t x y => exact ok_store c o ho (by rw [ho] at hc; exact hc) hr
  | nilCheck x => exact ok_nilCheck c o ho (by rw [ho] at hc; exact hc) hr
  | binOp op t x y t2 => exact ok_binOp c o ho (by rw [ho] at hc; exact hc) hr
  | unOp op t x => exact ok_unOp c o ho (by rw [ho] at hc; exact hc) hr
  | convert a b x => exact ok_convert c o ho (by rw [ho] at hc; exact hc) hr
  | makeInterface t x => exact ok_makeInterface c o ho (by rw [ho] at hc; exact hc) hr
  | makeFunc f x y =>
    cases f with
    | func g => exact ok_makeFunc c o ho (by rw [ho] at hc; exact hc) hr
    | _ => rw [ho] at hc; simp [cOp?] at hc
  | makeMap t x =>
    cases x with
    | none => exact ok_makeMap c o ho (by rw [ho] at hc; exact hc) hr
    | some x => rw [ho] at hc; simp [cOp?] at hc
  | makeSlice t x y => exact ok_makeSlice c o ho (by rw [ho] at hc; exact hc) hr
  | slice t x a b d => exact ok_slice c o ho (by rw [ho] at hc; exact hc) hr
  | fieldAddr t x f => exact ok_fieldAddr c o ho (by rw [ho] at hc; exact hc) hr
  | field t x f => exact ok_field c o ho (by rw [ho] at hc; exact hc) hr
  | indexAddr t x i => exact ok_indexAddr c o ho (by rw [ho] at hc; exact hc) hr
  | index t x i => exact ok_index c o ho (by rw [ho] at hc; exact hc) hr
  | lookup t x y b => exact ok_lookup c o ho (by rw [ho] at hc; exact hc) hr
  | mapUpdate t x y z => exact ok_mapUpdate c o ho (by rw [ho] at hc; exact hc) hr
  | extract t i => exact ok_extract c o ho (by rw [ho] at hc; exact hc) hr
  | call cl =>
    rw [ho] at hc
    have hc' : cCall Q cl = some co := hc
    cases hcl : cl.callee with
    | builtin b =>
      have := hsl cl b ho hcl
      subst this
      have hb : cBuiltin Q b cl.argTypes cl.args = some co := by simpa [cCall, hcl] using hc'
      exact ok_builtin c o ho hcl hb hr
    | value f =>
      cases f with
      | func g =>
        obtain ⟨fn, hf, hb⟩ : ∃ fn, Q.funcs[g]? = some fn ∧ fn.body.isSome = false := by simpa [Plain, ho, hcl] using hp
        exact ok_add64 c o ho hcl hf hb hc' hr
      | _ => simp [Plain, ho, hcl] at hp
    | invoke rr m => simp [Plain, ho, hcl] at hp
  | _ => rw [ho] at hc; simp [cOp?] at hc

end
end Go.Ev
