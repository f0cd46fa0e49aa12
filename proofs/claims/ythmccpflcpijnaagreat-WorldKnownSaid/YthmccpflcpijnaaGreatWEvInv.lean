/- Regions whose order is open: one operation of the model. -/
import Derived.Test.YthmccpflcpijnaaGreatWEvPlan2
namespace Go.Ev

/- how the list stands to the region's ops -/
structure OpsOk (Q : Program) (N : Nat) (ops : Array Oper) (ds : List DO) : Prop where
  len : ds.length = ops.size
  «at» : ∀ i o, ops[i]? = some o → ∃ d ∈ ds, d.i = i
  op : ∀ d ∈ ds, ∃ o, ops[d.i]? = some o ∧ d.dst = o.dst ∧ d.rd = readsOf ops o ∧ d.o = cOper Q N ops d.i o
  bfd : ∀ d ∈ ds, ∀ o, ops[d.i]? = some o → ∀ k, d.bf.testBit k = true → ∃ e ∈ o.after, Region.binds .any e = true ∧ (k = e.on ∨ ∃ d' ∈ ds, d'.i = e.on ∧ d'.bf.testBit k = true)
  fwd : ∀ d ∈ ds, ∀ o, ops[d.i]? = some o → ∀ e ∈ o.after, Region.binds .any e = true → e.on < d.i

def Lst (listed : Array Bool) (i : Nat) : Prop := listed.getD i false = true

theorem cOper_cases (Q : Program) (N : Nat) (ops : Array Oper) (i : Nat) (o : Oper) : ((cOper Q N ops i o).o = .fail ∧ (cOper Q N ops i o).gd = none) ∨
    ((cOper Q N ops i o).o = cOp Q o.op ∧ (∀ t, o.dst = some t → t < N) ∧ gdOf ops o.guard = some (cOper Q N ops i o).gd) := by
  unfold cOper
  split
  · rename_i g hg
    split
    · rename_i hd
      refine .inr ⟨rfl, fun t ht => ?_, hg⟩
      rw [ht] at hd
      have : Nat.ble (t + 1) N = true := by simpa [Nat.blt] using hd
      exact Nat.le_of_ble_eq_true this
    · exact .inl ⟨rfl, rfl⟩
  · exact .inl ⟨rfl, rfl⟩

theorem wanted_iff {φ : Phi} {E : Env} {tmps : Array Value} {ops : Array Oper} {o : Oper} {g : Option (P × Bool)} (hg : gdOf ops o.guard = some g)
    (h : ∀ p w, g = some (p, w) → ∀ t, p = P.of t → R φ (E.get (P.of t)) (tmps.getD t Go.undef)) : wanted E g = Region.wanted o (yielded ops tmps) := by
  unfold Region.wanted
  cases e : o.guard with
  | none => rw [e] at hg; simp [gdOf] at hg; subst hg; rfl
  | some jw =>
    obtain ⟨j, w⟩ := jw
    rw [e] at hg
    simp only [gdOf] at hg
    split at hg
    · rename_i d hd
      cases hg
      have hr := h _ _ rfl d rfl
      simp only [wanted, yielded, hd, Option.bind_some]
      have hget : tmps.getD d Go.undef = (tmps[d]?).getD Go.undef := by simp
      rw [hget] at hr
      cases ht : tmps[d]? with
      | none =>
        rw [ht] at hr
        simp only [Option.getD_none] at hr
        cases hE : E.get (P.of d) <;> rw [hE] at hr <;> first | cases hr; done | simp
        all_goals (unfold Go.undef at hr; cases hr)
      | some u =>
        rw [ht] at hr
        simp only [Option.getD_some] at hr
        cases hE : E.get (P.of d) <;> rw [hE] at hr <;> cases hr <;> simp
    · cases hg

theorem Sim.congr {Q : Program} {φ : Phi} {s s' : S} {w : World} (h : Sim Q φ s w) (hg : ∀ b, φ b ≠ none → s'.get b = s.get b) (hn : s.nx ≤ s'.nx) : Sim Q φ s' w where
  obj := fun b pl o hb ho => h.obj b pl o hb (by rw [← hg b (by rw [hb]; simp)]; exact ho)
  lt := fun b pl hb => Nat.lt_of_lt_of_le (h.lt b pl hb) hn
  inh := h.inh
  dis := fun b b' pl pl' o o' hb hb' ho ho' => h.dis b b' pl pl' o o' hb hb' (by rw [← hg b (by rw [hb]; simp)]; exact ho) (by rw [← hg b' (by rw [hb']; simp)]; exact ho')

theorem Own.congr {φ : Phi} {s s' : S} (hg : ∀ b, φ b ≠ none → s'.get b = s.get b) {B : Nat} (h : Own φ s' B) : Own φ s B := by
  obtain ⟨b, pl, o, h1, h2, h3, h4⟩ := h
  exact ⟨b, pl, o, h1, by rw [← hg b (by rw [h1]; simp)]; exact h2, h3, h4⟩

theorem Keep.congr {φ φ' : Phi} {s s' s'' : S} {w w' : World} (k : Keep φ s w φ' s' w') (hg : ∀ b, φ' b ≠ none → s''.get b = s'.get b) (hn : s'.nx ≤ s''.nx) : Keep φ s w φ' s'' w' :=
  ⟨k.ext, Nat.le_trans k.nx hn, k.os, k.tape, k.output, k.size, fun B hB ho => ⟨(k.old B hB ho).1, fun h => (k.old B hB ho).2 (h.congr hg)⟩⟩

theorem R_undef (φ : Phi) : R φ undef Go.undef := .tup [] #[] .nil

/- what is not known is put out of sight -/
theorem mask {φ : Phi} {N : Nat} {tmps : Array Value} : ∀ (bad : List Nat) (E : Env), tmps.size = N → (∀ t, t ∈ bad ∨ R φ (E.get (P.of t)) (tmps.getD t Go.undef)) →
    ∃ E' tmps', EnvR φ N E' tmps' ∧ ∀ t, t ∉ bad → E'.get (P.of t) = E.get (P.of t) ∧ tmps'.getD t Go.undef = tmps.getD t Go.undef := by
  intro bad
  induction bad generalizing tmps with
  | nil => exact fun E hN h => ⟨E, tmps, ⟨hN, fun t => (h t).resolve_left (by simp)⟩, fun t _ => ⟨rfl, rfl⟩⟩
  | cons b bad ih =>
    intro E hN h
    obtain ⟨E', tmps', h1, h2⟩ := ih (tmps := tmps.setIfInBounds b Go.undef) (E.set (P.of b) undef) (by simpa using hN) (fun t => by
      by_cases e : t = b
      · subst e
        refine .inr ?_
        rw [Env.get_set, if_pos rfl]
        have : (tmps.setIfInBounds t Go.undef).getD t Go.undef = Go.undef := by
          simp only [Array.getD_eq_getD_getElem?, Array.getElem?_setIfInBounds]
          rw [if_pos trivial]; split <;> rfl
        rw [this]; exact R_undef φ
      · rcases h t with hb | hr
        · exact .inl ((List.mem_cons.1 hb).resolve_left e)
        · refine .inr ?_
          rw [Env.get_set, if_neg fun x => e (P.of_inj x)]
          have : (tmps.setIfInBounds b Go.undef).getD t Go.undef = tmps.getD t Go.undef := by
            simp only [Array.getD_eq_getD_getElem?, Array.getElem?_setIfInBounds]
            rw [if_neg fun x => e x.symm]
          rw [this]; exact hr)
    refine ⟨E', tmps', h1, fun t ht => ?_⟩
    have hne : t ≠ b := fun e => ht (by simp [e])
    obtain ⟨k1, k2⟩ := h2 t fun hm => ht (by simp [hm])
    refine ⟨?_, ?_⟩
    · rw [k1, Env.get_set, if_neg fun x => hne (P.of_inj x)]
    · rw [k2]
      simp only [Array.getD_eq_getD_getElem?, Array.getElem?_setIfInBounds]
      rw [if_neg fun x => hne x.symm]

theorem putA_getD {tmps : Array Value} {d : Option Nat} {v : Value} {t : Nat} : (putA tmps d v).getD t Go.undef = if d = some t ∧ t < tmps.size then v else tmps.getD t Go.undef := by
  cases d with
  | none => simp [putA]
  | some u =>
    simp only [putA, Array.getD_eq_getD_getElem?, Array.getElem?_setIfInBounds, Option.some.injEq]
    by_cases e : u = t
    · subst e
      by_cases hl : u < tmps.size
      · simp [hl]
      · simp [hl]
    · simp [e]

theorem putA_size {tmps : Array Value} {d : Option Nat} {v : Value} : (putA tmps d v).size = tmps.size := by
  cases d <;> simp [putA]

section
variable {Q : Program} {Rr : Type} {call : FV → List V → S → (V → S → Option Rr) → Option Rr}

structure Inv (Q : Program) (call : FV → List V → S → (V → S → Option Rr) → Option Rr) (base N : Nat) (ds ws : List DO) (K : Env → S → Option Rr) (r : Rr) (φ0 : Phi) (s0 : S) (w0 : World)
    (listed : Array Bool) (done todo : List DO) (φ : Phi) (E : Env) (s : S) (w : World) (tmps : Array Value) : Prop where
  split : ws = done ++ todo
  dn : ∀ d ∈ done, Lst listed d.i
  td : ∀ d ∈ todo, ¬ Lst listed d.i
  plan : evPlan call base (stages ds ws done.length todo) E s K = some r
  fresh : ∀ d ∈ ds, ¬ Lst listed d.i → d.wr = false → stOf ws d ≤ done.length → Fresh call base d E s
  sim : Sim Q φ s w
  nx : ∀ d ∈ ds, base + d.i < s.nx
  un : ∀ d ∈ ds, ¬ Lst listed d.i → φ (base + d.i) = none
  size : tmps.size = N
  env : ∀ t, (∃ d ∈ ds, ¬ Lst listed d.i ∧ d.wr = false ∧ stOf ws d ≤ done.length ∧ d.dst = some t) ∨ R φ (E.get (P.of t)) (tmps.getD t Go.undef)
  closed : ∀ d ∈ ds, Lst listed d.i → ∀ k, d.bf.testBit k = true → Lst listed k
  keep : Keep φ0 s0 w0 φ s w
  dom : ∀ b, b < s0.nx → φ0 b = none → φ b = none

theorem Lst_set {listed : Array Bool} {i j : Nat} (hi : i < listed.size) : Lst (listed.setIfInBounds i true) j ↔ (j = i ∨ Lst listed j) := by
  unfold Lst
  by_cases e : j = i
  · subst e; simp [hi]
  · simp only [Array.getD_eq_getD_getElem?, Array.getElem?_setIfInBounds]
    rw [if_neg fun x => e x.symm]
    simp [e]

variable {base N : Nat} {ds ws : List DO} {K : Env → S → Option Rr} {r : Rr} {φ0 : Phi} {s0 : S} {w0 : World} {listed : Array Bool} {done todo : List DO} {φ : Phi} {E : Env} {s : S} {w : World} {tmps : Array Value} {ops : Array Oper}

theorem readsOf_guard {o : Oper} {j d : Nat} {w : Bool} (hg : o.guard = some (j, w)) (hd : (ops[j]?).bind (·.dst) = some d) : d ∈ readsOf ops o := by
  unfold readsOf
  rw [hg]
  simp [hd]

theorem readsOf_tmp {o : Oper} {t : Nat} (h : Operand.tmp t ∈ o.op.operands) : t ∈ readsOf ops o := by
  unfold readsOf
  refine List.mem_append_left _ (List.mem_filterMap.2 ⟨.tmp t, by simpa using h, rfl⟩)

/- the machine's look at one op, from what the plan knows -/
theorem Inv.look (hw : Wf ds ws) (ho : OpsOk Q N ops ds) (iv : Inv Q call base N ds ws K r φ0 s0 w0 listed done todo φ E s w tmps) {d : DO} (hd : d ∈ ds) {o : Oper} (hop : ops[d.i]? = some o)
    (hready : ∀ e ∈ o.after, Region.binds .any e = true → Lst listed e.on) :
    (∀ k, d.bf.testBit k = true → Lst listed k) ∧
    (∀ t ∈ d.rd, R φ (E.get (P.of t)) (tmps.getD t Go.undef)) ∧
    ∃ E' tmps', EnvR φ N E' tmps' ∧ Agree d E E' ∧ (∀ t ∈ d.rd, tmps'.getD t Go.undef = tmps.getD t Go.undef) := by
  have hbf : ∀ k, d.bf.testBit k = true → Lst listed k := fun k hk => by
    obtain ⟨e, he, hb, h⟩ := ho.bfd d hd o hop k hk
    rcases h with rfl | ⟨d', hd', hi, hk'⟩
    · exact hready e he hb
    · exact iv.closed d' hd' (by rw [hi]; exact hready e he hb) k hk'
  have hgood : ∀ t ∈ d.rd, ¬ ∃ a ∈ ds, ¬ Lst listed a.i ∧ a.wr = false ∧ stOf ws a ≤ done.length ∧ a.dst = some t := by
    rintro t ht ⟨a, ha, hl, hwa, _, hdst⟩
    rcases (hw.pair ha hd hdst).2 ht with ⟨h1, _⟩ | ⟨h1, _⟩
    · exact hl (hbf _ h1)
    · rw [hwa] at h1; cases h1
  refine ⟨hbf, fun t ht => (iv.env t).resolve_left (hgood t ht), ?_⟩
  classical
  let bad : List Nat := (ds.filter fun a => decide (¬ Lst listed a.i ∧ a.wr = false ∧ stOf ws a ≤ done.length)).filterMap (·.dst)
  have hbad : ∀ t, t ∈ bad ↔ ∃ a ∈ ds, ¬ Lst listed a.i ∧ a.wr = false ∧ stOf ws a ≤ done.length ∧ a.dst = some t := by
    intro t
    simp only [bad, List.mem_filterMap, List.mem_filter, decide_eq_true_eq]
    constructor
    · rintro ⟨a, ⟨h1, h2, h3, h4⟩, h5⟩; exact ⟨a, h1, h2, h3, h4, h5⟩
    · rintro ⟨a, h1, h2, h3, h4, h5⟩; exact ⟨a, ⟨h1, h2, h3, h4⟩, h5⟩
  obtain ⟨E', tmps', h1, h2⟩ := mask bad E iv.size fun t => (iv.env t).imp (hbad t).2 fun x => x
  exact ⟨E', tmps', h1, fun t ht => (h2 t fun hb => hgood t ht ((hbad t).1 hb)).1, fun t ht => (h2 t fun hb => hgood t ht ((hbad t).1 hb)).2⟩

end
end Go.Ev
