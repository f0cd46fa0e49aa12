/- Regions whose order is open: one operation that writes nothing. -/
import Derived.Test.YthmccpflcpijnaaGreatWEvInv
namespace Go.Ev

section
variable {Q : Program} {Rr : Type} {call : FV → List V → S → (V → S → Option Rr) → Option Rr}
variable {base N : Nat} {ds ws : List DO} {K : Env → S → Option Rr} {r : Rr} {φ0 : Phi} {s0 : S} {w0 : World} {listed : Array Bool} {done todo : List DO} {φ : Phi} {E : Env} {s : S} {w : World} {tmps : Array Value} {ops : Array Oper}

/- an answer that says which value and which heap it was given -/
noncomputable def pinK (v : V) (s : S) (r : Rr) : V → S → Option Rr := by
  classical exact fun v' s' => if v' = v ∧ s' = s then some r else none

theorem pinK_self (v : V) (s : S) (r : Rr) : pinK v s r v s = some r := by simp [pinK]
theorem pinK_some {v v' : V} {s s' : S} {r r' : Rr} (h : pinK v s r v' s' = some r') : v' = v ∧ s' = s := by
  unfold pinK at h
  split at h
  · assumption
  · cases h

theorem noSelect {o : Oper} {co : O} (h : cOp? Q o.op = some co) : ∀ cs b, o.op ≠ .select cs b := by
  intro cs b e
  rw [e] at h; simp [cOp?] at h

theorem cOp_some {op : Op} (h : clsOf (cOp Q op) ≠ .write) : cOp? Q op = some (cOp Q op) := by
  unfold cOp at *
  split
  · assumption
  · rename_i e; rw [e] at h; simp [clsOf] at h

theorem eval_same {tmps tmps' : Array Value} {o : Oper} (h : ∀ t ∈ readsOf ops o, tmps'.getD t Go.undef = tmps.getD t Go.undef) (hs : ∀ cs b, o.op ≠ .select cs b) : execOp (opv tmps) o = execOp (opv tmps') o :=
  execOp_congr o hs fun x hx => by
    cases x with
    | tmp t => exact (h t (readsOf_tmp hx)).symm
    | _ => rfl

theorem isNew_new {o : O} : isNew o = true ↔ clsOf o = .new := by cases o <;> simp [isNew, clsOf]

/- the environment after an op that writes nothing -/
theorem Inv.after (hw : Wf ds ws) (iv : Inv Q call base N ds ws K r φ0 s0 w0 listed done todo φ E s w tmps) {d : DO} (hd : d ∈ ds) (hwr : d.wr = false) {o : Oper} (hop : ops[d.i]? = some o) (hdo : d.dst = o.dst)
    (hlt : ∀ t, o.dst = some t → t < N) (hsz : d.i < listed.size) (hbf : ∀ k, d.bf.testBit k = true → Lst listed k) {φ' : Phi} {w' : World} {val : Value}
    (hsim : Sim Q φ' s w') (hval : ∀ t, d.dst = some t → R φ' (E.get (P.of t)) val) (hk : Keep φ s w φ' s w') (hdom : ∀ b, b < s.nx → φ b = none → b ≠ base + d.i → φ' b = none) (hdom0 : ∀ b, b < s0.nx → φ b = none → φ' b = none) :
    Inv Q call base N ds ws K r φ0 s0 w0 (listed.setIfInBounds d.i true) done todo φ' E s w' (putA tmps o.dst val) where
  split := iv.split
  dn := fun a ha => (Lst_set hsz).2 (.inr (iv.dn a ha))
  td := fun a ha hl => by
    rcases (Lst_set hsz).1 hl with e | h
    · have hm : a ∈ ws := by rw [iv.split]; exact List.mem_append_right _ ha
      rw [hw.wsub] at hm
      obtain ⟨h1, h2⟩ := List.mem_filter.1 hm
      have := hw.uniq h1 hd e
      subst this
      rw [hwr] at h2; cases h2
    · exact iv.td a ha h
  plan := iv.plan
  fresh := fun a ha hl => iv.fresh a ha fun h => hl ((Lst_set hsz).2 (.inr h))
  sim := hsim
  nx := iv.nx
  un := fun a ha hl => by
    refine hdom _ (iv.nx a ha) (iv.un a ha fun h => hl ((Lst_set hsz).2 (.inr h))) fun e => hl ((Lst_set hsz).2 (.inl (by omega)))
  size := by rw [putA_size]; exact iv.size
  env := fun t => by
    rw [putA_getD]
    by_cases e : o.dst = some t
    · rw [if_pos ⟨e, by rw [iv.size]; exact hlt t e⟩]
      exact .inr (hval t (hdo.trans e))
    · rw [if_neg fun h => e h.1]
      rcases iv.env t with ⟨a, ha, h1, h2, h3, h4⟩ | h
      · refine .inl ⟨a, ha, fun hl => ?_, h2, h3, h4⟩
        rcases (Lst_set hsz).1 hl with e' | h
        · have := hw.uniq ha hd e'
          subst this
          exact e (hdo.symm.trans h4)
        · exact h1 h
      · exact .inr (h.mono hk.ext)
  closed := fun a ha hl k hk' => (Lst_set hsz).2 (.inr (by
    rcases (Lst_set hsz).1 hl with e | h
    · have := hw.uniq ha hd e
      subst this
      exact hbf k hk'
    · exact iv.closed a ha h k hk'))
  keep := iv.keep.trans hk
  dom := fun b hb h => hdom0 b hb (iv.dom b hb h)

theorem step_read (hcall : CallOk Q call) (hw : Wf ds ws) (ho : OpsOk Q N ops ds) (iv : Inv Q call base N ds ws K r φ0 s0 w0 listed done todo φ E s w tmps) (hbase : s0.nx ≤ base) {d : DO} (hd : d ∈ ds) (hwr : d.wr = false) {o : Oper} (hop : ops[d.i]? = some o)
    (hready : ∀ e ∈ o.after, Region.binds .any e = true → Lst listed e.on) (hun : ¬ Lst listed d.i) (hsz : d.i < listed.size) :
    ∃ φ' w' tmps', Inv Q call base N ds ws K r φ0 s0 w0 (listed.setIfInBounds d.i true) done todo φ' E s w' tmps' ∧
      ∀ (b : Frame) (dd : List Deferred) (rest : List Nat) (kk : List Item) (cs : List Frame), Steps Q (lone (Fr b tmps dd (.inRegion ops (d.i :: rest) :: kk)) cs w) (lone (Fr b tmps' dd (.inRegion ops rest :: kk)) cs w') := by
  obtain ⟨hbf, hrd, E', tmps', henv, hag, hsame⟩ := iv.look hw ho hd hop hready
  obtain ⟨o', hop', hdst, hrds, hdo⟩ := ho.op d hd
  rw [hop] at hop'; cases hop'
  have hnw := hw.nwr d hd hwr
  obtain ⟨hco, hlt, hgd⟩ : d.o.o = cOp Q o.op ∧ (∀ t, o.dst = some t → t < N) ∧ gdOf ops o.guard = some d.o.gd := by
    rw [hdo]
    rcases cOper_cases Q N ops d.i o with ⟨h1, _⟩ | h
    · rw [hdo, h1] at hnw; simp [clsOf] at hnw
    · exact h
  have hc? : cOp? Q o.op = some d.o.o := by rw [hco]; exact cOp_some (by rw [← hco]; exact hnw)
  have hguard : wanted E d.o.gd = Region.wanted o (yielded ops tmps) := wanted_iff hgd fun p x hg t hp => by
    obtain ⟨u, hu, rfl⟩ := hw.gd d hd p x hg
    have := P.of_inj hp; subst this
    exact hrd _ hu
  have hst : stOf ws d ≤ done.length := stOf_le fun j w' hj hb => by
    have hl := hbf _ hb
    rw [iv.split] at hj
    rcases Nat.lt_or_ge j done.length with h | h
    · omega
    · rw [List.getElem?_append_right h] at hj
      exact absurd hl (iv.td w' (List.mem_of_getElem? hj))
  have hf := iv.fresh d hd hun hwr hst
  unfold Fresh at hf
  cases hwant : wanted E d.o.gd with
  | false =>
    rw [hwant] at hf
    simp only [Bool.false_eq_true, if_false] at hf
    refine ⟨φ, w, putA tmps o.dst Go.undef, iv.after hw hd hwr hop hdst hlt hsz hbf iv.sim (fun t ht => by rw [hf t ht]; exact R_undef φ) (Keep.refl _ _ _) (fun _ _ h _ => h) (fun _ _ h => h), fun b dd rest kk cs => ?_⟩
    exact .one (st_unwanted hop (by rw [← hguard]; exact hwant))
  | true =>
    rw [hwant, if_pos rfl] at hf
    obtain ⟨v, hv, hfv⟩ := hf
    have hexec : execOp (opv tmps) o = execOp (opv tmps') o := eval_same (ops := ops) (fun t ht => hsame t (by rw [hrds]; exact ht)) (noSelect hc?)
    -- the op done at a slot that may be set aside
    have main : ∀ (sl : Option Nat) (s1 : S), (isNew d.o.o = false → sl = none) → (∀ b, sl = some b → b = base + d.i) → (∀ k' : V → S → Option Rr, evO call sl d.o.o E s k' = k' v s1) → (∀ b, s1.get b = s.get b) → s1.nx = s.nx →
        ∃ φ' w' tmps', Inv Q call base N ds ws K r φ0 s0 w0 (listed.setIfInBounds d.i true) done todo φ' E s w' tmps' ∧
      ∀ (b : Frame) (dd : List Deferred) (rest : List Nat) (kk : List Item) (cs : List Frame), Steps Q (lone (Fr b tmps dd (.inRegion ops (d.i :: rest) :: kk)) cs w) (lone (Fr b tmps' dd (.inRegion ops rest :: kk)) cs w') := fun sl s1 hnew hsl hev hget hnx => by
      have hcx : Cx Q φ s w N E' tmps' sl := ⟨iv.sim, henv, fun b hb => by rw [hsl b hb]; exact iv.nx d hd, by
        cases sl with
        | none => exact iv.sim.nx_none
        | some b => simp only [S.newAt]; rw [hsl b rfl]; exact iv.un d hd hun⟩
      have hr' : evO call sl d.o.o E' s (pinK v s1 r) = some r := by rw [hag.evO hw hd, hev]; exact pinK_self v s1 r
      obtain ⟨v', s', φ', val, w', k1, k2, k3, k4, k5, k6⟩ := op_any hcall o hc? hnew hcx hr'
      obtain ⟨rfl, rfl⟩ := pinK_some k1
      refine ⟨φ', w', putA tmps o.dst val, iv.after hw hd hwr hop hdst hlt hsz hbf (k2.congr (fun b _ => (hget b).symm) (by omega)) (fun t ht => by rw [← hv t ht]; exact k3) (k4.congr (fun b _ => (hget b).symm) (by omega)) (fun b hb hn hne => k5 b hb hn fun e => hne (hsl b e)) (fun b hb hn => ?_), fun b dd rest kk cs => ?_⟩
      · refine k5 b (Nat.lt_of_lt_of_le hb iv.keep.nx) hn fun e => ?_
        have := hsl b e
        omega
      · exact k6 b tmps dd ops d.i rest kk cs hop hexec (by rw [← hguard]; exact hwant)
    unfold FreshV at hfv
    cases hc : clsOf d.o.o with
    | write => exact absurd hc hnw
    | pure =>
      rw [hc] at hfv
      exact main none s (fun _ => rfl) (fun b hb => by cases hb) (fun k' => hfv none s k') (fun _ => rfl) rfl
    | read =>
      rw [hc] at hfv
      exact main none s (fun _ => rfl) (fun b hb => by cases hb) (fun k' => hfv none s k' (GetSub.refl s)) (fun _ => rfl) rfl
    | new =>
      rw [hc] at hfv
      obtain ⟨ob, _, h2, h3⟩ := hfv
      refine main (some (base + d.i)) (s.new (some (base + d.i)) ob) (fun h => ?_) (fun b hb => by cases hb; rfl) (fun k' => h3 s k') (fun b => ?_) rfl
      · rw [isNew_new.2 hc] at h; cases h
      · rw [S.get_newS]
        split
        · rename_i e; subst e; exact h2.symm
        · rfl

end
end Go.Ev
