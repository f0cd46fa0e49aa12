/- Regions whose order is open: one operation that writes, and what the plan does after it. -/
import Derived.Test.YthmccpflcpijnaaGreatWEvInv2
namespace Go.Ev

section
variable {Q : Program} {Rr : Type} {call : FV → List V → S → (V → S → Option Rr) → Option Rr}
variable {base N : Nat} {ds ws : List DO} {K : Env → S → Option Rr} {r : Rr} {φ0 : Phi} {s0 : S} {w0 : World} {listed : Array Bool} {done todo : List DO} {φ : Phi} {E : Env} {s : S} {w : World} {tmps : Array Value} {ops : Array Oper}

theorem chain_spec : ∀ {ws : List DO}, chainOk ws = true → ∀ {a : DO} {l : List DO}, ws = l ++ a :: [] ++ [] ∨ True → ws.Pairwise fun a b => b.bf.testBit a.i = true
  | [], _, _, _, _ => .nil
  | a :: r, h, _, _, _ => by
    simp only [chainOk, Bool.and_eq_true, List.all_eq_true] at h
    exact .cons h.1 (chain_spec h.2 (a := a) (l := []) (.inr trivial))

theorem step_write (hcall : CallOk Q call) (hw : Wf ds ws) (ho : OpsOk Q N ops ds) (iv : Inv Q call base N ds ws K r φ0 s0 w0 listed done todo φ E s w tmps) {d : DO} (hd : d ∈ ds) (hwr : d.wr = true) {o : Oper} (hop : ops[d.i]? = some o)
    (hready : ∀ e ∈ o.after, Region.binds .any e = true → Lst listed e.on) (hun : ¬ Lst listed d.i) (hsz : d.i < listed.size) :
    ∃ done' todo' φ' E' s' w' tmps', Inv Q call base N ds ws K r φ0 s0 w0 (listed.setIfInBounds d.i true) done' todo' φ' E' s' w' tmps' ∧
      ∀ (b : Frame) (dd : List Deferred) (rest : List Nat) (kk : List Item) (cs : List Frame), Steps Q (lone (Fr b tmps dd (.inRegion ops (d.i :: rest) :: kk)) cs w) (lone (Fr b tmps' dd (.inRegion ops rest :: kk)) cs w') := by
  obtain ⟨hbf, hrd, E', tmps', henv, hag, hsame⟩ := iv.look hw ho hd hop hready
  obtain ⟨o', hop', hdst, hrds, hdo⟩ := ho.op d hd
  rw [hop] at hop'; cases hop'
  have hok := hw.ok
  simp only [drawOk, Bool.and_eq_true, List.all_eq_true] at hok
  have hchain := chain_spec hok.1.1.1 (a := d) (l := []) (.inr trivial)
  have hdws : d ∈ ws := by rw [hw.wsub]; exact List.mem_filter.2 ⟨hd, hwr⟩
  have hnnew : clsOf d.o.o ≠ .new := by
    have := hok.1.2 d hdws
    rw [hw.cls d hd] at this
    intro e; rw [e] at this; simp [clsN] at this
  -- it is the next one that writes
  obtain ⟨rest', rfl⟩ : ∃ rest', todo = d :: rest' := by
    have hdt : d ∈ todo := by
      have := iv.split ▸ hdws
      rcases List.mem_append.1 this with h | h
      · exact absurd (iv.dn d h) hun
      · exact h
    cases hto : todo with
    | nil => rw [hto] at hdt; cases hdt
    | cons x r =>
      rw [hto] at hdt
      rcases List.mem_cons.1 hdt with rfl | hm
      · exact ⟨r, rfl⟩
      · exfalso
        have hp : (x :: r).Pairwise fun a b => b.bf.testBit a.i = true := by
          have := hchain
          rw [iv.split, hto] at this
          exact (List.pairwise_append.1 this).2.1
        have := List.rel_of_pairwise_cons hp hm
        exact iv.td x (by rw [hto]; simp) (hbf _ this)
  have hat : ws[done.length]? = some d := by rw [iv.split]; simp
  have hplan := iv.plan
  simp only [stages, evPlan] at hplan
  -- the op itself
  obtain ⟨v, s1, φ1, val, w1, hpl1, hsim1, hval1, hk1, hdom1, hlt, hsteps⟩ : ∃ v s1 φ1 val w1, evPlan call base (stageChks ws (done.length + 1) ds ++ (stageOps ws (done.length + 1) ds ++ stages ds ws (done.length + 1) rest')) (setD E d.o.dst v) s1 K = some r ∧
      Sim Q φ1 s1 w1 ∧ R φ1 v val ∧ Keep φ s w φ1 s1 w1 ∧ Dom none φ s φ1 ∧ (∀ t, o.dst = some t → t < N) ∧
      ∀ (b : Frame) (dd : List Deferred) (rest : List Nat) (kk : List Item) (cs : List Frame), Steps Q (lone (Fr b tmps dd (.inRegion ops (d.i :: rest) :: kk)) cs w) (lone (Fr b (putA tmps o.dst val) dd (.inRegion ops rest :: kk)) cs w1) := by
    rcases cOper_cases Q N ops d.i o with ⟨h1, h2⟩ | ⟨hco, hlt, hgd⟩
    · rw [← hdo] at h1 h2
      rw [h2] at hplan
      simp only [wanted, cond_true] at hplan
      rw [h1] at hplan
      cases hfa : freeAt s (slotOf base d.o) <;> rw [hfa] at hplan <;> simp [evO] at hplan
    · rw [← hdo] at hco hgd
      have hguard : wanted E d.o.gd = Region.wanted o (yielded ops tmps) := wanted_iff hgd fun p x hg t hp => by
        obtain ⟨u, hu, rfl⟩ := hw.gd d hd p x hg
        have := P.of_inj hp; subst this
        exact hrd _ hu
      cases hwant : wanted E d.o.gd with
      | false =>
        rw [hwant, cond_false] at hplan
        exact ⟨undef, s, φ, Go.undef, w, hplan, iv.sim, R_undef φ, Keep.refl _ _ _, Dom.refl _ _ _, hlt, fun b dd rest kk cs => .one (st_unwanted hop (by rw [← hguard]; exact hwant))⟩
      | true =>
        rw [hwant, cond_true] at hplan
        have hslot : slotOf base d.o = none := by
          revert hnnew
          unfold slotOf
          cases d.o.o <;> simp [clsOf]
        rw [hslot] at hplan
        simp only [freeAt, cond_true] at hplan
        rw [← hag.evO hw hd] at hplan
        have hc? : cOp? Q o.op = some d.o.o := by
          rw [hco]
          unfold cOp at hco ⊢
          split
          · assumption
          · rename_i e
            rw [e] at hco
            rw [hco] at hplan
            simp [evO] at hplan
        have hexec : execOp (opv tmps) o = execOp (opv tmps') o := eval_same (ops := ops) (fun t ht => hsame t (by rw [hrds]; exact ht)) (noSelect hc?)
        obtain ⟨v, s1, φ1, val, w1, k1, k2, k3, k4, k5, k6⟩ := op_any hcall o hc? (fun _ => rfl) ⟨iv.sim, henv, fun b hb => by (cases hb), iv.sim.nx_none⟩ hplan
        exact ⟨v, s1, φ1, val, w1, k1, k2, k3, k4, k5, hlt, fun b dd rest kk cs => k6 b tmps dd ops d.i rest kk cs hop hexec (by rw [← hguard]; exact hwant)⟩
  -- the looks
  have hE1 : ∀ t, (setD E d.o.dst v).get (P.of t) = if d.dst = some t then v else E.get (P.of t) := fun t => by rw [hw.dst d hd, setD_get]
  have hL : ∀ a ∈ ds, ¬ Lst (listed.setIfInBounds d.i true) a.i → ¬ Lst listed a.i ∧ a ≠ d := fun a ha hl => ⟨fun h => hl ((Lst_set hsz).2 (.inr h)), fun e => hl ((Lst_set hsz).2 (.inl (by rw [e])))⟩
  have hL' : ∀ a ∈ ds, ¬ Lst listed a.i → a ≠ d → ¬ Lst (listed.setIfInBounds d.i true) a.i := fun a ha hl hne h => by
    rcases (Lst_set hsz).1 h with e | h
    · exact hne (hw.uniq ha hd e)
    · exact hl h
  obtain ⟨hpl2, hchk⟩ := stageChks_run hw (done.length + 1) ds (fun _ h => h) hpl1
  have fresh1 : ∀ a ∈ ds, ¬ Lst listed a.i → a ≠ d → a.wr = false → stOf ws a ≤ done.length → Fresh call base a (setD E d.o.dst v) s1 := fun a ha hl hne hwa hs => by
    refine hchk a ha hwa (by omega) ?_ ⟨E, s, iv.fresh a ha hl hwa hs, fun t ht => ?_, fun t ht => ?_⟩
    · have : ws = (done ++ [d]) ++ rest' := by rw [iv.split]; simp
      rw [this]
      have := hiOf_ge a (done ++ [d]) rest' (fun x hx => by
        cases hb : x.bf.testBit a.i with
        | false => rfl
        | true =>
          exfalso
          rcases List.mem_append.1 hx with h | h
          · have hxd : x ∈ ds := by
              have : x ∈ ws := by rw [iv.split]; exact List.mem_append_left _ h
              rw [hw.wsub] at this
              exact (List.mem_filter.1 this).1
            exact hl (iv.closed x hxd (iv.dn x h) _ hb)
          · simp at h; subst h
            exact hl (hbf _ hb))
      simpa using this
    · rw [hE1, if_neg]
      intro e
      rcases (hw.pair hd ha e).2 ht with ⟨h1, _⟩ | ⟨_, h1 | h1⟩
      · have := stOf_ge hat h1
        omega
      · exact hl (hbf _ h1)
      · exact hne (hw.uniq ha hd h1.symm)
    · rw [hE1, if_neg]
      intro e
      exact (hw.pair hd ha e).1 (fun h => hne (hw.uniq ha hd h.symm)) ht
  -- the next stage
  obtain ⟨E2, s2, hpl3, hnx2, hgs2, hE2, hb2, hfr2⟩ := stageOps_run hw (done.length + 1) (E0 := E) ds (List.Sublist.refl _) _ _ hpl2
  have hunl : ∀ a ∈ ds, a.wr = false → stOf ws a = done.length + 1 → ¬ Lst listed a.i ∧ a ≠ d := fun a ha hwa hs => by
    obtain ⟨x, hx, hb⟩ := stOf_has hs
    rw [hat] at hx; cases hx
    refine ⟨fun hl => hun (iv.closed a ha hl _ hb), fun e => ?_⟩
    subst e; rw [hwr] at hwa; cases hwa
  have hget2 : ∀ b, φ1 b ≠ none → s2.get b = s1.get b := fun b hne => by
    by_cases e : s2.get b = s1.get b
    · exact e
    · obtain ⟨a, ha, hwa, hs, rfl⟩ := hb2 b e
      exact absurd (hdom1 _ (iv.nx a ha) (iv.un a ha (hunl a ha hwa hs).1) (by simp)) hne
  refine ⟨done ++ [d], rest', φ1, E2, s2, w1, putA tmps o.dst val, ?_, hsteps⟩
  constructor
  · rw [iv.split]; simp
  · intro a ha
    rcases List.mem_append.1 ha with h | h
    · exact (Lst_set hsz).2 (.inr (iv.dn a h))
    · simp at h; subst h; exact (Lst_set hsz).2 (.inl rfl)
  · intro a ha hl
    have had : a ∈ ds := by
      have : a ∈ ws := by rw [iv.split]; exact List.mem_append_right _ (by simp [ha])
      rw [hw.wsub] at this
      exact (List.mem_filter.1 this).1
    rcases (Lst_set hsz).1 hl with e | h
    · have := hw.uniq had hd e
      subst this
      -- a stands twice
      have hp : (a :: rest').Pairwise fun a b => b.bf.testBit a.i = true := by
        have := hchain
        rw [iv.split] at this
        exact (List.pairwise_append.1 this).2.1
      exact hun (hbf _ (List.rel_of_pairwise_cons hp ha))
    · exact iv.td a (by simp [ha]) h
  · simpa using hpl3
  · intro a ha hl hwa hs
    obtain ⟨h1, h2⟩ := hL a ha hl
    simp only [List.length_append, List.length_singleton] at hs
    by_cases e : stOf ws a = done.length + 1
    · exact hfr2 a ha hwa e
    · have hs' : stOf ws a ≤ done.length := by omega
      refine (fresh1 a ha h1 h2 hwa hs').mono hw ha (fun t ht => hE2 t fun x hx hwx hsx hdx => ?_) (fun t ht => hE2 t fun x hx hwx hsx hdx => ?_) (.inr hgs2)
      · rcases (hw.pair hx ha hdx).2 ht with ⟨_, _, h | h⟩ | ⟨h, _⟩
        · rw [hwx] at h; cases h
        · omega
        · rw [hwx] at h; cases h
      · exact (hw.pair hx ha hdx).1 (fun h => by have := hw.uniq hx ha h; subst this; omega) ht
  · exact hsim1.congr hget2 (by omega)
  · intro a ha
    have := iv.nx a ha
    have := hk1.nx
    omega
  · intro a ha hl
    exact hdom1 _ (iv.nx a ha) (iv.un a ha (hL a ha hl).1) (by simp)
  · rw [putA_size]; exact iv.size
  · intro t
    by_cases hb : ∃ a ∈ ds, a.wr = false ∧ stOf ws a = done.length + 1 ∧ a.dst = some t
    · obtain ⟨a, ha, hwa, hs, hda⟩ := hb
      obtain ⟨h1, h2⟩ := hunl a ha hwa hs
      exact .inl ⟨a, ha, hL' a ha h1 h2, hwa, by simp; omega, hda⟩
    · have hE : E2.get (P.of t) = (setD E d.o.dst v).get (P.of t) := hE2 t fun a ha hwa hs hda => hb ⟨a, ha, hwa, hs, hda⟩
      rw [hE, hE1, putA_getD]
      by_cases e : o.dst = some t
      · rw [if_pos (hdst.trans e), if_pos ⟨e, by rw [iv.size]; exact hlt t e⟩]
        exact .inr hval1
      · rw [if_neg (fun h => e (hdst.symm.trans h)), if_neg fun h => e h.1]
        rcases iv.env t with ⟨a, ha, h1, h2, h3, h4⟩ | h
        · refine .inl ⟨a, ha, hL' a ha h1 fun e' => ?_, h2, by simp; omega, h4⟩
          subst e'; rw [hwr] at h2; cases h2
        · exact .inr (h.mono hk1.ext)
  · intro a ha hl k hk
    refine (Lst_set hsz).2 (.inr ?_)
    rcases (Lst_set hsz).1 hl with e | h
    · have := hw.uniq ha hd e
      subst this
      exact hbf k hk
    · exact iv.closed a ha h k hk
  · exact iv.keep.trans (hk1.congr hget2 (by omega))
  · intro b hb h
    exact hdom1 b (Nat.lt_of_lt_of_le hb iv.keep.nx) (iv.dom b hb h) (by simp)

end
end Go.Ev
