/- Regions whose order is open: every schedule gives what the plan gives. -/
import Derived.Test.YthmccpflcpijnaaGreatWEvInv3
namespace Go.Ev

theorem befold {acc : List Nat} : ∀ (l : List Edge) (s0 k : Nat), (l.foldl (fun s e => if Region.binds .any e then s ||| 2 ^ e.on ||| acc.getD e.on 0 else s) s0).testBit k = true →
    s0.testBit k = true ∨ ∃ e ∈ l, Region.binds .any e = true ∧ (k = e.on ∨ (acc.getD e.on 0).testBit k = true)
  | [], s0, k, h => .inl h
  | e :: l, s0, k, h => by
    simp only [List.foldl_cons] at h
    rcases befold l _ k h with h | ⟨e', h1, h2⟩
    · split at h
      · rename_i hb
        rw [Nat.testBit_or, Nat.testBit_or, Nat.testBit_two_pow] at h
        simp only [Bool.or_eq_true, decide_eq_true_eq] at h
        rcases h with (h | h) | h
        · exact .inl h
        · exact .inr ⟨e, by simp, hb, .inl h.symm⟩
        · exact .inr ⟨e, by simp, hb, .inr h⟩
      · exact .inl h
    · exact .inr ⟨e', by simp [h1], h2⟩

theorem befores_spec : ∀ (ol : List Oper) (i : Nat) (acc bf : List Nat), acc.length = i → befores ol i acc = some bf →
    bf.length = i + ol.length ∧ (∀ j, j < i → bf[j]? = acc[j]?) ∧
    ∀ j o, ol[j]? = some o → (∀ e ∈ o.after, Region.binds .any e = true → e.on < i + j) ∧ ∃ b, bf[i + j]? = some b ∧ ∀ k, b.testBit k = true → ∃ e ∈ o.after, Region.binds .any e = true ∧ (k = e.on ∨ (bf.getD e.on 0).testBit k = true)
  | [], i, acc, bf, hl, h => by
    simp only [befores, Option.some.injEq] at h
    subst h
    exact ⟨by simp [hl], fun _ _ => rfl, fun j o ho => by simp at ho⟩
  | o :: ol, i, acc, bf, hl, h => by
    simp only [befores] at h
    split at h
    · rename_i hall
      obtain ⟨h1, h2, h3⟩ := befores_spec ol (i + 1) _ bf (by simp [hl]) h
      have hall' : ∀ e ∈ o.after, Region.binds .any e = true → e.on < i := fun e he hb => by
        rw [List.all_eq_true] at hall
        have := hall e (by simpa using he)
        simpa [hb] using this
      refine ⟨by simp [h1]; omega, fun j hj => ?_, fun j o' ho' => ?_⟩
      · rw [h2 j (by omega), List.getElem?_append_left (by omega)]
      · cases j with
        | zero =>
          simp at ho'; subst ho'
          refine ⟨fun e he hb => by simpa using hall' e he hb, o.after.toList.foldl (fun s e => if Region.binds .any e then s ||| 2 ^ e.on ||| acc.getD e.on 0 else s) 0, ?_, ?_⟩
          · rw [Nat.add_zero, h2 i (by omega), List.getElem?_append_right (by omega)]
            simp [hl]
          · intro k hk
            rcases befold _ _ _ hk with h | ⟨e, he, hb, h⟩
            · simp at h
            · refine ⟨e, by simpa using he, hb, h.imp_right fun h => ?_⟩
              have hlt := hall' e (by simpa using he) hb
              have : bf.getD e.on 0 = acc.getD e.on 0 := by
                rw [List.getD_eq_getElem?_getD, List.getD_eq_getElem?_getD, h2 _ (by omega), List.getElem?_append_left (by omega)]
              rw [this]; exact h
        | succ j =>
          obtain ⟨k1, k2⟩ := h3 j o' (by simpa using ho')
          have : i + 1 + j = i + (j + 1) := by omega
          rw [this] at k1 k2
          exact ⟨k1, k2⟩
    · cases h

theorem cOpers_get (Q : Program) (N : Nat) (ops : Array Oper) : ∀ (l : List Oper) (i j : Nat), (cOpers Q N ops i l)[j]? = (l[j]?).map fun o => cOper Q N ops (i + j) o
  | [], _, _ => by simp [cOpers]
  | o :: l, i, 0 => by simp [cOpers]
  | o :: l, i, j + 1 => by
    have : i + 1 + j = i + (j + 1) := by omega
    simp [cOpers, cOpers_get Q N ops l (i + 1) j, this]

theorem dosOf_get (ops : Array Oper) (all : List (List Nat × Nat)) : ∀ (ol : List Oper) (ql : List Op1) (bl : List Nat) (i : Nat), ol.length = ql.length → ol.length = bl.length →
    (dosOf ops all i ol ql bl).length = ol.length ∧ ∀ j d, (dosOf ops all i ol ql bl)[j]? = some d → ∃ o q b, ol[j]? = some o ∧ ql[j]? = some q ∧ bl[j]? = some b ∧ d.i = i + j ∧ d.dst = o.dst ∧ d.rd = readsOf ops o ∧ d.bf = b ∧ d.cls = clsOf q.o ∧ d.o = q ∧ (d.wr = false → clsOf q.o ≠ .write)
  | [], [], [], i, _, _ => ⟨rfl, fun j d h => by simp [dosOf] at h⟩
  | o :: ol, q :: ql, b :: bl, i, h1, h2 => by
    obtain ⟨k1, k2⟩ := dosOf_get ops all ol ql bl (i + 1) (by simpa using h1) (by simpa using h2)
    refine ⟨by simp [dosOf, k1], fun j d h => ?_⟩
    cases j with
    | zero =>
      simp [dosOf] at h
      subst h
      refine ⟨o, q, b, by simp, by simp, by simp, rfl, rfl, rfl, rfl, rfl, rfl, fun hw e => ?_⟩
      rw [e] at hw
      simp [clsW] at hw
    | succ j =>
      obtain ⟨o', q', b', r1, r2, r3, r4, r⟩ := k2 j d (by simpa [dosOf] using h)
      exact ⟨o', q', b', by simpa using r1, by simpa using r2, by simpa using r3, by omega, r⟩
  | _ :: _, [], _, _, h, _ => by simp at h
  | _ :: _, _ :: _, [], _, _, h => by simp at h
  | [], _ :: _, _, _, h, _ => by simp at h
  | [], [], _ :: _, _, _, h => by simp at h

theorem region_wf {Q : Program} {N : Nat} {ops : Array Oper} {c : C} (h : cRegion Q N ops true = c) (hf : c ≠ .fail) :
    ∃ ds ws, Wf ds ws ∧ OpsOk Q N ops ds ∧ c = .dreg ops.size (planOf ds ws) := by
  unfold cRegion at h
  simp only [if_true] at h
  split at h
  · rename_i bf hbf
    split at h
    · rename_i hok
      refine ⟨_, _, ?_, ?_, h.symm⟩
      all_goals
        generalize hds : dosOf ops ((ops.toList.map (readsOf ops)).zip bf) 0 ops.toList (cOpers Q N ops 0 ops.toList) bf = ds at *
        obtain ⟨b1, _, b3⟩ := befores_spec ops.toList 0 [] bf rfl hbf
        have hlen : (cOpers Q N ops 0 ops.toList).length = ops.toList.length := by
          have : ∀ (l : List Oper) i, (cOpers Q N ops i l).length = l.length := by
            intro l
            induction l with
            | nil => intro i; rfl
            | cons o l ih => intro i; simp [cOpers, ih]
          exact this _ _
        obtain ⟨d1, d2⟩ := dosOf_get ops ((ops.toList.map (readsOf ops)).zip bf) ops.toList (cOpers Q N ops 0 ops.toList) bf 0 hlen.symm (by omega)
        rw [hds] at d1 d2
        have key : ∀ j d, ds[j]? = some d → ∃ o b, ops[j]? = some o ∧ bf[j]? = some b ∧ d.i = j ∧ d.dst = o.dst ∧ d.rd = readsOf ops o ∧ d.bf = b ∧ d.o = cOper Q N ops j o ∧ d.cls = clsOf d.o.o ∧ (d.wr = false → clsOf d.o.o ≠ .write) := by
          intro j d hd
          obtain ⟨o, q, b, r1, r2, r3, r4, r5, r6, r7, r8, r9, r10⟩ := d2 j d hd
          rw [cOpers_get, r1] at r2
          simp only [Option.map_some, Option.some.injEq, Nat.zero_add] at r2
          subst r2
          exact ⟨o, b, by simpa using r1, r3, by omega, r5, r6, r7, r9, by rw [r9]; exact r8, by rw [r9]; exact r10⟩
      · constructor
        · rw [List.pairwise_iff_getElem]
          intro i j hi hj hij
          obtain ⟨_, _, _, _, e1, _⟩ := key i ds[i] (by simp [hi])
          obtain ⟨_, _, _, _, e2, _⟩ := key j ds[j] (by simp [hj])
          omega
        · rfl
        · intro d hd
          obtain ⟨j, hj⟩ := List.getElem?_of_mem hd
          obtain ⟨o, b, _, _, _, _, _, _, _, h, _⟩ := key j d hj
          exact h
        · intro d hd
          obtain ⟨j, hj⟩ := List.getElem?_of_mem hd
          obtain ⟨o, b, _, _, _, _, _, _, _, _, h⟩ := key j d hj
          exact h
        · intro d hd
          obtain ⟨j, hj⟩ := List.getElem?_of_mem hd
          obtain ⟨o, b, _, _, h1, _, _, _, h, _⟩ := key j d hj
          rw [h, h1]
          unfold cOper
          repeat' split
          all_goals rfl
        · intro d hd
          obtain ⟨j, hj⟩ := List.getElem?_of_mem hd
          obtain ⟨o, b, _, _, h1, h2, _, _, h, _⟩ := key j d hj
          rw [h, h2]
          unfold cOper
          repeat' split
          all_goals rfl
        · intro d hd p w hg
          obtain ⟨j, hj⟩ := List.getElem?_of_mem hd
          obtain ⟨o, b, _, _, h1, h2, h3, _, h, _⟩ := key j d hj
          rw [h] at hg
          rcases cOper_cases Q N ops j o with ⟨_, k⟩ | ⟨_, _, k⟩
          · rw [k] at hg; cases hg
          · rw [hg] at k
            unfold gdOf at k
            split at k
            · cases k
            · rename_i j' w' hgo
              split at k
              · rename_i t ht
                simp only [Option.some.injEq, Prod.mk.injEq] at k
                obtain ⟨rfl, rfl⟩ := k
                exact ⟨t, by rw [h3]; exact readsOf_guard hgo ht, rfl⟩
              · cases k
        · exact hok
      · constructor
        · simpa using d1
        · intro i o hi
          have hlt : i < ds.length := by
            rw [d1]
            have := (Array.getElem?_eq_some_iff.1 hi).1
            simpa using this
          obtain ⟨_, _, _, _, e, _⟩ := key i ds[i] (by simp [hlt])
          exact ⟨ds[i], List.getElem_mem hlt, e⟩
        · intro d hd
          obtain ⟨j, hj⟩ := List.getElem?_of_mem hd
          obtain ⟨o, b, h0, _, h1, h2, h3, _, h, _⟩ := key j d hj
          exact ⟨o, by rw [h1]; exact h0, h2, h3, by rw [h1]; exact h⟩
        · intro d hd o ho k hk
          obtain ⟨j, hj⟩ := List.getElem?_of_mem hd
          obtain ⟨o', b, h0, hb, h1, _, _, hbf', _⟩ := key j d hj
          rw [h1, h0] at ho; cases ho
          obtain ⟨_, b', hb', hbit⟩ := b3 j _ (by simpa using h0)
          rw [Nat.zero_add, hb] at hb'; cases hb'
          rw [hbf'] at hk
          obtain ⟨e, he, hbd, hor⟩ := hbit k hk
          refine ⟨e, he, hbd, hor.imp_right fun hx => ?_⟩
          have hlt : e.on < ds.length := by
            have h1' := (b3 j _ (by simpa using h0)).1 e he hbd
            have := (List.getElem?_eq_some_iff.1 hj).1
            omega
          obtain ⟨_, b2, _, hb2, e1, _, _, e2, _⟩ := key e.on ds[e.on] (by simp [hlt])
          refine ⟨ds[e.on], List.getElem_mem hlt, e1, ?_⟩
          rw [e2]
          rw [List.getD_eq_getElem?_getD, hb2] at hx
          exact hx
        · intro d hd o ho e he hbd
          obtain ⟨j, hj⟩ := List.getElem?_of_mem hd
          obtain ⟨o', b, h0, hb, h1, _⟩ := key j d hj
          rw [h1, h0] at ho; cases ho
          have := (b3 j _ (by simpa using h0)).1 e he hbd
          omega
    · exact absurd h.symm hf
  · exact absurd h.symm hf

section
variable {Q : Program} {Rr : Type} {call : FV → List V → S → (V → S → Option Rr) → Option Rr}
variable {base N : Nat} {ds ws : List DO} {K : Env → S → Option Rr} {r : Rr} {φ0 : Phi} {s0 : S} {w0 : World} {ops : Array Oper}

/- how many ops are still to come -/
def left (ops : Array Oper) (listed : Array Bool) : Nat := ((List.range ops.size).filter fun i => !listed.getD i true).length

theorem filter_lt {p q : Nat → Bool} : ∀ {l : List Nat} {i : Nat}, i ∈ l → p i = true → q i = false → (∀ j, q j = true → p j = true) → (l.filter q).length < (l.filter p).length
  | a :: l, i, hi, hp, hq, hpq => by
    have hle : ∀ l : List Nat, (l.filter q).length ≤ (l.filter p).length := by
      intro l
      induction l with
      | nil => simp
      | cons a l ih =>
        simp only [List.filter_cons]
        cases e : q a with
        | true => rw [hpq a e]; simp [ih]
        | false => cases p a <;> simp <;> omega
    rcases List.mem_cons.1 hi with rfl | hm
    · simp only [List.filter_cons, hp, hq, if_true]
      have := hle l
      simp; omega
    · have ih := filter_lt hm hp hq hpq
      simp only [List.filter_cons]
      cases e : q a with
      | true => rw [hpq a e]; simpa using ih
      | false => cases p a <;> simp <;> omega

theorem left_set {listed : Array Bool} {i : Nat} (hi : i < ops.size) (hs : listed.size = ops.size) (hu : listed.getD i true = false) : left ops (listed.setIfInBounds i true) < left ops listed := by
  refine filter_lt (i := i) (by simpa using hi) (by simp [hu]) ?_ fun j hj => ?_
  · simp [hs, hi]
  · by_cases e : j = i
    · subst e; rw [hu]; rfl
    · rw [getD_set_ne true (fun x => e x.symm)] at hj; exact hj

theorem left_zero {listed : Array Bool} (h : left ops listed = 0) {i : Nat} (hi : i < ops.size) : listed.getD i true = true := by
  unfold left at h
  rw [List.length_eq_zero_iff, List.filter_eq_nil_iff] at h
  have := h i (by simpa using hi)
  simpa using this

theorem getD_tf {listed : Array Bool} {i : Nat} (hi : i < listed.size) : listed.getD i true = listed.getD i false := by simp [hi]

/- some op can be done while one is left -/
theorem ready_some (ho : OpsOk Q N ops ds) {listed : Array Bool} (hs : listed.size = ops.size) : ∀ i, i < ops.size → listed.getD i true = false → Region.ready .any ops listed ≠ [] := by
  intro i
  induction i using Nat.strongRecOn with
  | _ i ih =>
    intro hi hu he
    obtain ⟨d, hd, hdi⟩ := ho.at i ops[i] (by simp [hi])
    by_cases hall : ∀ e ∈ ops[i].after, Region.binds .any e = true → listed.getD e.on false = true
    · have : i ∈ Region.ready .any ops listed := mem_ready.2 ⟨hu, ops[i], by simp [hi], hall⟩
      rw [he] at this; cases this
    · simp only [Classical.not_forall] at hall
      obtain ⟨e, he', hb, hn⟩ := hall
      have hlt := ho.fwd d hd ops[i] (by rw [hdi]; simp [hi]) e he' hb
      rw [hdi] at hlt
      refine ih e.on hlt (by omega) ?_ he
      rw [getD_tf (by omega)]
      simpa using hn

theorem sched_run (hcall : CallOk Q call) (hw : Wf ds ws) (ho : OpsOk Q N ops ds) (hbase : s0.nx ≤ base) : ∀ (fuel t : Nat) (listed : Array Bool), listed.size = ops.size → left ops listed ≤ fuel →
    ∀ {done todo : List DO} {φ : Phi} {E : Env} {s : S} {w : World} {tmps : Array Value}, Inv Q call base N ds ws K r φ0 s0 w0 listed done todo φ E s w tmps →
    ∃ E' s' φ' w' tmps', K E' s' = some r ∧ EnvR φ' N E' tmps' ∧ Sim Q φ' s' w' ∧ Keep φ0 s0 w0 φ' s' w' ∧ (∀ b, b < s0.nx → φ0 b = none → φ' b = none) ∧
      ∀ (b : Frame) (dd : List Deferred) (kk : List Item) (cs : List Frame), Steps Q (lone (Fr b tmps dd (.inRegion ops (Region.linearise.go .any ops fuel t listed []) :: kk)) cs w) (lone (Fr b tmps' dd kk) cs w') := by
  intro fuel
  have fin : ∀ (listed : Array Bool), listed.size = ops.size → (∀ i, i < ops.size → listed.getD i true = true) → ∀ {done todo : List DO} {φ : Phi} {E : Env} {s : S} {w : World} {tmps : Array Value}, Inv Q call base N ds ws K r φ0 s0 w0 listed done todo φ E s w tmps →
    ∃ E' s' φ' w' tmps', K E' s' = some r ∧ EnvR φ' N E' tmps' ∧ Sim Q φ' s' w' ∧ Keep φ0 s0 w0 φ' s' w' ∧ (∀ b, b < s0.nx → φ0 b = none → φ' b = none) ∧
      ∀ (b : Frame) (dd : List Deferred) (kk : List Item) (cs : List Frame), Steps Q (lone (Fr b tmps dd (.inRegion ops [] :: kk)) cs w) (lone (Fr b tmps' dd kk) cs w') := by
    intro listed hs hall done todo φ E s w tmps iv
    have hl : ∀ d ∈ ds, Lst listed d.i := fun d hd => by
      obtain ⟨o, hop, _⟩ := ho.op d hd
      have hlt := (Array.getElem?_eq_some_iff.1 hop).1
      unfold Lst
      rw [← getD_tf (by omega)]
      exact hall _ hlt
    have htodo : todo = [] := by
      cases htd : todo with
      | nil => rfl
      | cons d l =>
        exfalso
        have hd : d ∈ ds := by
          have : d ∈ ws := by rw [iv.split, htd]; simp
          rw [hw.wsub] at this
          exact (List.mem_filter.1 this).1
        exact iv.td d (by rw [htd]; simp) (hl d hd)
    subst htodo
    have hp := iv.plan
    simp only [stages, evPlan] at hp
    refine ⟨E, s, φ, w, tmps, hp, ⟨iv.size, fun t => (iv.env t).resolve_left fun ⟨a, ha, h, _⟩ => h (hl a ha)⟩, iv.sim, iv.keep, iv.dom, fun b dd kk cs => .one st_region_end⟩
  induction fuel with
  | zero =>
    intro t listed hs hle done todo φ E s w tmps iv
    simp only [Region.linearise.go, List.reverse_nil]
    exact fin listed hs (fun i hi => left_zero (by omega) hi) iv
  | succ fuel ih =>
    intro t listed hs hle done todo φ E s w tmps iv
    simp only [Region.linearise.go]
    change ∃ E' s' φ' w' tmps', K E' s' = some r ∧ EnvR φ' N E' tmps' ∧ Sim Q φ' s' w' ∧ Keep φ0 s0 w0 φ' s' w' ∧ (∀ b, b < s0.nx → φ0 b = none → φ' b = none) ∧
      ∀ (b : Frame) (dd : List Deferred) (kk : List Item) (cs : List Frame), Steps Q (lone (Fr b tmps dd (.inRegion ops (match (Region.ready .any ops listed)[t % (Region.ready .any ops listed).length]? with
      | some i => Region.linearise.go .any ops fuel (t / (Region.ready .any ops listed).length) (listed.setIfInBounds i true) [i]
      | none => [].reverse) :: kk)) cs w) (lone (Fr b tmps' dd kk) cs w')
    cases hi : (Region.ready .any ops listed)[t % (Region.ready .any ops listed).length]? with
    | none =>
      have hnil : Region.ready .any ops listed = [] := by
        cases hr : Region.ready .any ops listed with
        | nil => rfl
        | cons x xs =>
          rw [hr] at hi
          have hlt : t % (x :: xs).length < (x :: xs).length := Nat.mod_lt _ (by simp)
          rw [List.getElem?_eq_none_iff] at hi
          omega
      refine fin listed hs (fun i hi => ?_) iv
      cases e : listed.getD i true with
      | true => rfl
      | false => exact absurd hnil (ready_some ho hs i hi e)
    | some i =>
      simp only []
      obtain ⟨hu, o, hop, hrd⟩ := mem_ready.1 (List.mem_of_getElem? hi)
      have hlt := (Array.getElem?_eq_some_iff.1 hop).1
      obtain ⟨d, hd, hdi⟩ := ho.at i o hop
      subst hdi
      have hun : ¬ Lst listed d.i := by
        unfold Lst
        rw [← getD_tf (by omega), hu]; simp
      have hl2 : left ops (listed.setIfInBounds d.i true) ≤ fuel := by
        have := left_set hlt hs hu
        omega
      obtain ⟨done', todo', φ1, E1, s1, w1, tmps1, iv1, hst⟩ : ∃ done' todo' φ' E' s' w' tmps', Inv Q call base N ds ws K r φ0 s0 w0 (listed.setIfInBounds d.i true) done' todo' φ' E' s' w' tmps' ∧
      ∀ (b : Frame) (dd : List Deferred) (rest : List Nat) (kk : List Item) (cs : List Frame), Steps Q (lone (Fr b tmps dd (.inRegion ops (d.i :: rest) :: kk)) cs w) (lone (Fr b tmps' dd (.inRegion ops rest :: kk)) cs w') := by
        cases hwr : d.wr with
        | false =>
          obtain ⟨φ', w', tmps', h1, h2⟩ := step_read hcall hw ho iv hbase hd hwr hop hrd hun (by omega)
          exact ⟨_, _, _, _, _, _, _, h1, h2⟩
        | true => exact step_write hcall hw ho iv hd hwr hop hrd hun (by omega)
      obtain ⟨E', s', φ', w', tmps', h1, h2, h3, h4, h5, h6⟩ := ih (t / (Region.ready .any ops listed).length) (listed.setIfInBounds d.i true) (by simpa using hs) hl2 iv1
      refine ⟨E', s', φ', w', tmps', h1, h2, h3, h4, h5, fun b dd kk cs => ?_⟩
      rw [linearise_go_acc, List.reverse_singleton, List.singleton_append]
      exact (hst b dd _ kk cs).trans (h6 b dd kk cs)

/- a region whose order is open -/
theorem dreg_ok (hm : Q.follows .mixedOrders = true) (hcall : CallOk Q call) {n : Nat} {ps : List PI} (hc : cRegion Q N ops true = .dreg n ps) {φ : Phi} {E : Env} {s : S} {w : World} {tmps : Array Value} (henv : EnvR φ N E tmps) (hsim : Sim Q φ s w)
    (hr : evPlan call s.nx ps E ⟨s.h, s.nx + n⟩ K = some r) (t : Nat) :
    ∃ E' s' φ' w' tmps', K E' s' = some r ∧ EnvR φ' N E' tmps' ∧ Sim Q φ' s' w' ∧ Keep φ s w φ' s' w' ∧ (∀ b, b < s.nx → φ b = none → φ' b = none) ∧
      ∀ (b : Frame) (dd : List Deferred) (kk : List Item) (cs : List Frame), Steps Q (lone (Fr b tmps dd (.inRegion ops (Region.schedule (Q.follows .mixedOrders) ops t) :: kk)) cs w) (lone (Fr b tmps' dd kk) cs w') := by
  obtain ⟨ds, ws, hw, ho, he⟩ := region_wf hc (by simp)
  cases he
  unfold planOf at hr
  obtain ⟨E2, s2, h1, h2, h3, h4, h5, h6⟩ := stageOps_run hw 0 (E0 := E) ds (List.Sublist.refl _) _ _ hr
  have hget : ∀ b, φ b ≠ none → s2.get b = s.get b := fun b hb => by
    by_cases e : s2.get b = (⟨s.h, s.nx + ops.size⟩ : S).get b
    · exact e
    · obtain ⟨a, _, _, _, rfl⟩ := h5 b e
      cases hφ : φ (s.nx + a.i) with
      | none => exact absurd hφ hb
      | some pl => have := hsim.lt _ _ hφ; omega
  have hnl : ∀ i, ¬ Lst (Array.replicate ops.size false) i := fun i => by
    unfold Lst
    simp only [Array.getD_eq_getD_getElem?, Array.getElem?_replicate]
    split <;> simp
  have hnx : s2.nx = s.nx + ops.size := h2
  have iv : Inv Q call s.nx N ds ws K r φ s w (Array.replicate ops.size false) [] ws φ E2 s2 w tmps := by
    constructor
    · rfl
    · intro d hd; cases hd
    · exact fun d _ => hnl _
    · exact h1
    · intro d hd _ hwr hst
      exact h6 d hd hwr (by simpa using hst)
    · exact hsim.congr hget (by omega)
    · intro d hd
      obtain ⟨o, hop, _⟩ := ho.op d hd
      have := (Array.getElem?_eq_some_iff.1 hop).1
      omega
    · intro d _ _
      cases hφ : φ (s.nx + d.i) with
      | none => rfl
      | some pl => have := hsim.lt _ _ hφ; omega
    · exact henv.1
    · intro t
      by_cases hb : ∃ a ∈ ds, a.wr = false ∧ stOf ws a = 0 ∧ a.dst = some t
      · obtain ⟨a, ha, hwa, hs, hda⟩ := hb
        exact .inl ⟨a, ha, hnl _, hwa, by omega, hda⟩
      · refine .inr ?_
        rw [h4 t fun a ha hwa hs hda => hb ⟨a, ha, hwa, hs, hda⟩]
        exact henv.2 t
    · intro d _ hl; exact absurd hl (hnl _)
    · exact (Keep.refl φ s w).congr hget (by omega)
    · exact fun _ _ h => h
  obtain ⟨E', s', φ', w', tmps', k1, k2, k3, k4, k5, k6⟩ := sched_run hcall hw ho (Nat.le_refl _) ops.size t (Array.replicate ops.size false) (by simp) (by
    unfold left
    exact Nat.le_trans (List.length_filter_le _ _) (by simp)) iv
  refine ⟨E', s', φ', w', tmps', k1, k2, k3, k4, k5, fun b dd kk cs => ?_⟩
  simp only [Region.schedule, hm, Bool.true_or, if_true, Region.linearise]
  exact k6 b dd kk cs

end
end Go.Ev
