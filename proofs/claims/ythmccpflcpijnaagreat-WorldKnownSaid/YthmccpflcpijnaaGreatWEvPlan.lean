/- Regions whose order is open: the plan, and what it leaves for each operation. -/
import Derived.Test.YthmccpflcpijnaaGreatWEvDraw
import Derived.Orders
namespace Go.Ev

theorem hasNat_iff (n : Nat) : ∀ l : List Nat, hasNat n l = true ↔ n ∈ l
  | [] => by simp [hasNat]
  | m :: l => by
    simp only [hasNat, List.mem_cons]
    cases e : Nat.beq m n with
    | true => simp [Nat.eq_of_beq_eq_true e]
    | false =>
      have : n ≠ m := fun h => by subst h; simp [Nat.beq_refl] at e
      simp [this, hasNat_iff n l]

theorem pSame_iff : ∀ {p q : P}, pSame p q = true → p = q
  | .h, .h, _ => rfl
  | .o p, .o q, h => by rw [pSame_iff (p := p) (q := q) h]
  | .i p, .i q, h => by rw [pSame_iff (p := p) (q := q) h]
  | .h, .o _, h => by simp [pSame] at h
  | .h, .i _, h => by simp [pSame] at h
  | .o _, .h, h => by simp [pSame] at h
  | .o _, .i _, h => by simp [pSame] at h
  | .i _, .h, h => by simp [pSame] at h
  | .i _, .o _, h => by simp [pSame] at h

/- what is known of the list of a region's ops -/
structure Wf (ds ws : List DO) : Prop where
  sorted : ds.Pairwise (fun a b => a.i < b.i)
  wsub : ws = ds.filter (·.wr)
  cls : ∀ d ∈ ds, d.cls = clsOf d.o.o
  nwr : ∀ d ∈ ds, d.wr = false → clsOf d.o.o ≠ .write
  id : ∀ d ∈ ds, d.o.id = d.i
  dst : ∀ d ∈ ds, d.o.dst = d.dst.map P.of
  gd : ∀ d ∈ ds, ∀ p w, d.o.gd = some (p, w) → ∃ t ∈ d.rd, p = P.of t
  ok : drawOk ds ws = true

section
variable {ds ws : List DO}

theorem Wf.sees (h : Wf ds ws) {d : DO} (hd : d ∈ ds) {x : X} (hx : x ∈ opsX d.o.o) {p : P} (hp : x = .t p) : ∃ t ∈ d.rd, p = P.of t := by
  have := h.ok
  simp only [drawOk, Bool.and_eq_true, List.all_eq_true] at this
  have := this.1.1.2 d hd
  simp only [seesOk, List.all_eq_true] at this
  have := this x hx
  subst hp
  simp only [List.any_eq_true] at this
  obtain ⟨t, ht, hs⟩ := this
  exact ⟨t, ht, (pSame_iff hs).symm⟩

theorem Wf.pair (h : Wf ds ws) {a b : DO} (ha : a ∈ ds) (hb : b ∈ ds) {t : Nat} (ht : a.dst = some t) :
    (a.i ≠ b.i → b.dst ≠ some t) ∧ (t ∈ b.rd → (b.bf.testBit a.i = true ∧ a.i < b.i ∧ (a.wr = true ∨ stOf ws a ≤ stOf ws b)) ∨ (a.wr = true ∧ (a.bf.testBit b.i = true ∨ a.i = b.i))) := by
  have := h.ok
  simp only [drawOk, Bool.and_eq_true, List.all_eq_true] at this
  have := this.2 a ha b hb
  simp only [pairOk, ht, Bool.and_eq_true] at this
  refine ⟨fun hne => ?_, fun hm => ?_⟩
  · have h1 := this.1
    rw [beqf hne, cond_false] at h1
    intro e
    rw [e] at h1
    simp [Nat.beq_refl] at h1
  · have h2 := this.2
    rw [(hasNat_iff t b.rd).2 hm, cond_true] at h2
    simp only [Bool.or_eq_true, Bool.and_eq_true] at h2
    rcases h2 with ⟨⟨h1, h2⟩, h3⟩ | ⟨h1, h2⟩
    · refine .inl ⟨h1, by simp [Nat.blt] at h2; omega, h3.imp (fun x => x) fun h => Nat.le_of_ble_eq_true h⟩
    · exact .inr ⟨h1, h2.imp (fun x => x) Nat.eq_of_beq_eq_true⟩

theorem Wf.uniq (h : Wf ds ws) {a b : DO} (ha : a ∈ ds) (hb : b ∈ ds) (e : a.i = b.i) : a = b := by
  obtain ⟨i, hi⟩ := List.getElem?_of_mem ha
  obtain ⟨j, hj⟩ := List.getElem?_of_mem hb
  rcases Nat.lt_trichotomy i j with hlt | heq | hgt
  · have := List.pairwise_iff_getElem.1 h.sorted i j (List.getElem?_eq_some_iff.1 hi).1 (List.getElem?_eq_some_iff.1 hj).1 hlt
    rw [(List.getElem?_eq_some_iff.1 hi).2, (List.getElem?_eq_some_iff.1 hj).2] at this
    omega
  · subst heq; rw [hi] at hj; cases hj; rfl
  · have := List.pairwise_iff_getElem.1 h.sorted j i (List.getElem?_eq_some_iff.1 hj).1 (List.getElem?_eq_some_iff.1 hi).1 hgt
    rw [(List.getElem?_eq_some_iff.1 hi).2, (List.getElem?_eq_some_iff.1 hj).2] at this
    omega

/- two environments agree on what an op looks at -/
def Agree (d : DO) (E E' : Env) : Prop := ∀ t ∈ d.rd, E'.get (P.of t) = E.get (P.of t)

theorem Agree.val {h : Wf ds ws} {d : DO} (hd : d ∈ ds) {E E' : Env} (a : Agree d E E') : ∀ x ∈ opsX d.o.o, E'.val x = E.val x := by
  intro x hx
  cases x with
  | c v => rfl
  | t p =>
    obtain ⟨t, ht, rfl⟩ := h.sees hd hx rfl
    exact a t ht

theorem Agree.wanted (h : Wf ds ws) {d : DO} (hd : d ∈ ds) {E E' : Env} (a : Agree d E E') : wanted E' d.o.gd = wanted E d.o.gd := by
  cases e : d.o.gd with
  | none => rfl
  | some g =>
    obtain ⟨p, w⟩ := g
    obtain ⟨t, ht, rfl⟩ := h.gd d hd _ _ e
    simp only [Ev.wanted, a t ht]

theorem Agree.objOf (h : Wf ds ws) {d : DO} (hd : d ∈ ds) {E E' : Env} (a : Agree d E E') : objOf E' d.o.o = objOf E d.o.o := by
  have hv := a.val (h := h) hd
  revert hv
  cases d.o.o <;> simp only [opsX, List.mem_cons, List.not_mem_nil, or_false, forall_eq_or_imp, forall_eq, List.mem_map] <;> intro hv <;> try (simp only [Ev.objOf, hv]; done)
  case bsl sz len zero ps => simp only [Ev.objOf]; rw [fill_congr ps _ (fun p hp => hv _ ⟨p, hp, rfl⟩)]
  all_goals rfl

variable {Rr : Type} {call : FV → List V → S → (V → S → Option Rr) → Option Rr} {base : Nat} {K : Env → S → Option Rr} {r : Rr}

theorem Agree.evO (h : Wf ds ws) {d : DO} (hd : d ∈ ds) {E E' : Env} (a : Agree d E E') {sl : Option Nat} {s : S} {k : V → S → Option Rr} : evO call sl d.o.o E' s k = evO call sl d.o.o E s k :=
  evO_congr (a.val (h := h) hd)

/- done now, an op gives what the plan has for it -/
def FreshV (call : FV → List V → S → (V → S → Option Rr) → Option Rr) (base : Nat) (d : DO) (E : Env) (s : S) (v : V) : Prop :=
  match clsOf d.o.o with
  | .pure => ∀ sl' s' (k' : V → S → Option Rr), evO call sl' d.o.o E s' k' = k' v s'
  | .read => ∀ sl' s' (k' : V → S → Option Rr), GetSub s s' → evO call sl' d.o.o E s' k' = k' v s'
  | .new => ∃ ob, objOf E d.o.o = some ob ∧ s.get (base + d.i) = some ob ∧ ∀ s' (k' : V → S → Option Rr), evO call (some (base + d.i)) d.o.o E s' k' = k' v (s'.new (some (base + d.i)) ob)
  | .write => False

def Fresh (call : FV → List V → S → (V → S → Option Rr) → Option Rr) (base : Nat) (d : DO) (E : Env) (s : S) : Prop :=
  if wanted E d.o.gd = true then ∃ v, (∀ t, d.dst = some t → v = E.get (P.of t)) ∧ FreshV call base d E s v
  else ∀ t, d.dst = some t → E.get (P.of t) = undef

theorem FreshV.mono (h : Wf ds ws) {d : DO} (hd : d ∈ ds) {E E' : Env} {s s' : S} {v : V} (f : FreshV call base d E s v) (a : Agree d E E') (g : clsOf d.o.o = .pure ∨ GetSub s s') : FreshV call base d E' s' v := by
  unfold FreshV at *
  have hE : ∀ sl (s : S) (k : V → S → Option Rr), evO call sl d.o.o E' s k = evO call sl d.o.o E s k := fun sl s k => a.evO h hd
  cases hc : clsOf d.o.o <;> rw [hc] at f g <;> simp only [reduceCtorEq, false_or, hE, a.objOf h hd] at *
  · exact f
  · exact fun sl' s'' k' hs => f sl' s'' k' (g.trans hs)
  · obtain ⟨ob, h1, h2, h3⟩ := f
    exact ⟨ob, h1, g _ _ h2, h3⟩

theorem Fresh.mono (h : Wf ds ws) {d : DO} (hd : d ∈ ds) {E E' : Env} {s s' : S} (f : Fresh call base d E s) (a : Agree d E E') (hdst : ∀ t, d.dst = some t → E'.get (P.of t) = E.get (P.of t)) (g : clsOf d.o.o = .pure ∨ GetSub s s') : Fresh call base d E' s' := by
  unfold Fresh at *
  rw [a.wanted h hd]
  split
  · rename_i hw
    rw [if_pos hw] at f
    obtain ⟨v, h1, h2⟩ := f
    exact ⟨v, fun t ht => (h1 t ht).trans (hdst t ht).symm, h2.mono h hd a g⟩
  · rename_i hw
    rw [if_neg hw] at f
    exact fun t ht => (hdst t ht).trans (f t ht)

theorem setD_get (E : Env) (d : Option Nat) (v : V) (t : Nat) : (setD E (d.map P.of) v).get (P.of t) = if d = some t then v else E.get (P.of t) := by
  cases d with
  | none => simp [setD]
  | some u =>
    simp only [setD, Option.map_some, Env.get_set, Option.some.injEq]
    by_cases e : u = t
    · subst e; simp
    · have : ¬ P.of t = P.of u := fun h => e (P.of_inj h).symm
      simp [e, this]

theorem S.get_newS {s : S} {b : Nat} {ob : Obj} {b' : Nat} : (s.new (some b) ob).get b' = if b' = b then some ob else s.get b' := S.get_new s (some b) ob b'

theorem GetSub.new {s : S} {b : Nat} {ob : Obj} (h : s.get b = none) : GetSub s (s.new (some b) ob) := by
  intro b' o' hg
  rw [S.get_newS]
  by_cases e : b' = b
  · subst e; rw [h] at hg; cases hg
  · rw [if_neg e]; exact hg

/- the ops of one stage are done -/
theorem stageOps_run (h : Wf ds ws) (j : Nat) {E0 : Env} {rest : List PI} : ∀ (l : List DO), l.Sublist ds → ∀ (E : Env) (s : S), evPlan call base (stageOps ws j l ++ rest) E s K = some r →
    ∃ E2 s2, evPlan call base rest E2 s2 K = some r ∧ s2.nx = s.nx ∧ GetSub s s2 ∧
      (∀ t, (∀ d ∈ l, d.wr = false → stOf ws d = j → d.dst ≠ some t) → E2.get (P.of t) = E.get (P.of t)) ∧
      (∀ b, s2.get b ≠ s.get b → ∃ d ∈ l, d.wr = false ∧ stOf ws d = j ∧ b = base + d.i) ∧
      (∀ d ∈ l, d.wr = false → stOf ws d = j → Fresh call base d E2 s2)
  | [], _, E, s, hr => ⟨E, s, hr, rfl, GetSub.refl s, fun _ _ => rfl, fun b hb => absurd rfl hb, fun d hd => by simp at hd⟩
  | d :: l, hsub, E, s, hr => by
    have hd : d ∈ ds := hsub.subset (by simp)
    have hsub' : l.Sublist ds := (List.sublist_cons_self d l).trans hsub
    have hsort := h.sorted.sublist hsub
    by_cases hst : d.wr = false ∧ stOf ws d = j
    · obtain ⟨hwr, hj⟩ := hst
      have hlist : stageOps ws j (d :: l) = .op d.o :: stageOps ws j l := by simp [stageOps, hwr, beqt hj]
      rw [hlist] at hr
      -- what the rest keeps
      have hrest : ∀ (E1 : Env) (s1 : S), Fresh call base d E1 s1 → s1.nx = s.nx → GetSub s s1 → (∀ t, d.dst ≠ some t → E1.get (P.of t) = E.get (P.of t)) → (∀ b, s1.get b ≠ s.get b → b = base + d.i) →
          evPlan call base (stageOps ws j l ++ rest) E1 s1 K = some r → ∃ E2 s2, evPlan call base rest E2 s2 K = some r ∧ s2.nx = s.nx ∧ GetSub s s2 ∧
      (∀ t, (∀ a ∈ d :: l, a.wr = false → stOf ws a = j → a.dst ≠ some t) → E2.get (P.of t) = E.get (P.of t)) ∧
      (∀ b, s2.get b ≠ s.get b → ∃ a ∈ d :: l, a.wr = false ∧ stOf ws a = j ∧ b = base + a.i) ∧
      (∀ a ∈ d :: l, a.wr = false → stOf ws a = j → Fresh call base a E2 s2) := fun E1 s1 hf hnx hgs hE hb hr1 => by
        obtain ⟨E2, s2, k1, k2, k3, k4, k5, k6⟩ := stageOps_run h j (E0 := E0) l hsub' E1 s1 hr1
        refine ⟨E2, s2, k1, k2.trans hnx, hgs.trans k3, fun t ht => ?_, fun b hne => ?_, fun a ha hwa hja => ?_⟩
        · rw [k4 t fun a ha => ht a (by simp [ha]), hE t (ht d (by simp) hwr hj)]
        · by_cases e : s2.get b = s1.get b
          · exact ⟨d, by simp, hwr, hj, hb b (by rw [← e]; exact hne)⟩
          · obtain ⟨a, ha, hba⟩ := k5 b e
            exact ⟨a, by simp [ha], hba⟩
        · rcases List.mem_cons.1 ha with rfl | ha
          · refine hf.mono h hd (fun t ht => k4 t fun a' ha' hwa' hja' hdst => ?_) (fun t ht => k4 t fun a' ha' hwa' hja' hdst => ?_) (.inr k3)
            · have hlt : a.i < a'.i := List.rel_of_pairwise_cons hsort ha'
              rcases (h.pair (hsub'.subset ha') hd hdst).2 ht with ⟨_, h2, _⟩ | ⟨h2, _⟩
              · omega
              · rw [hwa'] at h2; cases h2
            · have hlt : a.i < a'.i := List.rel_of_pairwise_cons hsort ha'
              exact (h.pair (hsub'.subset ha') hd hdst).1 (by omega) ht
          · exact k6 a ha hwa hja
      have hnotself : ∀ t, d.dst = some t → t ∉ d.rd := fun t ht hm => by
        rcases (h.pair hd hd ht).2 hm with ⟨_, h2, _⟩ | ⟨h2, _⟩
        · omega
        · rw [hwr] at h2; cases h2
      have hag : ∀ v, Agree d E (setD E d.o.dst v) := fun v t ht => by
        rw [h.dst d hd, setD_get, if_neg]
        exact fun e => hnotself t e ht
      have hset : ∀ v t, d.dst = some t → (setD E d.o.dst v).get (P.of t) = v := fun v t ht => by rw [h.dst d hd, setD_get, if_pos ht]
      have hset' : ∀ v t, d.dst ≠ some t → (setD E d.o.dst v).get (P.of t) = E.get (P.of t) := fun v t ht => by rw [h.dst d hd, setD_get, if_neg ht]
      simp only [List.cons_append, evPlan] at hr
      cases hw : wanted E d.o.gd with
      | false =>
        rw [hw, cond_false] at hr
        refine hrest _ s ?_ rfl (GetSub.refl s) (hset' _) (fun b hb => absurd rfl hb) hr
        unfold Fresh
        rw [(hag undef).wanted h hd, hw]
        simpa using hset undef
      | true =>
        rw [hw, cond_true] at hr
        cases hfr : freeAt s (slotOf base d.o) with
        | false => rw [hfr, cond_false] at hr; cases hr
        | true =>
          rw [hfr, cond_true] at hr
          have mk : ∀ v s1, FreshV call base d (setD E d.o.dst v) s1 v → Fresh call base d (setD E d.o.dst v) s1 := fun v s1 hf => by
            unfold Fresh
            rw [(hag v).wanted h hd, hw, if_pos rfl]
            exact ⟨v, fun t ht => (hset v t ht).symm, hf⟩
          cases hc : clsOf d.o.o with
          | write => exact absurd hc (h.nwr d hd hwr)
          | pure =>
            obtain ⟨v, hv⟩ := evO_pure hc hr
            rw [hv] at hr
            refine hrest _ s (mk v s (FreshV.mono (E := E) (s := s) h hd (by unfold FreshV; rw [hc]; exact hv) (hag v) (.inr (GetSub.refl s)))) rfl (GetSub.refl s) (hset' _) (fun b hb => absurd rfl hb) hr
          | read =>
            obtain ⟨v, hv⟩ := evO_read hc hr
            rw [hv _ s _ (GetSub.refl s)] at hr
            refine hrest _ s (mk v s (FreshV.mono (E := E) (s := s) h hd (by unfold FreshV; rw [hc]; exact hv) (hag v) (.inr (GetSub.refl s)))) rfl (GetSub.refl s) (hset' _) (fun b hb => absurd rfl hb) hr
          | new =>
            have hslot : slotOf base d.o = some (base + d.i) := by
              rw [← h.id d hd]
              unfold slotOf
              revert hc
              cases d.o.o <;> simp [clsOf]
            rw [hslot] at hr hfr
            obtain ⟨v, ob, hob, hv⟩ := evO_new hc hr
            rw [hv] at hr
            have hnone : s.get (base + d.i) = none := by simpa [freeAt] using hfr
            refine hrest _ (s.new (some (base + d.i)) ob) (mk v _ (FreshV.mono (E := E) (s := s.new (some (base + d.i)) ob) h hd (by unfold FreshV; rw [hc]; exact ⟨ob, hob, by rw [S.get_newS, if_pos rfl], hv⟩) (hag v) (.inr (GetSub.refl _)))) rfl (GetSub.new hnone) (hset' _) (fun b hb => ?_) hr
            rw [S.get_newS] at hb
            by_cases e : b = base + d.i
            · exact e
            · rw [if_neg e] at hb; exact absurd rfl hb
    · have hlist : stageOps ws j (d :: l) = stageOps ws j l := by
        cases hwr : d.wr with
        | true => simp [stageOps, hwr]
        | false => simp [stageOps, hwr, beqf (fun e => hst ⟨hwr, e⟩)]
      rw [hlist] at hr
      obtain ⟨E2, s2, k1, k2, k3, k4, k5, k6⟩ := stageOps_run h j (E0 := E0) l hsub' E s hr
      refine ⟨E2, s2, k1, k2, k3, fun t ht => k4 t fun a ha => ht a (by simp [ha]), fun b hb => ?_, fun a ha hwa hja => ?_⟩
      · obtain ⟨a, ha, hba⟩ := k5 b hb
        exact ⟨a, by simp [ha], hba⟩
      · rcases List.mem_cons.1 ha with rfl | ha
        · exact absurd ⟨hwa, hja⟩ hst
        · exact k6 a ha hwa hja

end
end Go.Ev
