/- Regions whose order is open: the looks between the stages. -/
import Derived.Test.YthmccpflcpijnaaGreatWEvPlan
namespace Go.Ev

theorem objSame_eq {a b : Obj} (h : objSame a b = true) : a = b := by
  unfold objSame at h
  split at h
  · rw [vsSame_eq h]
  · rfl
  · cases h

theorem lastW_ge : ∀ (ws : List DO) (k m acc : Nat), acc ≤ k → acc ≤ lastW ws k m acc ∧ (∀ (j : Nat) (w : DO), ws[j]? = some w → m.testBit w.i = true → k + j + 1 ≤ lastW ws k m acc)
  | [], k, m, acc, _ => ⟨Nat.le_refl _, fun j w h => by simp at h⟩
  | w :: r, k, m, acc, h => by
    have ih := lastW_ge r (k + 1) m (bif m.testBit w.i then k + 1 else acc) (by cases m.testBit w.i <;> simp <;> omega)
    simp only [lastW]
    refine ⟨?_, fun j w' hw hb => ?_⟩
    · refine Nat.le_trans ?_ ih.1
      cases m.testBit w.i <;> simp; omega
    · cases j with
      | zero =>
        simp at hw; subst hw
        have := ih.1
        rw [hb, cond_true] at this
        rw [hb, cond_true]
        omega
      | succ j =>
        have := ih.2 j w' (by simpa using hw) hb
        omega

theorem stOf_ge {ws : List DO} {d w : DO} {j : Nat} (hw : ws[j]? = some w) (hb : d.bf.testBit w.i = true) : j + 1 ≤ stOf ws d := by
  have := (lastW_ge ws 0 d.bf 0 (Nat.le_refl _)).2 j w hw hb
  unfold stOf; omega

theorem lastW_le : ∀ (ws : List DO) (k m acc n : Nat), acc ≤ n → (∀ (j : Nat) (w : DO), ws[j]? = some w → m.testBit w.i = true → k + j + 1 ≤ n) → lastW ws k m acc ≤ n
  | [], _, _, _, _, h, _ => h
  | w :: r, k, m, acc, n, h, hw => by
    simp only [lastW]
    refine lastW_le r (k + 1) m _ n ?_ (fun j w' hj hb => ?_)
    · cases e : m.testBit w.i with
      | false => simpa using h
      | true => have := hw 0 w (by simp) e; simpa using this
    · have := hw (j + 1) w' (by simpa using hj) hb
      omega

theorem stOf_le {ws : List DO} {d : DO} {n : Nat} (h : ∀ (j : Nat) (w : DO), ws[j]? = some w → d.bf.testBit w.i = true → j + 1 ≤ n) : stOf ws d ≤ n :=
  lastW_le ws 0 d.bf 0 n (Nat.zero_le _) fun j w hw hb => by have := h j w hw hb; omega

theorem stOf_last : ∀ (ws : List DO) (k m acc : Nat), lastW ws k m acc = acc ∨ ∃ (j : Nat) (w : DO), ws[j]? = some w ∧ m.testBit w.i = true ∧ lastW ws k m acc = k + j + 1
  | [], _, _, _ => .inl rfl
  | w :: r, k, m, acc => by
    simp only [lastW]
    rcases stOf_last r (k + 1) m (bif m.testBit w.i then k + 1 else acc) with h | ⟨j, w', h1, h2, h3⟩
    · cases e : m.testBit w.i with
      | false => rw [e] at h; exact .inl h
      | true => rw [e] at h; exact .inr ⟨0, w, by simp, e, by simpa using h⟩
    · exact .inr ⟨j + 1, w', by simpa using h1, h2, by omega⟩

theorem stOf_has {ws : List DO} {d : DO} {j : Nat} (h : stOf ws d = j + 1) : ∃ w, ws[j]? = some w ∧ d.bf.testBit w.i = true := by
  rcases stOf_last ws 0 d.bf 0 with e | ⟨j', w, h1, h2, h3⟩
  · unfold stOf at h; omega
  · unfold stOf at h
    have : j' = j := by omega
    subst this
    exact ⟨w, h1, h2⟩

theorem hiOf_ge (d : DO) : ∀ (a b : List DO), (∀ w ∈ a, w.bf.testBit d.i = false) → a.length ≤ hiOf (a ++ b) d
  | [], _, _ => Nat.zero_le _
  | w :: a, b, h => by
    have := hiOf_ge d a b fun x hx => h x (by simp [hx])
    simp only [List.cons_append, hiOf, h w (by simp), cond_false, List.length_cons]
    omega

section
variable {ds ws : List DO} {Rr : Type} {call : FV → List V → S → (V → S → Option Rr) → Option Rr} {base : Nat} {K : Env → S → Option Rr} {r : Rr}

/- what was laid before a write still stands after it -/
def Prior (call : FV → List V → S → (V → S → Option Rr) → Option Rr) (base : Nat) (d : DO) (E : Env) : Prop :=
  ∃ E0 s0, Fresh call base d E0 s0 ∧ Agree d E0 E ∧ ∀ t, d.dst = some t → E.get (P.of t) = E0.get (P.of t)

theorem stageChks_run (h : Wf ds ws) (j : Nat) {rest : List PI} {E : Env} {s : S} : ∀ (l : List DO), (∀ d ∈ l, d ∈ ds) → evPlan call base (stageChks ws j l ++ rest) E s K = some r →
    evPlan call base rest E s K = some r ∧ ∀ d ∈ l, d.wr = false → stOf ws d < j → j ≤ hiOf ws d → Prior call base d E → Fresh call base d E s
  | [], _, hr => ⟨hr, fun d hd => by simp at hd⟩
  | d :: l, hsub, hr => by
    have hd : d ∈ ds := hsub d (by simp)
    have ih := fun hr => stageChks_run h j (rest := rest) (E := E) (s := s) l (fun a ha => hsub a (by simp [ha])) hr
    by_cases hin : d.wr = false ∧ stOf ws d < j ∧ j ≤ hiOf ws d
    rotate_left
    · have hl : stageChks ws j (d :: l) = stageChks ws j l := by
        simp only [stageChks]
        cases e : (!d.wr && Nat.blt (stOf ws d) j && Nat.ble j (hiOf ws d)) with
        | false => rfl
        | true =>
          simp only [Bool.and_eq_true, Bool.not_eq_true'] at e
          refine absurd ⟨e.1.1, ?_, Nat.le_of_ble_eq_true e.2⟩ hin
          have := e.1.2
          simp [Nat.blt] at this; omega
      rw [hl] at hr
      obtain ⟨h1, h2⟩ := ih hr
      refine ⟨h1, fun a ha hwa hs hh hp => ?_⟩
      rcases List.mem_cons.1 ha with rfl | ha
      · exact absurd ⟨hwa, hs, hh⟩ hin
      · exact h2 a ha hwa hs hh hp
    · obtain ⟨hwr, hst, hhi⟩ := hin
      have hcond : (!d.wr && Nat.blt (stOf ws d) j && Nat.ble j (hiOf ws d)) = true := by
        simp [hwr, Nat.blt, Nat.ble_eq]; omega
      have hcls := h.cls d hd
      simp only [stageChks, hcond, cond_true] at hr
      -- what holds of this op
      have fin : evPlan call base (stageChks ws j l ++ rest) E s K = some r → (Prior call base d E → Fresh call base d E s) → evPlan call base rest E s K = some r ∧ ∀ a ∈ d :: l, a.wr = false → stOf ws a < j → j ≤ hiOf ws a → Prior call base a E → Fresh call base a E s := fun hr hf => by
        obtain ⟨h1, h2⟩ := ih hr
        refine ⟨h1, fun a ha hwa hs hh hp => ?_⟩
        rcases List.mem_cons.1 ha with rfl | ha
        · exact hf hp
        · exact h2 a ha hwa hs hh hp
      have unw : wanted E d.o.gd = false → Prior call base d E → Fresh call base d E s := fun hw hp => by
        obtain ⟨E0, s0, hf, ha, hdst⟩ := hp
        unfold Fresh at *
        rw [ha.wanted h hd] at hw
        rw [ha.wanted h hd, if_neg (by simp [hw])]
        rw [if_neg (by simp [hw])] at hf
        exact fun t ht => (hdst t ht).trans (hf t ht)
      cases hc : clsOf d.o.o with
      | write => exact absurd hc (h.nwr d hd hwr)
      | pure =>
        rw [hcls, hc] at hr
        refine fin hr fun ⟨E0, s0, hf, ha, hdst⟩ => hf.mono h hd ha hdst (.inl hc)
      | read =>
        rw [hcls, hc] at hr
        simp only [List.cons_append, evPlan] at hr
        cases hw : wanted E d.o.gd with
        | false => rw [hw, cond_false] at hr; exact fin hr (unw hw)
        | true =>
          rw [hw, cond_true, h.dst d hd] at hr
          cases hdst : d.dst with
          | none =>
            rw [hdst] at hr
            simp only [Option.map_none] at hr
            obtain ⟨v, hv⟩ := evO_read hc hr
            rw [hv _ s _ (GetSub.refl s)] at hr
            refine fin hr fun _ => ?_
            unfold Fresh
            rw [if_pos hw]
            exact ⟨v, fun t ht => (by rw [hdst] at ht; cases ht), by unfold FreshV; rw [hc]; exact hv⟩
          | some t =>
            rw [hdst] at hr
            simp only [Option.map_some] at hr
            obtain ⟨v, hv⟩ := evO_read hc hr
            rw [hv _ s _ (GetSub.refl s)] at hr
            cases hs : vSame v (E.get (P.of t)) with
            | false => rw [hs, cond_false] at hr; cases hr
            | true =>
              rw [hs, cond_true] at hr
              refine fin hr fun _ => ?_
              unfold Fresh
              rw [if_pos hw]
              exact ⟨v, fun t' ht => (by rw [hdst] at ht; cases ht; exact vSame_eq hs), by unfold FreshV; rw [hc]; exact hv⟩
      | new =>
        rw [hcls, hc] at hr
        simp only [List.cons_append, evPlan] at hr
        cases hw : wanted E d.o.gd with
        | false => rw [hw, cond_false] at hr; exact fin hr (unw hw)
        | true =>
          rw [hw, cond_true, h.id d hd] at hr
          split at hr
          · rename_i a b ha hb
            cases hs : objSame a b with
            | false => rw [hs, cond_false] at hr; cases hr
            | true =>
              rw [hs, cond_true] at hr
              have := objSame_eq hs; subst this
              refine fin hr fun ⟨E0, s0, hf, hag, hdst⟩ => ?_
              unfold Fresh at *
              rw [← hag.wanted h hd, if_pos hw] at hf
              rw [if_pos hw]
              obtain ⟨v, h1, h2⟩ := hf
              refine ⟨v, fun t ht => (h1 t ht).trans (hdst t ht).symm, ?_⟩
              unfold FreshV at *
              rw [hc] at h2 ⊢
              obtain ⟨ob, k1, k2, k3⟩ := h2
              rw [hag.objOf h hd, k1] at ha
              cases ha
              exact ⟨_, by rw [hag.objOf h hd]; exact k1, hb, fun s' k' => by rw [hag.evO h hd]; exact k3 s' k'⟩
          · cases hr

end
end Go.Ev
