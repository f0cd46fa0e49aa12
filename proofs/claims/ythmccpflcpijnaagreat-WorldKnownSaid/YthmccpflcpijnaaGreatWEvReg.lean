/- Regions whose order is set. -/
import Derived.Test.YthmccpflcpijnaaGreatWEvSched
namespace Go.Ev

section
variable {Q : Program} {Rr : Type} {call : FV → List V → S → (V → S → Option Rr) → Option Rr}
variable {N : Nat} {K : Env → S → Option Rr} {r : Rr} {ops : Array Oper}

theorem EnvR.put {φ : Phi} {E : Env} {tmps : Array Value} (h : EnvR φ N E tmps) {d : Option Nat} {v : V} {val : Value} (hv : R φ v val) (hlt : ∀ t, d = some t → t < N) :
    EnvR φ N (setD E (d.map P.of) v) (putA tmps d val) := by
  refine ⟨by rw [putA_size]; exact h.1, fun t => ?_⟩
  rw [setD_get, putA_getD]
  by_cases e : d = some t
  · rw [if_pos e, if_pos ⟨e, by rw [h.1]; exact hlt t e⟩]; exact hv
  · rw [if_neg e, if_neg fun x => e x.1]; exact h.2 t

def DomN (φ : Phi) (s : S) (φ' : Phi) : Prop := ∀ b, b < s.nx → φ b = none → φ' b = none
theorem DomN.trans {φ φ' φ'' : Phi} {s s' : S} (h : DomN φ s φ') (hn : s.nx ≤ s'.nx) (k : DomN φ' s' φ'') : DomN φ s φ'' := fun b hb e => k b (Nat.lt_of_lt_of_le hb hn) (h b hb e)
theorem DomN.refl (φ : Phi) (s : S) : DomN φ s φ := fun _ _ h => h
theorem Dom.toN {φ φ' : Phi} {s : S} (h : Dom none φ s φ') : DomN φ s φ' := fun b hb e => h b hb e (by simp)
theorem DomN.toD {φ φ' : Phi} {s : S} (h : DomN φ s φ') : Dom none φ s φ' := fun b hb e _ => h b hb e

theorem range'_cons (i n : Nat) : List.range' i (n + 1) = i :: List.range' (i + 1) n := rfl

theorem reg_go (hcall : CallOk Q call) : ∀ (l : List Oper) (i : Nat), (∀ j o, l[j]? = some o → ops[i + j]? = some o) → ∀ {φ : Phi} {E : Env} {s : S} {w : World} {tmps : Array Value}, EnvR φ N E tmps → Sim Q φ s w →
    evOps call (cOpers Q N ops i l) E s K = some r →
    ∃ E' s' φ' w' tmps', K E' s' = some r ∧ EnvR φ' N E' tmps' ∧ Sim Q φ' s' w' ∧ Keep φ s w φ' s' w' ∧ DomN φ s φ' ∧
      ∀ (b : Frame) (dd : List Deferred) (kk : List Item) (cs : List Frame), Steps Q (lone (Fr b tmps dd (.inRegion ops (List.range' i l.length) :: kk)) cs w) (lone (Fr b tmps' dd kk) cs w')
  | [], i, _, φ, E, s, w, tmps, he, hs, hr => ⟨E, s, φ, w, tmps, hr, he, hs, Keep.refl _ _ _, DomN.refl _ _, fun b dd kk cs => .one st_region_end⟩
  | o :: l, i, hop, φ, E, s, w, tmps, he, hs, hr => by
    have ho : ops[i]? = some o := by simpa using hop 0 o (by simp)
    have hop' : ∀ j o', l[j]? = some o' → ops[i + 1 + j]? = some o' := fun j o' h => by
      have := hop (j + 1) o' (by simpa using h)
      have e : i + 1 + j = i + (j + 1) := by omega
      rw [e]; exact this
    simp only [cOpers, evOps] at hr
    have hdst : (cOper Q N ops i o).dst = o.dst.map P.of := by
      unfold cOper
      repeat' split
      all_goals rfl
    rcases cOper_cases Q N ops i o with ⟨h1, h2⟩ | ⟨hco, hlt, hgd⟩
    · rw [h1, h2] at hr
      simp [wanted, evO] at hr
    · have hguard : wanted E (cOper Q N ops i o).gd = Region.wanted o (yielded ops tmps) := wanted_iff hgd fun p x _ t _ => he.2 t
      cases hwant : wanted E (cOper Q N ops i o).gd with
      | false =>
        rw [hwant, cond_false, hdst] at hr
        obtain ⟨E', s', φ', w', tmps', k1, k2, k3, k4, k5, k6⟩ := reg_go hcall l (i + 1) hop' (he.put (R_undef φ) hlt) hs hr
        refine ⟨E', s', φ', w', tmps', k1, k2, k3, k4, k5, fun b dd kk cs => ?_⟩
        rw [List.length_cons, range'_cons]
        exact .head (st_unwanted ho (by rw [← hguard]; exact hwant)) (k6 b dd kk cs)
      | true =>
        rw [hwant, cond_true] at hr
        have hc? : cOp? Q o.op = some (cOper Q N ops i o).o := by
          rw [hco]
          unfold cOp at hco ⊢
          split
          · assumption
          · rename_i e
            rw [e] at hco
            rw [hco] at hr
            simp [evO] at hr
        obtain ⟨v, s1, φ1, val, w1, k1, k2, k3, k4, k5, k6⟩ := op_any hcall o hc? (fun _ => rfl) ⟨hs, he, fun b hb => by (cases hb), hs.nx_none⟩ hr
        rw [hdst] at k1
        obtain ⟨E', s', φ', w', tmps', q1, q2, q3, q4, q5, q6⟩ := reg_go hcall l (i + 1) hop' ((he.mono k4.ext).put k3 hlt) k2 k1
        refine ⟨E', s', φ', w', tmps', q1, q2, q3, k4.trans q4, DomN.trans (Dom.toN k5) k4.nx q5, fun b dd kk cs => ?_⟩
        rw [List.length_cons, range'_cons]
        exact (k6 b tmps dd ops i _ kk cs ho rfl (by rw [← hguard]; exact hwant)).trans (q6 b dd kk cs)

theorem reg_ok (hcall : CallOk Q call) {os : List Op1} (hc : cRegion Q N ops false = .reg os) {φ : Phi} {E : Env} {s : S} {w : World} {tmps : Array Value} (he : EnvR φ N E tmps) (hs : Sim Q φ s w)
    (hr : evOps call os E s K = some r) :
    ∃ E' s' φ' w' tmps', K E' s' = some r ∧ EnvR φ' N E' tmps' ∧ Sim Q φ' s' w' ∧ Keep φ s w φ' s' w' ∧ DomN φ s φ' ∧
      ∀ (b : Frame) (dd : List Deferred) (kk : List Item) (cs : List Frame), Steps Q (lone (Fr b tmps dd (.inRegion ops (List.range ops.size) :: kk)) cs w) (lone (Fr b tmps' dd kk) cs w') := by
  unfold cRegion at hc
  simp only [Bool.false_eq_true, if_false, C.reg.injEq] at hc
  subst hc
  have := reg_go hcall ops.toList 0 (fun j o h => by simpa using h) he hs hr
  rw [List.range_eq_range']
  simpa using this

end
end Go.Ev
