/- Each operation of the evaluator that enters no function stands for the model's (fourth part). -/
import Derived.Test.YthmccpflcpijnaaGreatWEvOp3
namespace Go.Ev
section
variable {Q : Program} {φ : Phi} {s : S} {w : World} {N : Nat} {E : Env} {tmps : Array Value} {sl : Option Nat} {Rr : Type}
  {call : FV → List V → S → (V → S → Option Rr) → Option Rr} {K : V → S → Option Rr} {r : Rr}

theorem natIn_inv {v : V} {u : Value} {hi n : Nat} (h : natIn v hi = some n) (hr : R φ v u) : ∃ k, u = .int k n ∧ n ≤ hi := by
  cases v <;> simp only [natIn, reduceCtorEq] at h
  rename_i k i
  obtain ⟨hb, h⟩ := bif_some h
  simp only [Bool.and_eq_true, decide_eq_true_eq] at hb
  cases h
  have := hr.i_inv
  subst this
  have e : (i.toNat : Int) = i := Int.toNat_of_nonneg hb.1
  exact ⟨k, by rw [e], by omega⟩

theorem bound_run (k : IntKind) (n y : Nat) (code : BoundsCode) (h : n ≤ y) (w : World) : (Instr.sliceBound (.int k n) y code).run Q w = .ok n w := by
  have := run_sliceBound (P := Q) w k (n : Int) y code (by omega) (by omega)
  simpa using this

/- an operand that may be missing -/
inductive Opt (φ : Phi) (E : Env) (tmps : Array Value) : Option Operand → Option X → Prop
  | none : Opt φ E tmps none none
  | some (x : Operand) (y : X) (h : R φ (E.val y) (opv tmps x)) : Opt φ E tmps (some x) (some y)

theorem cXo_R (he : EnvR φ N E tmps) {x : Option Operand} {y : Option X} (h : cXo x = some y) : Opt φ E tmps x y := by
  cases x with
  | none => simp [cXo] at h; subst h; exact .none
  | some x =>
    obtain ⟨z, hz, rfl⟩ := optMap (show (cX x).map some = some y from h)
    exact .some _ _ (cX_R he hz)

theorem ok_slice (c : Cx Q φ s w N E tmps sl) (o : Oper) {t : TypeId} {x : Operand} {lo hi mx : Option Operand} (ho : o.op = .slice t x lo hi mx) {co : O} (hc : cOp? Q (.slice t x lo hi mx) = some co)
    (hr : evO call sl co E s K = some r) : Good1 Q φ s w tmps sl K r o := by
  simp only [cOp?] at hc
  split at hc
  · rename_i e y lo' hi' mx' hu hy hlo hhi hmx
    split at hc
    · cases hc
    rename_i hmh
    obtain ⟨n, hn, rfl⟩ := optMap hc
    simp only [evO] at hr
    obtain ⟨v, hv, hk⟩ := optK_some hr
    have hx := cX_R c.env hy
    have hlo := cXo_R c.env hlo
    have hhi := cXo_R c.env hhi
    have hmx := cXo_R c.env hmx
    have hat : ∀ u lo hi mx, Instr.sliceAt t u lo hi mx = (do let d ← underlying t; match d with | .array n elem => (do let a ← Instr.sureAddr u; let (l, h, m) ← Instr.sliceBounds false n n lo hi mx; let size ← sizeOf elem; pure (.slice (some (if m = l then a else a.add (l * size))) (h - l) (m - l))) | _ => Instr.slice t u lo hi mx) := fun _ _ _ _ => rfl
    have hsl : ∀ u lo hi mx, (Instr.sliceAt t u lo hi mx).run Q w = (Instr.slice t u lo hi mx).run Q w := by
      intro u lo hi mx
      simp only [Instr.sliceAt, Sem.run_bind, run_und hu, Result.andThen_ok]
    unfold slcOf at hv
    split at hv
    · rename_i he
      rw [he] at hx
      have hx' : opv tmps x = .slice none 0 0 := by cases hx' : opv tmps x <;> rw [hx'] at hx <;> cases hx; rfl
      obtain ⟨hb, hv⟩ := bif_some hv
      cases hv
      simp only [Bool.and_eq_true] at hb
      have zero : ∀ {x : Option Operand} {y : Option X}, Opt φ E tmps x y → (match y with | none => true | some y => (natIn (E.val y) 0).isSome) = true → x = none ∧ y = none ∨ ∃ x' y' k, x = some x' ∧ y = some y' ∧ opv tmps x' = .int k ((0 : Nat) : Int) := by
        intro x y h hz
        cases h with
        | none => exact .inl ⟨rfl, rfl⟩
        | some x y h =>
          obtain ⟨n, hn⟩ := Option.isSome_iff_exists.1 hz
          obtain ⟨k, a, b⟩ := natIn_inv hn h
          have : n = 0 := by omega
          subst this
          exact .inr ⟨x, y, k, rfl, rfl, a⟩
      refine ⟨_, s, hk, Done.pure c .nsl ?_⟩
      have : (Instr.slice t (.slice none 0 0) (lo.map (opv tmps)) (hi.map (opv tmps)) (mx.map (opv tmps))).run Q w = .ok (.slice none 0 0) w := by
        have bz : ∀ k code, (Instr.sliceBound (.int k 0) 0 code).run Q w = .ok 0 w := fun k code => bound_run k 0 0 code (Nat.le_refl 0) w
        rcases zero hlo hb.1.1 with ⟨rfl, rfl⟩ | ⟨lx, ly, lk, rfl, rfl, e1⟩ <;> rcases zero hhi hb.1.2 with ⟨rfl, rfl⟩ | ⟨hx, hy, hk, rfl, rfl, e2⟩ <;> rcases zero hmx hb.2 with ⟨rfl, rfl⟩ | ⟨mx, my, mk, rfl, rfl, e3⟩ <;>
          first
            | (simp at hmh; done)
            | simp [Instr.slice, run_und hu, Instr.sliceBounds, szOf_some hn, *]
      simp [execOp, ho, hx', hsl, this]
    · rename_i z b off len cap ex he
      rw [he] at hx
      obtain ⟨pl, ad, cc, hx', hpl, hcap, hex, hlen, hp⟩ := hx.sl_inv
      obtain ⟨hz, hv⟩ := bif_some hv
      have hz := Nat.eq_of_beq_eq_true hz
      subst hz
      split at hv
      · cases hv
      rename_i m hm
      split at hv
      · cases hv
      rename_i h hh
      split at hv
      · cases hv
      rename_i l hl
      obtain ⟨hble, hv⟩ := bif_some hv
      have hhm := Nat.le_of_ble_eq_true hble
      cases hv
      -- the concrete bounds
      have hM : ∃ M, m ≤ M ∧ M ≤ cc ∧ (mx'.isSome = true → M = m) ∧ (mx'.isSome = false → M = cc ∧ m = cap) ∧ ((mx = none ∧ M = cc) ∨ ∃ x k, mx = some x ∧ opv tmps x = .int k (M : Int)) := by
        cases hmx with
        | none => simp only [Option.some.injEq] at hm; subst hm; exact ⟨cc, hcap, Nat.le_refl _, by simp, by simp, .inl ⟨rfl, rfl⟩⟩
        | some x y h =>
          simp only at hm
          obtain ⟨k, e, hle⟩ := natIn_inv hm h
          exact ⟨m, Nat.le_refl _, by omega, by simp, by simp, .inr ⟨x, k, rfl, e⟩⟩
      obtain ⟨M, hM2, hM3, hM4, hM5, hM6⟩ := hM
      have hH : (hi = none ∧ h = len ∧ mx = none) ∨ ∃ x k, hi = some x ∧ opv tmps x = .int k (h : Int) := by
        cases hhi with
        | none =>
          simp only [Option.some.injEq] at hh; subst hh
          cases hmx with
          | none => exact .inl ⟨rfl, rfl, rfl⟩
          | some x y h => simp at hmh
        | some x y hr2 =>
          simp only at hh
          obtain ⟨k, e, hle⟩ := natIn_inv hh hr2
          exact .inr ⟨x, k, rfl, e⟩
      have hL : ((lo = none ∧ l = 0) ∨ ∃ x k, lo = some x ∧ opv tmps x = .int k (l : Int)) ∧ l ≤ h := by
        cases hlo with
        | none => simp only [Option.some.injEq] at hl; subst hl; exact ⟨.inl ⟨rfl, rfl⟩, Nat.zero_le _⟩
        | some x y hr2 =>
          simp only at hl
          obtain ⟨k, e, hle⟩ := natIn_inv hl hr2
          exact ⟨.inr ⟨x, k, rfl, e⟩, hle⟩
      obtain ⟨hL1, hlh⟩ := hL
      refine ⟨_, s, hk, Done.pure c (.sl _ _ _ _ _ _ pl (if M = l then ad else ad.add (l * z)) (M - l) hpl (by omega) ?_ (by omega) ?_) ?_⟩
      · intro hexx
        cases hms : mx'.isSome with
        | true => have := hM4 hms; omega
        | false =>
          obtain ⟨e1, e2⟩ := hM5 hms
          rw [hms] at hexx
          simp at hexx
          have := hex hexx
          omega
      · intro hpos
        obtain ⟨rfl, hfin⟩ := hp (by omega)
        rw [if_neg (by omega)]
        refine ⟨by rw [Addr.add_lit, Nat.add_assoc], ?_⟩
        have : (M - l) * z + l * z = M * z := by rw [← Nat.add_mul, Nat.sub_add_cancel (by omega)]
        have h2 : M * z ≤ cc * z := Nat.mul_le_mul_right _ hM3
        omega
      · have hrun : (Instr.slice t (.slice (some ad) len cc) (lo.map (opv tmps)) (hi.map (opv tmps)) (mx.map (opv tmps))).run Q w = .ok (.slice (some (if M = l then ad else ad.add (l * z))) (h - l) (M - l)) w := by
          have hbd : (Instr.sliceBounds true len cc (lo.map (opv tmps)) (hi.map (opv tmps)) (mx.map (opv tmps))).run Q w = .ok (l, h, M) w := by
            have bM : ∀ k code, (Instr.sliceBound (.int k M) cc code).run Q w = .ok M w := fun k code => bound_run k M cc code hM3 w
            have bH : ∀ k code, (Instr.sliceBound (.int k h) M code).run Q w = .ok h w := fun k code => bound_run k h M code (by omega) w
            have bL : ∀ k code, (Instr.sliceBound (.int k l) h code).run Q w = .ok l w := fun k code => bound_run k l h code hlh w
            rcases hM6 with ⟨e1, e2⟩ | ⟨mx0, mk, e1, e2⟩ <;> rcases hH with ⟨e3, e4, e5⟩ | ⟨hx0, hk0, e3, e4⟩ <;> rcases hL1 with ⟨e6, e7⟩ | ⟨lx0, lk0, e6, e7⟩ <;>
              first
                | (rw [e1] at e5; cases e5; done)
                | (subst e2; subst e4; subst e7; rw [e1, e3, e6]; simp [Instr.sliceBounds]; done)
                | (subst e2; subst e4; rw [e1, e3, e6]; simp [Instr.sliceBounds, e7, bL]; done)
                | (subst e2; subst e7; rw [e1, e3, e6]; simp [Instr.sliceBounds, e4, bH]; done)
                | (subst e2; rw [e1, e3, e6]; simp [Instr.sliceBounds, e4, e7, bH, bL]; done)
                | (subst e7; rw [e1, e3, e6]; simp [Instr.sliceBounds, e2, e4, bM, bH]; done)
                | (rw [e1, e3, e6]; simp [Instr.sliceBounds, e2, e4, e7, bM, bH, bL]; done)
          simp only [Instr.slice, Sem.run_bind, run_und hu, Result.andThen_ok, hbd, szOf_some hn, Sem.run_pure, Option.map_some]
          split <;> rfl
        simp [execOp, ho, hx', hsl, hrun]
    · cases hv
  · rename_i y lo' hi' hu hy hlo hhi hmx
    cases hc
    simp only [evO] at hr
    obtain ⟨v, hv, hk⟩ := optK_some hr
    have hx := cX_R c.env hy
    have hlo := cXo_R c.env hlo
    have hhi := cXo_R c.env hhi
    have hmx := cXo_R c.env hmx
    have hmn : mx = none := by cases hmx; rfl
    subst hmn
    have hsl : ∀ u lo hi mx, (Instr.sliceAt t u lo hi mx).run Q w = (Instr.slice t u lo hi mx).run Q w := by
      intro u lo hi mx
      simp only [Instr.sliceAt, Sem.run_bind, run_und hu, Result.andThen_ok]
    unfold sstOf at hv
    split at hv
    · rename_i tt he
      rw [he] at hx
      obtain ⟨t', hx', rfl⟩ := hx.s_inv
      have hlen : (t'.data.toList.map (·.toNat)).length = t'.size := by simp
      rw [hlen] at hv
      split at hv
      · cases hv
      rename_i h hh
      split at hv
      · cases hv
      rename_i l hl
      cases hv
      have hH : ((hi = none ∧ h = t'.size) ∨ ∃ x k, hi = some x ∧ opv tmps x = .int k (h : Int)) ∧ h ≤ t'.size := by
        cases hhi with
        | none => simp only [Option.some.injEq] at hh; subst hh; exact ⟨.inl ⟨rfl, rfl⟩, Nat.le_refl _⟩
        | some x y hr2 =>
          simp only at hh
          obtain ⟨k, e, hle⟩ := natIn_inv hh hr2
          exact ⟨.inr ⟨x, k, rfl, e⟩, hle⟩
      have hL : ((lo = none ∧ l = 0) ∨ ∃ x k, lo = some x ∧ opv tmps x = .int k (l : Int)) ∧ l ≤ h := by
        cases hlo with
        | none => simp only [Option.some.injEq] at hl; subst hl; exact ⟨.inl ⟨rfl, rfl⟩, Nat.zero_le _⟩
        | some x y hr2 =>
          simp only at hl
          obtain ⟨k, e, hle⟩ := natIn_inv hl hr2
          exact ⟨.inr ⟨x, k, rfl, e⟩, hle⟩
      obtain ⟨hH1, hhs⟩ := hH
      obtain ⟨hL1, hlh⟩ := hL
      have hbd : (Instr.sliceBounds false t'.size t'.size (lo.map (opv tmps)) (hi.map (opv tmps)) none).run Q w = .ok (l, h, t'.size) w := by
        have bH : ∀ k code, (Instr.sliceBound (.int k h) t'.size code).run Q w = .ok h w := fun k code => bound_run k h _ code hhs w
        have bL : ∀ k code, (Instr.sliceBound (.int k l) h code).run Q w = .ok l w := fun k code => bound_run k l h code hlh w
        rcases hH1 with ⟨e3, e4⟩ | ⟨hx0, hk0, e3, e4⟩ <;> rcases hL1 with ⟨e6, e7⟩ | ⟨lx0, lk0, e6, e7⟩ <;>
          first
            | (subst e4; subst e7; rw [e3, e6]; simp [Instr.sliceBounds]; done)
            | (subst e4; rw [e3, e6]; simp [Instr.sliceBounds, e7, bL]; done)
            | (subst e7; rw [e3, e6]; simp [Instr.sliceBounds, e4, bH]; done)
            | (rw [e3, e6]; simp [Instr.sliceBounds, e4, e7, bH, bL]; done)
      refine ⟨_, s, hk, Done.pure c (.s _ (t'.extract l h) ?_) ?_⟩
      · simp [ByteArray.data_extract, List.map_drop, List.map_take, List.drop_take]
      · have hrun : (Instr.slice t (.string t') (lo.map (opv tmps)) (hi.map (opv tmps)) none).run Q w = .ok (.string (t'.extract l h)) w := by
          simp only [Instr.slice, Sem.run_bind, run_und hu, Result.andThen_ok]
          simp [hbd]
        simp [execOp, ho, hx', hsl, hrun]
    · cases hv
  · cases hc

end
end Go.Ev
