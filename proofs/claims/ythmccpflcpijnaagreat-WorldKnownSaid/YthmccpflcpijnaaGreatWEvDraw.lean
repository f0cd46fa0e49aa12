/- Regions whose order is open: what an operation depends on. -/
import Derived.Test.YthmccpflcpijnaaGreatWEvCall
namespace Go.Ev

section
variable {Rr : Type} {call : FV → List V → S → (V → S → Option Rr) → Option Rr}

theorem fill_congr {E E' : Env} : ∀ (ps : List (Nat × Nat × X)) (l : List V), (∀ p ∈ ps, E.val p.2.2 = E'.val p.2.2) → fill E ps l = fill E' ps l
  | [], _, _ => rfl
  | (off, n, x) :: ps, l, h => by
    have h0 := h (off, n, x) (by simp)
    simp only at h0
    simp only [fill, h0]
    have := fun l' => fill_congr ps l' (fun p hp => h p (by simp [hp]))
    simp only [this]

theorem vals_congr {E E' : Env} : ∀ (l : List X), (∀ x ∈ l, E.val x = E'.val x) → E.vals l = E'.vals l
  | [], _ => rfl
  | x :: l, h => by simp [Env.vals, h x (by simp), vals_congr l fun y hy => h y (by simp [hy])]

theorem slcOf_congr {sz : Nat} {E E' : Env} {v : V} {a b c : Option X} (ha : ∀ x, a = some x → E.val x = E'.val x) (hb : ∀ x, b = some x → E.val x = E'.val x) (hc : ∀ x, c = some x → E.val x = E'.val x) :
    slcOf sz E v a b c = slcOf sz E' v a b c := by
  cases a <;> cases b <;> cases c <;> simp_all [slcOf]

theorem sstOf_congr {E E' : Env} {v : V} {a b : Option X} (ha : ∀ x, a = some x → E.val x = E'.val x) (hb : ∀ x, b = some x → E.val x = E'.val x) :
    sstOf E v a b = sstOf E' v a b := by
  cases a <;> cases b <;> simp_all [sstOf]

theorem evO_congr {sl : Option Nat} {o : O} {E E' : Env} {s : S} {k : V → S → Option Rr} (h : ∀ x ∈ opsX o, E.val x = E'.val x) : evO call sl o E s k = evO call sl o E' s k := by
  cases o <;> simp only [opsX, List.mem_cons, List.not_mem_nil, or_false, forall_eq_or_imp, forall_eq, List.mem_append, List.mem_map] at h <;> try (simp only [evO, h]; done)
  case build zero ps => simp only [evO]; rw [fill_congr ps zero (fun p hp => h _ ⟨p, hp, rfl⟩)]
  case bsl sz len zero ps => simp only [evO]; rw [fill_congr ps _ (fun p hp => h _ ⟨p, hp, rfl⟩)]
  case mkF g a b => simp only [evO]; rw [vals_congr a fun x hx => h x (.inl hx), vals_congr b fun x hx => h x (.inr hx)]
  case slc sz x a b c =>
    simp only [evO, h.1]
    rw [slcOf_congr (E' := E')]
    · intro y hy; exact h.2 y (by simp [hy, optX])
    · intro y hy; exact h.2 y (by simp [hy, optX])
    · intro y hy; exact h.2 y (by simp [hy, optX])
  case sst x a b =>
    simp only [evO, h.1]
    rw [sstOf_congr (E' := E')]
    · intro y hy; exact h.2 y (by simp [hy, optX])
    · intro y hy; exact h.2 y (by simp [hy, optX])
  case call f as => simp only [evO, h.1]; rw [vals_congr as h.2]
  case inv t f as => simp only [evO, h.1]; rw [vals_congr as h.2]

def isPure (o : O) : Prop := clsOf o = .pure
def isRead (o : O) : Prop := clsOf o = .read

theorem evO_pure {sl : Option Nat} {o : O} {E : Env} {s : S} {k : V → S → Option Rr} {r : Rr} (hc : clsOf o = .pure) (hr : evO call sl o E s k = some r) :
    ∃ v, ∀ sl' s' (k' : V → S → Option Rr), evO call sl' o E s' k' = k' v s' := by
  cases o <;> simp only [clsOf, reduceCtorEq] at hc <;> simp only [evO, optK, cond_eq_ite] at hr ⊢ <;> (repeat' split at hr) <;>
    first
      | (cases hr; done)
      | exact ⟨_, fun _ _ _ => rfl⟩
      | exact ⟨_, fun _ _ _ => by simp only [*, ite_true]; rfl⟩

def GetSub (s s' : S) : Prop := ∀ b ob, s.get b = some ob → s'.get b = some ob

theorem GetSub.refl (s : S) : GetSub s s := fun _ _ h => h
theorem GetSub.trans {s s' s'' : S} (h : GetSub s s') (k : GetSub s' s'') : GetSub s s'' := fun b ob e => k b ob (h b ob e)

theorem GetSub.cell {s s' : S} (h : GetSub s s') {b o : Nat} {v : V} (hv : s.cell b o = some v) : s'.cell b o = some v := by
  unfold S.cell at hv ⊢
  split at hv
  · rename_i l rw e; rw [h _ _ e]; exact hv
  · cases hv
theorem GetSub.row {s s' : S} (h : GetSub s s') {b o n : Nat} {l : List V} (hv : s.row b o n = some l) : s'.row b o n = some l := by
  unfold S.row at hv ⊢
  split at hv
  · rename_i l rw e; rw [h _ _ e]; exact hv
  · cases hv

theorem evO_read {sl : Option Nat} {o : O} {E : Env} {s : S} {k : V → S → Option Rr} {r : Rr} (hc : clsOf o = .read) (hr : evO call sl o E s k = some r) :
    ∃ v, ∀ sl' s' (k' : V → S → Option Rr), GetSub s s' → evO call sl' o E s' k' = k' v s' := by
  cases o <;> simp only [clsOf, reduceCtorEq] at hc
  case ld n x =>
    simp only [evO, ldK] at hr ⊢
    split at hr
    · rename_i b o hx
      cases n with
      | none =>
        obtain ⟨v, hv, hr⟩ := optK_some hr
        exact ⟨v, fun _ s' k' hs => by simp only [hs.cell hv]; rfl⟩
      | some n =>
        obtain ⟨l, hv, hr⟩ := optK_some hr
        exact ⟨.a l, fun _ s' k' hs => by simp only [hs.row hv]; rfl⟩
    · cases hr
  case b2s x =>
    simp only [evO] at hr ⊢
    split at hr
    · exact ⟨_, fun _ s' k' hs => rfl⟩
    · rename_i sz b o n c e hx
      cases hz : Nat.beq sz 1 with
      | false => simp [hz] at hr
      | true =>
        simp only [hz, cond_true] at hr
        obtain ⟨l, hl, hr⟩ := optK_some hr
        obtain ⟨t, ht, hr⟩ := optK_some hr
        exact ⟨.s t, fun _ s' k' hs => by simp only [hs.row hl, optK, ht, cond_true]⟩
    · cases hr
  case lk zero ok m x =>
    simp only [evO, lkK] at hr ⊢
    split at hr
    · rename_i j n hx
      split at hr
      · exact ⟨_, fun _ s' k' hs => rfl⟩
      · rename_i b hm
        split at hr
        · rename_i es hg
          obtain ⟨q, hq, hr⟩ := optK_some hr
          exact ⟨_, fun _ s' k' hs => by simp only [hs _ _ hg, hq, optK]; rfl⟩
        · cases hr
      · cases hr
    · cases hr
  case lenm x =>
    simp only [evO] at hr ⊢
    split at hr
    · exact ⟨_, fun _ s' k' hs => rfl⟩
    · split at hr
      · rename_i es hg
        exact ⟨.i .i64 (es.length : Nat), fun _ s' k' hs => by simp only [hs _ _ hg]⟩
      · cases hr
    · cases hr

theorem evO_new {b : Nat} {o : O} {E : Env} {s : S} {k : V → S → Option Rr} {r : Rr} (hc : clsOf o = .new) (hr : evO call (some b) o E s k = some r) :
    ∃ v ob, objOf E o = some ob ∧ ∀ s' (k' : V → S → Option Rr), evO call (some b) o E s' k' = k' v (s'.new (some b) ob) := by
  cases o <;> simp only [clsOf, reduceCtorEq] at hc <;> simp only [evO, optK, cond_eq_ite, newK, S.newAt, objOf] at hr ⊢ <;> (repeat' split at hr) <;>
    first
      | (cases hr; done)
      | exact ⟨_, _, rfl, fun _ _ => rfl⟩
      | exact ⟨_, _, by simp only [*]; rfl, fun _ _ => by simp only [*, ite_true]; rfl⟩

mutual
theorem vSame_eq : ∀ {x y : V}, vSame x y = true → x = y := by
  intro x y h
  cases x <;> cases y <;> simp only [vSame, Bool.false_eq_true, Bool.and_eq_true, beq_iff_eq, decide_eq_true_eq] at h
  all_goals first
    | rfl
    | (subst h; rfl)
    | skip
  case i.i k n j m =>
    obtain ⟨h1, rfl⟩ := h
    have : k = j := by cases k <;> cases j <;> simp_all [IntKind.same]
    subst this; rfl
  case s.s a b => rw [natsSame_eq h]
  case p.p a b c d => rw [Nat.eq_of_beq_eq_true h.1, Nat.eq_of_beq_eq_true h.2]
  case sl.sl =>
    obtain ⟨⟨⟨⟨⟨h1, h2⟩, h3⟩, h4⟩, h5⟩, h6⟩ := h
    rw [Nat.eq_of_beq_eq_true h1, Nat.eq_of_beq_eq_true h2, Nat.eq_of_beq_eq_true h3, Nat.eq_of_beq_eq_true h4, Nat.eq_of_beq_eq_true h5, h6]
  case m.m a b => rw [Nat.eq_of_beq_eq_true h]
  case f.f g a c g' a' c' =>
    have : g = g' := by
      cases g <;> cases g' <;> simp only [FvSame, Bool.false_eq_true, false_and] at h
      · rw [Nat.eq_of_beq_eq_true h.1.1]
      · rw [Nat.eq_of_beq_eq_true h.1.1]
    rw [this, vsSame_eq h.1.2, vsSame_eq h.2]
  case ifc.ifc t v u w => rw [Nat.eq_of_beq_eq_true h.1, vSame_eq h.2]
  case a.a l r => rw [vsSame_eq h]
  case tup.tup l r => rw [vsSame_eq h]
theorem vsSame_eq : ∀ {x y : List V}, vsSame x y = true → x = y := by
  intro x y h
  cases x <;> cases y <;> simp only [vsSame, Bool.false_eq_true, Bool.and_eq_true] at h
  · rfl
  · rw [vSame_eq h.1, vsSame_eq h.2]
end

end
end Go.Ev
