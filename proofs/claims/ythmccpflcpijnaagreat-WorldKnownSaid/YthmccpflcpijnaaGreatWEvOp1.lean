/- Each operation of the evaluator that enters no function stands for the model's (first part). -/
import Derived.Test.YthmccpflcpijnaaGreatWEvStore
namespace Go.Ev

def Dom (sl : Option Nat) (φ : Phi) (s : S) (φ' : Phi) : Prop := ∀ b, b < s.nx → φ b = none → sl ≠ some b → φ' b = none

def Done (Q : Program) (sl : Option Nat) (φ : Phi) (s : S) (w : World) (v : V) (s' : S) (res : Result Next) : Prop :=
  ∃ φ' u w', (res = .ok (.value u) w' ∨ (res = .ok .skip w' ∧ u = Go.undef)) ∧ Sim Q φ' s' w' ∧ R φ' v u ∧ Keep φ s w φ' s' w' ∧ Dom sl φ s φ'

structure Cx (Q : Program) (φ : Phi) (s : S) (w : World) (N : Nat) (E : Env) (tmps : Array Value) (sl : Option Nat) : Prop where
  sim : Sim Q φ s w
  env : EnvR φ N E tmps
  hs : ∀ b, sl = some b → b < s.nx
  hn : φ (s.newAt sl) = none

theorem Sim.nx_none {Q : Program} {φ : Phi} {s : S} {w : World} (k : Sim Q φ s w) : φ s.nx = none := by
  cases e : φ s.nx with
  | none => rfl
  | some pl => exact absurd (k.lt _ _ e) (by omega)

theorem Dom.refl (sl : Option Nat) (φ : Phi) (s : S) : Dom sl φ s φ := fun _ _ h _ => h
theorem Dom.set (sl : Option Nat) (φ : Phi) (s : S) (pl : Pl) : Dom sl φ s (φ.set (s.newAt sl) pl) := by
  intro b hb h hne
  unfold Phi.set
  rw [if_neg]
  · exact h
  · rintro rfl
    cases sl with
    | none => simp [S.newAt] at hb
    | some c => exact hne rfl

section
variable {Q : Program} {φ : Phi} {s : S} {w : World} {N : Nat} {E : Env} {tmps : Array Value} {sl : Option Nat} {Rr : Type}
  {call : FV → List V → S → (V → S → Option Rr) → Option Rr} {K : V → S → Option Rr} {r : Rr}

theorem Done.pure (c : Cx Q φ s w N E tmps sl) {v : V} {u : Value} (h : R φ v u) {res : Result Next} (hr : res = .ok (.value u) w) : Done Q sl φ s w v s res :=
  ⟨φ, u, w, .inl hr, c.sim, h, Keep.refl _ _ _, Dom.refl _ _ _⟩

theorem optK_some {α : Type} {o : Option α} {k : α → Option Rr} (h : optK o k = some r) : ∃ a, o = some a ∧ k a = some r := by
  cases o with
  | none => simp [optK] at h
  | some a => exact ⟨a, rfl, h⟩

theorem optMap {α β : Type} {o : Option α} {f : α → β} {b : β} (h : o.map f = some b) : ∃ a, o = some a ∧ b = f a := by
  obtain ⟨a, ha, rfl⟩ := Option.map_eq_some_iff.1 h
  exact ⟨a, ha, rfl⟩

theorem bif_some {c : Bool} {x : Option Rr} (h : (bif c then x else none) = some r) : c = true ∧ x = some r := by
  cases c with
  | false => simp at h
  | true => exact ⟨rfl, h⟩

def Good1 (Q : Program) (φ : Phi) (s : S) (w : World) (tmps : Array Value) (sl : Option Nat) (K : V → S → Option Rr) (r : Rr) (o : Oper) : Prop :=
  ∃ v s', K v s' = some r ∧ Done Q sl φ s w v s' ((execOp (opv tmps) o).run Q w)

theorem ok_move (c : Cx Q φ s w N E tmps sl) (o : Oper) {x : Operand} (ho : o.op = .move x ∨ o.op = .assign x) {co : O} (hc : cOp? Q (.move x) = some co)
    (hr : evO call sl co E s K = some r) : Good1 Q φ s w tmps sl K r o := by
  obtain ⟨y, hy, rfl⟩ := optMap (show (cX x).map O.mv = some co from hc)
  refine ⟨_, s, hr, Done.pure c (cX_R c.env hy) ?_⟩
  rcases ho with ho | ho <;> simp [execOp, ho]

theorem ok_pick (c : Cx Q φ s w N E tmps sl) (o : Oper) {x y z : Operand} (ho : o.op = .pick x y z) {co : O} (hc : cOp? Q (.pick x y z) = some co)
    (hr : evO call sl co E s K = some r) : Good1 Q φ s w tmps sl K r o := by
  simp only [cOp?] at hc
  split at hc
  · rename_i x' y' z' h1 h2 h3
    cases hc
    simp only [evO] at hr
    split at hr
    · rename_i t ht
      have hx := cX_R c.env h1
      rw [ht] at hx
      cases hx' : opv tmps x <;> rw [hx'] at hx <;> cases hx
      cases t
      · exact ⟨_, s, hr, Done.pure c (cX_R c.env h3) (by simp [execOp, ho, hx', asBool])⟩
      · exact ⟨_, s, hr, Done.pure c (cX_R c.env h2) (by simp [execOp, ho, hx', asBool])⟩
    · cases hr
  · cases hc

theorem newVar_run (t : TypeId) (v : Value) (w : World) : (newVar t v).run Q w = .ok ⟨w.heap.size, 0, none⟩ (w.alloc (.cells v.cells t)) := by
  simp [newVar, newRow]

theorem Done.row (c : Cx Q φ s w N E tmps sl) {l : List V} {cs : Array Value} (el : TypeId) (h : Rs φ l cs.toList) {v : Nat → V} {u : Value}
    (hu : R (φ.set (s.newAt sl) ⟨w.heap.size, 0, cs.size⟩) (v (s.newAt sl)) u)
    {res : Result Next} (hres : res = .ok (.value u) (w.alloc (.cells cs el))) (hr : newK s sl (.cells l true) (fun b s => K (v b) s) = some r) :
    ∃ v s', K v s' = some r ∧ Done Q sl φ s w v s' res := by
  obtain ⟨a, b⟩ := c.sim.row_new' sl c.hs c.hn el h
  exact ⟨_, _, hr, _, u, _, .inl hres, a, hu, b, Dom.set _ _ _ _⟩

theorem cv_cells {v : Value} {z : V} (h : cv v = some z) : Rs φ z.cells v.cells.toList := cells_R (cv_R h)

theorem ok_alloc (c : Cx Q φ s w N E tmps sl) (o : Oper) {t : TypeId} (ho : o.op = .alloc t) {co : O} (hc : cOp? Q (.alloc t) = some co)
    (hr : evO call sl co E s K = some r) : Good1 Q φ s w tmps sl K r o := by
  obtain ⟨z, hz, rfl⟩ := optMap (show (zeroT Q t).map (fun z => O.box (.c z)) = some co from hc)
  obtain ⟨v, hv, hcv⟩ := zeroT_some hz
  refine Done.row c (l := z.cells) (cs := v.cells) t (cv_cells hcv) (v := fun b => .p b 0) (.p _ _ ⟨_, _, _⟩ Phi.set_self) ?_ hr
  simp [execOp, ho, Instr.alloc, hv, newVar_run]

theorem ok_box (c : Cx Q φ s w N E tmps sl) (o : Oper) {t : TypeId} {x : Operand} (ho : o.op = .box t x) {co : O} (hc : cOp? Q (.box t x) = some co)
    (hr : evO call sl co E s K = some r) : Good1 Q φ s w tmps sl K r o := by
  obtain ⟨y, hy, rfl⟩ := optMap (show (cX x).map O.box = some co from hc)
  refine Done.row c t (cells_R (cX_R c.env hy)) (v := fun b => .p b 0) (.p _ _ ⟨_, _, _⟩ Phi.set_self) ?_ hr
  simp [execOp, ho, Instr.box, newVar_run]

theorem ok_load (c : Cx Q φ s w N E tmps sl) (o : Oper) {t : TypeId} {x : Operand} (ho : o.op = .load t x) {co : O} (hc : cOp? Q (.load t x) = some co)
    (hr : evO call sl co E s K = some r) : Good1 Q φ s w tmps sl K r o := by
  simp only [cOp?] at hc
  split at hc
  · rename_i n y h1 h2
    cases hc
    simp only [evO, ldK] at hr
    split at hr
    · rename_i b off hv
      have hx := cX_R c.env h2
      rw [hv] at hx
      cases hx' : opv tmps x <;> rw [hx'] at hx <;> cases hx
      rename_i pl hpl
      have : ∃ v, ldV s n b off = some v ∧ K v s = some r := by
        cases n with
        | none => exact optK_some hr
        | some n =>
          obtain ⟨l, hl, hk⟩ := optK_some hr
          exact ⟨.a l, by simp [ldV, hl], hk⟩
      obtain ⟨v, hv, hk⟩ := this
      obtain ⟨u, hu, hru⟩ := loadVar_run c.sim h1 hpl hv
      exact ⟨v, s, hk, Done.pure c hru (by simp [execOp, ho, Instr.loadAt, Instr.sureAddr, hx', hu])⟩
    · cases hr
  · cases hc

theorem ok_store (c : Cx Q φ s w N E tmps sl) (o : Oper) {t : TypeId} {x y : Operand} (ho : o.op = .store t x y) {co : O} (hc : cOp? Q (.store t x y) = some co)
    (hr : evO call sl co E s K = some r) : Good1 Q φ s w tmps sl K r o := by
  simp only [cOp?] at hc
  split at hc
  · rename_i n x' y' h1 h2 h3
    cases hc
    simp only [evO, stK] at hr
    split at hr
    · rename_i b off hv
      have hx := cX_R c.env h2
      rw [hv] at hx
      cases hx' : opv tmps x <;> rw [hx'] at hx <;> cases hx
      rename_i pl hpl
      split at hr
      · rename_i l hg
        obtain ⟨hb, hr⟩ := bif_some hr
        simp only [Bool.and_eq_true] at hb
        obtain ⟨l', hl', hk⟩ := optK_some hr
        have hy := cells_R (cX_R c.env h3)
        obtain ⟨a1, a2, a3⟩ := c.sim.write hpl hg hl' hy hb.2
        have hn : (opv tmps y).cells.size = n := by
          have := hy.length
          have e := Nat.eq_of_beq_eq_true hb.1
          simp at this; omega
        refine ⟨_, _, hk, φ, Go.undef, _, .inr ⟨?_, rfl⟩, a2, .tup [] #[] .nil, a3, Dom.refl _ _ _⟩
        simp [execOp, ho, Instr.storeAt, Instr.sureAddr, hx', storeVar, szOf_some h1, hn, a1]
      · cases hr
    · cases hr
  · cases hc

theorem ok_nilCheck (c : Cx Q φ s w N E tmps sl) (o : Oper) {x : Operand} (ho : o.op = .nilCheck x) {co : O} (hc : cOp? Q (.nilCheck x) = some co)
    (hr : evO call sl co E s K = some r) : Good1 Q φ s w tmps sl K r o := by
  obtain ⟨y, hy, rfl⟩ := optMap (show (cX x).map O.nilck = some co from hc)
  have hx := cX_R c.env hy
  simp only [evO] at hr
  split at hr
  · cases hr
  · cases hr
  · cases hr
  · rename_i h1 h2 h3
    refine ⟨_, s, hr, Done.pure c hx ?_⟩
    cases hv : E.val y <;> rw [hv] at hx <;> cases hx' : opv tmps x <;> rw [hx'] at hx <;> cases hx <;> first
      | (exact absurd hv h1)
      | (exact absurd hv h2)
      | (exact absurd hv h3)
      | (simp [execOp, ho, hx']; done)
      | (rename_i hf; cases hf <;> simp [execOp, ho, hx']; done)
      | (rename_i hf _; cases hf <;> simp [execOp, ho, hx']; done)
      | (rename_i hf _ _; cases hf <;> simp [execOp, ho, hx']; done)

theorem ok_makeInterface (c : Cx Q φ s w N E tmps sl) (o : Oper) {t : TypeId} {x : Operand} (ho : o.op = .makeInterface t x) {co : O} (hc : cOp? Q (.makeInterface t x) = some co)
    (hr : evO call sl co E s K = some r) : Good1 Q φ s w tmps sl K r o := by
  simp only [cOp?] at hc
  cases hd : Q.underlying t with
  | none => simp [hd] at hc
  | some d =>
    cases hy : cX x with
    | none => rw [hd, hy] at hc; cases d <;> cases hc
    | some y =>
      rw [hd, hy] at hc
      have hrel := cX_R c.env hy
      have hco : co = .mkI t y ∧ (∀ ms, d ≠ .interface ms) := by cases d <;> first | (cases hc; exact ⟨rfl, fun _ h => by cases h⟩) | cases hc
      obtain ⟨rfl, hni⟩ := hco
      refine ⟨_, s, hr, Done.pure c (.ifc _ _ _ hrel) ?_⟩
      cases d <;> first | (simp [execOp, ho, Instr.makeInterface, run_und hd]; done) | exact absurd rfl (hni _)

theorem ok_makeFunc (c : Cx Q φ s w N E tmps sl) (o : Oper) {g : FuncId} {x y : Array Operand} (ho : o.op = .makeFunc (.func g) x y) {co : O} (hc : cOp? Q (.makeFunc (.func g) x y) = some co)
    (hr : evO call sl co E s K = some r) : Good1 Q φ s w tmps sl K r o := by
  simp only [cOp?] at hc
  split at hc
  · rename_i a b h1 h2
    cases hc
    refine ⟨_, s, hr, Done.pure c (.f _ _ _ _ (x.map (opv tmps)) (y.map (opv tmps)) (.fn g) (by rw [Array.toList_map]; exact cXs_R c.env h1) (by rw [Array.toList_map]; exact cXs_R c.env h2)) ?_⟩
    simp [execOp, ho, Instr.makeFunc]
  · cases hc

theorem ok_makeMap (c : Cx Q φ s w N E tmps sl) (o : Oper) {t : TypeId} (ho : o.op = .makeMap t none) {co : O} (hc : cOp? Q (.makeMap t none) = some co)
    (hr : evO call sl co E s K = some r) : Good1 Q φ s w tmps sl K r o := by
  simp only [cOp?] at hc
  cases hc
  have := c.sim.new sl c.hs c.hn (o := .map []) (o' := .map #[] 0) (fin := 1) ⟨#[], 0, by simp, rfl, rfl, .nil, .nil⟩
  refine ⟨_, _, hr, _, .map (some w.heap.size), _, .inl ?_, this.1, .m _ ⟨_, _, _⟩ Phi.set_self, this.2, Dom.set _ _ _ _⟩
  simp [execOp, ho, Instr.makeMap]

theorem ok_extract (c : Cx Q φ s w N E tmps sl) (o : Oper) {t : Operand} {i : Nat} (ho : o.op = .extract t i) {co : O} (hc : cOp? Q (.extract t i) = some co)
    (hr : evO call sl co E s K = some r) : Good1 Q φ s w tmps sl K r o := by
  obtain ⟨y, hy, rfl⟩ := optMap (show (cX t).map (O.ext i) = some co from hc)
  simp only [evO] at hr
  split at hr
  · rename_i l hv
    have hx := cX_R c.env hy
    rw [hv] at hx
    cases hx' : opv tmps t <;> rw [hx'] at hx <;> cases hx
    rename_i cs hcs
    obtain ⟨v, hl, hk⟩ := optK_some hr
    rw [nth_eq] at hl
    obtain ⟨u, hu, hru⟩ := hcs.get _ _ hl
    have hu' : cs[i]? = some u := by simpa using hu
    exact ⟨v, s, hk, Done.pure c hru (by simp [execOp, ho, hx', Instr.extract, hu'])⟩
  · cases hr

end
end Go.Ev
