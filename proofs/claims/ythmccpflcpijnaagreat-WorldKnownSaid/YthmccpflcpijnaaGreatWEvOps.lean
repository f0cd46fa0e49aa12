/- Each operation of the evaluator stands for the model's. -/
import Derived.Test.YthmccpflcpijnaaGreatWEvSim
import Derived.WalkKit
namespace Go.Ev

def opv (tmps : Array Value) : Operand → Value
  | .tmp t => tmps.getD t Go.undef
  | .const v => v
  | .global g => .pointer (some ⟨g, 0, none⟩)
  | .func f => .func (.func f) #[] #[]

theorem cv1_R {φ : Phi} {v : Value} {u : V} (h : cv1 v = some u) : R φ u v := by
  cases v with
  | bool b => simp [cv1] at h; subst h; exact .b b
  | int k n => simp [cv1] at h; subst h; exact .i k n
  | string s => simp [cv1] at h; subst h; exact .s _ _ rfl
  | pointer a => cases a <;> simp [cv1] at h; subst h; exact .np
  | slice a l c =>
    cases a with
    | none =>
      cases l <;> cases c <;> simp [cv1] at h
      subst h; exact .nsl
    | some a => simp [cv1] at h
  | map r => cases r <;> simp [cv1] at h; subst h; exact .nm
  | nilFunc => simp [cv1] at h; subst h; exact .nf
  | nilIface => simp [cv1] at h; subst h; exact .ni
  | _ => simp [cv1] at h

theorem cvs_R {φ : Phi} : ∀ {l : List Value} {r : List V}, cvs l = some r → Rs φ r l
  | [], r, h => by simp [cvs] at h; subst h; exact .nil
  | v :: l, r, h => by
    simp only [cvs] at h
    split at h
    · rename_i u r' h1 h2
      cases h
      exact .cons _ _ _ _ (cv1_R h1) (cvs_R h2)
    · cases h

theorem cv_R {φ : Phi} {v : Value} {u : V} (h : cv v = some u) : R φ u v := by
  unfold cv at h
  split at h
  · rename_i cs
    obtain ⟨r, hr, rfl⟩ := Option.map_eq_some_iff.1 h
    exact .a _ _ (cvs_R hr)
  · rename_i cs
    obtain ⟨r, hr, rfl⟩ := Option.map_eq_some_iff.1 h
    exact .tup _ _ (cvs_R hr)
  · exact cv1_R h

theorem cX_R {φ : Phi} {N : Nat} {E : Env} {tmps : Array Value} (he : EnvR φ N E tmps) {x : Operand} {y : X} (h : cX x = some y) : R φ (E.val y) (opv tmps x) := by
  cases x with
  | tmp t => simp [cX] at h; subst h; exact he.2 t
  | const v =>
    obtain ⟨u, hu, rfl⟩ := Option.map_eq_some_iff.1 (show (cv v).map X.c = some y from h)
    exact cv_R hu
  | global g => simp [cX] at h
  | func f => simp [cX] at h; subst h; exact .f _ _ _ _ _ _ (.fn f) .nil .nil

theorem cXs_R {φ : Phi} {N : Nat} {E : Env} {tmps : Array Value} (he : EnvR φ N E tmps) : ∀ {l : List Operand} {ys : List X}, cXs l = some ys → Rs φ (E.vals ys) (l.map (opv tmps))
  | [], ys, h => by simp [cXs] at h; subst h; exact .nil
  | x :: l, ys, h => by
    simp only [cXs] at h
    split at h
    · rename_i y r h1 h2
      cases h
      exact .cons _ _ _ _ (cX_R he h1) (cXs_R he h2)
    · cases h

theorem nth_eq : ∀ (l : List V) (n : Nat), nth l n = l[n]?
  | [], n => by simp [nth]
  | v :: l, 0 => by simp [nth, Nat.beq]
  | v :: l, n + 1 => by simp [nth, Nat.beq, nth_eq l n]

theorem cut_some {off n : Nat} {l r : List V} (h : cut off n l = some r) : off + n ≤ l.length ∧ r = (l.drop off).take n := by
  unfold cut at h
  cases e : Nat.ble (off + n) l.length with
  | false => simp [e] at h
  | true => simp [e] at h; exact ⟨Nat.le_of_ble_eq_true e, h.symm⟩

theorem splice_some {off : Nat} {vs l r : List V} (h : splice off vs l = some r) : off + vs.length ≤ l.length ∧ r = l.take off ++ vs ++ l.drop (off + vs.length) := by
  unfold splice at h
  cases e : Nat.ble (off + vs.length) l.length with
  | false => simp [e] at h
  | true => simp [e] at h; exact ⟨Nat.le_of_ble_eq_true e, by simp [← h]⟩

section
variable {Q : Program} {φ : Phi} {s : S} {w : World}

theorem Sim.cell (k : Sim Q φ s w) {b o : Nat} {pl : Pl} {v : V} (hb : φ b = some pl) (h : s.cell b o = some v) : ∃ u, w.cell? ⟨pl.blk, pl.off + o, none⟩ = some u ∧ R φ v u := by
  unfold S.cell at h
  split at h
  · rename_i l rw hg
    obtain ⟨cs, el, fr, h1, _, _, h4, _⟩ := k.obj b pl _ hb hg
    rw [nth_eq] at h
    obtain ⟨u, hu, hr⟩ := h4 o v h
    exact ⟨u, by simp [World.cell?, h1, hu], hr⟩
  · cases h

theorem rs_of_cells {φ : Phi} (f : Nat → Option Value) : ∀ (l : List V) (o : Nat), (∀ j v, l[j]? = some v → ∃ u, f (o + j) = some u ∧ R φ v u) → ∃ us : List Value, Rs φ l us ∧ ∀ j u, us[j]? = some u → f (o + j) = some u
  | [], o, _ => ⟨[], .nil, by simp⟩
  | v :: l, o, h => by
    obtain ⟨u, hu, hr⟩ := h 0 v (by simp)
    obtain ⟨us, h1, h2⟩ := rs_of_cells f l (o + 1) (fun j v hv => by
      obtain ⟨u, a, b⟩ := h (j + 1) v (by simpa using hv)
      exact ⟨u, by rwa [show o + 1 + j = o + (j + 1) by omega], b⟩)
    refine ⟨u :: us, .cons _ _ _ _ hr h1, fun j u' hj => ?_⟩
    cases j with
    | zero => simp at hj; subst hj; simpa using hu
    | succ j =>
      have := h2 j u' (by simpa using hj)
      rwa [show o + 1 + j = o + (j + 1) by omega] at this

theorem Sim.row (k : Sim Q φ s w) {b o n : Nat} {pl : Pl} {l : List V} (hb : φ b = some pl) (h : s.row b o n = some l) :
    l.length = n ∧ ∃ us : List Value, Rs φ l us ∧ ∀ j u, us[j]? = some u → w.cell? (Addr.add ⟨pl.blk, pl.off + o, none⟩ j) = some u := by
  unfold S.row at h
  split at h
  · rename_i l0 rw hg
    obtain ⟨cs, el, fr, h1, _, _, h4, _⟩ := k.obj b pl _ hb hg
    obtain ⟨hle, rfl⟩ := cut_some h
    refine ⟨by simp; omega, ?_⟩
    obtain ⟨us, h5, h6⟩ := rs_of_cells (φ := φ) (fun x => cs[pl.off + x]?) ((l0.drop o).take n) o (fun j v hv => by
      rw [List.getElem?_take] at hv
      split at hv
      · rw [List.getElem?_drop] at hv
        exact h4 _ v hv
      · cases hv)
    refine ⟨us, h5, fun j u hj => ?_⟩
    have := h6 j u hj
    rw [Addr.add_lit]
    simpa [World.cell?, h1, Nat.add_assoc] using this
  · cases h

theorem run_loadCells_row (w : World) (a : Addr) (us : List Value) (n : Nat) (hn : us.length = n) (h : ∀ j u, us[j]? = some u → w.cell? (a.add j) = some u) :
    (loadCells a n).run Q w = .ok us.toArray w := by
  subst hn; exact run_loadCells_list w a us h

theorem run_info {t : TypeId} {i : TypeInfo} (h : Q.info? t = some i) (w : World) : (typeInfo t).run Q w = .ok i w := by simp [typeInfo, h]

theorem szOf_some {t : TypeId} {n : Nat} (h : szOf Q t = some n) (w : World) : (sizeOf t).run Q w = .ok n w := by
  unfold szOf at h
  obtain ⟨i, hi, rfl⟩ := Option.map_eq_some_iff.1 h
  simp [sizeOf, run_info hi]

theorem run_und {t : TypeId} {d : TypeDesc} (h : Q.underlying t = some d) (w : World) : (underlying t).run Q w = .ok d w := run_underlying h w

theorem isAgg_run {t : TypeId} {b : Bool} (h : aggT Q t = some b) (w : World) : (isAgg t).run Q w = .ok b w := by
  unfold aggT at h
  obtain ⟨d, hd, rfl⟩ := Option.map_eq_some_iff.1 h
  unfold isAgg
  simp only [Sem.run_bind, run_und hd, Result.andThen_ok]
  cases d <;> simp

theorem zeroT_some {t : TypeId} {z : V} (h : zeroT Q t = some z) : ∃ v, (∀ w, (zeroValue t).run Q w = .ok v w) ∧ cv v = some z := by
  unfold zeroT at h
  obtain ⟨v, hv, hz⟩ := Option.bind_eq_some_iff.1 h
  obtain ⟨i, hi, hiz⟩ := Option.bind_eq_some_iff.1 hv
  exact ⟨v, fun w => by simp [zeroValue, run_info hi, hiz], hz⟩

def ldV (s : S) (n : Option Nat) (b o : Nat) : Option V :=
  match n with
  | none => s.cell b o
  | some n => (s.row b o n).map V.a

theorem loadVar_run (k : Sim Q φ s w) {t : TypeId} {n : Option Nat} (hs : shapeT Q t = some n) {b o : Nat} {pl : Pl} (hb : φ b = some pl) {v : V}
    (h : ldV s n b o = some v) : ∃ u, (loadVar t ⟨pl.blk, pl.off + o, none⟩).run Q w = .ok u w ∧ R φ v u := by
  unfold shapeT at hs
  split at hs
  · rename_i ha
    obtain ⟨m, hm, rfl⟩ := Option.map_eq_some_iff.1 hs
    obtain ⟨l, hl, rfl⟩ := Option.map_eq_some_iff.1 (show (s.row b o m).map V.a = some v from h)
    obtain ⟨hlen, us, h1, h2⟩ := k.row hb hl
    refine ⟨.agg us.toArray, ?_, .a _ _ h1⟩
    have hrun := run_loadCells_row (Q := Q) w ⟨pl.blk, pl.off + o, none⟩ us m (by rw [← h1.length, hlen]) h2
    simp [loadVar, isAgg_run ha, szOf_some hm, hrun]
  · rename_i ha
    cases hs
    obtain ⟨u, hu, hr⟩ := k.cell hb h
    exact ⟨u, by simp [loadVar, isAgg_run ha, hu], hr⟩
  · cases hs

end
end Go.Ev
