/- From an answer of the evaluator to a law of the row: the table, the empty heap, old memory as it was. -/
import Derived.Test.YthmccpflcpijnaaGreatWEvRun
import Derived.ChangeSame
import Derived.Below
namespace Go.Ev
open Go.RowKit Go.ChangeShapes Go.WideShapes

inductive TT where
  | e
  | n (l : TT) (v : Option (Nat × CF)) (r : TT)

def TT.get : TT → Nat → Option (Nat × CF)
  | .e, _ => none
  | .n l v r, k => bif Nat.beq k 0 then v else bif Nat.beq (k % 2) 1 then l.get (k / 2) else r.get (k / 2 - 1)

def TT.tab (t : TT) (g : Nat) : Option CF :=
  match t.get g with
  | some (g', cf) => bif Nat.beq g' g then some cf else none
  | none => none

def TT.All (p : Nat → CF → Prop) : TT → Prop
  | .e => True
  | .n l v r => (match v with | some (g, cf) => p g cf | none => True) ∧ l.All p ∧ r.All p

theorem TT.all_get {p : Nat → CF → Prop} : ∀ (t : TT) (k g : Nat) (cf : CF), t.All p → t.get k = some (g, cf) → p g cf
  | .e, _, _, _, _, h => by simp [TT.get] at h
  | .n l v r, k, g, cf, ha, h => by
    obtain ⟨h1, h2, h3⟩ := ha
    simp only [TT.get, cond_eq_ite] at h
    split at h
    · subst h; exact h1
    · split at h
      · exact all_get l _ _ _ h2 h
      · exact all_get r _ _ _ h3 h

def Good (Q : Program) (g : Nat) (cf : CF) : Prop := ∃ fn, Q.funcs[g]? = some fn ∧ cFunc Q fn = some cf

theorem TT.ok {Q : Program} {t : TT} (h : t.All (Good Q)) : TabOk Q t.tab := by
  intro g cf hg
  unfold TT.tab at hg
  split at hg
  · rename_i g' cf' e
    cases hb : Nat.beq g' g with
    | false => rw [hb, cond_false] at hg; cases hg
    | true =>
      rw [hb, cond_true] at hg
      cases hg
      have := t.all_get _ _ _ h e
      rw [Nat.eq_of_beq_eq_true hb] at this
      exact this
  · cases hg

/- the answer looked for: a bool -/
def kB (v : V) (_ : S) : Option Bool :=
  match v with
  | .b x => some x
  | _ => none

theorem kB_some {v : V} {s : S} {x : Bool} (h : kB v s = some x) : v = .b x := by
  cases v <;> simp_all [kB]

theorem Sim.empty (Q : Program) (w : World) (n : Nat) : Sim Q (fun _ => none) ⟨.e, n⟩ w :=
  ⟨fun _ _ _ h => (by cases h), fun _ _ h => (by cases h), fun _ _ h => (by cases h), fun _ _ _ _ _ _ h => (by cases h)⟩

/- what is not the evaluator's stays -/
theorem Keep.below {φ φ' : Phi} {s s' : S} {w w' : World} (k : Keep φ s w φ' s' w') (h : ∀ B, B < w.heap.size → ¬ Own φ s B) : Below w.heap.size w w' :=
  ⟨k.os, k.tape, k.output, k.size, fun B hB => (k.old B hB (h B hB)).1⟩

theorem law_calls {Q : Program} (hm : Q.follows .mixedOrders = true) {tab : Nat → Option CF} (htab : TabOk Q tab) {n g : Nat} {args : List V} {s : S} (hr : run tab n (.fn g) args s kB = some true)
    {φ : Phi} {w : World} {args' : Array Value} (hs : Sim Q φ s w) (ha : Rs φ args args'.toList) (hno : ∀ B, B < w.heap.size → ¬ Own φ s B) :
    Calls Q g args' w fun e w' => e = .returned (.bool true) ∧ Below w.heap.size w w' := by
  obtain ⟨v, s', φ', val, w', h1, h2, h3, h4, h5⟩ := run_calls hm htab hr hs ha
  refine h5.mono fun e w'' he => ?_
  obtain ⟨rfl, rfl⟩ := he
  have := kB_some h1
  subst this
  cases h3
  exact ⟨rfl, h4.below hno⟩

/- old memory is as it was: what the row asks of a law's return -/
theorem post_below {H : Type} {enc : TypeId × Value → H} {P : Program} {f : Func} {s : ChangeSpec} {apart fresh handsOn again : Bool} {W W' : World} {args : Array Value} {v : Value} {ds gs : List (DataW H)} {pa pv : List MemPlace}
    (hW : DataW.Whole enc P f.params.toList s.vars apart W args.toList ds gs (pa ++ pv)) (hb : Below W.heap.size W W')
    (hres : ∀ (b : Nat) (sp : Nat → Bool) (hd : Bool), DataW.TrodAll enc P W' b sp hd f.resultTypes.toList (v.resultList f.resultTypes.size) (s.fn H (ds ++ gs)).results [])
    (hargs : ∀ sp : Nat → Bool, (∀ p ∈ pa ++ pv, sp p.block = true) → DataW.TrodAll enc P W' 0 sp true f.params.toList args.toList (s.fn H (ds ++ gs)).args pa)
    (hvars : ∀ sp : Nat → Bool, (∀ p ∈ pa ++ pv, sp p.block = true) → DataW.TrodVars enc P W' sp s.vars (s.fn H (ds ++ gs)).vars pv)
    (hok : ∀ (j : Nat) (t : TypeId) (r : Value), f.resultTypes[j]? = some t → (v.resultList f.resultTypes.size)[j]? = some r → Value.okWide P W' .any 0 t r) :
    s.post enc P f apart fresh handsOn again W args v W' := by
  have hlt : ∀ p ∈ pa ++ pv, p.block < W.heap.size := fun p hp => hW.lt p hp
  have hsp : ∀ p ∈ pa ++ pv, (fun b => decide (b < W.heap.size)) p.block = true := fun p hp => by simpa using hlt p hp
  have hwhole := hW
  obtain ⟨_, _, _, _, _, hfz, hnd⟩ := hW
  refine ⟨ds, gs, pa ++ pv, [], pa, pv, hwhole, hres _ _ _, hargs _ hsp, hvars _ hsp, hb.frame _, fun _ => ⟨hok, _, _, ([] ++ pa) ++ pv, ⟨[] ++ pa, pv, trodAll_append (hargs _ fun _ _ => rfl) (hres _ _ _), hvars _ fun _ _ => rfl, rfl, fun b off hp => ?_, fun ha => by simpa using hnd ha⟩, fun p hp _ => by simpa using hp⟩⟩
  have hp' : MemPlace.cell b off ∈ pa ++ pv := by simpa using hp
  rw [hb.frozen (p := ⟨b, off, none⟩) (hlt _ hp')]
  exact hfz b off hp'

end Go.Ev
