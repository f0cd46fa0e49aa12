/- The evaluator's heap and the model's: what a block holds, what a step keeps. -/
import Derived.Test.YthmccpflcpijnaaGreatWEvRel
import Derived.Laws.IdiomCopy
import Derived.RangeFuncRecord
namespace Go.Ev

def live : Obj → Bool
  | .dead => false
  | _ => true
def isRw : Obj → Bool
  | .cells _ rw => rw
  | .map _ => true
  | .loop .. => true
  | .dead => false

def EnvR (φ : Phi) (N : Nat) (E : Env) (tmps : Array Value) : Prop := tmps.size = N ∧ ∀ t, R φ (E.get (P.of t)) (tmps.getD t Go.undef)

theorem EnvR.mono {φ φ' : Phi} (e : Ext φ φ') {N : Nat} {E : Env} {tmps : Array Value} (h : EnvR φ N E tmps) : EnvR φ' N E tmps :=
  ⟨h.1, fun t => (h.2 t).mono e⟩

inductive RJ : J → Option Code → Prop
  | nrm : RJ .nrm none
  | ret : RJ .ret (some .ret)
  | exit (id : Nat) : RJ (.exit id) (some (.exit id))

inductive RS : Nat → LoopState → Prop
  | ready : RS 0 .ready
  | busy : RS 1 .busy
  | done : RS 2 .done
  | exhausted : RS 3 .exhausted

section
variable (Q : Program)

def RO (φ : Phi) (h : Array Go.Obj) (pl : Pl) : Obj → Prop
  | .cells l rw => ∃ cs el fr, h[pl.blk]? = some (.cells cs el fr) ∧ pl.off + l.length ≤ pl.fin ∧ pl.fin ≤ cs.size ∧
      (∀ (i : Nat) (v : V), l[i]? = some v → ∃ u, cs[pl.off + i]? = some u ∧ R φ v u) ∧ (rw = true → ∀ x, pl.off ≤ x → x < pl.fin → ¬ (fr.1 ≤ x ∧ x < fr.2))
  | .map es => ∃ mes clock, h[pl.blk]? = some (.map mes clock) ∧ pl.off = 0 ∧ pl.fin = 1 ∧ Rs φ (es.map (·.1)) (mes.toList.map (·.key)) ∧ Rs φ (es.map (·.2)) (mes.toList.map (·.val))
  | .loop st pd E ps as bd => ∃ (r : Loop) (N : Nat), h[pl.blk]? = some (.loop r) ∧ pl.off = 0 ∧ pl.fin = 1 ∧ RS st r.state ∧ RJ pd r.pending ∧ EnvR φ N E r.tmps ∧
      ps = r.params.toList.map P.of ∧ (∀ t ∈ r.params.toList, t < N) ∧ as = cC Q N r.assign ∧ bd = cC Q N r.body ∧ noRange r.assign = true ∧ noRange r.body = true
  | .dead => True

def Dis (a b : Pl) : Prop := a.blk ≠ b.blk ∨ a.fin ≤ b.off ∨ b.fin ≤ a.off

theorem Dis.symm {a b : Pl} (h : Dis a b) : Dis b a := by
  rcases h with h | h | h
  · exact .inl fun e => h e.symm
  · exact .inr (.inr h)
  · exact .inr (.inl h)

structure Sim (φ : Phi) (s : S) (w : World) : Prop where
  obj : ∀ b pl o, φ b = some pl → s.get b = some o → RO Q φ w.heap pl o
  lt : ∀ b pl, φ b = some pl → b < s.nx
  inh : ∀ b pl, φ b = some pl → pl.blk < w.heap.size
  dis : ∀ b b' pl pl' o o', φ b = some pl → φ b' = some pl' → s.get b = some o → s.get b' = some o' → b ≠ b' → live o = true → live o' = true → (isRw o || isRw o') = true → Dis pl pl'

def Own (φ : Phi) (s : S) (B : Nat) : Prop := ∃ b pl o, φ b = some pl ∧ s.get b = some o ∧ isRw o = true ∧ pl.blk = B

structure Keep (φ : Phi) (s : S) (w : World) (φ' : Phi) (s' : S) (w' : World) : Prop where
  ext : Ext φ φ'
  nx : s.nx ≤ s'.nx
  os : w'.os = w.os
  tape : w'.tape = w.tape
  output : w'.output = w.output
  size : w.heap.size ≤ w'.heap.size
  old : ∀ B, B < w.heap.size → ¬ Own φ s B → w'.heap[B]? = w.heap[B]? ∧ ¬ Own φ' s' B

theorem Keep.refl (φ : Phi) (s : S) (w : World) : Keep φ s w φ s w := ⟨Ext.refl φ, Nat.le_refl _, rfl, rfl, rfl, Nat.le_refl _, fun _ _ h => ⟨rfl, h⟩⟩
theorem Keep.trans {φ φ' φ'' : Phi} {s s' s'' : S} {w w' w'' : World} (a : Keep φ s w φ' s' w') (b : Keep φ' s' w' φ'' s'' w'') : Keep φ s w φ'' s'' w'' :=
  ⟨a.ext.trans b.ext, Nat.le_trans a.nx b.nx, b.os.trans a.os, b.tape.trans a.tape, b.output.trans a.output, Nat.le_trans a.size b.size, fun B hB ho =>
    let ⟨h1, h2⟩ := a.old B hB ho
    let ⟨h3, h4⟩ := b.old B (Nat.lt_of_lt_of_le hB a.size) h2
    ⟨h3.trans h1, h4⟩⟩
variable {Q}

theorem Keep.of_heap {φ : Phi} {s : S} {w w' : World} (h : w'.heap = w.heap) (ho : w'.os = w.os) (ht : w'.tape = w.tape) (hp : w'.output = w.output) : Keep φ s w φ s w' :=
  ⟨Ext.refl φ, Nat.le_refl _, ho, ht, hp, by rw [h]; exact Nat.le_refl _, fun B _ hB => ⟨by rw [h], hB⟩⟩
theorem Sim.of_heap {φ : Phi} {s : S} {w w' : World} (h : w'.heap = w.heap) (k : Sim Q φ s w) : Sim Q φ s w' :=
  ⟨by rw [h]; exact k.obj, k.lt, by rw [h]; exact k.inh, k.dis⟩

theorem RO.mono {φ φ' : Phi} (e : Ext φ φ') {h : Array Go.Obj} {h' : Array Go.Obj} {pl : Pl} (hh : h'[pl.blk]? = h[pl.blk]?) {o : Obj} (k : RO Q φ h pl o) : RO Q φ' h' pl o := by
  cases o with
  | cells l rw =>
    obtain ⟨cs, el, fr, h1, h2, h3, h4, h5⟩ := k
    exact ⟨cs, el, fr, hh.trans h1, h2, h3, fun i v hv => let ⟨u, a, b⟩ := h4 i v hv; ⟨u, a, b.mono e⟩, h5⟩
  | map es =>
    obtain ⟨mes, clock, h1, h2, h3, h4, h5⟩ := k
    exact ⟨mes, clock, hh.trans h1, h2, h3, h4.mono e, h5.mono e⟩
  | loop st pd E ps as bd =>
    obtain ⟨r, N, h1, h2, h3, h4, h5, h6, h7⟩ := k
    exact ⟨r, N, hh.trans h1, h2, h3, h4, h5, h6.mono e, h7⟩
  | dead => trivial

def Phi.set (φ : Phi) (b : Nat) (pl : Pl) : Phi := fun x => if x = b then some pl else φ x
theorem Phi.ext_set {φ : Phi} {b : Nat} {pl : Pl} (h : φ b = none) : Ext φ (φ.set b pl) := by
  intro x p hx
  unfold Phi.set
  split
  · rename_i e; subst e; rw [h] at hx; cases hx
  · exact hx
theorem Phi.set_self {φ : Phi} {b : Nat} {pl : Pl} : φ.set b pl b = some pl := by simp [Phi.set]

theorem push_get (h : Array Go.Obj) (o : Go.Obj) (i : Nat) (hi : i < h.size) : (h.push o)[i]? = h[i]? := by
  rw [Array.getElem?_push, if_neg (by omega)]

/- a new block -/
theorem Sim.new {φ : Phi} {s : S} {w : World} (k : Sim Q φ s w) (slot : Option Nat) (hs : ∀ b, slot = some b → b < s.nx) (hn : φ (s.newAt slot) = none) {o : Obj} {o' : Go.Obj} {fin : Nat}
    (ho : RO Q (φ.set (s.newAt slot) ⟨w.heap.size, 0, fin⟩) (w.heap.push o') ⟨w.heap.size, 0, fin⟩ o) :
    Sim Q (φ.set (s.newAt slot) ⟨w.heap.size, 0, fin⟩) (s.new slot o) (w.alloc o') ∧ Keep φ s w (φ.set (s.newAt slot) ⟨w.heap.size, 0, fin⟩) (s.new slot o) (w.alloc o') := by
  have hext : Ext φ (φ.set (s.newAt slot) ⟨w.heap.size, 0, fin⟩) := Phi.ext_set hn
  refine ⟨⟨?_, ?_, ?_, ?_⟩, ⟨hext, S.nx_new _ _ _, rfl, rfl, rfl, ?_, ?_⟩⟩
  · intro b pl ob hb hg
    rw [S.get_new] at hg
    unfold Phi.set at hb
    by_cases e : b = s.newAt slot
    · rw [if_pos e] at hb hg
      cases hb; cases hg; exact ho
    · rw [if_neg e] at hb hg
      exact (k.obj b pl ob hb hg).mono hext (push_get _ _ _ (k.inh b pl hb))
  · intro b pl hb
    unfold Phi.set at hb
    by_cases e : b = s.newAt slot
    · subst e
      cases slot with
      | none => simp [S.newAt, S.new]
      | some c => have := hs c rfl; simpa [S.newAt, S.new] using this
    · rw [if_neg e] at hb
      exact Nat.lt_of_lt_of_le (k.lt b pl hb) (S.nx_new _ _ _)
  · intro b pl hb
    unfold Phi.set at hb
    by_cases e : b = s.newAt slot
    · rw [if_pos e] at hb; cases hb; simp
    · rw [if_neg e] at hb
      have := k.inh b pl hb
      simp; omega
  · intro b b' pl pl' ob ob' hb hb' hg hg' hne hl hl' hr
    rw [S.get_new] at hg hg'
    unfold Phi.set at hb hb'
    by_cases e : b = s.newAt slot
    · rw [if_pos e] at hb
      have e' : ¬ b' = s.newAt slot := fun x => hne (e.trans x.symm)
      rw [if_neg e'] at hb'
      cases hb
      have := k.inh b' pl' hb'
      exact .inl (by simp; omega)
    · rw [if_neg e] at hb hg
      by_cases e' : b' = s.newAt slot
      · rw [if_pos e'] at hb'
        cases hb'
        have := k.inh b pl hb
        exact .inl (by simp; omega)
      · rw [if_neg e'] at hb' hg'
        exact k.dis b b' pl pl' ob ob' hb hb' hg hg' hne hl hl' hr
  · simp
  · intro B hB hno
    refine ⟨push_get _ _ _ hB, ?_⟩
    rintro ⟨b, pl, ob, hb, hg, hr, rfl⟩
    rw [S.get_new] at hg
    unfold Phi.set at hb
    by_cases e : b = s.newAt slot
    · rw [if_pos e] at hb; cases hb; simp at hB
    · rw [if_neg e] at hb hg
      exact hno ⟨b, pl, ob, hb, hg, hr, rfl⟩

/- the objects that lie in one block beside one that is written -/
theorem Sim.beside {φ : Phi} {s : S} {w : World} (k : Sim Q φ s w) {b b' : Nat} {pl pl' : Pl} {o o' : Obj} (hb : φ b = some pl) (hg : s.get b = some o) (hr : isRw o = true)
    (hb' : φ b' = some pl') (hg' : s.get b' = some o') (hl : live o' = true) (hne : b' ≠ b) : Dis pl pl' := by
  have hlo : live o = true := by cases o <;> simp_all [live, isRw]
  exact k.dis b b' pl pl' o o' hb hb' hg hg' (fun e => hne e.symm) hlo hl (by simp [hr])


theorem set_get_other (h : Array Go.Obj) (B : Nat) (o : Go.Obj) (i : Nat) (hi : i ≠ B) : (h.setIfInBounds B o)[i]? = h[i]? := by
  rw [Array.getElem?_setIfInBounds, if_neg (fun e => hi e.symm)]
theorem set_get_same (h : Array Go.Obj) (B : Nat) (o : Go.Obj) (hB : B < h.size) : (h.setIfInBounds B o)[B]? = some o := by
  rw [Array.getElem?_setIfInBounds, if_pos rfl, if_pos hB]

/- an object's place is written anew; what lies beside it in the same block stays -/
theorem Sim.upd {φ : Phi} {s : S} {w : World} (k : Sim Q φ s w) {b : Nat} {pl : Pl} {o n : Obj} (hb : φ b = some pl) (hg : s.get b = some o) (hr : isRw o = true) {o' : Go.Obj}
    (hn : RO Q φ (w.heap.setIfInBounds pl.blk o') pl n)
    (hbes : ∀ pl' q, pl'.blk = pl.blk → Dis pl pl' → live q = true → RO Q φ w.heap pl' q → RO Q φ (w.heap.setIfInBounds pl.blk o') pl' q) :
    Sim Q φ (s.put b n) (w.putObj pl.blk o') ∧ Keep φ s w φ (s.put b n) (w.putObj pl.blk o') := by
  refine ⟨⟨?_, k.lt, ?_, ?_⟩, ⟨Ext.refl φ, Nat.le_refl _, rfl, rfl, rfl, by simp [World.putObj], ?_⟩⟩
  · intro b' pl' q hb' hg'
    rw [S.get_put] at hg'
    by_cases e : b' = b
    · subst e
      rw [if_pos rfl] at hg'
      cases hg'
      rw [hb] at hb'; cases hb'; exact hn
    · rw [if_neg e] at hg'
      have ho := k.obj b' pl' q hb' hg'
      by_cases hl : live q = true
      · by_cases hB : pl'.blk = pl.blk
        · exact hbes pl' q hB (k.beside hb hg hr hb' hg' hl e) hl ho
        · exact ho.mono (Ext.refl φ) (set_get_other _ _ _ _ hB)
      · cases q <;> simp_all [live, RO]
  · intro b' pl' hb'
    simpa [World.putObj] using k.inh b' pl' hb'
  · intro b1 b2 p1 p2 o1 o2 h1 h2 g1 g2 hne l1 l2 hrr
    rw [S.get_put] at g1 g2
    by_cases e1 : b1 = b
    · subst e1
      have e2 : ¬ b2 = b1 := fun x => hne x.symm
      rw [if_neg e2] at g2
      rw [hb] at h1; cases h1
      exact k.beside hb hg hr h2 g2 l2 e2
    · rw [if_neg e1] at g1
      by_cases e2 : b2 = b
      · subst e2
        rw [hb] at h2; cases h2
        exact (k.beside hb hg hr h1 g1 l1 e1).symm
      · rw [if_neg e2] at g2
        exact k.dis b1 b2 p1 p2 o1 o2 h1 h2 g1 g2 hne l1 l2 hrr
  · intro B hB hno
    have hne : B ≠ pl.blk := fun e => hno ⟨b, pl, o, hb, hg, hr, e.symm⟩
    refine ⟨set_get_other _ _ _ _ hne, ?_⟩
    rintro ⟨b', pl', q, hb', hg', hr', rfl⟩
    rw [S.get_put] at hg'
    by_cases e : b' = b
    · subst e; rw [hb] at hb'; cases hb'; exact hne rfl
    · rw [if_neg e] at hg'
      exact hno ⟨b', pl', q, hb', hg', hr', rfl⟩

/- a block is given up -/
theorem Sim.kill {φ : Phi} {s : S} {w : World} (k : Sim Q φ s w) (b : Nat) : Sim Q φ (s.put b .dead) w ∧ Keep φ s w φ (s.put b .dead) w := by
  refine ⟨⟨?_, k.lt, k.inh, ?_⟩, ⟨Ext.refl φ, Nat.le_refl _, rfl, rfl, rfl, Nat.le_refl _, ?_⟩⟩
  · intro b' pl' q hb' hg'
    rw [S.get_put] at hg'
    split at hg'
    · cases hg'; trivial
    · exact k.obj b' pl' q hb' hg'
  · intro b1 b2 p1 p2 o1 o2 h1 h2 g1 g2 hne l1 l2 hrr
    rw [S.get_put] at g1 g2
    split at g1
    · cases g1; simp [live] at l1
    · split at g2
      · cases g2; simp [live] at l2
      · exact k.dis b1 b2 p1 p2 o1 o2 h1 h2 g1 g2 hne l1 l2 hrr
  · intro B hB hno
    refine ⟨rfl, ?_⟩
    rintro ⟨b', pl', q, hb', hg', hr', rfl⟩
    rw [S.get_put] at hg'
    split at hg'
    · cases hg'; simp [isRw] at hr'
    · exact hno ⟨b', pl', q, hb', hg', hr', rfl⟩

end
end Go.Ev
