/- Stores and new blocks. -/
import Derived.Test.YthmccpflcpijnaaGreatWEvOps
namespace Go.Ev

def setsA (cs : Array Value) : Nat → List Value → Array Value
  | _, [] => cs
  | o, v :: r => setsA (cs.setIfInBounds o v) (o + 1) r

theorem setsA_size : ∀ (r : List Value) (o : Nat) (cs : Array Value), (setsA cs o r).size = cs.size
  | [], _, _ => rfl
  | v :: r, o, cs => by rw [setsA, setsA_size r]; simp

theorem setsA_out : ∀ (r : List Value) (o : Nat) (cs : Array Value) (x : Nat), (x < o ∨ o + r.length ≤ x) → (setsA cs o r)[x]? = cs[x]?
  | [], _, _, _, _ => rfl
  | v :: r, o, cs, x, h => by
    rw [setsA, setsA_out r (o + 1) _ x (by simp at h; omega), Array.getElem?_setIfInBounds, if_neg]
    simp at h; omega

theorem setsA_in : ∀ (r : List Value) (o : Nat) (cs : Array Value) (j : Nat) (u : Value), r[j]? = some u → o + r.length ≤ cs.size → (setsA cs o r)[o + j]? = some u
  | [], _, _, _, _, h, _ => by simp at h
  | v :: r, o, cs, 0, u, h, hs => by
    simp at h; subst h
    rw [setsA, setsA_out r (o + 1) _ _ (.inl (by omega)), Array.getElem?_setIfInBounds]
    simp at hs
    simp; omega
  | v :: r, o, cs, j + 1, u, h, hs => by
    rw [setsA, show o + (j + 1) = o + 1 + j by omega]
    exact setsA_in r (o + 1) _ j u (by simpa using h) (by simp at hs ⊢; omega)

theorem setCell_putObj (w : World) (B o : Nat) (v : Value) {cs : Array Value} {el : TypeId} {fr : Nat × Nat} (h : w.heap[B]? = some (.cells cs el fr)) :
    w.setCell ⟨B, o, none⟩ v = w.putObj B (.cells (cs.setIfInBounds o v) el fr) := by
  unfold World.setCell World.putObj
  congr 1
  apply Array.ext_getElem?
  intro i
  rw [Array.getElem?_modify, Array.getElem?_setIfInBounds]
  by_cases e : B = i
  · subst e
    have hB : B < w.heap.size := by
      rcases Nat.lt_or_ge B w.heap.size with x | x
      · exact x
      · simp [Array.getElem?_eq_none x] at h
    rw [if_pos rfl, if_pos rfl, if_pos hB, h]
    simp
  · rw [if_neg e, if_neg e]

theorem setCells_putObj : ∀ (r : List Value) (w : World) (B o : Nat) {cs : Array Value} {el : TypeId} {fr : Nat × Nat}, w.heap[B]? = some (.cells cs el fr) →
    w.setCells B o r = w.putObj B (.cells (setsA cs o r) el fr)
  | [], w, B, o, cs, el, fr, h => by
    have he : w.heap = w.heap.setIfInBounds B (.cells cs el fr) := by
      apply Array.ext_getElem?
      intro i
      rw [Array.getElem?_setIfInBounds]
      by_cases e : B = i
      · subst e
        have hB : B < w.heap.size := by
          rcases Nat.lt_or_ge B w.heap.size with x | x
          · exact x
          · simp [Array.getElem?_eq_none x] at h
        rw [if_pos rfl, if_pos hB, h]
      · rw [if_neg e]
    show w = { w with heap := w.heap.setIfInBounds B (.cells cs el fr) }
    rw [← he]
  | v :: r, w, B, o, cs, el, fr, h => by
    have hB : B < w.heap.size := by
      rcases Nat.lt_or_ge B w.heap.size with x | x
      · exact x
      · simp [Array.getElem?_eq_none x] at h
    have h1 : (w.putObj B (.cells (cs.setIfInBounds o v) el fr)).heap[B]? = some (.cells (cs.setIfInBounds o v) el fr) := set_get_same _ _ _ hB
    rw [World.setCells, setCell_putObj w B o v h, setCells_putObj r _ B (o + 1) h1, setsA]
    unfold World.putObj
    simp

theorem cells_R {φ : Phi} {v : V} {u : Value} (h : R φ v u) : Rs φ v.cells u.cells.toList := by
  cases h with
  | a l cs h => exact h
  | b x => exact .cons _ _ _ _ (.b x) .nil
  | i k n => exact .cons _ _ _ _ (.i k n) .nil
  | s l t h => exact .cons _ _ _ _ (.s l t h) .nil
  | p blk off pl h => exact .cons _ _ _ _ (.p blk off pl h) .nil
  | np => exact .cons _ _ _ _ .np .nil
  | sl sz blk off len cap ex pl ad c h hc hx hl hp => exact .cons _ _ _ _ (.sl sz blk off len cap ex pl ad c h hc hx hl hp) .nil
  | nsl => exact .cons _ _ _ _ .nsl .nil
  | m blk pl h => exact .cons _ _ _ _ (.m blk pl h) .nil
  | nm => exact .cons _ _ _ _ .nm .nil
  | f g fn first cap a c h ha hc => exact .cons _ _ _ _ (.f g fn first cap a c h ha hc) .nil
  | nf => exact .cons _ _ _ _ .nf .nil
  | ifc t v u h => exact .cons _ _ _ _ (.ifc t v u h) .nil
  | ni => exact .cons _ _ _ _ .ni .nil
  | tup l cs h => exact .cons _ _ _ _ (.tup l cs h) .nil

theorem one_R {φ : Phi} {v : V} {u : Value} (h : R φ v u) (h1 : v.one = true) : u.oneCell' = true := by
  cases h <;> simp_all [V.one, Value.oneCell']

theorem ones_R {φ : Phi} : ∀ {l : List V} {r : List Value}, Rs φ l r → ones l = true → ∀ u ∈ r, u.oneCell' = true
  | _, _, .nil, _, u, hu => by simp at hu
  | _, _, .cons v u0 l r hv t, h, u, hu => by
    simp only [ones, Bool.and_eq_true] at h
    rcases List.mem_cons.1 hu with rfl | hu
    · exact one_R hv h.1
    · exact ones_R t h.2 u hu

section
variable {Q : Program} {φ : Phi} {s : S} {w : World}

/- a row of cells is written over, in place -/
theorem Sim.write (k : Sim Q φ s w) {b o : Nat} {pl : Pl} {l l' vs : List V} {us : List Value} (hb : φ b = some pl) (hg : s.get b = some (.cells l true))
    (hl : splice o vs l = some l') (hv : Rs φ vs us) (h1 : ones vs = true) :
    (storeCells ⟨pl.blk, pl.off + o, none⟩ us).run Q w = .ok () (w.setCells pl.blk (pl.off + o) us) ∧
    Sim Q φ (s.put b (.cells l' true)) (w.setCells pl.blk (pl.off + o) us) ∧ Keep φ s w φ (s.put b (.cells l' true)) (w.setCells pl.blk (pl.off + o) us) := by
  obtain ⟨cs, el, fr, hc, hfin, hsz, hcell, hfr⟩ := k.obj b pl _ hb hg
  obtain ⟨hle, rfl⟩ := splice_some hl
  have hlen := hv.length
  have hll : l.length = l.length := rfl
  have hput := setCells_putObj us w pl.blk (pl.off + o) hc
  refine ⟨?_, ?_⟩
  · have := run_storeCells_cells (P := Q) pl.blk (pl.off + o) us 0 w (fun j hj => by
        have : pl.off + o + j < cs.size := by omega
        simp [World.cell?, hc, this]) (fun j hj => by
        have hlo := hfr rfl (pl.off + o + 0 + j) (by omega) (by omega)
        simp only [World.frozen?, hc]
        cases e : decide (fr.1 ≤ pl.off + o + 0 + j) && decide (pl.off + o + 0 + j < fr.2) with
        | false => rfl
        | true => simp at e; exact absurd e (by simpa using hlo)) (ones_R hv h1)
    simpa using this
  · rw [hput]
    refine k.upd hb hg rfl ?_ ?_
    · have hB := k.inh b pl hb
      refine ⟨setsA cs (pl.off + o) us, el, fr, set_get_same _ _ _ hB, by simp; omega, by rw [setsA_size]; exact hsz, ?_, hfr⟩
      intro i v hi
      by_cases hin : o ≤ i ∧ i < o + vs.length
      · have hv' : vs[i - o]? = some v := by
          rw [List.append_assoc, List.getElem?_append_right (by simp; omega)] at hi
          rw [List.getElem?_append_left (by simp; omega)] at hi
          rwa [show i - (List.take o l).length = i - o by simp; omega] at hi
        obtain ⟨u, hu, hr⟩ := hv.get _ _ hv'
        refine ⟨u, ?_, hr⟩
        have := setsA_in us (pl.off + o) cs (i - o) u hu (by omega)
        rwa [show pl.off + o + (i - o) = pl.off + i by omega] at this
      · have hi' : l[i]? = some v := by
          rcases Nat.lt_or_ge i o with h | h
          · rw [List.append_assoc, List.getElem?_append_left (by simp; omega), List.getElem?_take, if_pos h] at hi
            exact hi
          · rw [List.getElem?_append_right (by simp; omega), List.getElem?_drop] at hi
            rwa [show o + vs.length + (i - (List.take o l ++ vs).length) = i by simp; omega] at hi
        obtain ⟨u, hu, hr⟩ := hcell i v hi'
        exact ⟨u, by rw [setsA_out us _ _ _ (by omega)]; exact hu, hr⟩
    · intro pl' q hB hd hlq hq
      have hin := k.inh b pl hb
      cases q with
      | cells l2 rw2 =>
        obtain ⟨cs2, el2, fr2, a1, a2, a3, a4, a5⟩ := hq
        rw [hB, hc] at a1
        cases a1
        refine ⟨setsA cs (pl.off + o) us, el, fr, by rw [hB]; exact set_get_same _ _ _ hin, a2, by rw [setsA_size]; exact a3, ?_, a5⟩
        intro i v hi
        obtain ⟨u, hu, hr⟩ := a4 i v hi
        have hi2 : i < l2.length := by
          rcases Nat.lt_or_ge i l2.length with h | h
          · exact h
          · simp [List.getElem?_eq_none h] at hi
        refine ⟨u, ?_, hr⟩
        rw [setsA_out us _ _ _ ?_]
        · exact hu
        · rcases hd with hd | hd | hd
          · exact absurd hB.symm hd
          · right; omega
          · left; omega
      | map es =>
        obtain ⟨mes, clock, a1, _⟩ := hq
        rw [hB, hc] at a1; cases a1
      | loop st pd E ps as bd =>
        obtain ⟨r, N, a1, _⟩ := hq
        rw [hB, hc] at a1; cases a1
      | dead => trivial

/- a new row of cells -/
theorem Sim.row_new (k : Sim Q φ s w) (slot : Option Nat) (hs : ∀ b, slot = some b → b < s.nx) (hn : φ (s.newAt slot) = none) {l : List V} {cs : Array Value} (el : TypeId)
    (h : ∀ (i : Nat) (v : V), l[i]? = some v → ∃ u, cs[i]? = some u ∧ R φ v u) (hl : l.length ≤ cs.size) :
    Sim Q (φ.set (s.newAt slot) ⟨w.heap.size, 0, cs.size⟩) (s.new slot (.cells l true)) (w.alloc (.cells cs el)) ∧
    Keep φ s w (φ.set (s.newAt slot) ⟨w.heap.size, 0, cs.size⟩) (s.new slot (.cells l true)) (w.alloc (.cells cs el)) := by
  refine k.new slot hs hn ?_
  refine ⟨cs, el, (0, 0), by simp, by simpa using hl, Nat.le_refl _, fun i v hi => ?_, fun _ x _ _ hx => by omega⟩
  obtain ⟨u, hu, hr⟩ := h i v hi
  exact ⟨u, by simpa using hu, hr.mono (Phi.ext_set hn)⟩

theorem Sim.row_new' (k : Sim Q φ s w) (slot : Option Nat) (hs : ∀ b, slot = some b → b < s.nx) (hn : φ (s.newAt slot) = none) {l : List V} {cs : Array Value} (el : TypeId)
    (h : Rs φ l cs.toList) :
    Sim Q (φ.set (s.newAt slot) ⟨w.heap.size, 0, cs.size⟩) (s.new slot (.cells l true)) (w.alloc (.cells cs el)) ∧
    Keep φ s w (φ.set (s.newAt slot) ⟨w.heap.size, 0, cs.size⟩) (s.new slot (.cells l true)) (w.alloc (.cells cs el)) :=
  k.row_new slot hs hn el (fun i v hi => by simpa using h.get i v hi) (by simp [h.length])

end
end Go.Ev
