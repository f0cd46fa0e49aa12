/- Each operation of the evaluator that enters no function stands for the model's (sixth part: append and the other builtins). -/
import Derived.Test.YthmccpflcpijnaaGreatWEvOp5
import Derived.Laws.Append
import Derived.Laws.Externs
namespace Go.Ev
section
variable {Q : Program} {φ : Phi} {s : S} {w : World} {N : Nat} {E : Env} {tmps : Array Value} {sl : Option Nat} {Rr : Type}
  {call : FV → List V → S → (V → S → Option Rr) → Option Rr} {K : V → S → Option Rr} {r : Rr}

/- a row that is appended to in its own room: the old row is given up, the new one has its place -/
theorem Sim.steal (k : Sim Q φ s w) {b o : Nat} {pl : Pl} {l old new : List V} {us : List Value} (hb : φ b = some pl) (hg : s.get b = some (.cells l true))
    (hold : old = (l.drop o).take old.length) (hv : Rs φ new us) (h1 : ones new = true) (hfin : pl.off + o + old.length + new.length ≤ pl.fin) :
    (storeCells ⟨pl.blk, pl.off + o + old.length, none⟩ us).run Q w = .ok () (w.setCells pl.blk (pl.off + o + old.length) us) ∧
    Sim Q (φ.set s.nx ⟨pl.blk, pl.off + o, pl.fin⟩) ((s.put b .dead).new none (.cells (old ++ new) true)) (w.setCells pl.blk (pl.off + o + old.length) us) ∧
    Keep φ s w (φ.set s.nx ⟨pl.blk, pl.off + o, pl.fin⟩) ((s.put b .dead).new none (.cells (old ++ new) true)) (w.setCells pl.blk (pl.off + o + old.length) us) := by
  obtain ⟨cs, el, fr, hc, hf1, hsz, hcell, hfr⟩ := k.obj b pl _ hb hg
  have hlen := hv.length
  have hput := setCells_putObj us w pl.blk (pl.off + o + old.length) hc
  have hB := k.inh b pl hb
  have hext : Ext φ (φ.set s.nx ⟨pl.blk, pl.off + o, pl.fin⟩) := Phi.ext_set k.nx_none
  have hget : ∀ j, ((s.put b .dead).new none (.cells (old ++ new) true)).get j = if j = s.nx then some (.cells (old ++ new) true) else if j = b then some .dead else s.get j := by
    intro j
    rw [S.get_new, S.get_put]; rfl
  have hbn : b < s.nx := k.lt b pl hb
  refine ⟨?_, ?_⟩
  · have := run_storeCells_cells (P := Q) pl.blk (pl.off + o + old.length) us 0 w (fun j hj => by
        have : pl.off + o + old.length + j < cs.size := by omega
        simp [World.cell?, hc, this]) (fun j hj => by
        have hlo := hfr rfl (pl.off + o + old.length + 0 + j) (by omega) (by omega)
        simp only [World.frozen?, hc]
        cases e : decide (fr.1 ≤ pl.off + o + old.length + 0 + j) && decide (pl.off + o + old.length + 0 + j < fr.2) with
        | false => rfl
        | true => simp at e; exact absurd e (by simpa using hlo)) (ones_R hv h1)
    simpa using this
  · rw [hput]
    refine ⟨⟨?_, ?_, ?_, ?_⟩, ⟨hext, by simp [S.new, S.put], rfl, rfl, rfl, by simp [World.putObj], ?_⟩⟩
    · intro b' pl' q hb' hg'
      rw [hget] at hg'
      unfold Phi.set at hb'
      by_cases e1 : b' = s.nx
      · rw [if_pos e1] at hb' hg'
        cases hb'; cases hg'
        refine ⟨setsA cs (pl.off + o + old.length) us, el, fr, set_get_same _ _ _ hB, by simp; omega, by rw [setsA_size]; exact hsz, ?_, fun _ x hx1 hx2 => hfr rfl x (by simp at hx1; omega) hx2⟩
        intro i v hi
        simp only
        by_cases hin : i < old.length
        · rw [List.getElem?_append_left hin] at hi
          have hi2 : ((l.drop o).take old.length)[i]? = some v := by rw [← hold]; exact hi
          rw [List.getElem?_take, if_pos hin, List.getElem?_drop] at hi2
          obtain ⟨u, hu, hr⟩ := hcell _ v hi2
          refine ⟨u, ?_, hr.mono hext⟩
          rw [setsA_out us _ _ _ (by omega), Nat.add_assoc]; exact hu
        · rw [List.getElem?_append_right (by omega)] at hi
          obtain ⟨u, hu, hr⟩ := hv.get _ _ hi
          refine ⟨u, ?_, hr.mono hext⟩
          have := setsA_in us (pl.off + o + old.length) cs (i - old.length) u hu (by omega)
          rwa [show pl.off + o + old.length + (i - old.length) = pl.off + o + i by omega] at this
      · rw [if_neg e1] at hb' hg'
        by_cases e2 : b' = b
        · rw [if_pos e2] at hg'; cases hg'; trivial
        · rw [if_neg e2] at hg'
          have ho := k.obj b' pl' q hb' hg'
          by_cases hl : live q = true
          · by_cases hBB : pl'.blk = pl.blk
            · have hd := k.beside hb hg rfl hb' hg' hl e2
              cases q with
              | cells l2 rw2 =>
                obtain ⟨cs2, el2, fr2, a1, a2, a3, a4, a5⟩ := ho
                rw [hBB, hc] at a1
                cases a1
                refine ⟨setsA cs (pl.off + o + old.length) us, el, fr, by rw [hBB]; exact set_get_same _ _ _ hB, a2, by rw [setsA_size]; exact a3, ?_, a5⟩
                intro i v hi
                obtain ⟨u, hu, hr⟩ := a4 i v hi
                have hi2 : i < l2.length := by
                  rcases Nat.lt_or_ge i l2.length with h | h
                  · exact h
                  · simp [List.getElem?_eq_none h] at hi
                refine ⟨u, ?_, hr.mono hext⟩
                rw [setsA_out us _ _ _ ?_]
                · exact hu
                · rcases hd with hd | hd | hd
                  · exact absurd hBB.symm hd
                  · right; omega
                  · left; omega
              | map es => obtain ⟨mes, clock, a1, _⟩ := ho; rw [hBB, hc] at a1; cases a1
              | loop st pd E ps as bd => obtain ⟨r, N, a1, _⟩ := ho; rw [hBB, hc] at a1; cases a1
              | dead => trivial
            · exact ho.mono hext (set_get_other _ _ _ _ hBB)
          · have : q = .dead := by cases q <;> first | rfl | exact absurd rfl hl
            subst this; trivial
    · intro b' pl' hb'
      unfold Phi.set at hb'
      by_cases e1 : b' = s.nx
      · subst e1; simp [S.new, S.put]
      · rw [if_neg e1] at hb'
        have := k.lt b' pl' hb'
        simp [S.new, S.put]; omega
    · intro b' pl' hb'
      unfold Phi.set at hb'
      by_cases e1 : b' = s.nx
      · rw [if_pos e1] at hb'; cases hb'; simpa [World.putObj] using hB
      · rw [if_neg e1] at hb'; simpa [World.putObj] using k.inh b' pl' hb'
    · intro b1 b2 p1 p2 o1 o2 h1 h2 g1 g2 hne l1 l2 hrr
      rw [hget] at g1 g2
      unfold Phi.set at h1 h2
      have one : ∀ {b2 p2 o2}, b2 ≠ s.nx → (if b2 = s.nx then some (⟨pl.blk, pl.off + o, pl.fin⟩ : Pl) else φ b2) = some p2 → (if b2 = s.nx then some (Obj.cells (old ++ new) true) else if b2 = b then some .dead else s.get b2) = some o2 → live o2 = true → Dis ⟨pl.blk, pl.off + o, pl.fin⟩ p2 := by
        intro b2 p2 o2 hn h2 g2 l2
        rw [if_neg hn] at h2 g2
        by_cases e2 : b2 = b
        · rw [if_pos e2] at g2; cases g2; simp [live] at l2
        · rw [if_neg e2] at g2
          rcases k.beside hb hg rfl h2 g2 l2 e2 with h | h | h
          · exact .inl h
          · exact .inr (.inl h)
          · exact .inr (.inr (by simp; omega))
      by_cases e1 : b1 = s.nx
      · have e2 : b2 ≠ s.nx := fun x => hne (e1.trans x.symm)
        rw [if_pos e1] at h1
        cases h1
        exact one e2 h2 g2 l2
      · by_cases e2 : b2 = s.nx
        · rw [if_pos e2] at h2
          cases h2
          exact (one e1 h1 g1 l1).symm
        · rw [if_neg e1] at h1 g1
          rw [if_neg e2] at h2 g2
          split at g1
          · cases g1; simp [live] at l1
          · split at g2
            · cases g2; simp [live] at l2
            · exact k.dis b1 b2 p1 p2 o1 o2 h1 h2 g1 g2 hne l1 l2 hrr
    · intro B hBs hno
      have hne : B ≠ pl.blk := fun e => hno ⟨b, pl, _, hb, hg, rfl, e.symm⟩
      refine ⟨set_get_other _ _ _ _ hne, ?_⟩
      rintro ⟨b', pl', q, hb', hg', hr', rfl⟩
      rw [hget] at hg'
      unfold Phi.set at hb'
      by_cases e1 : b' = s.nx
      · rw [if_pos e1] at hb'; cases hb'; exact hne rfl
      · rw [if_neg e1] at hb' hg'
        by_cases e2 : b' = b
        · rw [if_pos e2] at hg'; cases hg'; simp [isRw] at hr'
        · rw [if_neg e2] at hg'
          exact hno ⟨b', pl', q, hb', hg', hr', rfl⟩

/- what is appended, as the model reads it -/
theorem src_run (k : Sim Q φ s w) {v : V} {u : Value} (hr : R φ v u) {n : Nat} {new : List V} (h : srcRow s v = some (n, new)) {sz : Nat}
    (hlen : new.length = n * sz) : ∃ us : List Value, Rs φ new us ∧ (∀ w', w'.heap = w.heap → (Builtin.firstCells sz n u).run Q w' = .ok us.toArray w') ∧ (∀ w', (Builtin.lenOf u).run Q w' = .ok n w') := by
  cases v <;> simp only [srcRow, reduceCtorEq] at h
  case s t =>
    cases h
    obtain ⟨t', rfl, rfl⟩ := hr.s_inv
    have hl : (t'.data.toList.map (·.toNat)).length = t'.size := by simp
    refine ⟨t'.data.toList.map fun b => .int .u8 b.toNat, ?_, fun w' _ => ?_, fun w' => ?_⟩
    · rw [List.map_map]
      have : ∀ l : List UInt8, Rs φ (l.map ((fun n : Nat => V.i .u8 (n : Int)) ∘ fun x => x.toNat)) (l.map fun b => Value.int .u8 b.toNat) := by
        intro l
        induction l with
        | nil => exact .nil
        | cons x l ih => exact .cons _ _ _ _ (.i _ _) ih
      exact this _
    · rw [hl]
      simp only [Builtin.firstCells, Sem.run_pure]
      congr 1
      apply Array.ext'
      have e : (t'.extract 0 t'.size).data.toList = t'.data.toList := by
        rw [ByteArray.data_extract, Array.toList_extract]
        have h2 : t'.data.toList.length = t'.size := by simp
        rw [← h2, List.extract_eq_take_drop, List.drop_zero, Nat.sub_zero, List.take_length]
      rw [Array.toList_map, e]
    · rw [hl]; simp [Builtin.lenOf]
  case nsl =>
    cases h
    have : u = .slice none 0 0 := by cases u <;> cases hr; rfl
    subst this
    exact ⟨[], .nil, fun w' _ => by simp [Builtin.firstCells], fun w' => by simp [Builtin.lenOf]⟩
  case sl z b o n' cap ex =>
    obtain ⟨l, hl, e⟩ := Option.map_eq_some_iff.1 h
    cases e
    obtain ⟨pl, ad, cc, rfl, hpl, hcap, hex, hle, hp⟩ := hr.sl_inv
    obtain ⟨hll, us, hus, hcell⟩ := k.row hpl hl
    have hsz2 : n * z = n * sz := by omega
    refine ⟨us, hus, fun w' hw => ?_, fun w' => by simp [Builtin.lenOf]⟩
    by_cases h0 : 0 < cc
    · obtain ⟨rfl, _⟩ := hp h0
      have hc' : ∀ j u, us[j]? = some u → w'.cell? (Addr.add ⟨pl.blk, pl.off + o, none⟩ j) = some u := by
        intro j u hj
        have := hcell j u hj
        simpa [World.cell?, hw] using this
      simp only [Builtin.firstCells]
      exact run_loadCells_row w' _ us (n * sz) (by rw [← hus.length, hlen]) hc'
    · have hn0 : n = 0 := by omega
      subst hn0
      have : us = [] := by
        cases us with
        | nil => rfl
        | cons a b => have := hus.length; simp [hlen] at this
      subst this
      simp [Builtin.firstCells]; rfl

theorem zeroCells_size (z : Array Value) (n : Nat) : (Builtin.zeroCells z n).size = n * z.size := by simp [Builtin.zeroCells]

theorem Sim.drew (k : Sim Q φ s w) : Sim Q φ s w.drew := Sim.of_heap (w := w) (w' := w.drew) rfl k
theorem Keep.drew (φ : Phi) (s : S) (w : World) : Keep φ s w φ s w.drew := Keep.of_heap rfl rfl rfl rfl

/- a new row with room to spare -/
theorem Done.grown (c : Cx Q φ s w N E tmps none) {l : List V} {us : List Value} (e : TypeId) (hus : Rs φ l us) (rest : Array Value) {sz need cap : Nat} (hn : need ≤ cap) (hl : l.length = need * sz)
    (hrest : rest.size = (cap - need) * sz) {res : Result Next} (hr : newK s none (.cells l true) (fun b s => K (.sl sz b 0 need need false) s) = some r)
    (hres : res = .ok (.value (.slice (some ⟨w.heap.size, 0, none⟩) need cap)) (w.drew.alloc (.cells (us.toArray ++ rest) e))) :
    ∃ v s', K v s' = some r ∧ Done Q none φ s w v s' res := by
  have hll := hus.length
  have hk := (c.sim.drew).row_new none (by simp) c.hn (l := l) (cs := us.toArray ++ rest) e (fun i v hi => by
      obtain ⟨u, hu, hr⟩ := hus.get i v hi
      have hlt := (List.getElem?_eq_some_iff.1 hu).1
      refine ⟨u, ?_, hr⟩
      rw [Array.getElem?_append_left (by simpa using hlt)]
      simpa using hu) (by simp; omega)
  refine ⟨_, _, hr, _, _, _, .inl hres, hk.1, ?_, (Keep.drew φ s w).trans hk.2, Dom.set none _ _ _⟩
  refine .sl _ _ _ _ _ _ ⟨_, _, _⟩ _ _ Phi.set_self hn (by simp) (Nat.le_refl _) (fun _ => ⟨by simp, ?_⟩)
  simp only [Nat.zero_add, Array.size_append, List.size_toArray]
  have : cap * sz = need * sz + (cap - need) * sz := by rw [← Nat.add_mul]; congr 1; omega
  omega

theorem run_choose_cap (need old : Nat) (e : TypeId) (w : World) : ∃ n, need ≤ n ∧ (choose (.appendCap need old e)).run Q w = .ok n w.drew := by
  refine ⟨(Question.appendCap need old e).cut (w.tape w.drawn (.appendCap need old e)), ?_, ?_⟩
  · simp [Question.cut]
  · simp [Question.forced]

theorem append_in {ats : Array TypeId} {ty t u e : TypeId} {sz : Nat} {base : Option Addr} {sLen sCap n : Nat} {y : Value} {us : List Value} {w2 : World} {du : TypeDesc} (ht : ats[0]? = some t) (hu : ats[1]? = some u)
    (hte : Q.underlying t = some (.slice e)) (hdu : Q.underlying u = some du) (hk : (∃ e', du = .slice e') ∨ du = .string) (hsz : szOf Q e = some sz) (hle : sLen + n ≤ sCap)
    (hfc : (Builtin.firstCells sz n y).run Q w = .ok us.toArray w) (hln : (Builtin.lenOf y).run Q w = .ok n w)
    (hst : match base with | some a => (storeCells (a.add (sLen * sz)) us).run Q w = .ok () w2 | none => w2 = w) :
    (Builtin.append_ ats ty #[.slice base sLen sCap, y]).run Q w = .ok (.slice base (sLen + n) sCap) w2 := by
  rcases hk with ⟨e', rfl⟩ | rfl
  all_goals
    cases base with
    | none =>
      simp only at hst; subst hst
      simp [Builtin.append_, ht, hu, run_und hte, run_und hdu, szOf_some hsz, hln, hle, hfc]
    | some a =>
      simp only at hst
      simp [Builtin.append_, ht, hu, run_und hte, run_und hdu, szOf_some hsz, hln, hle, hfc, hst]

theorem append_new {ats : Array TypeId} {ty t u e : TypeId} {sz wd : Nat} {base : Option Addr} {sLen sCap n : Nat} {y zv : Value} {us olds : List Value} {du : TypeDesc} (ht : ats[0]? = some t) (hu : ats[1]? = some u)
    (hte : Q.underlying t = some (.slice e)) (hdu : Q.underlying u = some du) (hk : (∃ e', du = .slice e') ∨ du = .string) (hsz : szOf Q e = some sz) (hwd : bytesOfT Q e = some wd) (hw0 : wd ≠ 0)
    (hzv : ∀ w, (zeroValue e).run Q w = .ok zv w) (hlt : sCap < sLen + n) (hbig : (sLen + n) * wd ≤ maxGrow)
    (hfc : (Builtin.firstCells sz n y).run Q w.drew = .ok us.toArray w.drew) (hln : (Builtin.lenOf y).run Q w = .ok n w)
    (hfo : (Builtin.firstCells sz sLen (.slice base sLen sCap)).run Q w.drew = .ok olds.toArray w.drew) :
    ∃ cap, sLen + n ≤ cap ∧ (Builtin.append_ ats ty #[.slice base sLen sCap, y]).run Q w =
      .ok (.slice (some ⟨w.heap.size, 0, none⟩) (sLen + n) cap) (w.drew.alloc (.cells ((olds ++ us).toArray ++ Builtin.zeroCells zv.cells (cap - (sLen + n))) e)) := by
  obtain ⟨ie, hie, hib⟩ := optMap (show (Q.info? e).map (·.bytes) = some wd from hwd)
  refine ⟨(Question.appendCap (sLen + n) sCap e).cut (w.tape w.drawn (.appendCap (sLen + n) sCap e)), by simp [Question.cut], ?_⟩
  generalize hcap : (Question.appendCap (sLen + n) sCap e).cut (w.tape w.drawn (.appendCap (sLen + n) sCap e)) = cap
  have hmg : maxGrow = 1099511627776 := rfl
  rw [hmg] at hbig
  have hnle : ¬ (sLen + n ≤ sCap) := by omega
  have hsm : sLen + n ≤ 1099511627776 := by
    have : sLen + n ≤ (sLen + n) * wd := Nat.le_mul_of_pos_right _ (by omega)
    omega
  have h63 : ¬ (9223372036854775807 < ((sLen : Int) + (n : Int))) := by omega
  have hfit := growslice_fits hlt (show (sLen + n) * ie.bytes ≤ 140737488355328 by rw [← hib]; omega)
  have h48 : ¬ (281474976710656 < Builtin.nextslicecap (sLen + n) sCap * ie.bytes) := by omega
  clear hfit
  rcases hk with ⟨e', rfl⟩ | rfl
  all_goals
    simp [Builtin.append_, ht, hu, run_und hte, run_und hdu, szOf_some hsz, hln, hnle, h63, h48, run_info hie, hfc, hfo, hzv, newRow, Question.forced, hcap]
    congr 2
    apply Array.ext'
    simp [List.append_assoc]

theorem rowT_inv {t : TypeId} (h : rowT Q t = true) : ∃ d, Q.underlying t = some d ∧ ((∃ e, d = .slice e) ∨ d = .string) := by
  unfold rowT at h
  split at h
  · rename_i e he; exact ⟨_, he, .inl ⟨e, rfl⟩⟩
  · rename_i he; exact ⟨_, he, .inr rfl⟩
  · cases h

theorem ok_append (c : Cx Q φ s w N E tmps none) (o : Oper) {cl : Call} (ho : o.op = .call cl) (hcl : cl.callee = .builtin .append) {x y : X} {ax ay : Operand} {t u : TypeId} {e : TypeId} {sz wd : Nat} {z : V}
    (hargs : cl.args = #[ax, ay]) (hax : cX ax = some x) (hay : cX ay = some y) (ht : cl.argTypes[0]? = some t) (hu : cl.argTypes[1]? = some u) (hte : Q.underlying t = some (.slice e))
    (hru : rowT Q u = true) (hsz : szOf Q e = some sz) (hwd : bytesOfT Q e = some wd) (hz : zeroT Q e = some z) (hw0 : wd ≠ 0) (hs0 : sz ≠ 0) (hzl : z.cells.length = sz)
    (hr : evO call none (.app sz wd x y) E s K = some r) : Good1 Q φ s w tmps none K r o := by
  obtain ⟨du, hdu, hk⟩ := rowT_inv hru
  simp only [evO, appK] at hr
  obtain ⟨⟨n, new⟩, hsrc, hr1⟩ := optK_some hr
  clear hr
  obtain ⟨hlenb, hr⟩ := bif_some hr1
  clear hr1
  have hlen : new.length = n * sz := Nat.eq_of_beq_eq_true hlenb
  clear hlenb
  have hxR := cX_R c.env hax
  have hyR := cX_R c.env hay
  obtain ⟨zv, hzv, hcz⟩ := zeroT_some hz
  have hzs : zv.cells.size = sz := by
    have := (cv_cells (φ := φ) hcz).length
    simp at this; omega
  have hexec : (execOp (opv tmps) o).run Q w = ((Builtin.append_ cl.argTypes o.type #[opv tmps ax, opv tmps ay]).run Q w).andThen fun v w' => .ok (.value v) w' := by
    simp [execOp, ho, resolve, hcl, hargs, invoke, builtin]
  split at hr
  · -- nil
    rename_i hx
    rw [hx] at hxR
    have hax' : opv tmps ax = .slice none 0 0 := by cases hx' : opv tmps ax <;> rw [hx'] at hxR <;> cases hxR; rfl
    cases hn : Nat.beq n 0 with
    | true =>
      have hn := Nat.eq_of_beq_eq_true hn
      subst hn
      rw [Nat.beq_refl, cond_true] at hr
      have hnl : new = [] := List.length_eq_zero_iff.1 (by simpa using hlen)
      subst hnl
      obtain ⟨us, hus, hfc, hln⟩ := src_run (sz := sz) c.sim hyR hsrc (by simp)
      have hus0 : us = [] := by cases hus; rfl
      subst hus0
      have := append_in (w2 := w) (ty := o.type) (base := none) (sLen := 0) (sCap := 0) ht hu hte hdu hk hsz (by omega) (hfc w rfl) (hln w) rfl
      exact ⟨_, s, hr, Done.pure c .nsl (by rw [hexec, hax', this]; simp)⟩
    | false =>
      rw [hn, cond_false] at hr
      have hn0 : n ≠ 0 := by rintro rfl; simp [Nat.beq] at hn
      obtain ⟨hb, hr⟩ := bif_some hr
      have hb := Nat.le_of_ble_eq_true hb
      obtain ⟨us, hus, hfc, hln⟩ := src_run (sz := sz) c.sim hyR hsrc hlen
      obtain ⟨cap, hcap, hrun⟩ := append_new (ty := o.type) (base := none) (sLen := 0) (sCap := 0) (olds := []) ht hu hte hdu hk hsz hwd hw0 hzv (by omega) (by simpa using hb) (hfc _ rfl) (hln w) (by simp [Builtin.firstCells])
      simp only [Nat.zero_add, List.nil_append] at hrun hcap
      refine Done.grown c e hus _ hcap hlen (by rw [zeroCells_size, hzs]) hr ?_
      rw [hexec, hax', hrun]; simp
  · rename_i zz b off len cap ex hx
    rw [hx] at hxR
    obtain ⟨pl, ad, cc, hax', hpl, hcapc, hex, hlc, hp⟩ := hxR.sl_inv
    obtain ⟨hzz, hr1⟩ := bif_some hr
    clear hr
    have hr := hr1
    clear hr1
    have hzz := Nat.eq_of_beq_eq_true hzz
    subst hzz
    cases hn : Nat.beq n 0 with
    | true =>
      have hn := Nat.eq_of_beq_eq_true hn
      subst hn
      rw [Nat.beq_refl, cond_true] at hr
      have hnl : new = [] := List.length_eq_zero_iff.1 (by simpa using hlen)
      subst hnl
      obtain ⟨us, hus, hfc, hln⟩ := src_run (sz := zz) c.sim hyR hsrc (by simp)
      have hus0 : us = [] := by cases hus; rfl
      subst hus0
      have := append_in (w2 := w) (ty := o.type) (base := some ad) (sLen := len) (sCap := cc) ht hu hte hdu hk hsz (by omega) (hfc w rfl) (hln w) rfl
      exact ⟨_, s, hr, Done.pure c (show R φ (E.val x) _ by rw [hx]; exact .sl _ _ _ _ _ _ pl ad cc hpl hcapc hex hlc hp) (by rw [hexec, hax', this]; rfl)⟩
    | false =>
      rw [hn, cond_false] at hr
      have hn0 : n ≠ 0 := by rintro rfl; simp [Nat.beq] at hn
      obtain ⟨us, hus, hfc, hln⟩ := src_run (sz := zz) c.sim hyR hsrc hlen
      have hul : us.length = n * zz := by rw [← hus.length, hlen]
      obtain ⟨hb, hr⟩ := bif_some hr
      simp only [Bool.and_eq_true] at hb
      obtain ⟨hb, hones⟩ := hb
      have hb := Nat.le_of_ble_eq_true hb
      split at hr
      · rename_i l rw hg
        have hrow : ∀ old, cut off (len * zz) l = some old → s.row b off (len * zz) = some old := by
          intro old ho; simp [S.row, hg, ho]
        cases hroom : Nat.ble (len + n) cap with
        | true =>
          rw [hroom, cond_true] at hr
          have hroom := Nat.le_of_ble_eq_true hroom
          obtain ⟨hrw, hr⟩ := bif_some hr
          subst hrw
          obtain ⟨l', hl', hk2⟩ := optK_some hr
          obtain ⟨rfl, hfin⟩ := hp (by omega)
          obtain ⟨a1, a2, a3⟩ := c.sim.write hpl hg hl' hus hones
          have hst : (storeCells ((⟨pl.blk, pl.off + off, none⟩ : Addr).add (len * zz)) us).run Q w = .ok () (w.setCells pl.blk (pl.off + (off + len * zz)) us) := by
            rw [Addr.add_lit, Nat.add_assoc]; exact a1
          have hrun := append_in (ty := o.type) (base := some ⟨pl.blk, pl.off + off, none⟩) (sLen := len) (sCap := cc) ht hu hte hdu hk hsz (by omega) (hfc w rfl) (hln w) hst
          refine ⟨_, _, hk2, φ, _, _, .inl (by rw [hexec, hax', hrun]; rfl), a2, ?_, a3, Dom.refl _ _ _⟩
          exact .sl _ _ _ _ _ _ pl _ cc hpl hcapc hex (by omega) hp
        | false =>
          rw [hroom, cond_false] at hr
          have hroom' : cap < len + n := by
            rcases Nat.lt_or_ge cap (len + n) with h | h
            · exact h
            · rw [Nat.ble_eq_true_of_le h] at hroom; cases hroom
          obtain ⟨old, hold, hr⟩ := optK_some hr
          obtain ⟨hcl, hole⟩ := cut_some hold
          obtain ⟨holl, olds, holds, hocell⟩ := c.sim.row hpl (hrow old hold)
          -- a new room, when the old one is too small
          have grow : cc < len + n → ∃ cap2, len + n ≤ cap2 ∧ (execOp (opv tmps) o).run Q w = .ok (.value (.slice (some ⟨w.heap.size, 0, none⟩) (len + n) cap2)) (w.drew.alloc (.cells ((olds ++ us).toArray ++ Builtin.zeroCells zv.cells (cap2 - (len + n))) e)) := by
            intro hcc
            have hfo : (Builtin.firstCells zz len (.slice (some ad) len cc)).run Q w.drew = .ok olds.toArray w.drew := by
              by_cases h0 : 0 < cc
              · obtain ⟨rfl, _⟩ := hp h0
                simp only [Builtin.firstCells]
                exact run_loadCells_row w.drew _ olds (len * zz) (by rw [← holds.length, holl]) (fun j u hj => by simpa using hocell j u hj)
              · have h1 : len = 0 := by omega
                subst h1
                have : olds = [] := by
                  cases olds with
                  | nil => rfl
                  | cons a b => have := holds.length; simp [holl] at this
                subst this
                simp [Builtin.firstCells]; rfl
            obtain ⟨cap2, h1, h2⟩ := append_new (ty := o.type) ht hu hte hdu hk hsz hwd hw0 hzv hcc hb (hfc _ rfl) (hln w) hfo
            exact ⟨cap2, h1, by rw [hexec, hax', h2]; rfl⟩
          have hnl : (old ++ new).length = (len + n) * zz := by rw [List.length_append, holl, hlen, Nat.add_mul]
          cases hexx : ex with
          | true =>
            rw [hexx, cond_true] at hr
            obtain ⟨cap2, h1, h2⟩ := grow (by have := hex hexx; omega)
            exact Done.grown c e (holds.append hus) _ h1 hnl (by rw [zeroCells_size, hzs]) hr h2
          | false =>
            rw [hexx, cond_false] at hr
            obtain ⟨hrw, hr⟩ := bif_some hr
            subst hrw
            by_cases hcc : len + n ≤ cc
            · -- in place
              obtain ⟨rfl, hfin⟩ := hp (by omega)
              have hmul : (len + n) * zz ≤ cc * zz := Nat.mul_le_mul_right _ hcc
              rw [Nat.add_mul] at hmul
              obtain ⟨a1, a2, a3⟩ := c.sim.steal (o := off) hpl hg (old := old) (new := new) (by rw [holl]; exact hole) hus hones (by rw [holl, hlen]; omega)
              rw [holl] at a1 a2 a3
              have hst : (storeCells ((⟨pl.blk, pl.off + off, none⟩ : Addr).add (len * zz)) us).run Q w = .ok () (w.setCells pl.blk (pl.off + off + len * zz) us) := by
                rw [Addr.add_lit]; exact a1
              have hrun := append_in (ty := o.type) (base := some ⟨pl.blk, pl.off + off, none⟩) (sLen := len) (sCap := cc) ht hu hte hdu hk hsz hcc (hfc w rfl) (hln w) hst
              refine ⟨_, _, hr, _, _, _, .inl (by rw [hexec, hax', hrun]; rfl), a2, ?_, a3, ?_⟩
              · exact .sl _ _ _ _ _ _ ⟨pl.blk, pl.off + off, pl.fin⟩ _ cc Phi.set_self hcc (by simp) (Nat.le_refl _) (fun _ => ⟨by simp, by simp; omega⟩)
              · exact Dom.set none φ s _
            · obtain ⟨cap2, h1, h2⟩ := grow (by omega)
              obtain ⟨k1, k2⟩ := c.sim.kill b
              have c2 : Cx Q φ (s.put b .dead) w N E tmps none := ⟨k1, c.env, by simp, c.hn⟩
              obtain ⟨v, s', g1, φ', u', w', g2, g3, g4, g5, g6⟩ := Done.grown c2 e (holds.append hus) _ h1 hnl (by rw [zeroCells_size, hzs]) hr h2
              exact ⟨v, s', g1, φ', u', w', g2, g3, g4, k2.trans g5, g6⟩
      · cases hr
  · cases hr

end
end Go.Ev
