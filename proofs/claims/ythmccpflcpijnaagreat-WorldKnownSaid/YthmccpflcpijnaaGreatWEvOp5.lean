/- Each operation of the evaluator that enters no function stands for the model's (fifth part). -/
import Derived.Test.YthmccpflcpijnaaGreatWEvOp4
import Derived.MapKept
import Derived.Laws.BytesString
namespace Go.Ev
section
variable {Q : Program} {φ : Phi} {s : S} {w : World} {N : Nat} {E : Env} {tmps : Array Value} {sl : Option Nat} {Rr : Type}
  {call : FV → List V → S → (V → S → Option Rr) → Option Rr} {K : V → S → Option Rr} {r : Rr}

theorem bytes_R : ∀ {l : List V} {t : List Nat} {us : List Value}, bytesOf l = some t → Rs φ l us → ∃ ns : List Int, us = ns.map (Value.int .u8) ∧ ns.map (fun n => (UInt8.ofNat n.toNat).toNat) = t
  | [], t, us, h, hr => by
    simp [bytesOf] at h; subst h
    cases hr; exact ⟨[], rfl, rfl⟩
  | v :: l, t, us, h, hr => by
    unfold bytesOf at h
    split at h
    · rename_i h1; cases h1
    · rename_i n l' heq
      cases heq
      obtain ⟨hb, h⟩ := bif_some h
      have hb := Nat.le_of_ble_eq_true hb
      split at h
      · rename_i r hr2
        cases h
        cases hr with
        | cons _ u _ us hv ht =>
          obtain ⟨ns, h1, h2⟩ := bytes_R hr2 ht
          have := hv.i_inv
          subst this
          exact ⟨n :: ns, by simp [h1], by rw [List.map_cons, h2, UInt8.toNat_ofNat', Nat.mod_eq_of_lt (by omega)]⟩
      · cases h
    · cases h

theorem foldl_push (ns : List Int) (b : ByteArray) : (ns.foldl (fun r n => r.push (UInt8.ofNat n.toNat)) b).data.toList = b.data.toList ++ ns.map fun n => UInt8.ofNat n.toNat := by
  induction ns generalizing b with
  | nil => simp
  | cons n ns ih => simp [ih]

theorem ok_convert (c : Cx Q φ s w N E tmps sl) (o : Oper) {src dst : TypeId} {x : Operand} (ho : o.op = .convert src dst x) {co : O} (hc : cOp? Q (.convert src dst x) = some co)
    (hr : evO call sl co E s K = some r) : Good1 Q φ s w tmps sl K r o := by
  simp only [cOp?] at hc
  split at hc
  · rename_i k y hs hd hy
    cases hc
    simp only [evO] at hr
    split at hr
    · rename_i j n hv
      have hx := cX_R c.env hy
      rw [hv] at hx
      have hx := hx.i_inv
      refine ⟨_, s, hr, Done.pure c (.i _ _) ?_⟩
      simp [execOp, ho, hx, convert, run_und hs, run_und hd, Conv.intToInt]
    · cases hr
  · rename_i y hs hd hy
    cases hc
    simp only [evO] at hr
    obtain ⟨v, hv, hk⟩ := optK_some hr
    have hx := cX_R c.env hy
    unfold sstOf at hv
    split at hv
    · rename_i t he
      rw [he] at hx
      obtain ⟨t', hx', rfl⟩ := hx.s_inv
      simp at hv
      subst hv
      refine ⟨_, s, hk, Done.pure c (.s _ t' (by rw [List.take_of_length_le (by simp)])) ?_⟩
      simp [execOp, ho, hx', convert, run_und hs, run_und hd]
    · cases hv
  · rename_i e y hs hd hy
    split at hc
    · rename_i he
      cases hc
      have hx := cX_R c.env hy
      simp only [evO] at hr
      split at hr
      · rename_i hv
        rw [hv] at hx
        have hx' : opv tmps x = .slice none 0 0 := by cases hx' : opv tmps x <;> rw [hx'] at hx <;> cases hx; rfl
        refine ⟨_, s, hr, Done.pure c (.s _ ByteArray.empty rfl) ?_⟩
        simp [execOp, ho, hx', run_convert_bytes_string w src dst e none 0 0 hs he hd, Conv.bytesToString]
      · rename_i sz b off n cap ex hv
        rw [hv] at hx
        obtain ⟨pl, ad, cc, hx', hpl, hcap, hex, hlen, hp⟩ := hx.sl_inv
        obtain ⟨hz, hr⟩ := bif_some hr
        have hz := Nat.eq_of_beq_eq_true hz
        subst hz
        obtain ⟨l, hl, hr⟩ := optK_some hr
        obtain ⟨t, ht, hk⟩ := optK_some hr
        obtain ⟨hll, us, hus, hcell⟩ := c.sim.row hpl hl
        obtain ⟨ns, e1, e2⟩ := bytes_R ht hus
        have hload : (loadCells ad n).run Q w = .ok (ns.map (Value.int .u8)).toArray w := by
          by_cases h0 : 0 < cc
          · obtain ⟨rfl, _⟩ := hp h0
            rw [← e1]
            exact run_loadCells_row w _ us n (by rw [← hus.length, hll]) hcell
          · have : n = 0 := by omega
            subst this
            have : ns = [] := by
              cases ns with
              | nil => rfl
              | cons a b => rw [e1] at hus; have := hus.length; simp [hll] at this
            subst this
            rfl
        refine ⟨_, s, hk, Done.pure c (.s _ (ns.foldl (fun r n => r.push (UInt8.ofNat n.toNat)) ByteArray.empty) ?_) ?_⟩
        · rw [foldl_push, ← e2]
          simp
        · simp [execOp, ho, hx', run_convert_bytes_string w src dst e (some ad) n cc hs he hd, run_bytesToString w ad n cc ns hload]
      · cases hr
    · cases hc
  · cases hc

theorem ok_makeSlice (c : Cx Q φ s w N E tmps sl) (o : Oper) {t : TypeId} {x y : Operand} (ho : o.op = .makeSlice t x y) {co : O} (hc : cOp? Q (.makeSlice t x y) = some co)
    (hr : evO call sl co E s K = some r) : Good1 Q φ s w tmps sl K r o := by
  simp only [cOp?] at hc
  split at hc
  · rename_i e hu
    split at hc
    · rename_i n wd z xl xc hn hwd hz hxl hxc
      split at hc
      · rename_i hcond
        cases hc
        simp only [evO] at hr
        split at hr
        · rename_i k1 a k2 b hv1 hv2
          have h1 := cX_R c.env hxl
          have h2 := cX_R c.env hxc
          rw [hv1] at h1
          rw [hv2] at h2
          have h1 := h1.i_inv
          have h2 := h2.i_inv
          obtain ⟨hb, hk⟩ := bif_some hr
          simp only [Bool.and_eq_true, decide_eq_true_eq] at hb
          obtain ⟨⟨⟨ha0, hab⟩, hbw⟩, hbm⟩ := hb
          have hmg : (maxGrow : Int) = 1099511627776 := by rfl
          rw [hmg] at hbw hbm
          obtain ⟨v, hv, hcv⟩ := zeroT_some hz
          have hzR : Rs φ z.cells v.cells.toList := cv_cells hcv
          have hrep := rep_R (φ := φ) hzR (by omega) b.toNat (b.toNat * n) (by rw [hcond.1])
          have hwa : IntKind.i64.wrap a = a := IntWalk.i64_in _ (by omega)
          have hwb : IntKind.i64.wrap b = b := IntWalk.i64_in _ (by omega)
          have hbn : 0 ≤ b := by omega
          refine Done.row c e hrep (v := fun q => .sl n q 0 a.toNat b.toNat true) (.sl _ _ _ _ _ _ ⟨_, _, _⟩ ⟨w.heap.size, 0, none⟩ b.toNat Phi.set_self (Nat.le_refl _) (fun _ => rfl) (by omega) (fun _ => ⟨by simp, by simp⟩)) ?_ hk
          have hinfo : ∃ ie, Q.info? e = some ie ∧ ie.bytes = wd := by
            obtain ⟨ie, h3, h4⟩ := optMap (show (Q.info? e).map (·.bytes) = some wd from hwd)
            exact ⟨ie, h3, h4.symm⟩
          obtain ⟨ie, hie, rfl⟩ := hinfo
          have hbwc : ((ie.bytes : Int) * b) ≤ 1099511627776 := by rw [Int.mul_comm]; exact hbw
          have hnt : ¬ ((decide (b < 0) || decide ((ie.bytes : Int) * b > 2 ^ 48)) = true) := by
            simp only [Bool.or_eq_true, decide_eq_true_eq]; omega
          have hrun : (Instr.makeSlice t (.int k1 a) (.int k2 b)).run Q w = .ok (.slice (some ⟨w.heap.size, 0, none⟩) a.toNat b.toNat) (w.alloc (.cells ((Array.range (b.toNat * n)).map fun x => v.cells[x % v.cells.size]!) e)) := by
            unfold Instr.makeSlice
            simp only [Sem.run_bind, run_und hu, Result.andThen_ok, asInt, asIntOf, Sem.run_pure, run_info hie, hwa, hwb]
            rw [if_neg]
            · simp only [Sem.run_bind, run_askRoom, Result.andThen_ok, szOf_some hn]
              by_cases h0 : b.toNat * n = 0
              · simp [h0, newRow, Array.range_zero']
              · simp [h0, hv, newRow]
            · simp only [Bool.or_eq_true, decide_eq_true_eq]; omega
          simp [execOp, ho, h1, h2, hrun]
        · cases hr
      · cases hc
    · cases hc
  · cases hc

/- maps with integer keys -/
theorem findE_run {j : IntKind} {n : Int} : ∀ {es : List (V × V)} {mes : List MapEntry} {a : Option V}, findE n j es = some a → Rs φ (es.map (·.1)) (mes.map (·.key)) → Rs φ (es.map (·.2)) (mes.map (·.val)) →
    ∀ k i, (a = none ∧ Instr.findNow (.int k) (.int j n) mes i = some none) ∨ ∃ v d u, a = some v ∧ R φ v u ∧ Instr.findNow (.int k) (.int j n) mes i = some (some (i + d, u)) ∧ d < mes.length
  | [], mes, a, h, hk, hv, k, i => by
    cases mes with
    | nil => simp [findE] at h; subst h; exact .inl ⟨rfl, rfl⟩
    | cons m mes => simp at hk; cases hk
  | (x, v) :: es, mes, a, h, hk, hv, k, i => by
    cases mes with
    | nil => simp at hk; cases hk
    | cons m mes =>
      simp only [List.map_cons] at hk hv
      cases hk with
      | cons _ _ _ _ hk1 hk2 =>
        cases hv with
        | cons _ _ _ _ hv1 hv2 =>
          unfold findE at h
          split at h
          · rename_i heq; cases heq
          · rename_i j' k' v' es' heq
            cases heq
            obtain ⟨hj, h'⟩ := bif_some h
            have hj := same_eq hj
            subst hj
            have hkey := hk1.i_inv
            by_cases e : n = k'
            · have : decide (n = k') = true := by simp [e]
              rw [this, cond_true] at h'
              cases h'
              refine .inr ⟨v, 0, m.val, rfl, hv1, ?_, by simp⟩
              simp [Instr.findNow, hkey, Instr.sameNow, e]
            · have : decide (n = k') = false := by simp [e]
              rw [this, cond_false] at h'
              rcases findE_run h' hk2 hv2 k (i + 1) with ⟨e1, e2⟩ | ⟨v2, d, u, e1, e2, e3, e4⟩
              · have e' : (n == k') = false := by simpa using e
                exact .inl ⟨e1, by simp [Instr.findNow, hkey, Instr.sameNow, e', e2]⟩
              · refine .inr ⟨v2, d + 1, u, e1, e2, ?_, by simp; omega⟩
                have e' : (n == k') = false := by simpa using e
                simp only [Instr.findNow, hkey, Instr.sameNow, if_true, e', e3]
                simp; omega
          · cases h

theorem getMap (k : Sim Q φ s w) {b : Nat} {pl : Pl} {es : List (V × V)} (hb : φ b = some pl) (hg : s.get b = some (.map es)) :
    ∃ mes clock, w.heap[pl.blk]? = some (.map mes clock) ∧ pl.off = 0 ∧ pl.fin = 1 ∧ Rs φ (es.map (·.1)) (mes.toList.map (·.key)) ∧ Rs φ (es.map (·.2)) (mes.toList.map (·.val)) := k.obj b pl _ hb hg

theorem getObj_map {b : Nat} {es : Array MapEntry} {clock : Nat} {w : World} (hb : w.heap[b]? = some (.map es clock)) : (getObj b).run Q w = .ok (.map es clock) w := by
  simp [getObj, Sem.run, hb]
theorem setObj_map {b : Nat} {es : Array MapEntry} {clock : Nat} {w : World} (o : Go.Obj) (hb : w.heap[b]? = some (.map es clock)) : (setObj b o).run Q w = .ok () (w.putObj b o) := by
  simp [setObj, Sem.run, hb, World.putObj]
theorem findKey_run {kt : TypeId} {d : TypeDesc} {k : Value} {l : List MapEntry} {a : Option (Nat × Value)} (hd : Q.underlying kt = some d) (h : Instr.findNow d k l 0 = some a) (w : World) : (Instr.findKey kt k l).run Q w = .ok a w := by
  simp [Instr.findKey, run_und hd, h]

theorem isIntT_inv {t : TypeId} (h : isIntT Q t = true) : ∃ k, Q.underlying t = some (.int k) := by
  unfold isIntT at h
  split at h
  · rename_i k hk; exact ⟨k, hk⟩
  · cases h

theorem checkKey_int {kt : TypeId} {k j : IntKind} {n : Int} (hd : Q.underlying kt = some (.int k)) (e : Bool) (m : Nat) (w : World) : (Instr.checkKey e (m + 1) kt (.int j n)).run Q w = .ok () w := by
  unfold Instr.checkKey
  simp [run_und hd]

theorem ok_lookup (c : Cx Q φ s w N E tmps sl) (o : Oper) {t : TypeId} {x y : Operand} {ok : Bool} (ho : o.op = .lookup t x y ok) {co : O} (hc : cOp? Q (.lookup t x y ok) = some co)
    (hr : evO call sl co E s K = some r) : Good1 Q φ s w tmps sl K r o := by
  simp only [cOp?] at hc
  split at hc
  · rename_i kt e xm xk hu hxm hxk
    split at hc
    · rename_i hkt
      obtain ⟨z, hz, rfl⟩ := optMap hc
      obtain ⟨kk, hkk⟩ := isIntT_inv hkt
      obtain ⟨zv, hzv, hcz⟩ := zeroT_some hz
      simp only [evO, lkK] at hr
      split at hr
      · rename_i j n hv2
        have h2 := cX_R c.env hxk
        rw [hv2] at h2
        have h2 := h2.i_inv
        have h1 := cX_R c.env hxm
        have ck : ∀ b w, (Instr.checkKey b 10000 kt (.int j n)).run Q w = .ok () w := fun b w => checkKey_int hkk b 9999 w
        -- what is told, once the look-up's answer is known
        have fin : ∀ (a : Option V) (u : Value × Bool), (a = none ∧ u = (zv, false) ∨ ∃ v, a = some v ∧ R φ v u.1 ∧ u.2 = true) →
            R φ (bif ok then .tup [(match a with | some v => v | none => z), .b a.isSome] else (match a with | some v => v | none => z)) (if ok then .tuple #[u.1, .bool u.2] else u.1) := by
          intro a u h
          rcases h with ⟨rfl, rfl⟩ | ⟨v, rfl, hv, hu2⟩
          · cases ok
            · exact cv_R hcz
            · exact .tup _ _ (.cons _ _ _ _ (cv_R hcz) (.cons _ _ _ _ (.b _) .nil))
          · cases ok
            · exact hv
            · rw [hu2]; exact .tup _ _ (.cons _ _ _ _ hv (.cons _ _ _ _ (.b _) .nil))
        split at hr
        · rename_i hv1
          rw [hv1] at h1
          have h1' : opv tmps x = .map none := by cases hx' : opv tmps x <;> rw [hx'] at h1 <;> cases h1; rfl
          refine ⟨_, s, hr, Done.pure c (fin none (zv, false) (.inl ⟨rfl, rfl⟩)) ?_⟩
          simp [execOp, ho, h1', h2, Instr.lookup, run_und hu, ck, Instr.findKey, run_und hkk, Instr.findNow, hzv]
        · rename_i b hv1
          rw [hv1] at h1
          obtain ⟨pl, hpl, h1'⟩ := h1.m_inv
          split at hr
          · rename_i es hg
            obtain ⟨a, ha, hk⟩ := optK_some hr
            obtain ⟨mes, clock, g1, g2, g3, g4, g5⟩ := getMap c.sim hpl hg
            have hget := getObj_map (Q := Q) g1
            rcases findE_run ha g4 g5 kk 0 with ⟨rfl, e2⟩ | ⟨v, d, u, rfl, e2, e3, _⟩
            · have hfk := findKey_run hkk e2 w
              refine ⟨_, s, hk, Done.pure c (fin none (zv, false) (.inl ⟨rfl, rfl⟩)) ?_⟩
              simp [execOp, ho, h1', h2, Instr.lookup, run_und hu, ck, hget, hfk, hzv]
            · have hfk := findKey_run hkk e3 w
              refine ⟨_, s, hk, Done.pure c (fin (some v) (u, true) (.inr ⟨v, rfl, e2, rfl⟩)) ?_⟩
              simp [execOp, ho, h1', h2, Instr.lookup, run_und hu, ck, hget, hfk]
          · cases hr
        · cases hr
      · cases hr
    · cases hc
  · cases hc

theorem sameBits_int (n : Nat) (j : IntKind) (k : Int) : Instr.sameBits n (.int j k) (.int j k) = true := by simp [Instr.sameBits]

theorem Sim.mapUpd (k : Sim Q φ s w) {b : Nat} {pl : Pl} {es es' : List (V × V)} (hb : φ b = some pl) (hg : s.get b = some (.map es)) {mes' : Array MapEntry} {clock' : Nat}
    (h1 : Rs φ (es'.map (·.1)) (mes'.toList.map (·.key))) (h2 : Rs φ (es'.map (·.2)) (mes'.toList.map (·.val))) :
    Sim Q φ (s.put b (.map es')) (w.putObj pl.blk (.map mes' clock')) ∧ Keep φ s w φ (s.put b (.map es')) (w.putObj pl.blk (.map mes' clock')) := by
  obtain ⟨mes, clock, g1, g2, g3, g4, g5⟩ := getMap k hb hg
  have hB := k.inh b pl hb
  refine k.upd hb hg rfl ⟨mes', clock', set_get_same _ _ _ hB, g2, g3, h1, h2⟩ ?_
  intro pl' q hblk hd hl hq
  cases q with
  | cells l rw => obtain ⟨cs, el, fr, a1, _⟩ := hq; rw [hblk, g1] at a1; cases a1
  | map es2 =>
    obtain ⟨m2, c2, a1, a2, a3, _⟩ := hq
    rcases hd with hd | hd | hd
    · exact absurd hblk.symm hd
    · omega
    · omega
  | loop st pd E ps as bd => obtain ⟨r, N, a1, _⟩ := hq; rw [hblk, g1] at a1; cases a1
  | dead => trivial

/- what an update does to the rows -/
theorem updE_run {j : IntKind} {n : Int} {v : V} {u : Value} (hv : R φ v u) : ∀ {es es' : List (V × V)} {mes : List MapEntry}, updE n j v es = some es' → Rs φ (es.map (·.1)) (mes.map (·.key)) → Rs φ (es.map (·.2)) (mes.map (·.val)) →
    ∀ k i, (Instr.findNow (.int k) (.int j n) mes i = some none ∧ es' = es ++ [(.i j n, v)]) ∨
      ∃ d x, Instr.findNow (.int k) (.int j n) mes i = some (some (i + d, x)) ∧ ∃ e, mes[d]? = some e ∧ e.key = .int j n ∧
        Rs φ (es'.map (·.1)) ((mes.set d { e with key := .int j n, val := u }).map (·.key)) ∧ Rs φ (es'.map (·.2)) ((mes.set d { e with key := .int j n, val := u }).map (·.val))
  | [], es', mes, h, hk, hvs, k, i => by
    cases mes with
    | nil => simp [updE] at h; subst h; exact .inl ⟨rfl, rfl⟩
    | cons m mes => simp at hk; cases hk
  | (x, y) :: es, es', mes, h, hk, hvs, k, i => by
    cases mes with
    | nil => simp at hk; cases hk
    | cons m mes =>
      simp only [List.map_cons] at hk hvs
      cases hk with
      | cons _ _ _ _ hk1 hk2 =>
        cases hvs with
        | cons _ _ _ _ hv1 hv2 =>
          unfold updE at h
          split at h
          · rename_i heq; cases heq
          · rename_i j' k' v' es2 heq
            cases heq
            obtain ⟨hj, h'⟩ := bif_some h
            have hj := same_eq hj
            subst hj
            have hkey := hk1.i_inv
            by_cases e : n = k'
            · have : decide (n = k') = true := by simp [e]
              rw [this, cond_true] at h'
              cases h'
              refine .inr ⟨0, m.val, by simp [Instr.findNow, hkey, Instr.sameNow, e], m, by simp, by rw [hkey, e], ?_, ?_⟩
              · simp only [List.map_cons, List.set_cons_zero]
                exact .cons _ _ _ _ (.i _ _) hk2
              · simp only [List.map_cons, List.set_cons_zero]
                exact .cons _ _ _ _ hv hv2
            · have : decide (n = k') = false := by simp [e]
              rw [this, cond_false] at h'
              have e' : (n == k') = false := by simpa using e
              split at h'
              · rename_i es3 hes3
                cases h'
                rcases updE_run hv hes3 hk2 hv2 k (i + 1) with ⟨e1, rfl⟩ | ⟨d, x, e1, e0, e2, e3, e4, e5⟩
                · exact .inl ⟨by simp [Instr.findNow, hkey, Instr.sameNow, e', e1], rfl⟩
                · refine .inr ⟨d + 1, x, ?_, e0, by simpa using e2, e3, ?_, ?_⟩
                  · simp only [Instr.findNow, hkey, Instr.sameNow, if_true, e', e1]
                    simp; omega
                  · simp only [List.map_cons, List.set_cons_succ]
                    exact .cons _ _ _ _ hk1 e4
                  · simp only [List.map_cons, List.set_cons_succ]
                    exact .cons _ _ _ _ hv1 e5
              · cases h'
          · cases h

theorem modify_toList (a : Array MapEntry) (d : Nat) (f : MapEntry → MapEntry) (e : MapEntry) (h : a.toList[d]? = some e) : (a.modify d f).toList = a.toList.set d (f e) := by
  apply List.ext_getElem?
  intro i
  rw [List.getElem?_set]
  have h' : a[d]? = some e := by simpa using h
  have hd : d < a.size := (Array.getElem?_eq_some_iff.1 h').1
  rw [Array.getElem?_toList, Array.getElem?_modify]
  by_cases hi : d = i
  · subst hi; rw [if_pos rfl, if_pos rfl, if_pos (by simpa using hd), h']; rfl
  · rw [if_neg hi, if_neg hi]; simp

theorem ok_mapUpdate (c : Cx Q φ s w N E tmps sl) (o : Oper) {t : TypeId} {x y z : Operand} (ho : o.op = .mapUpdate t x y z) {co : O} (hc : cOp? Q (.mapUpdate t x y z) = some co)
    (hr : evO call sl co E s K = some r) : Good1 Q φ s w tmps sl K r o := by
  simp only [cOp?] at hc
  split at hc
  · rename_i kt e xm xk xv hu hxm hxk hxv
    split at hc
    · rename_i hkt
      cases hc
      obtain ⟨kk, hkk⟩ := isIntT_inv hkt
      simp only [evO] at hr
      split at hr
      · rename_i b j n hv1 hv2
        have h1 := cX_R c.env hxm
        have h2 := cX_R c.env hxk
        have h3 := cX_R c.env hxv
        rw [hv1] at h1
        rw [hv2] at h2
        have h2 := h2.i_inv
        obtain ⟨pl, hpl, h1'⟩ := h1.m_inv
        split at hr
        · rename_i es hg
          obtain ⟨es', hes, hk⟩ := optK_some hr
          obtain ⟨mes, clock, g1, g2, g3, g4, g5⟩ := getMap c.sim hpl hg
          have hget := getObj_map (Q := Q) g1
          have ck : ∀ b w, (Instr.checkKey b 10000 kt (.int j n)).run Q w = .ok () w := fun b w => checkKey_int hkk b 9999 w
          rcases updE_run h3 hes g4 g5 kk 0 with ⟨e1, rfl⟩ | ⟨d, x0, e1, e0, e2, e3, e4, e5⟩
          · have hfk := findKey_run hkk e1 w
            have := c.sim.mapUpd hpl hg (es' := es ++ [(.i j n, E.val xv)]) (mes' := mes.push { key := .int j n, val := opv tmps z, born := clock }) (clock' := clock + 1)
              (by simp only [List.map_append, Array.toList_push]; exact g4.append (.cons _ _ _ _ (.i _ _) .nil)) (by simp only [List.map_append, Array.toList_push]; exact g5.append (.cons _ _ _ _ h3 .nil))
            refine ⟨_, _, hk, φ, Go.undef, _, .inr ⟨?_, rfl⟩, this.1, .tup [] #[] .nil, this.2, Dom.refl _ _ _⟩
            simp [execOp, ho, h1', h2, Instr.mapUpdate, run_und hu, ck, hget, hfk, setObj_map _ g1]
          · have hfk := findKey_run hkk e1 w
            have hd' : mes[d]? = some e0 := by simpa using e2
            have := c.sim.mapUpd hpl hg (es' := es') (mes' := mes.modify d fun e => { e with key := .int j n, val := opv tmps z }) (clock' := clock)
              (by rw [modify_toList mes d _ e0 e2]; exact e4) (by rw [modify_toList mes d _ e0 e2]; exact e5)
            refine ⟨_, _, hk, φ, Go.undef, _, .inr ⟨?_, rfl⟩, this.1, .tup [] #[] .nil, this.2, Dom.refl _ _ _⟩
            simp [execOp, ho, h1', h2, Instr.mapUpdate, run_und hu, ck, hget, hfk, hd', e3, Instr.keyThatStays, sameBits_int, setObj_map _ g1]
        · cases hr
      · cases hr
    · cases hc
  · cases hc

end
end Go.Ev
