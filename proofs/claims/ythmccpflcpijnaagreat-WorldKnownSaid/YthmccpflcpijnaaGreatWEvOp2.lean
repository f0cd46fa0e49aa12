/- Each operation of the evaluator that enters no function stands for the model's (second part). -/
import Derived.Test.YthmccpflcpijnaaGreatWEvOp1
namespace Go.Ev

theorem foldl_sets (off : Nat) : ∀ (l : List Value) (j : Nat) (cs : Array Value), (l.zipIdx j).foldl (fun cs (x : Value × Nat) => cs.setIfInBounds (off + x.2) x.1) cs = setsA cs (off + j) l
  | [], _, _ => rfl
  | v :: l, j, cs => by
    rw [List.zipIdx_cons, List.foldl_cons, foldl_sets off l (j + 1), setsA, Nat.add_assoc]

theorem setsA_toList : ∀ (r : List Value) (o : Nat) (cs : Array Value), o + r.length ≤ cs.size → (setsA cs o r).toList = cs.toList.take o ++ r ++ cs.toList.drop (o + r.length) := by
  intro r o cs h
  apply List.ext_getElem?
  intro i
  have e : (setsA cs o r).toList[i]? = (setsA cs o r)[i]? := by simp
  rw [e]
  by_cases h1 : i < o
  · rw [setsA_out r o cs i (.inl h1), List.append_assoc, List.getElem?_append_left (by simp; omega), List.getElem?_take, if_pos h1]; simp
  · by_cases h2 : i < o + r.length
    · have := setsA_in r o cs (i - o) (r[i - o]'(by omega)) (by simp) h
      rw [show o + (i - o) = i by omega] at this
      rw [this, List.append_assoc, List.getElem?_append_right (by simp; omega), List.getElem?_append_left (by simp; omega)]
      rw [show i - (List.take o cs.toList).length = i - o by simp; omega]
      simp
    · rw [setsA_out r o cs i (.inr (by omega)), List.getElem?_append_right (by simp; omega), List.getElem?_drop]
      rw [show o + r.length + (i - (List.take o cs.toList ++ r).length) = i by simp; omega]
      simp

section
variable {Q : Program} {φ : Phi} {s : S} {w : World} {N : Nat} {E : Env} {tmps : Array Value} {sl : Option Nat} {Rr : Type}
  {call : FV → List V → S → (V → S → Option Rr) → Option Rr} {K : V → S → Option Rr} {r : Rr}

theorem fill_R (he : EnvR φ N E tmps) (place : Nat → Option (Nat × Nat)) : ∀ (parts : List (Nat × Operand)) (ps : List (Nat × Nat × X)) (l l' : List V) (cs : Array Value),
    cParts place parts = some ps → fill E ps l = some l' → Rs φ l cs.toList →
    ∃ cs', Instr.fill place cs (parts.map fun x => (x.1, opv tmps x.2)) = some cs' ∧ Rs φ l' cs'.toList
  | [], ps, l, l', cs, hp, hf, hl => by
    simp [cParts] at hp; subst hp
    simp [fill] at hf; subst hf
    exact ⟨cs, by simp [Instr.fill], hl⟩
  | (i, x) :: parts, ps, l, l', cs, hp, hf, hl => by
    simp only [cParts] at hp
    split at hp
    · rename_i off n y ps' h1 h2 h3
      cases hp
      simp only [fill] at hf
      have hb : Nat.beq (E.val y).cells.length n = true := by
        cases e : Nat.beq (E.val y).cells.length n with
        | false => rw [e] at hf; simp at hf
        | true => rfl
      rw [hb, cond_true] at hf
      split at hf
      · rename_i l1 hsp
        have hx := cells_R (cX_R he h2)
        have hn := Nat.eq_of_beq_eq_true hb
        obtain ⟨hle, rfl⟩ := splice_some hsp
        have hlen := hx.length
        have hll := hl.length
        simp only [Array.length_toList] at hlen hll
        have hcs : Rs φ (l.take off ++ (E.val y).cells ++ l.drop (off + (E.val y).cells.length)) (setsA cs off (opv tmps x).cells.toList).toList := by
          rw [setsA_toList _ _ _ (by simp; omega)]
          refine ((hl.take off).append hx).append ?_
          rw [hx.length]
          exact hl.drop _
        obtain ⟨cs', a, b⟩ := fill_R he place parts ps' _ l' _ h3 hf hcs
        refine ⟨cs', ?_, b⟩
        simp only [List.map_cons, Instr.fill, h1]
        rw [if_neg]
        · rw [← a]
          congr 1
          have := foldl_sets off (opv tmps x).cells.toList 0 cs
          rw [Nat.add_zero] at this
          rw [← this, ← Array.foldl_toList, Array.toList_zipIdx]
        · simp; omega
      · cases hf
    · cases hp

theorem mapM_run {α β : Type} (f : α → Sem β) (g : α → β) : ∀ (l : List α), (∀ x ∈ l, ∀ w, (f x).run Q w = .ok (g x) w) → ∀ w, (l.mapM f).run Q w = .ok (l.map g) w
  | [], _, w => by simp
  | x :: l, h, w => by
    simp [List.mapM_cons, h x (by simp), mapM_run f g l (fun y hy => h y (by simp [hy]))]

theorem placesOf_run : ∀ (fs : List Field) (pl : List (Nat × Nat)), fs.foldr (fun f r => match r, szOf Q f.type with | some l, some n => some ((f.offset, n) :: l) | _, _ => none) (some []) = some pl →
    ∀ w, (fs.mapM fun f => (do pure (f.offset, ← sizeOf f.type) : Sem (Nat × Nat))).run Q w = .ok pl w
  | [], pl, h, w => by simp at h; subst h; simp
  | f :: fs, pl, h, w => by
    simp only [List.foldr_cons] at h
    split at h
    · rename_i l n h1 h2
      cases h
      simp only [List.mapM_cons, Sem.run_bind, szOf_some h2, Result.andThen_ok, Sem.run_pure, placesOf_run fs l h1]
    · cases h

theorem parts_map (tmps : Array Value) (ps : Array (Nat × Operand)) : (ps.map fun (i, x) => (i, opv tmps x)).toList = ps.toList.map fun x => (x.1, opv tmps x.2) := by simp

theorem ok_build (c : Cx Q φ s w N E tmps sl) (o : Oper) {t : TypeId} {ps : Array (Nat × Operand)} (ho : o.op = .build t ps) {co : O} (hc : cOp? Q (.build t ps) = some co)
    (hr : evO call sl co E s K = some r) : Good1 Q φ s w tmps sl K r o := by
  simp only [cOp?] at hc
  split at hc
  · rename_i z fs hz hu
    split at hc
    · rename_i pl hpl
      obtain ⟨qs, hqs, rfl⟩ := optMap hc
      obtain ⟨v, hv, hcv⟩ := zeroT_some hz
      simp only [evO] at hr
      obtain ⟨l, hl, hk⟩ := optK_some hr
      obtain ⟨cs', h1, h2⟩ := fill_R c.env _ _ _ _ _ _ hqs hl (cv_cells hcv)
      have hm : ∀ w, (fs.mapM fun f => (do pure (f.offset, ← sizeOf f.type) : Sem (Nat × Nat))).run Q w = .ok pl.toArray w := by
        intro w
        rw [Array.mapM_eq_mapM_toList, Sem.run_map, placesOf_run fs.toList pl hpl, Result.andThen_ok]
      refine ⟨_, s, hk, Done.pure c (.a _ _ h2) ?_⟩
      have hg : (fun i : Nat => pl.toArray[i]?) = fun i : Nat => pl[i]? := by funext i; simp
      simp only [execOp, ho, Instr.build, Sem.run_bind, hv, Result.andThen_ok, run_und hu, hm, hg, parts_map, h1, Sem.run_pure]
    · cases hc
  · rename_i z n e hz hu
    split at hc
    · rename_i m hm
      obtain ⟨qs, hqs, rfl⟩ := optMap hc
      obtain ⟨v, hv, hcv⟩ := zeroT_some hz
      simp only [evO] at hr
      obtain ⟨l, hl, hk⟩ := optK_some hr
      obtain ⟨cs', h1, h2⟩ := fill_R c.env _ _ _ _ _ _ hqs hl (cv_cells hcv)
      refine ⟨_, s, hk, Done.pure c (.a _ _ h2) ?_⟩
      simp only [execOp, ho, Instr.build, Sem.run_bind, hv, Result.andThen_ok, run_und hu, szOf_some hm, parts_map, h1, Sem.run_pure]
    · cases hc
  · cases hc

theorem rep_length (z : List V) : ∀ n, (rep z n).length = n * z.length
  | 0 => by simp [rep]
  | n + 1 => by simp [rep, rep_length z n, Nat.succ_mul, Nat.add_comm]

theorem rep_get (z : List V) (hz : 0 < z.length) : ∀ n i, i < n * z.length → (rep z n)[i]? = z[i % z.length]?
  | 0, i, h => by simp at h
  | n + 1, i, h => by
    rw [rep]
    rcases Nat.lt_or_ge i z.length with h1 | h1
    · rw [List.getElem?_append_left h1, Nat.mod_eq_of_lt h1]
    · rw [List.getElem?_append_right h1, rep_get z hz n (i - z.length) (by rw [Nat.succ_mul] at h; omega)]
      rw [Nat.mod_eq_sub_mod h1]

theorem rep_R {z : List V} {zs : Array Value} (h : Rs φ z zs.toList) (hz : 0 < z.length) (n m : Nat) (hm : m = n * z.length) : Rs φ (rep z n) ((Array.range m).map fun x => zs[x % zs.size]!).toList := by
  have hl := h.length
  simp only [Array.length_toList] at hl
  refine Rs.of_get (by simp [rep_length, hm]) fun i v u hv hu => ?_
  have hi : i < n * z.length := by
    rcases Nat.lt_or_ge i (n * z.length) with h | h
    · exact h
    · rw [List.getElem?_eq_none (by rw [rep_length]; exact h)] at hv; cases hv
  rw [rep_get z hz n i hi] at hv
  obtain ⟨u', h1, h2⟩ := h.get _ _ hv
  have : u = u' := by
    have hi2 : i < m := by omega
    have hu2 : zs[i % zs.size]! = u := by
      simp [hi2] at hu
      exact hu
    rw [← hu2]
    have h3 : i % zs.size < zs.size := Nat.mod_lt _ (by omega)
    rw [getElem!_pos zs _ h3]
    rw [hl] at h1
    have h4 : zs[i % zs.size]? = some u' := by simpa using h1
    rw [Array.getElem?_eq_getElem h3] at h4
    exact (Option.some.inj h4)
  rw [this]; exact h2

theorem ok_buildSlice (c : Cx Q φ s w N E tmps sl) (o : Oper) {t : TypeId} {n : Nat} {ps : Array (Nat × Operand)} (ho : o.op = .buildSlice t n ps) {co : O} (hc : cOp? Q (.buildSlice t n ps) = some co)
    (hr : evO call sl co E s K = some r) : Good1 Q φ s w tmps sl K r o := by
  simp only [cOp?] at hc
  split at hc
  · rename_i e hu
    split at hc
    · rename_i m z hm hz
      split at hc
      · rename_i hcond
        obtain ⟨hzl, hm0, hbig⟩ := hcond
        obtain ⟨qs, hqs, rfl⟩ := optMap hc
        obtain ⟨v, hv, hcv⟩ := zeroT_some hz
        simp only [evO] at hr
        obtain ⟨l, hl, hk⟩ := optK_some hr
        have hzR : Rs φ z.cells v.cells.toList := cv_cells hcv
        have hrep := rep_R (φ := φ) hzR (by omega) n (n * m) (by rw [hzl])
        obtain ⟨cs', h1, h2⟩ := fill_R c.env _ _ _ _ _ _ hqs hl hrep
        have hcs' : cs'.size = n * m := by
          have a := h2.length
          have : ∀ (ps : List (Nat × Nat × X)) (l l' : List V), fill E ps l = some l' → l'.length = l.length := by
            intro ps
            induction ps with
            | nil => intro l l' h; simp [fill] at h; rw [h]
            | cons p ps ih =>
              obtain ⟨o, n, x⟩ := p
              intro l l' h
              simp only [fill] at h
              obtain ⟨_, h⟩ := bif_some h
              split at h
              · rename_i l1 hsp
                obtain ⟨hle, rfl⟩ := splice_some hsp
                rw [ih _ _ h]; simp; omega
              · cases h
          rw [this _ _ _ hl, rep_length, hzl] at a
          simpa using a.symm
        refine Done.row c e h2 (v := fun b => .sl m b 0 n n true) (.sl _ _ _ _ _ _ ⟨_, _, _⟩ ⟨w.heap.size, 0, none⟩ n Phi.set_self (Nat.le_refl _) (fun _ => rfl) (Nat.le_refl _) (fun _ => ⟨by simp, by simp [hcs']⟩)) ?_ hk
        have hrun : (Instr.buildSlice t n (ps.map fun (i, x) => (i, opv tmps x))).run Q w = .ok (.slice (some ⟨w.heap.size, 0, none⟩) n n) (w.alloc (.cells cs' e)) := by
          unfold Instr.buildSlice
          simp only [Sem.run_bind, run_und hu, Result.andThen_ok, szOf_some hm]
          rw [if_neg (by omega)]
          by_cases h0 : n * m = 0
          · have e0 : ((Array.range (n * m)).map fun x => v.cells[x % v.cells.size]!) = #[] := by simp [h0]
            rw [e0] at h1
            simp only [Sem.run_bind, Sem.run_pure, Result.andThen_ok, h0, if_true, parts_map]
            simp [h1, newRow, Array.range_zero']
          · simp only [Sem.run_bind, Sem.run_pure, Result.andThen_ok, h0, if_false, hv, parts_map, h1]
            simp [newRow]
        simp [execOp, ho, hrun]
      · cases hc
    · cases hc
  · cases hc

theorem same_eq {k j : IntKind} (h : IntKind.same k j = true) : k = j := by cases k <;> cases j <;> first | rfl | cases h

theorem natsSame_eq : ∀ {l r : List Nat}, natsSame l r = true → l = r
  | [], [], _ => rfl
  | x :: l, y :: r, h => by
    simp only [natsSame] at h
    cases e : Nat.beq x y with
    | false => rw [e] at h; cases h
    | true => rw [e] at h; rw [Nat.eq_of_beq_eq_true e, natsSame_eq h]
  | [], _ :: _, h => by cases h
  | _ :: _, [], h => by cases h
theorem natsSame_refl : ∀ (l : List Nat), natsSame l l = true
  | [] => rfl
  | x :: l => by simp [natsSame, natsSame_refl l, Nat.beq_refl]
theorem natsSame_iff (l r : List Nat) : natsSame l r = decide (l = r) := by
  by_cases h : l = r
  · subst h; simp [natsSame_refl]
  · simp only [h, decide_false]
    cases e : natsSame l r with
    | false => rfl
    | true => exact absurd (natsSame_eq e) h

theorem intBits_run {op : BinOp} {k : IntKind} {x y n : Int} (h : intBits op k x y = some n) (w : World) : (Op.intBits op k x y).run Q w = .ok (.int k n) w := by
  unfold intBits at h
  cases op <;> simp only [reduceCtorEq, Option.some.injEq] at h <;> subst h <;>
    simp [Op.intBits, BitVec.toNat_ofInt, BitVec.toNat_and, BitVec.toNat_or, BitVec.toNat_xor, BitVec.toNat_not] <;> rfl

theorem intOp_run {op : BinOp} {k : IntKind} {x y : Int} {v : V} (h : intOp op k x y = some v) (t : TypeId) (w : World) :
    ∃ u, (∀ φ, R φ v u) ∧ (binOp op t (.int k x) (.int k y)).run Q w = .ok u w := by
  cases op <;> simp only [intOp] at h
  case add => cases h; exact ⟨_, fun _ => .i _ _, by simp [binOp, Op.intArith]⟩
  case sub => cases h; exact ⟨_, fun _ => .i _ _, by simp [binOp, Op.intArith]⟩
  case mul => cases h; exact ⟨_, fun _ => .i _ _, by simp [binOp, Op.intArith]⟩
  case quo =>
    by_cases e : y = 0
    · simp [e] at h
    · simp [e] at h; subst h
      exact ⟨_, fun _ => .i _ _, by simp [binOp, Op.intDiv, e]⟩
  case rem =>
    by_cases e : y = 0
    · simp [e] at h
    · simp [e] at h; subst h
      exact ⟨_, fun _ => .i _ _, by simp [binOp, Op.intDiv, e]⟩
  case eql => cases h; exact ⟨_, fun _ => .b _, by simp [binOp, Op.intCmp]; rfl⟩
  case neq => cases h; exact ⟨_, fun _ => .b _, by simp [binOp, Op.intCmp, bne]; rfl⟩
  case lss => cases h; exact ⟨_, fun _ => .b _, by simp [binOp, Op.intCmp]⟩
  case leq => cases h; exact ⟨_, fun _ => .b _, by simp [binOp, Op.intCmp]⟩
  case gtr => cases h; exact ⟨_, fun _ => .b _, by simp [binOp, Op.intCmp]⟩
  case geq => cases h; exact ⟨_, fun _ => .b _, by simp [binOp, Op.intCmp]⟩
  case and => obtain ⟨n, hn, rfl⟩ := optMap h; exact ⟨_, fun _ => .i _ _, by simp [binOp, intBits_run hn]⟩
  case or => obtain ⟨n, hn, rfl⟩ := optMap h; exact ⟨_, fun _ => .i _ _, by simp [binOp, intBits_run hn]⟩
  case xor => obtain ⟨n, hn, rfl⟩ := optMap h; exact ⟨_, fun _ => .i _ _, by simp [binOp, intBits_run hn]⟩
  case andNot => obtain ⟨n, hn, rfl⟩ := optMap h; exact ⟨_, fun _ => .i _ _, by simp [binOp, intBits_run hn]⟩
  case shl => cases h
  case shr => cases h

theorem shift_run {op : BinOp} {k j : IntKind} {x y : Int} {v : V} (h : shift op k x y = some v) (t : TypeId) (w : World) :
    ∃ u, (∀ φ, R φ v u) ∧ (binOp op t (.int k x) (.int j y)).run Q w = .ok u w := by
  unfold shift at h
  by_cases e : y < 0
  · simp [e] at h
  · have e' : decide (y < 0) = false := by simp [e]
    rw [e', cond_false] at h
    cases op <;> simp only [reduceCtorEq, Option.some.injEq] at h <;> subst h
    · exact ⟨_, fun _ => .i _ _, by simp [binOp, Op.shift, e]⟩
    · exact ⟨_, fun _ => .i _ _, by simp [binOp, Op.shift, e]⟩

theorem bytesLess_eq : ∀ (l r : List UInt8), bytesLt (l.map (·.toNat)) (r.map (·.toNat)) = Op.bytesLess l r
  | [], [] => rfl
  | _ :: _, [] => rfl
  | [], _ :: _ => rfl
  | x :: l, y :: r => by
    simp only [List.map_cons, bytesLt, Op.bytesLess, bytesLess_eq l r]
    congr 1
    · have : (x < y) ↔ x.toNat < y.toNat := UInt8.lt_iff_toNat_lt
      by_cases h : x.toNat < y.toNat
      · simp [this, h]
      · rw [show Nat.blt x.toNat y.toNat = false from blef (by omega)]; simp [this, h]
    · congr 1
      by_cases h : x = y
      · subst h; simp [Nat.beq_refl]
      · have : x.toNat ≠ y.toNat := fun e => h (UInt8.toNat_inj.1 e)
        rw [beqf this]; simp [h]

theorem map_toNat_inj {l r : List UInt8} (h : l.map (·.toNat) = r.map (·.toNat)) : l = r := by
  induction l generalizing r with
  | nil => cases r <;> simp_all
  | cons x l ih =>
    cases r with
    | nil => simp at h
    | cons y r =>
      simp at h
      rw [ih h.2, UInt8.toNat_inj.1 h.1]

theorem toList_data (b : ByteArray) : b.toList = b.data.toList := by simp [ByteArray.toList_eq]

theorem strOp_run {op : BinOp} {a b : ByteArray} {v : V} (h : strOp op (a.data.toList.map (·.toNat)) (b.data.toList.map (·.toNat)) = some v) (t : TypeId) (w : World) :
    ∃ u, (∀ φ, R φ v u) ∧ (binOp op t (.string a) (.string b)).run Q w = .ok u w := by
  have heq : natsSame (a.data.toList.map (·.toNat)) (b.data.toList.map (·.toNat)) = (a.toList == b.toList) := by
    rw [natsSame_iff, toList_data, toList_data]
    by_cases e : a.data.toList = b.data.toList
    · simp [e]
    · have : ¬ (a.data.toList.map (·.toNat)) = b.data.toList.map (·.toNat) := fun x => e (map_toNat_inj x)
      simp only [this, decide_false]
      simpa using e
  have hlt : bytesLt (a.data.toList.map (·.toNat)) (b.data.toList.map (·.toNat)) = Op.bytesLess a.toList b.toList := by
    rw [bytesLess_eq, toList_data, toList_data]
  cases op <;> simp only [strOp, reduceCtorEq] at h
  case add =>
    obtain ⟨hb, h⟩ := bif_some h
    have hle := Nat.le_of_ble_eq_true hb
    cases h
    refine ⟨.string (a ++ b), fun _ => .s _ _ (by simp), ?_⟩
    have h1 : ((a.size + b.size : Nat) : Int) ≤ 9223372036854775807 := by
      simp at hle
      have e1 : a.size = a.data.size := rfl
      have e2 : b.size = b.data.size := rfl
      omega
    simp only [binOp, Op.stringOp, IntKind.max_i64]
    rw [if_neg (by omega)]
    rfl
  case eql => cases h; exact ⟨_, fun _ => .b _, by rw [heq]; simp [binOp, Op.stringOp]⟩
  case neq => cases h; exact ⟨_, fun _ => .b _, by rw [heq]; simp [binOp, Op.stringOp]⟩
  case lss => cases h; exact ⟨_, fun _ => .b _, by rw [hlt]; simp [binOp, Op.stringOp]⟩
  case leq => cases h; exact ⟨_, fun _ => .b _, by rw [hlt, heq]; simp [binOp, Op.stringOp]⟩
  case gtr => cases h; exact ⟨_, fun _ => .b _, by rw [hlt, heq]; simp [binOp, Op.stringOp]⟩
  case geq => cases h; exact ⟨_, fun _ => .b _, by rw [hlt]; simp [binOp, Op.stringOp]⟩

theorem ok_unOp (c : Cx Q φ s w N E tmps sl) (o : Oper) {op : UnOp} {t : TypeId} {x : Operand} (ho : o.op = .unOp op t x) {co : O} (hc : cOp? Q (.unOp op t x) = some co)
    (hr : evO call sl co E s K = some r) : Good1 Q φ s w tmps sl K r o := by
  obtain ⟨y, hy, rfl⟩ := optMap (show (cX x).map (O.un op) = some co from hc)
  simp only [evO] at hr
  obtain ⟨v, hv, hk⟩ := optK_some hr
  have hx := cX_R c.env hy
  cases hv' : E.val y <;> rw [hv'] at hv hx <;> simp only [un, reduceCtorEq] at hv <;> cases hx' : opv tmps x <;> rw [hx'] at hx <;> cases hx
  · cases op <;> simp only [reduceCtorEq, Option.some.injEq] at hv
    subst hv
    exact ⟨_, s, hk, Done.pure c (.b _) (by simp [execOp, ho, hx', Op.unary])⟩
  · cases op <;> simp only [reduceCtorEq, Option.some.injEq] at hv
    · subst hv
      exact ⟨_, s, hk, Done.pure c (.i _ _) (by simp [execOp, ho, hx', Op.unary, Op.intArith])⟩
    · obtain ⟨n, hn, rfl⟩ := optMap hv
      exact ⟨_, s, hk, Done.pure c (.i _ _) (by simp [execOp, ho, hx', Op.unary, intBits_run hn])⟩

theorem bin_run {op : BinOp} {a b v : V} {x y : Value} (hx : R φ a x) (hy : R φ b y) (h : bin op a b = some v) (t : TypeId) (w : World) :
    ∃ u, R φ v u ∧ (binOp op t x y).run Q w = .ok u w ∧ (∀ p q, eqGuard op t p q x y = pure ()) := by
  cases a <;> cases b <;> simp only [bin, reduceCtorEq] at h <;> cases hx <;> cases hy
  · rename_i k n j m
    have hg : ∀ p q, eqGuard op t p q (.int k n) (.int j m) = pure () := fun p q => eqGuard_at_int ..
    cases hs : isShift op with
    | true =>
      rw [hs, cond_true] at h
      obtain ⟨u, a, b⟩ := shift_run (Q := Q) (j := j) h t w
      exact ⟨u, a φ, b, hg⟩
    | false =>
      rw [hs, cond_false] at h
      obtain ⟨hk, h'⟩ := bif_some h
      have := same_eq hk
      subst this
      obtain ⟨u, a, b⟩ := intOp_run (Q := Q) h' t w
      exact ⟨u, a φ, b, hg⟩
  · rename_i t1 h1 t2 h2
    subst h1; subst h2
    obtain ⟨u, a, b⟩ := strOp_run (Q := Q) h t w
    exact ⟨u, a φ, b, fun p q => eqGuard_at_string ..⟩

end
end Go.Ev
