/- Each operation of the evaluator that enters no function stands for the model's (third part). -/
import Derived.Test.YthmccpflcpijnaaGreatWEvOp2
namespace Go.Ev
section
variable {Q : Program} {φ : Phi} {s : S} {w : World} {N : Nat} {E : Env} {tmps : Array Value} {sl : Option Nat} {Rr : Type}
  {call : FV → List V → S → (V → S → Option Rr) → Option Rr} {K : V → S → Option Rr} {r : Rr}

theorem R.sl_inv {sz b off len cap : Nat} {ex : Bool} {u : Value} (h : R φ (.sl sz b off len cap ex) u) :
    ∃ pl ad c, u = .slice (some ad) len c ∧ φ b = some pl ∧ cap ≤ c ∧ (ex = true → c = cap) ∧ len ≤ cap ∧ (0 < c → ad = ⟨pl.blk, pl.off + off, none⟩ ∧ pl.off + off + c * sz ≤ pl.fin) := by
  cases h with
  | sl _ _ _ _ _ _ pl ad c h hc hx hl hp => exact ⟨pl, ad, c, rfl, h, hc, hx, hl, hp⟩
theorem R.i_inv {k : IntKind} {n : Int} {u : Value} (h : R φ (.i k n) u) : u = .int k n := by cases h; rfl
theorem R.b_inv {x : Bool} {u : Value} (h : R φ (.b x) u) : u = .bool x := by cases h; rfl
theorem R.p_inv {b off : Nat} {u : Value} (h : R φ (.p b off) u) : ∃ pl, φ b = some pl ∧ u = .pointer (some ⟨pl.blk, pl.off + off, none⟩) := by
  cases h with
  | p _ _ pl h => exact ⟨pl, h, rfl⟩
theorem R.a_inv {l : List V} {u : Value} (h : R φ (.a l) u) : ∃ cs, u = .agg cs ∧ Rs φ l cs.toList := by
  cases h with
  | a _ cs h => exact ⟨cs, rfl, h⟩
theorem R.tup_inv {l : List V} {u : Value} (h : R φ (.tup l) u) : ∃ cs, u = .tuple cs ∧ Rs φ l cs.toList := by
  cases h with
  | tup _ cs h => exact ⟨cs, rfl, h⟩
theorem R.s_inv {l : List Nat} {u : Value} (h : R φ (.s l) u) : ∃ t, u = .string t ∧ t.data.toList.map (·.toNat) = l := by
  cases h with
  | s _ t h => exact ⟨t, rfl, h⟩
theorem R.m_inv {b : Nat} {u : Value} (h : R φ (.m b) u) : ∃ pl, φ b = some pl ∧ u = .map (some pl.blk) := by
  cases h with
  | m _ pl h => exact ⟨pl, h, rfl⟩

def kindOk (kd : Nat) (d : TypeDesc) : Prop :=
  match kd, d with
  | 0, .bool => True
  | 1, .pointer _ => True
  | 2, .map _ _ => True
  | 3, .func _ _ _ => True
  | 4, .slice _ => True
  | _, _ => False

theorem equal_in (t : TypeId) (x y : Value) : Op.equal t x y = Op.equalIn (9999 + 1) t x y := rfl

theorem eqvIn_run {kd : Nat} {a b : V} {x y : Value} {e : Bool} {t : TypeId} {d : TypeDesc} (hd : Q.underlying t = some d) (hk : kindOk kd d)
    (hx : R φ a x) (hy : R φ b y) (h : eqv kd a b = some e) (w : World) (n : Nat) : (Op.equalIn (n + 1) t x y).run Q w = .ok e w := by
  unfold eqv at h
  split at h <;> first
    | cases h
    | skip
  all_goals
    cases hx
    cases hy
    cases d <;> first | exact hk.elim | simp [Op.equalIn, run_und hd]

theorem eqv_guard {kd : Nat} {a b : V} {x y : Value} {e : Bool} {t : TypeId} 
    (hx : R φ a x) (hy : R φ b y) (h : eqv kd a b = some e) :
    (∀ op p q, eqGuard op t p q x y = pure ()) ∧ binOp .eql t x y = (do pure (.bool (← Op.equal t x y))) ∧ binOp .neq t x y = (do pure (.bool (!(← Op.equal t x y)))) := by
  unfold eqv at h
  split at h <;> first
    | cases h
    | skip
  all_goals
    cases hx
    cases hy
    refine ⟨fun op p q => ?_, rfl, rfl⟩
    first | exact eqGuard_at_bool .. | exact eqGuard_at_pointer .. | exact eqGuard_at_map .. | exact eqGuard_at_nilFunc .. | exact eqGuard_at_func .. | exact eqGuard_at_slice ..

theorem eqCells_cons {k : Nat} {ks : List Nat} {x y : V} {l r : List V} {e : Bool} (h : eqCells (k :: ks) (x :: l) (y :: r) = some e) :
    ∃ a b, eqCell k x y = some a ∧ eqCells ks l r = some b ∧ e = (a && b) := by
  simp only [eqCells] at h
  split at h
  · rename_i a b h1 h2
    cases h; exact ⟨a, b, h1, h2, rfl⟩
  · cases h

theorem eqCells_len : ∀ {ks : List Nat} {l r : List V} {e : Bool}, eqCells ks l r = some e → l.length = ks.length ∧ r.length = ks.length
  | [], [], [], _, _ => ⟨rfl, rfl⟩
  | k :: ks, x :: l, y :: r, e, h => by
    obtain ⟨a, b, h1, h2, rfl⟩ := eqCells_cons h
    have := eqCells_len h2
    simp [this]
  | [], _ :: _, _, _, h => by simp [eqCells] at h
  | [], [], _ :: _, _, h => by simp [eqCells] at h
  | _ :: _, [], _, _, h => by simp [eqCells] at h
  | _ :: _, _ :: _, [], _, h => by simp [eqCells] at h

/- the kinds of the first part, and of the rest -/
theorem eqCells_split : ∀ {ks js : List Nat} {l r : List V} {e : Bool}, eqCells (ks ++ js) l r = some e →
    ∃ a b, eqCells ks (l.take ks.length) (r.take ks.length) = some a ∧ eqCells js (l.drop ks.length) (r.drop ks.length) = some b ∧ e = (a && b)
  | [], js, l, r, e, h => ⟨true, e, by simp [eqCells], by simpa using h, by simp⟩
  | k :: ks, js, x :: l, y :: r, e, h => by
    obtain ⟨a, b, h1, h2, rfl⟩ := eqCells_cons (show eqCells (k :: (ks ++ js)) (x :: l) (y :: r) = some e from h)
    obtain ⟨a', b', h3, h4, rfl⟩ := eqCells_split h2
    exact ⟨a && a', b', by simp [eqCells, h1, h3], by simpa using h4, by simp [Bool.and_assoc]⟩
  | k :: ks, js, [], r, e, h => by simp [eqCells] at h
  | k :: ks, js, _ :: _, [], e, h => by simp [eqCells] at h

/- cells as one value of a type -/
def asT (Q : Program) (t : TypeId) (cs : List Value) (v : Value) : Prop :=
  match Q.underlying t with
  | some (.struct _) => v = .agg cs.toArray
  | _ => cs = [v]

theorem part_as {t : TypeId} {ks : List Nat} {n : Nat} (h : leaves Q n t = some ks) (cs : Array Value) (off : Nat) (hs : off + ks.length ≤ cs.size) (w : World) :
    ∃ v, (part t cs off).run Q w = .ok v w ∧ asT Q t ((cs.toList.drop off).take ks.length) v := by
  cases n with
  | zero => simp [leaves] at h
  | succ n =>
    unfold leaves at h
    have scalar : ∀ d, Q.underlying t = some d → (d = .bool ∨ (∃ k, d = .int k) ∨ d = .string) → ks.length = 1 → ∃ v, (part t cs off).run Q w = .ok v w ∧ asT Q t ((cs.toList.drop off).take ks.length) v := by
      intro d hu hd hm
      have hag : aggT Q t = some false := by
        unfold aggT; rw [hu]
        rcases hd with rfl | ⟨k, rfl⟩ | rfl <;> rfl
      obtain ⟨u, hu1⟩ : ∃ u, cs[off]? = some u := ⟨cs[off]'(by omega), Array.getElem?_eq_getElem (by omega)⟩
      refine ⟨u, by simp [part, isAgg_run hag, hu1], ?_⟩
      have : (cs.toList.drop off).take 1 = [u] := by
        apply List.ext_getElem?
        intro i
        rw [List.getElem?_take]
        cases i with
        | zero => simpa using hu1
        | succ i => simp
      unfold asT; rw [hu, hm]
      rcases hd with rfl | ⟨k, rfl⟩ | rfl <;> exact this
    split at h
    · rename_i hu; cases h; exact scalar _ hu (.inl rfl) rfl
    · rename_i k hu; cases h; exact scalar _ hu (.inr (.inl ⟨k, rfl⟩)) rfl
    · rename_i hu; cases h; exact scalar _ hu (.inr (.inr rfl)) rfl
    · rename_i fs hu
      split at h
      · cases h
      · split at h
        · rename_i ks' _
          split at h
          · rename_i hsz
            cases h
            have hag : aggT Q t = some true := by unfold aggT; rw [hu]; rfl
            refine ⟨.agg (cs.extract off (off + ks.length)), by simp [part, isAgg_run hag, szOf_some hsz], ?_⟩
            unfold asT; rw [hu]
            have : (cs.extract off (off + ks.length)).toList = (cs.toList.drop off).take ks.length := by simp [List.take_drop]
            show Value.agg _ = _
            rw [← this]
          · cases h
        · cases h
    · cases h

theorem leaves_run : ∀ (n : Nat) (t : TypeId) (ks : List Nat), leaves Q n t = some ks → ∀ (l r : List V) (xs ys : List Value) (e : Bool), Rs φ l xs → Rs φ r ys → eqCells ks l r = some e →
    ∀ u v, asT Q t xs u → asT Q t ys v → ∀ m, n ≤ m → ∀ w, (Op.equalIn (m + 1) t u v).run Q w = .ok e w := by
  intro n
  induction n with
  | zero => intro t ks h; simp [leaves] at h
  | succ n ih =>
    intro t ks h l r xs ys e hl hr he u v hu hv m hm w
    unfold leaves at h
    have scalar : ∀ k d, Q.underlying t = some d → ks = [k] → (∀ fs, d ≠ .struct fs) → ∃ a b, eqCell k a b = some e ∧ R φ a u ∧ R φ b v := by
      intro k d hd hks hns
      subst hks
      have hxs : xs = [u] := by
        unfold asT at hu; rw [hd] at hu
        cases d <;> first | exact hu | exact absurd rfl (hns _)
      have hys : ys = [v] := by
        unfold asT at hv; rw [hd] at hv
        cases d <;> first | exact hv | exact absurd rfl (hns _)
      subst hxs; subst hys
      cases hl with
      | cons a _ l _ ha hl' =>
        cases hl'
        cases hr with
        | cons b _ r _ hb hr' =>
          cases hr'
          obtain ⟨p, q, h1, h2, rfl⟩ := eqCells_cons he
          simp [eqCells] at h2; subst h2
          exact ⟨a, b, by simpa using h1, ha, hb⟩
    split at h
    · rename_i hd
      cases h
      obtain ⟨a, b, h1, ha, hb⟩ := scalar 0 _ hd rfl (by simp)
      cases a <;> cases b <;> simp only [eqCell, reduceCtorEq, Option.some.injEq] at h1
      cases ha; cases hb; subst h1
      exact run_equalIn_bool' w m t _ _ hd
    · rename_i k hd
      cases h
      obtain ⟨a, b, h1, ha, hb⟩ := scalar 1 _ hd rfl (by simp)
      cases a <;> cases b <;> simp only [eqCell, reduceCtorEq] at h1
      have ha := ha.i_inv
      have hb := hb.i_inv
      subst ha; subst hb
      obtain ⟨hk, h2⟩ := bif_some h1
      have := same_eq hk
      subst this
      cases h2
      rw [run_equalIn_int w m t _ k _ _ hd]; rfl
    · rename_i hd
      cases h
      obtain ⟨a, b, h1, ha, hb⟩ := scalar 2 _ hd rfl (by simp)
      cases a <;> cases b <;> simp only [eqCell, reduceCtorEq, Option.some.injEq] at h1
      obtain ⟨t1, rfl, e1⟩ := ha.s_inv
      obtain ⟨t2, rfl, e2⟩ := hb.s_inv
      rw [run_equalIn_string w m t _ _ hd, ← h1, ← e1, ← e2, natsSame_iff, toList_data, toList_data]
      congr 1
      by_cases q : t1.data.toList = t2.data.toList
      · simp [q]
      · have : ¬ (t1.data.toList.map (·.toNat)) = t2.data.toList.map (·.toNat) := fun x => q (map_toNat_inj x)
        simp only [this, decide_false]
        simpa using q
    · rename_i fs hd
      split at h
      · cases h
      · rename_i hst
        split at h
        · rename_i ks' hf
          split at h
          · rename_i hsz
            cases h
            have hxs : u = .agg xs.toArray := by unfold asT at hu; rw [hd] at hu; exact hu
            have hys : v = .agg ys.toArray := by unfold asT at hv; rw [hd] at hv; exact hv
            subst hxs; subst hys
            have hfo : Q.fieldsOf t = fs := by unfold Program.fieldsOf; rw [hd]
            have hst' : Q.stoodInHeld t = false := by simpa using hst
            rw [run_equalIn_struct w m t _ _ (by rw [hfo]; exact hd) hst', hfo]
            obtain ⟨hl1, hr1⟩ := eqCells_len he
            have hxl := hl.length
            have hyl := hr.length
            -- field by field
            have key : ∀ (fs : List Field) (acc : Nat) (js : List Nat) (e : Bool), leavesF (leaves Q n) acc fs = some js → acc + js.length = l.length → eqCells js (l.drop acc) (r.drop acc) = some e →
                (Op.eqFields m xs.toArray ys.toArray fs).run Q w = .ok e w := by
              intro fs
              induction fs with
              | nil =>
                intro acc js e hj hn hc
                simp [leavesF] at hj; subst hj
                have : e = true := by
                  revert hc
                  cases l.drop acc <;> cases r.drop acc <;> simp [eqCells]
                subst this
                simp [Op.eqFields]
              | cons f fs ihf =>
                intro acc js e hj hn hc
                simp only [leavesF] at hj
                split at hj
                · cases hj
                · rename_i hnm
                  have hn1 : f.name ≠ "_" := fun x => hnm (.inl x)
                  have hn2 : f.offset = acc := Decidable.not_not.1 fun x => hnm (.inr x)
                  split at hj
                  · rename_i ks1 hk1
                    split at hj
                    · rename_i ks2 hk2
                      cases hj
                      simp at hn
                      obtain ⟨a, b, h1, h2, rfl⟩ := eqCells_split hc
                      obtain ⟨u1, p1, p2⟩ := part_as hk1 xs.toArray acc (by simp; omega) w
                      obtain ⟨v1, p3, p4⟩ := part_as hk1 ys.toArray acc (by simp; omega) w
                      have hm0 : ∃ m', m = m' + 1 := by
                        cases m with
                        | zero => omega
                        | succ m' => exact ⟨m', rfl⟩
                      obtain ⟨m', rfl⟩ := hm0
                      have h3 := ih f.type ks1 hk1 _ _ _ _ a ((hl.drop acc).take ks1.length) ((hr.drop acc).take ks1.length) h1 u1 v1 (by simpa using p2) (by simpa using p4) m' (by omega) w
                      have h4 := ihf (acc + ks1.length) ks2 b hk2 (by omega) (by simpa [List.drop_drop, Nat.add_comm] using h2)
                      simp only [Op.eqFields]
                      rw [if_pos hn1, hn2]
                      simp only [Sem.run_bind, p1, p3, Result.andThen_ok, h3]
                      cases a
                      · simp
                      · simpa using h4
                    · cases hj
                  · cases hj
            exact key fs.toList 0 ks e hf (by omega) (by simpa using he)
          · cases h
        · cases h
    · cases h

theorem ok_fieldAddr (c : Cx Q φ s w N E tmps sl) (o : Oper) {t : TypeId} {x : Operand} {f : Nat} (ho : o.op = .fieldAddr t x f) {co : O} (hc : cOp? Q (.fieldAddr t x f) = some co)
    (hr : evO call sl co E s K = some r) : Good1 Q φ s w tmps sl K r o := by
  simp only [cOp?] at hc
  split at hc
  · rename_i fs y hu hy
    split at hc
    · rename_i fd hfd
      split at hc
      · rename_i n hn
        split at hc
        · cases hc
        · rename_i hn0
          cases hc
          simp only [evO] at hr
          split at hr
          · rename_i b off hv
            have hx := cX_R c.env hy
            rw [hv] at hx
            cases hx' : opv tmps x <;> rw [hx'] at hx <;> cases hx
            rename_i pl hpl
            refine ⟨_, s, hr, Done.pure c (.p b (off + fd.offset) pl hpl) ?_⟩
            have := szOf_some hn w
            simp [execOp, ho, hx', Instr.fieldAt, run_und hu, hfd, Instr.sureAddr, fieldPlace, this, hn0, Addr.add_lit, Nat.add_assoc]
          · cases hr
      · cases hc
    · cases hc
  · cases hc

theorem ok_field (c : Cx Q φ s w N E tmps sl) (o : Oper) {t : TypeId} {x : Operand} {f : Nat} (ho : o.op = .field t x f) {co : O} (hc : cOp? Q (.field t x f) = some co)
    (hr : evO call sl co E s K = some r) : Good1 Q φ s w tmps sl K r o := by
  simp only [cOp?] at hc
  split at hc
  · rename_i fs y hu hy
    split at hc
    · rename_i fd hfd
      obtain ⟨n, hn, rfl⟩ := optMap hc
      simp only [evO] at hr
      split at hr
      · rename_i l hv
        have hx := cX_R c.env hy
        rw [hv] at hx
        cases hx' : opv tmps x <;> rw [hx'] at hx <;> cases hx
        rename_i cs hcs
        unfold shapeT at hn
        split at hn
        · rename_i ha
          obtain ⟨m, hm, rfl⟩ := optMap hn
          have hcs2 : Rs φ ((l.drop fd.offset).take m) (cs.extract fd.offset (fd.offset + m)).toList := by
            have : (cs.extract fd.offset (fd.offset + m)).toList = (cs.toList.drop fd.offset).take m := by
              simp [List.take_drop]
            rw [this]; exact (hcs.drop _).take _
          refine ⟨_, s, hr, Done.pure c (.a _ _ hcs2) ?_⟩
          simp [execOp, ho, hx', Instr.field, run_und hu, hfd, asAgg, part, isAgg_run ha, szOf_some hm]
        · rename_i ha
          cases hn
          obtain ⟨v, hl, hk⟩ := optK_some hr
          rw [nth_eq] at hl
          obtain ⟨u, hu2, hru⟩ := hcs.get _ _ hl
          have hu' : cs[fd.offset]? = some u := by simpa using hu2
          refine ⟨v, s, hk, Done.pure c hru ?_⟩
          simp [execOp, ho, hx', Instr.field, run_und hu, hfd, asAgg, part, isAgg_run ha, hu']
        · cases hn
      · cases hr
    · cases hc
  · cases hc

theorem and_some {a b : Bool} {x : Option Rr} (h : (bif a && b then x else none) = some r) : a = true ∧ b = true ∧ x = some r := by
  obtain ⟨h1, h2⟩ := bif_some h
  simp at h1
  exact ⟨h1.1, h1.2, h2⟩

theorem ok_indexAddr (c : Cx Q φ s w N E tmps sl) (o : Oper) {t : TypeId} {x i : Operand} (ho : o.op = .indexAddr t x i) {co : O} (hc : cOp? Q (.indexAddr t x i) = some co)
    (hr : evO call sl co E s K = some r) : Good1 Q φ s w tmps sl K r o := by
  simp only [cOp?] at hc
  split at hc
  · rename_i e y j hu hy hj
    obtain ⟨n, hn, rfl⟩ := optMap hc
    simp only [evO] at hr
    split at hr
    · rename_i sz b off len cap ex k m hv hi
      have hx := cX_R c.env hy
      have hi' := cX_R c.env hj
      rw [hv] at hx
      rw [hi] at hi'
      have hi' := hi'.i_inv
      obtain ⟨pl, ad, cc, hx', hpl, hcap, hex, hlen, hp⟩ := hx.sl_inv
      obtain ⟨hb, hr⟩ := bif_some hr
      simp only [Bool.and_eq_true, decide_eq_true_eq] at hb
      obtain ⟨⟨hsz, h0⟩, hlt⟩ := hb
      have hsz := Nat.eq_of_beq_eq_true hsz
      subst hsz
      obtain ⟨rfl, hfin⟩ := hp (by omega)
      refine ⟨_, s, hr, Done.pure c (.p b (off + m.toNat * sz) pl hpl) ?_⟩
      simp [execOp, ho, hx', hi', Instr.indexAt, asIntOf, run_und hu, h0, hlt, szOf_some hn, Addr.add_lit, Nat.add_assoc]
    · cases hr
  · rename_i len e y j hu hy hj
    obtain ⟨n, hn, rfl⟩ := optMap hc
    simp only [evO] at hr
    split at hr
    · rename_i b off k m hv hi
      have hx := cX_R c.env hy
      have hi2 := cX_R c.env hj
      rw [hv] at hx
      rw [hi] at hi2
      cases hx' : opv tmps x <;> rw [hx'] at hx <;> cases hx
      cases hi' : opv tmps i <;> rw [hi'] at hi2 <;> cases hi2
      rename_i pl hpl
      obtain ⟨hb, hr⟩ := bif_some hr
      simp only [Bool.and_eq_true, decide_eq_true_eq] at hb
      obtain ⟨h0, hlt⟩ := hb
      refine ⟨_, s, hr, Done.pure c (.p b (off + m.toNat * n) pl hpl) ?_⟩
      simp [execOp, ho, hx', hi', Instr.indexAt, asIntOf, run_und hu, h0, hlt, szOf_some hn, Addr.add_lit, Nat.add_assoc, Instr.sureAddr]
    · cases hr
  · cases hc

def ptV (l : List V) (one : Option Nat) (off : Nat) : Option V :=
  match one with
  | none => nth l off
  | some n => some (.a ((l.drop off).take n))

theorem part_run {e : TypeId} {one : Option Nat} (h1 : shapeT Q e = some one) {l : List V} {cs : Array Value} (hcs : Rs φ l cs.toList) {off : Nat} {v : V}
    (h : ptV l one off = some v) (w : World) : ∃ u, R φ v u ∧ (part e cs off).run Q w = .ok u w := by
  unfold ptV at h
  unfold shapeT at h1
  split at h1
  · rename_i ha
    obtain ⟨m, hm, rfl⟩ := optMap h1
    simp only [Option.some.injEq] at h
    subst h
    have hcs2 : Rs φ ((l.drop off).take m) (cs.extract off (off + m)).toList := by
      have : (cs.extract off (off + m)).toList = (cs.toList.drop off).take m := by
        simp [List.take_drop]
      rw [this]; exact (hcs.drop _).take _
    exact ⟨_, .a _ _ hcs2, by simp [part, isAgg_run ha, szOf_some hm]⟩
  · rename_i ha
    cases h1
    simp only [nth_eq] at h
    obtain ⟨u, hu2, hru⟩ := hcs.get _ _ h
    have hu' : cs[off]? = some u := by simpa using hu2
    exact ⟨u, hru, by simp [part, isAgg_run ha, hu']⟩
  · cases h1


theorem ok_index (c : Cx Q φ s w N E tmps sl) (o : Oper) {t : TypeId} {x i : Operand} (ho : o.op = .index t x i) {co : O} (hc : cOp? Q (.index t x i) = some co)
    (hr : evO call sl co E s K = some r) : Good1 Q φ s w tmps sl K r o := by
  simp only [cOp?] at hc
  split at hc
  · rename_i y j hu hy hj
    cases hc
    simp only [evO] at hr
    split at hr
    · rename_i l k m hv hi
      have hx := cX_R c.env hy
      have hi' := cX_R c.env hj
      rw [hv] at hx
      rw [hi] at hi'
      have hi' := hi'.i_inv
      obtain ⟨t', hx', rfl⟩ := hx.s_inv
      obtain ⟨hb, hr⟩ := bif_some hr
      have h0 : 0 ≤ m := by simpa using hb
      split at hr
      · rename_i ch hch
        have : ∃ b, t'[m.toNat]? = some b ∧ b.toNat = ch := by
          rw [List.getElem?_map] at hch
          obtain ⟨b, hb, rfl⟩ := optMap hch
          refine ⟨b, ?_, rfl⟩
          have : m.toNat < t'.data.size := by
            rcases Nat.lt_or_ge m.toNat t'.data.size with h | h
            · exact h
            · rw [List.getElem?_eq_none (by simpa using h)] at hb; cases hb
          have h2 : m.toNat < t'.size := this
          rw [getElem?_pos t' m.toNat h2]
          have h3 : t'.data[m.toNat]? = some b := by simpa using hb
          rw [Array.getElem?_eq_getElem this] at h3
          exact h3
        obtain ⟨b, hb2, rfl⟩ := this
        exact ⟨_, s, hr, Done.pure c (.i _ _) (by simp [execOp, ho, hx', hi', Instr.index, asIntOf, run_und hu, h0, hb2])⟩
      · cases hr
    · cases hr
  · rename_i len e y j hu hy hj
    split at hc
    · rename_i n one hn h1
      cases hc
      simp only [evO] at hr
      split at hr
      · rename_i l k m hv hi
        have hx := cX_R c.env hy
        have hi' := cX_R c.env hj
        rw [hv] at hx
        rw [hi] at hi'
        have hi' := hi'.i_inv
        obtain ⟨cs, hx', hcs⟩ := hx.a_inv
        obtain ⟨hb, hr⟩ := bif_some hr
        simp only [Bool.and_eq_true, decide_eq_true_eq] at hb
        have : ∃ v, ptV l one (m.toNat * n) = some v ∧ K v s = some r := by
          cases one with
          | none => exact optK_some hr
          | some w => exact ⟨_, rfl, hr⟩
        obtain ⟨v, hv2, hk⟩ := this
        obtain ⟨u, hru, hpu⟩ := part_run h1 hcs hv2 w
        exact ⟨v, s, hk, Done.pure c hru (by simp [execOp, ho, hx', hi', Instr.index, asIntOf, run_und hu, hb, szOf_some hn, hpu])⟩
      · cases hr
    · cases hc
  · cases hc

theorem ok_binOp (c : Cx Q φ s w N E tmps sl) (o : Oper) {op : BinOp} {t t2 : TypeId} {x y : Operand} (ho : o.op = .binOp op t x y t2) {co : O} (hc : cOp? Q (.binOp op t x y t2) = some co)
    (hr : evO call sl co E s K = some r) : Good1 Q φ s w tmps sl K r o := by
  simp only [cOp?] at hc
  split at hc
  · rename_i x' y' hx hy
    have hxR := cX_R c.env hx
    have hyR := cX_R c.env hy
    have plain : co = .bin op x' y' → Good1 Q φ s w tmps sl K r o := by
      rintro rfl
      simp only [evO] at hr
      obtain ⟨v, hv, hk⟩ := optK_some hr
      obtain ⟨u, h1, h2, h3⟩ := bin_run (Q := Q) hxR hyR hv t w
      exact ⟨v, s, hk, Done.pure c h1 (by simp [execOp, ho, h3, h2])⟩
    have eqs : ∀ kd d, Q.underlying t = some d → kindOk kd d → cEq op kd x' y' = some co → Good1 Q φ s w tmps sl K r o := by
      intro kd d hd hk hce
      unfold cEq at hce
      split at hce
      · cases hce
        simp only [evO] at hr
        obtain ⟨e, he, hK⟩ := optK_some hr
        obtain ⟨g1, g2, g3⟩ := eqv_guard (t := t) hxR hyR he
        have := eqvIn_run hd hk hxR hyR he w 9999
        refine ⟨_, s, hK, Done.pure c (.b _) ?_⟩
        simp only [execOp, ho, g1, g2, Sem.run_bind, equal_in, this, Result.andThen_ok, Sem.run_pure]
        simp
      · cases hce
        simp only [evO] at hr
        obtain ⟨e, he, hK⟩ := optK_some hr
        obtain ⟨g1, g2, g3⟩ := eqv_guard (t := t) hxR hyR he
        have := eqvIn_run hd hk hxR hyR he w 9999
        refine ⟨_, s, hK, Done.pure c (.b _) ?_⟩
        simp only [execOp, ho, g1, g3, Sem.run_bind, equal_in, this, Result.andThen_ok, Sem.run_pure]
        simp
      · cases hce
    unfold cBin at hc
    split at hc
    · cases hc; exact plain rfl
    · cases hc; exact plain rfl
    · rename_i hd; exact eqs 0 _ hd trivial hc
    · rename_i hd; exact eqs 1 _ hd trivial hc
    · rename_i hd; exact eqs 2 _ hd trivial hc
    · rename_i hd; exact eqs 3 _ hd trivial hc
    · rename_i hd; exact eqs 4 _ hd trivial hc
    · rename_i fs hd
      split at hc
      · cases hc
      · rename_i hg
        have hg : Q.eqGuardType Q.depth t = false := by simpa using hg
        have go : ∀ neg ks, leaves Q 20 t = some ks → co = .eqa neg ks x' y' → (op = if neg then .neq else .eql) → Good1 Q φ s w tmps sl K r o := by
          rintro neg ks hks rfl hop
          simp only [evO] at hr
          split at hr
          · rename_i l rr hv1 hv2
            obtain ⟨e, he, hK⟩ := optK_some hr
            rw [hv1] at hxR
            rw [hv2] at hyR
            obtain ⟨xs, hx', hxs⟩ := hxR.a_inv
            obtain ⟨ys, hy', hys⟩ := hyR.a_inv
            have := leaves_run 20 t ks hks l rr xs.toList ys.toList e hxs hys he (.agg xs) (.agg ys) (by unfold asT; rw [hd]) (by unfold asT; rw [hd]) 9999 (by omega) w
            refine ⟨_, s, hK, Done.pure c (.b _) ?_⟩
            cases neg
            · simp only [Bool.false_eq_true, if_false] at hop; subst hop
              simp only [execOp, ho, hx', hy', Sem.run_bind, run_eqGuard_agg w _ _ _ _ _ _ hg, run_eql_struct, Result.andThen_ok, Sem.run_pure]
              rw [this]; simp
            · simp only [if_true] at hop; subst hop
              simp only [execOp, ho, hx', hy', Sem.run_bind, run_eqGuard_agg w _ _ _ _ _ _ hg, run_neq_struct, Result.andThen_ok, Sem.run_pure]
              rw [this]; simp
          · cases hr
        split at hc
        · rename_i ks hks; cases hc; exact go false ks hks rfl rfl
        · rename_i ks hks; cases hc; exact go true ks hks rfl rfl
        · cases hc
    · cases hc
  · cases hc

end
end Go.Ev
