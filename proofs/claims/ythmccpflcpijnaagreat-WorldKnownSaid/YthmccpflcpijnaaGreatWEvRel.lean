/- How the evaluator's values and heap stand to the model's: the relation, and what it keeps. -/
import Derived.Test.YthmccpflcpijnaaGreatWEvComp
import Derived.Below
namespace Go.Ev

/- where a block of the evaluator lies in the model's heap: a block, and the cells of it that are its own -/
structure Pl where
  blk : Nat
  off : Nat
  fin : Nat

abbrev Phi := Nat → Option Pl

inductive RF (φ : Phi) : FV → Fn → Prop
  | fn (g : Nat) : RF φ (.fn g) (.func g)
  | yld (l : Nat) (pl : Pl) (h : φ l = some pl) : RF φ (.yld l) (.yield pl.blk)

mutual
inductive R (φ : Phi) : V → Value → Prop
  | b (x : Bool) : R φ (.b x) (.bool x)
  | i (k : IntKind) (n : Int) : R φ (.i k n) (.int k n)
  | s (l : List Nat) (t : ByteArray) (h : t.data.toList.map (·.toNat) = l) : R φ (.s l) (.string t)
  | p (blk off : Nat) (pl : Pl) (h : φ blk = some pl) : R φ (.p blk off) (.pointer (some ⟨pl.blk, pl.off + off, none⟩))
  | np : R φ .np (.pointer none)
  | sl (sz blk off len cap : Nat) (ex : Bool) (pl : Pl) (ad : Addr) (c : Nat) (h : φ blk = some pl) (hc : cap ≤ c) (hx : ex = true → c = cap) (hl : len ≤ cap)
      (hp : 0 < c → ad = ⟨pl.blk, pl.off + off, none⟩ ∧ pl.off + off + c * sz ≤ pl.fin) : R φ (.sl sz blk off len cap ex) (.slice (some ad) len c)
  | nsl : R φ .nsl (.slice none 0 0)
  | m (blk : Nat) (pl : Pl) (h : φ blk = some pl) : R φ (.m blk) (.map (some pl.blk))
  | nm : R φ .nm (.map none)
  | f (g : FV) (fn : Fn) (first cap : List V) (a c : Array Value) (h : RF φ g fn) (ha : Rs φ first a.toList) (hc : Rs φ cap c.toList) : R φ (.f g first cap) (.func fn a c)
  | nf : R φ .nf .nilFunc
  | ifc (t : Nat) (v : V) (u : Value) (h : R φ v u) : R φ (.ifc t v) (.iface t u)
  | ni : R φ .ni .nilIface
  | a (l : List V) (cs : Array Value) (h : Rs φ l cs.toList) : R φ (.a l) (.agg cs)
  | tup (l : List V) (cs : Array Value) (h : Rs φ l cs.toList) : R φ (.tup l) (.tuple cs)
inductive Rs (φ : Phi) : List V → List Value → Prop
  | nil : Rs φ [] []
  | cons (v : V) (u : Value) (l : List V) (r : List Value) (h : R φ v u) (t : Rs φ l r) : Rs φ (v :: l) (u :: r)
end

def Ext (φ φ' : Phi) : Prop := ∀ b pl, φ b = some pl → φ' b = some pl
theorem Ext.refl (φ : Phi) : Ext φ φ := fun _ _ h => h
theorem Ext.trans {φ φ' φ'' : Phi} (h : Ext φ φ') (k : Ext φ' φ'') : Ext φ φ'' := fun b pl e => k b pl (h b pl e)

theorem RF.mono {φ φ' : Phi} (e : Ext φ φ') {g : FV} {f : Fn} (h : RF φ g f) : RF φ' g f := by
  cases h with
  | fn g => exact .fn g
  | yld l pl h => exact .yld l pl (e _ _ h)

mutual
theorem R.mono {φ φ' : Phi} (e : Ext φ φ') {v : V} {u : Value} (h : R φ v u) : R φ' v u := by
  cases h with
  | b x => exact .b x
  | i k n => exact .i k n
  | s l t h => exact .s l t h
  | p blk off pl h => exact .p blk off pl (e _ _ h)
  | np => exact .np
  | sl sz blk off len cap ex pl ad c h hc hx hl hp => exact .sl sz blk off len cap ex pl ad c (e _ _ h) hc hx hl hp
  | nsl => exact .nsl
  | m blk pl h => exact .m blk pl (e _ _ h)
  | nm => exact .nm
  | f g fn first cap a c h ha hc => exact .f g fn first cap a c (h.mono e) (ha.mono e) (hc.mono e)
  | nf => exact .nf
  | ifc t v u h => exact .ifc t v u (h.mono e)
  | ni => exact .ni
  | a l cs h => exact .a l cs (h.mono e)
  | tup l cs h => exact .tup l cs (h.mono e)
theorem Rs.mono {φ φ' : Phi} (e : Ext φ φ') {v : List V} {u : List Value} (h : Rs φ v u) : Rs φ' v u := by
  cases h with
  | nil => exact .nil
  | cons v u l r h t => exact .cons v u l r (h.mono e) (t.mono e)
end

theorem Rs.length {φ : Phi} : ∀ {l : List V} {r : List Value}, Rs φ l r → l.length = r.length
  | _, _, .nil => rfl
  | _, _, .cons _ _ _ _ _ t => by simp [t.length]

theorem Rs.append {φ : Phi} : ∀ {l l' : List V} {r r' : List Value}, Rs φ l r → Rs φ l' r' → Rs φ (l ++ l') (r ++ r')
  | _, _, _, _, .nil, h => h
  | _, _, _, _, .cons v u l r hv t, h => .cons v u _ _ hv (t.append h)

theorem Rs.get {φ : Phi} : ∀ {l : List V} {r : List Value}, Rs φ l r → ∀ (i : Nat) (v : V), l[i]? = some v → ∃ u, r[i]? = some u ∧ R φ v u
  | _, _, .nil, i, v, h => by simp at h
  | _, _, .cons v u l r hv t, 0, w, h => by simp at h; subst h; exact ⟨u, by simp, hv⟩
  | _, _, .cons v u l r hv t, i + 1, w, h => by
    simp at h
    obtain ⟨u', h1, h2⟩ := t.get i w h
    exact ⟨u', by simpa using h1, h2⟩

theorem Rs.of_get {φ : Phi} : ∀ {l : List V} {r : List Value}, l.length = r.length → (∀ (i : Nat) (v : V) (u : Value), l[i]? = some v → r[i]? = some u → R φ v u) → Rs φ l r
  | [], [], _, _ => .nil
  | v :: l, u :: r, hl, h => .cons v u l r (h 0 v u (by simp) (by simp)) (Rs.of_get (by simpa using hl) fun i a b ha hb => h (i + 1) a b (by simpa using ha) (by simpa using hb))
  | [], _ :: _, hl, _ => by simp at hl
  | _ :: _, [], hl, _ => by simp at hl

theorem Rs.take {φ : Phi} {l : List V} {r : List Value} (h : Rs φ l r) (n : Nat) : Rs φ (l.take n) (r.take n) := by
  refine Rs.of_get (by simp [h.length]) fun i v u hv hu => ?_
  rw [List.getElem?_take] at hv hu
  split at hv
  · rename_i hi
    rw [if_pos hi] at hu
    obtain ⟨u', h1, h2⟩ := h.get i v hv
    rw [h1] at hu; cases hu; exact h2
  · cases hv
theorem Rs.drop {φ : Phi} {l : List V} {r : List Value} (h : Rs φ l r) (n : Nat) : Rs φ (l.drop n) (r.drop n) := by
  refine Rs.of_get (by simp [h.length]) fun i v u hv hu => ?_
  rw [List.getElem?_drop] at hv hu
  obtain ⟨u', h1, h2⟩ := h.get _ v hv
  rw [h1] at hu; cases hu; exact h2

theorem beqf {a b : Nat} (h : a ≠ b) : Nat.beq a b = false := by
  cases e : Nat.beq a b with
  | false => rfl
  | true => exact absurd (Nat.eq_of_beq_eq_true e) h
theorem beqt {a b : Nat} (h : a = b) : Nat.beq a b = true := by subst h; exact Nat.beq_refl a

/- the heap's tree -/
theorem H.get_putF : ∀ (f : Nat) (h : H) (k : Nat) (o : Obj) (j : Nat), k < f → (H.putF f h k o).get j = if j = k then some o else h.get j := by
  intro f
  induction f with
  | zero => intro h k o j hk; omega
  | succ f ih =>
    intro h k o j hk
    have key : ∀ (l : H) (v : Option Obj) (r : H), ((bif Nat.beq k 0 then H.n l (some o) r else bif Nat.beq (k % 2) 1 then .n (H.putF f l (k / 2) o) v r else .n l v (H.putF f r (k / 2 - 1) o)).get j) =
        if j = k then some o else (H.n l v r).get j := by
      intro l v r
      by_cases h0 : k = 0
      · subst h0
        simp only [Nat.beq, cond_true, H.get]
        by_cases hj : j = 0
        · subst hj; simp [Nat.beq]
        · have : Nat.beq j 0 = false := beqf hj
          simp [this, hj]
      · have hk0 : Nat.beq k 0 = false := beqf h0
        by_cases h1 : k % 2 = 1
        · have hk1 : Nat.beq (k % 2) 1 = true := beqt h1
          simp only [hk0, hk1, cond_false, cond_true, H.get]
          by_cases hj : j = 0
          · subst hj
            have : ¬ (0 = k) := fun e => h0 e.symm
            simp [Nat.beq, this]
          · have hj0 : Nat.beq j 0 = false := beqf hj
            by_cases hj1 : j % 2 = 1
            · have hjb : Nat.beq (j % 2) 1 = true := beqt hj1
              simp only [hj0, hjb, cond_false, cond_true]
              rw [ih _ _ _ _ (by omega)]
              have : (j / 2 = k / 2) ↔ (j = k) := by omega
              simp [this]
            · have hjb : Nat.beq (j % 2) 1 = false := beqf hj1
              have : ¬ j = k := by intro e; subst e; exact hj1 h1
              simp [hj0, hjb, this]
        · have hk1 : Nat.beq (k % 2) 1 = false := beqf h1
          simp only [hk0, hk1, cond_false, H.get]
          by_cases hj : j = 0
          · subst hj
            have : ¬ (0 = k) := fun e => h0 e.symm
            simp [Nat.beq, this]
          · have hj0 : Nat.beq j 0 = false := beqf hj
            by_cases hj1 : j % 2 = 1
            · have hjb : Nat.beq (j % 2) 1 = true := beqt hj1
              have : ¬ j = k := by intro e; subst e; exact h1 hj1
              simp [hj0, hjb, this]
            · have hjb : Nat.beq (j % 2) 1 = false := beqf hj1
              simp only [hj0, hjb, cond_false]
              rw [ih _ _ _ _ (by omega)]
              have : (j / 2 - 1 = k / 2 - 1) ↔ (j = k) := by omega
              simp [this]
    cases h with
    | e =>
      have := key .e none .e
      simp only [H.putF]
      have e2 : ∀ j, (H.n .e none .e).get j = H.e.get j := by intro j; simp only [H.get]; cases Nat.beq j 0 <;> simp
      rw [e2] at this
      exact this
    | n l v r => exact key l v r

theorem S.get_put (s : S) (k : Nat) (o : Obj) (j : Nat) : (s.put k o).get j = if j = k then some o else s.get j := H.get_putF _ _ _ _ _ (Nat.lt_succ_self k)
theorem S.get_new (s : S) (slot : Option Nat) (o : Obj) (j : Nat) : (s.new slot o).get j = if j = s.newAt slot then some o else s.get j := by
  cases slot <;> exact H.get_putF _ _ _ _ _ (Nat.lt_succ_self _)
theorem S.nx_put (s : S) (k : Nat) (o : Obj) : (s.put k o).nx = s.nx := rfl
theorem S.nx_new (s : S) (slot : Option Nat) (o : Obj) : s.nx ≤ (s.new slot o).nx := by cases slot <;> simp [S.new]

/- temporaries -/
theorem blef {a b : Nat} (h : b < a) : Nat.ble a b = false := by
  cases e : Nat.ble a b with
  | false => rfl
  | true => exact absurd (Nat.le_of_ble_eq_true e) (by omega)
theorem P.ofFuel_eq : ∀ f n, 0 < n → n < f → P.ofFuel f n = if n = 1 then .h else if n % 2 = 1 then .i (P.ofFuel (f - 1) (n / 2)) else .o (P.ofFuel (f - 1) (n / 2)) := by
  intro f n h0 hf
  cases f with
  | zero => omega
  | succ f =>
    rw [Nat.add_sub_cancel]
    simp only [P.ofFuel]
    by_cases h1 : n = 1
    · subst h1; rfl
    · rw [blef (by omega : 1 < n), cond_false, if_neg h1]
      by_cases h2 : n % 2 = 1
      · rw [beqt h2, if_pos h2, cond_true]
      · rw [beqf h2, if_neg h2, cond_false]

theorem P.ofFuel_inj : ∀ f n g m, 0 < n → 0 < m → n < f → m < g → P.ofFuel f n = P.ofFuel g m → n = m := by
  intro f
  induction f with
  | zero => intro n g m _ _ h; omega
  | succ f ih =>
    intro n g m hn hm hf hg h
    rw [P.ofFuel_eq _ _ hn hf, P.ofFuel_eq _ _ hm hg] at h
    simp only [Nat.add_sub_cancel] at h
    by_cases h1 : n = 1 <;> by_cases h2 : m = 1 <;> simp only [h1, h2, if_true, if_false] at h
    · omega
    · split at h <;> cases h
    · split at h <;> cases h
    · by_cases h3 : n % 2 = 1 <;> by_cases h4 : m % 2 = 1 <;> simp only [h3, h4, if_true, if_false] at h
      · injection h with h
        have := ih (n / 2) (g - 1) (m / 2) (by omega) (by omega) (by omega) (by omega) h
        omega
      · cases h
      · cases h
      · injection h with h
        have := ih (n / 2) (g - 1) (m / 2) (by omega) (by omega) (by omega) (by omega) h
        omega

theorem P.of_inj {t u : Nat} (h : P.of t = P.of u) : t = u := by
  have := P.ofFuel_inj (t + 2) (t + 1) (u + 2) (u + 1) (by omega) (by omega) (by omega) (by omega) h
  omega

theorem Env.get_e : ∀ p, Env.get p .e = undef := by intro p; cases p <;> rfl
theorem Env.get_set : ∀ (p q : P) (v : V) (E : Env), Env.get q (Env.set p v E) = if q = p then v else Env.get q E := by
  intro p
  induction p with
  | h =>
    intro q v E
    cases E <;> cases q <;> simp [Env.set, Env.get, Env.get_e]
  | o p ih =>
    intro q v E
    cases E <;> cases q <;> simp [Env.set, Env.get, Env.get_e, ih]
  | i p ih =>
    intro q v E
    cases E <;> cases q <;> simp [Env.set, Env.get, Env.get_e, ih]

end Go.Ev
