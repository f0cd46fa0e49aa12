/- Code: each form of the compact code stands for the model's. -/
import Derived.Test.YthmccpflcpijnaaGreatWEvReg
namespace Go.Ev

def mkD (rr : Nat) : Deferred := { target := .collected rr, args := #[] }

def At (x : J) (k kk : List Item) : Prop :=
  match x with
  | .nrm => k = kk
  | .ret => ∃ k', k = .code .ret :: k'
  | .exit id => ∃ k', k = .code (.exit id) :: k' ∧ exitTo id k' = exitTo id kk

/- the marks of loops over functions, set since -/
def Marks (w0 : World) (φ : Phi) (s : S) (w : World) (rs : List Nat) : Prop :=
  rs.Nodup ∧ ∀ rr ∈ rs, w0.heap.size ≤ rr ∧ rr < w.heap.size ∧ w.heap[rr]? = some (.deferred (some [])) ∧ ¬ Own φ s rr

theorem Marks.nil {w0 : World} {φ : Phi} {s : S} {w : World} : Marks w0 φ s w [] := ⟨.nil, fun _ h => by cases h⟩

theorem Marks.keep {w0 : World} {φ φ' : Phi} {s s' : S} {w w' : World} {rs : List Nat} (h : Marks w0 φ s w rs) (k : Keep φ s w φ' s' w') : Marks w0 φ' s' w' rs :=
  ⟨h.1, fun rr hr => by
    obtain ⟨h1, h2, h3, h4⟩ := h.2 rr hr
    obtain ⟨k1, k2⟩ := k.old rr h2 h4
    exact ⟨h1, Nat.lt_of_lt_of_le h2 k.size, k1.trans h3, k2⟩⟩

theorem Marks.trans {w0 w1 : World} {φ φ1 : Phi} {s s1 : S} {w : World} {rs rs' : List Nat} (h : Marks w0 φ1 s1 w1 rs) (k : Keep φ1 s1 w1 φ s w) (h0 : w0.heap.size ≤ w1.heap.size) (h' : Marks w1 φ s w rs') : Marks w0 φ s w (rs' ++ rs) := by
  have hk := h.keep k
  refine ⟨List.nodup_append.2 ⟨h'.1, hk.1, fun a ha b hb e => ?_⟩, fun rr hr => ?_⟩
  · have h1 := (h'.2 a ha).1
    have h2 := (h.2 b hb).2.1
    subst e
    omega
  · rcases List.mem_append.1 hr with hr | hr
    · obtain ⟨h1, h2⟩ := h'.2 rr hr
      exact ⟨by omega, h2⟩
    · exact hk.2 rr hr

section
variable {Q : Program} {Rr : Type} {call : FV → List V → S → (V → S → Option Rr) → Option Rr} {N : Nat}

def Lands (Q : Program) (N : Nat) (K : J → Env → S → Option Rr) (r : Rr) (φ : Phi) (s : S) (w : World) (tmps : Array Value) (ok : Frame → Prop) (start : List Item → List Item) : Prop :=
  ∃ x E' s' φ' w' tmps' rs, K x E' s' = some r ∧ EnvR φ' N E' tmps' ∧ Sim Q φ' s' w' ∧ Keep φ s w φ' s' w' ∧ DomN φ s φ' ∧ Marks w φ' s' w' rs ∧
    ∀ (b : Frame), ok b → ∀ (dd : List Deferred) (kk : List Item) (cs : List Frame), ∃ k', At x k' kk ∧ Steps Q (lone (Fr b tmps dd (start kk)) cs w) (lone (Fr b tmps' (rs.map mkD ++ dd) k') cs w')

/- steps ahead of it -/
theorem Lands.head {K : J → Env → S → Option Rr} {r : Rr} {φ φ1 : Phi} {s s1 : S} {w w1 : World} {tmps tmps1 : Array Value} {ok : Frame → Prop} {st st1 : List Item → List Item}
    (h : Lands Q N K r φ1 s1 w1 tmps1 ok st1) (k : Keep φ s w φ1 s1 w1) (d : DomN φ s φ1)
    (hst : ∀ (b : Frame), ok b → ∀ (dd : List Deferred) (kk : List Item) (cs : List Frame), Steps Q (lone (Fr b tmps dd (st kk)) cs w) (lone (Fr b tmps1 dd (st1 kk)) cs w1)) : Lands Q N K r φ s w tmps ok st := by
  obtain ⟨x, E', s', φ', w', tmps', rs, h1, h2, h3, h4, h5, h6, h7⟩ := h
  refine ⟨x, E', s', φ', w', tmps', rs, h1, h2, h3, k.trans h4, d.trans k.nx h5, ⟨h6.1, fun rr hr => ?_⟩, fun b hb dd kk cs => ?_⟩
  · obtain ⟨q1, q2⟩ := h6.2 rr hr
    have := k.size
    exact ⟨by omega, q2⟩
  · obtain ⟨k', q1, q2⟩ := h7 b hb dd kk cs
    exact ⟨k', q1, (hst b hb dd kk cs).trans q2⟩

def CodeOk (Q : Program) (N : Nat) (call : FV → List V → S → (V → S → Option Rr) → Option Rr)
    (it : (Env → S → (J → Env → S → Option Rr) → Option Rr) → Env → S → (J → Env → S → Option Rr) → Option Rr) (c : Code) : Prop :=
  ∀ (E : Env) (s : S) (K : J → Env → S → Option Rr) (r : Rr), evC call it (cC Q N c) E s K = some r → ∀ (φ : Phi) (w : World) (tmps : Array Value) (fid : FuncId), EnvR φ N E tmps → Sim Q φ s w →
    Lands Q N K r φ s w tmps (fun b => b.fn = fid ∧ (b.roundOf = none ∨ noRange c = true)) fun kk => .code c :: kk

variable {K : J → Env → S → Option Rr} {r : Rr} {φ : Phi} {E : Env} {s : S} {w : World} {tmps : Array Value} {ok : Frame → Prop}

theorem Lands.here {x : J} {st : List Item → List Item} (he : EnvR φ N E tmps) (hs : Sim Q φ s w) (hr : K x E s = some r)
    (hst : ∀ (b : Frame), ok b → ∀ (dd : List Deferred) (kk : List Item) (cs : List Frame), ∃ k', At x k' kk ∧ Steps Q (lone (Fr b tmps dd (st kk)) cs w) (lone (Fr b tmps dd k') cs w)) : Lands Q N K r φ s w tmps ok st :=
  ⟨x, E, s, φ, w, tmps, [], hr, he, hs, Keep.refl _ _ _, DomN.refl _ _, Marks.nil, fun b hb dd kk cs => by simpa using hst b hb dd kk cs⟩

/- what comes next: the second part starts where the first lands -/
theorem Lands.then {K1 : J → Env → S → Option Rr} {st st1 : List Item → List Item} {okA : Frame → Prop} (h : Lands Q N K1 r φ s w tmps okA st) (hok : ∀ b, ok b → okA b)
    (hn : ∀ x E' s' φ' w' tmps', K1 x E' s' = some r → EnvR φ' N E' tmps' → Sim Q φ' s' w' → ∃ x' E1 s1 φ1 w1 tmps1 rs1, K x' E1 s1 = some r ∧ EnvR φ1 N E1 tmps1 ∧ Sim Q φ1 s1 w1 ∧ Keep φ' s' w' φ1 s1 w1 ∧ DomN φ' s' φ1 ∧ Marks w' φ1 s1 w1 rs1 ∧
      ∀ (b : Frame), ok b → ∀ (dd : List Deferred) (k' kk : List Item) (cs : List Frame), At x k' (st1 kk) → ∃ k2, At x' k2 kk ∧ Steps Q (lone (Fr b tmps' dd k') cs w') (lone (Fr b tmps1 (rs1.map mkD ++ dd) k2) cs w1)) :
    Lands Q N K r φ s w tmps ok fun kk => st (st1 kk) := by
  obtain ⟨x, E', s', φ', w', tmps', rs, h1, h2, h3, h4, h5, h6, h7⟩ := h
  obtain ⟨x', E1, s1, φ1, w1, tmps1, rs1, q1, q2, q3, q4, q5, q6, q7⟩ := hn x E' s' φ' w' tmps' h1 h2 h3
  refine ⟨x', E1, s1, φ1, w1, tmps1, rs1 ++ rs, q1, q2, q3, h4.trans q4, h5.trans h4.nx q5, h6.trans q4 h4.size q6, fun b hb dd kk cs => ?_⟩
  obtain ⟨k', u1, u2⟩ := h7 b (hok b hb) dd (st1 kk) cs
  obtain ⟨k2, u3, u4⟩ := q7 b hb (rs.map mkD ++ dd) k' kk cs u1
  refine ⟨k2, u3, u2.trans ?_⟩
  rw [List.map_append, List.append_assoc]
  exact u4

theorem code_seq {it : (Env → S → (J → Env → S → Option Rr) → Option Rr) → Env → S → (J → Env → S → Option Rr) → Option Rr} {a b : Code} (ha : CodeOk Q N call it a) (hb : CodeOk Q N call it b) : CodeOk Q N call it (.seq a b) := by
  intro E s K r hr φ w tmps fid he hs
  simp only [cC, evC] at hr
  have h := ha E s _ r hr φ w tmps fid he hs
  refine Lands.head (φ1 := φ) (s1 := s) (w1 := w) (tmps1 := tmps) (st1 := fun kk => .code a :: .code b :: kk) ?_ (Keep.refl _ _ _) (DomN.refl _ _) fun fr _ dd kk cs => .one st_seq
  refine Lands.then (st := fun kk => .code a :: kk) (st1 := fun kk => .code b :: kk) h (fun fr hf => hf.imp_right fun h => h.imp_right fun h => by simp [noRange] at h; exact h.1) ?_
  intro x E' s' φ' w' tmps' hK he' hs'
  cases x with
  | nrm =>
    obtain ⟨x', E1, s1, φ1, w1, tmps1, rs1, q1, q2, q3, q4, q5, q6, q7⟩ := hb E' s' K r hK φ' w' tmps' fid he' hs'
    refine ⟨x', E1, s1, φ1, w1, tmps1, rs1, q1, q2, q3, q4, q5, q6, fun fr hf dd k' kk cs hat => ?_⟩
    simp only [At] at hat
    subst hat
    exact q7 fr (hf.imp_right fun h => h.imp_right fun h => by simp [noRange] at h; exact h.2) dd kk cs
  | ret =>
    exact ⟨.ret, E', s', φ', w', tmps', [], hK, he', hs', Keep.refl _ _ _, DomN.refl _ _, Marks.nil, fun fr hf dd k' kk cs hat => ⟨k', hat, .refl _ _⟩⟩
  | exit id =>
    exact ⟨.exit id, E', s', φ', w', tmps', [], hK, he', hs', Keep.refl _ _ _, DomN.refl _ _, Marks.nil, fun fr hf dd k' kk cs hat => ⟨k', hat, .refl _ _⟩⟩

theorem code_block {it : (Env → S → (J → Env → S → Option Rr) → Option Rr) → Env → S → (J → Env → S → Option Rr) → Option Rr} {id : Nat} {a : Code} (ha : CodeOk Q N call it a) : CodeOk Q N call it (.block id a) := by
  intro E s K r hr φ w tmps fid he hs
  simp only [cC, evC] at hr
  have h := ha E s _ r hr φ w tmps fid he hs
  refine Lands.head (φ1 := φ) (s1 := s) (w1 := w) (tmps1 := tmps) (st1 := fun kk => .code a :: .inBlock id :: kk) ?_ (Keep.refl _ _ _) (DomN.refl _ _) fun fr _ dd kk cs => .one st_block
  refine Lands.then (st := fun kk => .code a :: kk) (st1 := fun kk => .inBlock id :: kk) h (fun fr hf => hf.imp_right fun h => h.imp_right fun h => by simpa [noRange] using h) ?_
  intro x E' s' φ' w' tmps' hK he' hs'
  cases x with
  | nrm =>
    refine ⟨.nrm, E', s', φ', w', tmps', [], hK, he', hs', Keep.refl _ _ _, DomN.refl _ _, Marks.nil, fun fr hf dd k' kk cs hat => ⟨kk, rfl, ?_⟩⟩
    simp only [At] at hat
    subst hat
    exact .one st_inBlock
  | ret =>
    exact ⟨.ret, E', s', φ', w', tmps', [], hK, he', hs', Keep.refl _ _ _, DomN.refl _ _, Marks.nil, fun fr hf dd k' kk cs hat => ⟨k', hat, .refl _ _⟩⟩
  | exit j =>
    simp only at hK
    cases e : Nat.beq j id with
    | true =>
      rw [e, cond_true] at hK
      have := Nat.eq_of_beq_eq_true e; subst this
      refine ⟨.nrm, E', s', φ', w', tmps', [], hK, he', hs', Keep.refl _ _ _, DomN.refl _ _, Marks.nil, fun fr hf dd k' kk cs hat => ⟨kk, rfl, ?_⟩⟩
      obtain ⟨k2, rfl, h2⟩ := hat
      exact .one (st_exit (h2.trans (by simp [exitTo])))
    | false =>
      rw [e, cond_false] at hK
      refine ⟨.exit j, E', s', φ', w', tmps', [], hK, he', hs', Keep.refl _ _ _, DomN.refl _ _, Marks.nil, fun fr hf dd k' kk cs hat => ⟨k', ?_, .refl _ _⟩⟩
      obtain ⟨k2, h1, h2⟩ := hat
      refine ⟨k2, h1, h2.trans ?_⟩
      have : ¬ id = j := fun x => by subst x; simp [Nat.beq_refl] at e
      simp [exitTo, this]

theorem code_loop {n : Nat} {a : Code} (ha : CodeOk Q N call (iter n) a) : CodeOk Q N call (iter n) (.loop a) := by
  intro E s K r hr φ w tmps fid he hs
  simp only [cC, evC] at hr
  have main : ∀ (m : Nat) (E : Env) (s : S) (φ : Phi) (w : World) (tmps : Array Value), iter m (fun E s k => evC call (iter n) (cC Q N a) E s k) E s K = some r → EnvR φ N E tmps → Sim Q φ s w →
      Lands Q N K r φ s w tmps (fun b => b.fn = fid ∧ (b.roundOf = none ∨ noRange (.loop a) = true)) fun kk => .code a :: .inLoop a :: kk := by
    intro m
    induction m with
    | zero => intro E s φ w tmps hr; simp [iter] at hr
    | succ m ih =>
      intro E s φ w tmps hr he hs
      simp only [iter] at hr
      have h := ha E s _ r hr φ w tmps fid he hs
      refine Lands.then (st := fun kk => .code a :: kk) (st1 := fun kk => .inLoop a :: kk) h (fun fr hf => hf.imp_right fun h => h.imp_right fun h => by simpa [noRange] using h) ?_
      intro x E' s' φ' w' tmps' hK he' hs'
      cases x with
      | nrm =>
        obtain ⟨x', E1, s1, φ1, w1, tmps1, rs1, q1, q2, q3, q4, q5, q6, q7⟩ := ih E' s' φ' w' tmps' hK he' hs'
        refine ⟨x', E1, s1, φ1, w1, tmps1, rs1, q1, q2, q3, q4, q5, q6, fun fr hf dd k' kk cs hat => ?_⟩
        simp only [At] at hat
        subst hat
        obtain ⟨k2, u1, u2⟩ := q7 fr hf dd kk cs
        exact ⟨k2, u1, .head st_inLoop u2⟩
      | ret =>
        exact ⟨.ret, E', s', φ', w', tmps', [], hK, he', hs', Keep.refl _ _ _, DomN.refl _ _, Marks.nil, fun fr hf dd k' kk cs hat => ⟨k', hat, .refl _ _⟩⟩
      | exit j =>
        refine ⟨.exit j, E', s', φ', w', tmps', [], hK, he', hs', Keep.refl _ _ _, DomN.refl _ _, Marks.nil, fun fr hf dd k' kk cs hat => ⟨k', ?_, .refl _ _⟩⟩
        obtain ⟨k2, h1, h2⟩ := hat
        exact ⟨k2, h1, h2.trans (by simp [exitTo])⟩
  exact Lands.head (φ1 := φ) (s1 := s) (w1 := w) (tmps1 := tmps) (main n E s φ w tmps hr he hs) (Keep.refl _ _ _) (DomN.refl _ _) fun fr _ dd kk cs => .one st_loop

theorem code_region (hm : Q.follows .mixedOrders = true) (hcall : CallOk Q call) {it : (Env → S → (J → Env → S → Option Rr) → Option Rr) → Env → S → (J → Env → S → Option Rr) → Option Rr} {id : Nat} {ops : Array Oper} {d : Bool} :
    CodeOk Q N call it (.region id ops d) := by
  intro E s K r hr φ w tmps fid he hs
  simp only [cC] at hr
  cases d with
  | false =>
    obtain ⟨os, hos⟩ : ∃ os, cRegion Q N ops false = .reg os := ⟨_, by simp [cRegion]; rfl⟩
    rw [hos] at hr
    simp only [evC] at hr
    obtain ⟨E', s', φ', w', tmps', k1, k2, k3, k4, k5, k6⟩ := reg_ok hcall hos he hs hr
    exact ⟨.nrm, E', s', φ', w', tmps', [], k1, k2, k3, k4, k5, Marks.nil, fun fr _ dd kk cs => ⟨kk, rfl, .head st_region (k6 fr dd kk cs)⟩⟩
  | true =>
    by_cases hf : cRegion Q N ops true = .fail
    · rw [hf] at hr; simp [evC] at hr
    · obtain ⟨ds, ws, _, _, hd⟩ := region_wf rfl hf
      rw [hd] at hr
      simp only [evC] at hr
      have hsd : Sim Q φ s w.drew := Sim.of_heap (w := w) rfl hs
      have hk0 : Keep φ s w φ s w.drew := Keep.of_heap rfl rfl rfl rfl
      obtain ⟨E', s', φ', w', tmps', k1, k2, k3, k4, k5, k6⟩ := dreg_ok hm hcall hd he hsd hr (w.tape w.drawn (.order fid id))
      refine ⟨.nrm, E', s', φ', w', tmps', [], k1, k2, k3, hk0.trans k4, k5, Marks.nil, fun fr hf dd kk cs => ⟨kk, rfl, .head st_region_draw ?_⟩⟩
      rw [hf.1]
      exact k6 fr dd kk cs

end
end Go.Ev
