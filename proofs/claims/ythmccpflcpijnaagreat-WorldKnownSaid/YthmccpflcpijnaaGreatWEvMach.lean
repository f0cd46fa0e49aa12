/- The machine's steps, in a frame of whatever kind. -/
import Derived.Test.YthmccpflcpijnaaGreatWEvOp7
namespace Go.Ev

def Fr (b : Frame) (tmps : Array Value) (ds : List Deferred) (todo : List Item) : Frame := { b with tmps, todo, defers := ds, mode := .run }

theorem Fr_eval (b : Frame) (tmps : Array Value) (ds : List Deferred) (todo : List Item) : (Fr b tmps ds todo).eval = opv tmps := by
  funext x; cases x <;> rfl

def putA (tmps : Array Value) (d : Option Tmp) (v : Value) : Array Value :=
  match d with
  | some d => tmps.setIfInBounds d v
  | none => tmps

section
variable {P : Program} {b : Frame} {tmps : Array Value} {ds : List Deferred} {k : List Item} {cs : List Frame} {w : World}

theorem Fr_finish (ops : Array Oper) (i : Nat) (rest : List Nat) (v : Value) {o : Oper} (ho : ops[i]? = some o) :
    (Fr b tmps ds (.inRegion ops (i :: rest) :: k)).finish v = Fr b (putA tmps o.dst v) ds (.inRegion ops rest :: k) := by
  cases h : o.dst <;> simp [Frame.finish, Fr, ho, h, putA]

theorem st_skip : step P (lone (Fr b tmps ds (.code .skip :: k)) cs w) = .next (lone (Fr b tmps ds k) cs w) :=
  step_lone_go (by simp [stepG, stepG.exec, Fr])
theorem st_label {l : Nat} : step P (lone (Fr b tmps ds (.code (.label l) :: k)) cs w) = .next (lone (Fr b tmps ds k) cs w) :=
  step_lone_go (by simp [stepG, stepG.exec, Fr])
theorem st_inBlock {id : Nat} : step P (lone (Fr b tmps ds (.inBlock id :: k)) cs w) = .next (lone (Fr b tmps ds k) cs w) :=
  step_lone_go (by simp [stepG, stepG.exec, Fr])
theorem st_inScope {c : Code} : step P (lone (Fr b tmps ds (.inScope c :: k)) cs w) = .next (lone (Fr b tmps ds k) cs w) :=
  step_lone_go (by simp [stepG, stepG.exec, Fr])
theorem st_seq {x y : Code} : step P (lone (Fr b tmps ds (.code (.seq x y) :: k)) cs w) = .next (lone (Fr b tmps ds (.code x :: .code y :: k)) cs w) :=
  step_lone_go (by simp [stepG, stepG.exec, Fr])
theorem st_cond {c : Operand} {x y : Code} {t : Bool} (h : opv tmps c = .bool t) :
    step P (lone (Fr b tmps ds (.code (.cond c x y) :: k)) cs w) = .next (lone (Fr b tmps ds (.code (if t then x else y) :: k)) cs w) :=
  step_lone_go (by
    have := congrFun (Fr_eval b tmps ds (.code (.cond c x y) :: k)) c
    simp only [Fr] at this
    simp [stepG, stepG.exec, Fr, this, h])
theorem st_block {id : Nat} {c : Code} : step P (lone (Fr b tmps ds (.code (.block id c) :: k)) cs w) = .next (lone (Fr b tmps ds (.code c :: .inBlock id :: k)) cs w) :=
  step_lone_go (by simp [stepG, stepG.exec, Fr])
theorem st_loop {c : Code} : step P (lone (Fr b tmps ds (.code (.loop c) :: k)) cs w) = .next (lone (Fr b tmps ds (.code c :: .inLoop c :: k)) cs w) :=
  step_lone_go (by simp [stepG, stepG.exec, Fr])
theorem st_inLoop {c : Code} : step P (lone (Fr b tmps ds (.inLoop c :: k)) cs w) = .next (lone (Fr b tmps ds (.code c :: .inLoop c :: k)) cs w) :=
  step_lone_go (by simp [stepG, stepG.exec, Fr])
theorem st_scope {c : Code} : step P (lone (Fr b tmps ds (.code (.scope c) :: k)) cs w) = .next (lone (Fr b tmps ds (.code c :: .inScope c :: k)) cs w) :=
  step_lone_go (by simp [stepG, stepG.exec, Fr])
theorem st_exit {id : Nat} {k' : List Item} (h : exitTo id k = some k') : step P (lone (Fr b tmps ds (.code (.exit id) :: k)) cs w) = .next (lone (Fr b tmps ds k') cs w) :=
  step_lone_go (by simp [stepG, stepG.exec, Fr, h])
theorem st_region {id : Nat} {ops : Array Oper} : step P (lone (Fr b tmps ds (.code (.region id ops false) :: k)) cs w) = .next (lone (Fr b tmps ds (.inRegion ops (List.range ops.size) :: k)) cs w) :=
  step_lone_go (by simp [stepG, stepG.exec, Fr])
theorem st_region_draw {id : Nat} {ops : Array Oper} :
    step P (lone (Fr b tmps ds (.code (.region id ops true) :: k)) cs w) =
      .next (lone (Fr b tmps ds (.inRegion ops (Region.schedule (P.follows .mixedOrders) ops (w.tape w.drawn (.order b.fn id))) :: k)) cs w.drew) :=
  step_lone_go (by simp [stepG, stepG.exec, Fr, choose, Sem.run, Question.forced, Question.cut])
theorem st_region_end {ops : Array Oper} : step P (lone (Fr b tmps ds (.inRegion ops [] :: k)) cs w) = .next (lone (Fr b tmps ds k) cs w) :=
  step_lone_go (by simp [stepG, stepG.exec, Fr])
theorem st_ret (h : b.roundOf = none) : step P (lone (Fr b tmps ds (.code .ret :: k)) cs w) = .next (lone { Fr b tmps ds (.code .ret :: k) with mode := .returning } cs w) :=
  step_lone_go (by simp [stepG, stepG.exec, Fr, h])
theorem st_end (h : b.roundOf = none) : step P (lone (Fr b tmps ds []) cs w) = .next (lone { Fr b tmps ds [] with mode := .returning } cs w) :=
  step_lone_go (by simp [stepG, stepG.exec, Fr, h])

theorem st_unwanted {ops : Array Oper} {i : Nat} {rest : List Nat} {o : Oper} (ho : ops[i]? = some o) (h : Region.wanted o (yielded ops tmps) = false) :
    step P (lone (Fr b tmps ds (.inRegion ops (i :: rest) :: k)) cs w) = .next (lone (Fr b (putA tmps o.dst Go.undef) ds (.inRegion ops rest :: k)) cs w) := by
  rw [← Fr_finish (b := b) (tmps := tmps) (ds := ds) (k := k) ops i rest Go.undef ho]
  exact step_lone_go (by simp [stepG, stepG.exec, Fr, ho, h])

theorem st_oper {ops : Array Oper} {i : Nat} {rest : List Nat} {o : Oper} (ho : ops[i]? = some o) (hw : Region.wanted o (yielded ops tmps) = true) (hnd : ∀ c, o.op ≠ .defer c) :
    stepG P true { frame := Fr b tmps ds (.inRegion ops (i :: rest) :: k), callers := cs, status := .running, dying := none } w =
      stepG.apply P true (Fr b tmps ds (.inRegion ops (i :: rest) :: k)) cs none (execOp (opv tmps) o) w := by
  have he := Fr_eval b tmps ds (.inRegion ops (i :: rest) :: k)
  simp only [Fr] at he
  simp only [stepG, stepG.exec, stepG.oper, Frame.oper?, Fr, ho, Option.map_some, Option.getD_some, hw, if_true, he]
  split
  · rename_i l c h1 h2; exact absurd h2 (hnd c)
  · rfl

theorem st_value {ops : Array Oper} {i : Nat} {rest : List Nat} {o : Oper} (ho : ops[i]? = some o) (hw : Region.wanted o (yielded ops tmps) = true) (hnd : ∀ c, o.op ≠ .defer c) {v : Value} {w' : World}
    (hr : (execOp (opv tmps) o).run P w = .ok (.value v) w') :
    step P (lone (Fr b tmps ds (.inRegion ops (i :: rest) :: k)) cs w) = .next (lone (Fr b (putA tmps o.dst v) ds (.inRegion ops rest :: k)) cs w') := by
  rw [← Fr_finish (b := b) (tmps := tmps) (ds := ds) (k := k) ops i rest v ho]
  exact step_lone_go (by rw [st_oper ho hw hnd]; simp [stepG.apply, hr])

theorem st_skipped {ops : Array Oper} {i : Nat} {rest : List Nat} {o : Oper} (ho : ops[i]? = some o) (hw : Region.wanted o (yielded ops tmps) = true) (hnd : ∀ c, o.op ≠ .defer c) {w' : World}
    (hr : (execOp (opv tmps) o).run P w = .ok .skip w') :
    step P (lone (Fr b tmps ds (.inRegion ops (i :: rest) :: k)) cs w) = .next (lone (Fr b (putA tmps o.dst Go.undef) ds (.inRegion ops rest :: k)) cs w') := by
  rw [← Fr_finish (b := b) (tmps := tmps) (ds := ds) (k := k) ops i rest Go.undef ho]
  exact step_lone_go (by rw [st_oper ho hw hnd]; simp [stepG.apply, hr])

theorem st_enter {ops : Array Oper} {i : Nat} {rest : List Nat} {o : Oper} (ho : ops[i]? = some o) (hw : Region.wanted o (yielded ops tmps) = true) (hnd : ∀ c, o.op ≠ .defer c) {f : FuncId} {args : Array Value} {w' : World}
    (hr : (execOp (opv tmps) o).run P w = .ok (.enter f args) w') :
    step P (lone (Fr b tmps ds (.inRegion ops (i :: rest) :: k)) cs w) = .next (lone (Frame.enter P f args .normal) (Fr b tmps ds (.inRegion ops (i :: rest) :: k) :: cs) w') :=
  step_lone_go (by rw [st_oper ho hw hnd]; simp [stepG.apply, hr, Fr])

theorem st_round {ops : Array Oper} {i : Nat} {rest : List Nat} {o : Oper} (ho : ops[i]? = some o) (hw : Region.wanted o (yielded ops tmps) = true) (hnd : ∀ c, o.op ≠ .defer c) {l : Nat} {f : FuncId} {ts : Array Value} {x y : Code} {w' : World}
    (hr : (execOp (opv tmps) o).run P w = .ok (.round l f ts x y) w') :
    step P (lone (Fr b tmps ds (.inRegion ops (i :: rest) :: k)) cs w) = .next (lone (Frame.round l f ts x y .normal) (Fr b tmps ds (.inRegion ops (i :: rest) :: k) :: cs) w') :=
  step_lone_go (by rw [st_oper ho hw hnd]; simp [stepG.apply, hr, Fr])

end
end Go.Ev
