/- From the model's code to the compact form. It proves nothing by itself. -/
import Derived.Test.YthmccpflcpijnaaGreatWEvCore
import GoSem.Core.Region
import GoSem.Core.Layout
import GoSem.Op.Equal
import GoSem.Extern.Table
namespace Go.Ev

def cv1 : Value → Option V
  | .bool b => some (.b b)
  | .int k n => some (.i k n)
  | .string s => some (.s (s.data.toList.map (·.toNat)))
  | .pointer none => some .np
  | .slice none 0 0 => some .nsl
  | .map none => some .nm
  | .nilFunc => some .nf
  | .nilIface => some .ni
  | _ => none

def cvs : List Value → Option (List V)
  | [] => some []
  | v :: l => match cv1 v, cvs l with
    | some u, some r => some (u :: r)
    | _, _ => none

def cv : Value → Option V
  | .agg cs => (cvs cs.toList).map .a
  | .tuple cs => (cvs cs.toList).map .tup
  | v => cv1 v

def cX : Operand → Option X
  | .tmp t => some (.t (P.of t))
  | .const v => (cv v).map .c
  | .global _ => none
  | .func f => some (.c (.f (.fn f) [] []))

def cXs : List Operand → Option (List X)
  | [] => some []
  | x :: l => match cX x, cXs l with
    | some y, some r => some (y :: r)
    | _, _ => none

def cXo : Option Operand → Option (Option X)
  | none => some none
  | some x => (cX x).map some

section
variable (Q : Program)

def szOf (t : TypeId) : Option Nat := (Q.info? t).map (·.size)
def bytesOfT (t : TypeId) : Option Nat := (Q.info? t).map (·.bytes)
def aggT (t : TypeId) : Option Bool := (Q.underlying t).map fun | .struct _ | .array _ _ => true | _ => false
/- none: one cell; some n: n cells as one -/
def shapeT (t : TypeId) : Option (Option Nat) :=
  match aggT Q t with
  | some true => (szOf Q t).map some
  | some false => some none
  | none => none
def zeroT (t : TypeId) : Option V := ((Q.info? t).bind (·.zero)).bind cv

def isIntT (t : TypeId) : Bool := match Q.underlying t with | some (.int _) => true | _ => false

def leavesF (leaves : TypeId → Option (List Nat)) : Nat → List Field → Option (List Nat)
  | _, [] => some []
  | acc, f :: fs =>
    if f.name = "_" ∨ f.offset ≠ acc then none else
    match leaves f.type with
    | some ks => match leavesF leaves (acc + ks.length) fs with
      | some r => some (ks ++ r)
      | none => none
    | none => none

/- the kinds of the cells, all of them bools (0), numbers (1) or strings (2), none left out by its name, field behind field -/
def leaves : Nat → TypeId → Option (List Nat)
  | 0, _ => none
  | n + 1, t => match Q.underlying t with
    | some .bool => some [0]
    | some (.int _) => some [1]
    | some .string => some [2]
    | some (.struct fs) =>
      if Q.stoodInHeld t then none else
      match leavesF (leaves n) 0 fs.toList with
      | some ks => if szOf Q t = some ks.length then some ks else none
      | none => none
    | _ => none

def cParts (place : Nat → Option (Nat × Nat)) : List (Nat × Operand) → Option (List (Nat × Nat × X))
  | [] => some []
  | (i, x) :: l => match place i, cX x, cParts place l with
    | some (off, n), some y, some r => some ((off, n, y) :: r)
    | _, _, _ => none

def placesOf (fs : Array Field) : Option (List (Nat × Nat)) :=
  fs.toList.foldr (fun f r => match r, szOf Q f.type with | some l, some n => some ((f.offset, n) :: l) | _, _ => none) (some [])

def invTbl (name : String) : List (Nat × Nat) :=
  (List.range Q.types.size).filterMap fun t =>
    match Q.types[t]? with
    | some i => match i.methods.find? (·.name == name) with
      | some m => match m.func with
        | some (g, true) => if m.path.isEmpty then (match Q.underlying t with | some (.pointer _) => some (t, g) | _ => none) else none
        | _ => none
      | none => none
    | none => none

/- a slice or a string -/
def rowT (t : TypeId) : Bool := match Q.underlying t with | some (.slice _) | some .string => true | _ => false

def cBuiltin (b : Builtin) (argTypes : Array TypeId) (args : Array Operand) : Option O :=
  match b, cXs args.toList with
  | .append, some [x, y] =>
    match argTypes[0]?, argTypes[1]? with
    | some t, some u => match Q.underlying t with
      | some (.slice e) => if !rowT Q u then none else
        match szOf Q e, bytesOfT Q e, zeroT Q e with
        | some n, some w, some z => if w = 0 ∨ n = 0 ∨ z.cells.length ≠ n then none else some (.app n w x y)
        | _, _, _ => none
      | _ => none
    | _, _ => none
  | .clear, some [x] =>
    match argTypes[0]? with
    | some t => match Q.underlying t with
      | some (.slice e) => match zeroT Q e with
        | some z => if z.cells.length = 0 then none else some (.clr z.cells x)
        | none => none
      | _ => none
    | none => none
  | .delete, some [x, y] =>
    match argTypes[0]? with
    | some t => match Q.underlying t with
      | some (.map k _) => if isIntT Q k then some (.del x y) else none
      | _ => none
    | none => none
  | .len, some [x] =>
    match argTypes[0]? with
    | some t => match Q.underlying t with
      | some (.slice _) => some (.lens x)
      | some .string => some (.lenz x)
      | some (.map _ _) => some (.lenm x)
      | some (.array n _) => some (.lenc n)
      | some (.pointer e) => match Q.underlying e with
        | some (.array n _) => some (.lenc n)
        | _ => none
      | _ => none
    | none => none
  | .max, some [x, y] => some (.mx x y)
  | .min, some [x, y] => some (.mn x y)
  | _, _ => none

def cCall (c : Call) : Option O :=
  match c.callee with
  | .value f =>
    match f with
    | .func g =>
      match Q.funcs[g]? with
      | some fn =>
        if fn.body.isSome then (cXs c.args.toList).map fun xs => .call (.c (.f (.fn g) [] [])) xs
        else if fn.name == "math/bits.Add64" && (Extern.findNext fn).isNone then
          match cXs c.args.toList with
          | some [x, y, z] => some (.add64 x y z)
          | _ => none
        else none
      | none => none
    | f => match cX f, cXs c.args.toList with
      | some x, some xs => some (.call x xs)
      | _, _ => none
  | .invoke r name => match cX r, cXs c.args.toList with
    | some x, some xs => some (.inv (invTbl Q name) x xs)
    | _, _ => none
  | .builtin b => cBuiltin Q b c.argTypes c.args

def cEq (op : BinOp) (kd : Nat) (x y : X) : Option O :=
  match op with
  | .eql => some (.eqn false kd x y)
  | .neq => some (.eqn true kd x y)
  | _ => none

def cBin (op : BinOp) (t : TypeId) (x y : X) : Option O :=
  match Q.underlying t with
  | some (.int _) | some .string => some (.bin op x y)
  | some .bool => cEq op 0 x y
  | some (.pointer _) => cEq op 1 x y
  | some (.map _ _) => cEq op 2 x y
  | some (.func _ _ _) => cEq op 3 x y
  | some (.slice _) => cEq op 4 x y
  | some (.struct _) =>
    if Q.eqGuardType Q.depth t then none else
      match op, leaves Q 20 t with
      | .eql, some n => some (.eqa false n x y)
      | .neq, some n => some (.eqa true n x y)
      | _, _ => none
  | _ => none

def cOp? : Op → Option O
  | .move x | .assign x => (cX x).map .mv
  | .pick c a b => match cX c, cX a, cX b with
    | some c, some a, some b => some (.pick c a b)
    | _, _, _ => none
  | .alloc t => (zeroT Q t).map fun z => .box (.c z)
  | .box _ x => (cX x).map .box
  | .build t ps => match zeroT Q t, Q.underlying t with
    | some z, some (.struct fs) => match placesOf Q fs with
      | some pl => (cParts (fun i => pl[i]?) ps.toList).map (.build z.cells)
      | none => none
    | some z, some (.array _ e) => match szOf Q e with
      | some n => (cParts (fun i => some (i * n, n)) ps.toList).map (.build z.cells)
      | none => none
    | _, _ => none
  | .buildSlice t len ps => match Q.underlying t with
    | some (.slice e) => match szOf Q e, zeroT Q e with
      | some n, some z => if z.cells.length = n ∧ 0 < n ∧ len * n ≤ 2 ^ 24 then (cParts (fun i => some (i * n, n)) ps.toList).map (.bsl n len z.cells) else none
      | _, _ => none
    | _ => none
  | .load t a => match shapeT Q t, cX a with
    | some n, some x => some (.ld n x)
    | _, _ => none
  | .store t a v => match szOf Q t, cX a, cX v with
    | some n, some x, some u => some (.st n x u)
    | _, _, _ => none
  | .nilCheck x => (cX x).map .nilck
  | .binOp op t x y _ => match cX x, cX y with
    | some x, some y => cBin Q op t x y
    | _, _ => none
  | .unOp op _ x => (cX x).map (.un op)
  | .convert src dst x => match Q.underlying src, Q.underlying dst, cX x with
    | some (.int _), some (.int k), some x => some (.cvi k x)
    | some .string, some .string, some x => some (.sst x none none)
    | some (.slice e), some .string, some x => match Q.underlying e with | some (.int .u8) => some (.b2s x) | _ => none
    | _, _, _ => none
  | .makeInterface t x => match Q.underlying t, cX x with
    | some (.interface _), _ => none
    | some _, some x => some (.mkI t x)
    | _, _ => none
  | .makeFunc (.func g) first captured => match cXs first.toList, cXs captured.toList with
    | some a, some b => some (.mkF g a b)
    | _, _ => none
  | .makeMap _ none => some .mkM
  | .makeSlice t l c => match Q.underlying t with
    | some (.slice e) => match szOf Q e, bytesOfT Q e, zeroT Q e, cX l, cX c with
      | some n, some w, some z, some l, some c => if z.cells.length = n ∧ 0 < n then some (.mkS n w z.cells l c) else none
      | _, _, _, _, _ => none
    | _ => none
  | .slice t x lo hi mx => match Q.underlying t, cX x, cXo lo, cXo hi, cXo mx with
    | some (.slice e), some x, some lo, some hi, some mx => if mx.isSome && hi.isNone then none else (szOf Q e).map fun n => .slc n x lo hi mx
    | some .string, some x, some lo, some hi, some none => some (.sst x lo hi)
    | _, _, _, _, _ => none
  | .fieldAddr t x f => match Q.underlying t, cX x with
    | some (.struct fs), some x => match fs[f]? with
      | some fd => match szOf Q fd.type with
        | some n => if n = 0 then none else some (.fa fd.offset x)
        | none => none
      | none => none
    | _, _ => none
  | .field t x f => match Q.underlying t, cX x with
    | some (.struct fs), some x => match fs[f]? with
      | some fd => (shapeT Q fd.type).map fun n => .fld fd.offset n x
      | none => none
    | _, _ => none
  | .indexAddr t x i => match Q.underlying t, cX x, cX i with
    | some (.slice e), some x, some i => (szOf Q e).map fun n => .ia n x i
    | some (.array len e), some x, some i => (szOf Q e).map fun n => .iaA len n x i
    | _, _, _ => none
  | .index t x i => match Q.underlying t, cX x, cX i with
    | some .string, some x, some i => some (.ixs x i)
    | some (.array len e), some x, some i => match szOf Q e, shapeT Q e with
      | some n, some w => some (.ixa len n w x i)
      | _, _ => none
    | _, _, _ => none
  | .lookup t m k ok => match Q.underlying t, cX m, cX k with
    | some (.map kt e), some m, some k => if isIntT Q kt then (zeroT Q e).map fun z => .lk z ok m k else none
    | _, _, _ => none
  | .mapUpdate t m k v => match Q.underlying t, cX m, cX k, cX v with
    | some (.map kt _), some m, some k, some v => if isIntT Q kt then some (.mu m k v) else none
    | _, _, _, _ => none
  | .extract t i => (cX t).map (.ext i)
  | .call c => cCall Q c
  | _ => none

def cOp (o : Op) : O := match cOp? Q o with | some x => x | none => .fail

def gdOf (ops : Array Oper) : Option (Nat × Bool) → Option (Option (P × Bool))
  | none => some none
  | some (j, w) => match (ops[j]?).bind (·.dst) with
    | some d => some (some (P.of d, w))
    | none => none

/- N: how many temporaries the frame has -/
def cOper (N : Nat) (ops : Array Oper) (i : Nat) (o : Oper) : Op1 :=
  match gdOf ops o.guard with
  | some g => if o.dst.all (fun d => Nat.blt d N) then { id := i, dst := o.dst.map P.of, gd := g, o := cOp Q o.op } else { id := i, dst := o.dst.map P.of, gd := none, o := .fail }
  | none => { id := i, dst := o.dst.map P.of, gd := none, o := .fail }

inductive Cls where
  | pure | read | new | write
  deriving Inhabited

def clsOf : O → Cls
  | .ld .. | .lk .. | .lenm _ | .b2s _ => .read
  | .box _ | .bsl .. | .mkM | .mkS .. | .s2b _ => .new
  | .st .. | .mu .. | .del .. | .call .. | .inv .. | .app .. | .clr .. | .fail => .write
  | _ => .pure

/- which ops stand ahead of each: bits; none where an edge leads forward -/
def befores : List Oper → Nat → List Nat → Option (List Nat)
  | [], _, acc => some acc
  | o :: r, i, acc =>
    if o.after.toList.all (fun e => !Region.binds .any e || decide (e.on < i)) then
      befores r (i + 1) (acc ++ [o.after.toList.foldl (fun s e => if Region.binds .any e then s ||| 2 ^ e.on ||| acc.getD e.on 0 else s) 0])
    else none

/- what is known of an op of a region whose order is open -/
structure DO where
  i : Nat
  dst : Option Nat
  rd : List Nat
  bf : Nat
  wr : Bool
  cls : Cls
  o : Op1
  deriving Inhabited

def readsOf (ops : Array Oper) (o : Oper) : List Nat :=
  (o.op.operands.toList.filterMap fun | .tmp t => some t | _ => none) ++
  (match o.guard with | some (j, _) => ((ops[j]?).bind (·.dst)).toList | none => [])

def hasNat (n : Nat) : List Nat → Bool
  | [] => false
  | m :: l => bif Nat.beq m n then true else hasNat n l

/- is what o lays written while one that looks at it may come later -/
def warOf (d : Nat) (i : Nat) : List (List Nat × Nat) → Bool
  | [] => false
  | (rd, bf) :: l => bif hasNat d rd && !bf.testBit i then true else warOf d i l

def clsW : Cls → Bool
  | .write => true
  | _ => false

def dosOf (ops : Array Oper) (all : List (List Nat × Nat)) : Nat → List Oper → List Op1 → List Nat → List DO
  | i, o :: r, q :: qs, b :: bs =>
    { i, dst := o.dst, rd := readsOf ops o, bf := b, cls := clsOf q.o, o := q,
      wr := clsW (clsOf q.o) || (match o.dst with | some d => warOf d i all | none => false) } :: dosOf ops all (i + 1) r qs bs
  | _, _, _, _ => []

def lastW : List DO → Nat → Nat → Nat → Nat
  | [], _, _, acc => acc
  | w :: r, k, m, acc => lastW r (k + 1) m (bif m.testBit w.i then k + 1 else acc)
/- the stage in which an op is done: how many of those that write stand ahead of it -/
def stOf (ws : List DO) (d : DO) : Nat := lastW ws 0 d.bf 0
/- how many of those that write may stand ahead of it -/
def hiOf : List DO → DO → Nat
  | [], _ => 0
  | w :: r, d => bif w.bf.testBit d.i then 0 else hiOf r d + 1

def chainOk : List DO → Bool
  | a :: r => r.all (fun b => b.bf.testBit a.i) && chainOk r
  | [] => true

def pSame : P → P → Bool
  | .h, .h => true
  | .o p, .o q | .i p, .i q => pSame p q
  | _, _ => false

/- the compact form looks at nothing else -/
def seesOk (d : DO) : Bool := (opsX d.o.o).all fun | .t p => d.rd.any fun t => pSame (P.of t) p | .c _ => true

def pairOk (ws : List DO) (a b : DO) : Bool :=
  match a.dst with
  | none => true
  | some t =>
    (bif Nat.beq a.i b.i then true else match b.dst with | some u => !Nat.beq t u | none => true) &&
    (bif hasNat t b.rd then
      (b.bf.testBit a.i && Nat.blt a.i b.i && (a.wr || Nat.ble (stOf ws a) (stOf ws b))) || (a.wr && (a.bf.testBit b.i || Nat.beq a.i b.i))
    else true)

def clsN : Cls → Bool
  | .new => true
  | _ => false

def drawOk (ds ws : List DO) : Bool :=
  chainOk ws && ds.all seesOk && ws.all (fun w => !clsN w.cls) && ds.all fun a => ds.all fun b => pairOk ws a b

def stageOps (ws : List DO) (j : Nat) : List DO → List PI
  | [] => []
  | d :: r => bif !d.wr && Nat.beq (stOf ws d) j then .op d.o :: stageOps ws j r else stageOps ws j r

def stageChks (ws : List DO) (j : Nat) : List DO → List PI
  | [] => []
  | d :: r =>
    bif !d.wr && Nat.blt (stOf ws d) j && Nat.ble j (hiOf ws d) then
      match d.cls with
      | .read => .chk d.o :: stageChks ws j r
      | .new => .chkA d.o :: stageChks ws j r
      | _ => stageChks ws j r
    else stageChks ws j r

def stages (ds ws : List DO) : Nat → List DO → List PI
  | _, [] => []
  | j, w :: r => .op w.o :: (stageChks ws (j + 1) ds ++ (stageOps ws (j + 1) ds ++ stages ds ws (j + 1) r))

def planOf (ds ws : List DO) : List PI := stageOps ws 0 ds ++ stages ds ws 0 ws

def cOpers (N : Nat) (ops : Array Oper) : Nat → List Oper → List Op1
  | _, [] => []
  | i, o :: l => cOper Q N ops i o :: cOpers N ops (i + 1) l

def cRegion (N : Nat) (ops : Array Oper) (draw : Bool) : C :=
  let os := cOpers Q N ops 0 ops.toList
  if draw then
    match befores ops.toList 0 [] with
    | some bf =>
      let ds := dosOf ops ((ops.toList.map (readsOf ops)).zip bf) 0 ops.toList os bf
      let ws := ds.filter (·.wr)
      if drawOk ds ws then .dreg ops.size (planOf ds ws) else .fail
    | none => .fail
  else .reg os

/- no range over a function in it -/
def noRange : Code → Bool
  | .seq a b | .cond _ a b => noRange a && noRange b
  | .block _ c | .loop c | .scope c => noRange c
  | .rangeFunc .. => false
  | _ => true

def cC (N : Nat) : Code → C
  | .skip | .label _ => .skip
  | .region _ ops d => cRegion Q N ops d
  | .seq a b => .seq (cC N a) (cC N b)
  | .cond c a b => match cX c with
    | some x => .cond x (cC N a) (cC N b)
    | none => .fail
  | .block id b => .block id (cC N b)
  | .loop b => .loop (cC N b)
  | .rangeFunc f ps as bd => match cX f with
    | some x => if noRange as && noRange bd && ps.toList.all (fun t => t < N) then .rngF x (ps.toList.map P.of) (cC N as) (cC N bd) else .fail
    | none => .fail
  | .exit id => .exit id
  | .scope b => cC N b
  | .ret => .ret
  | .goto _ | .refuse _ => .fail

def cRes : List ResultVar → Option (List RV)
  | [] => some []
  | .tmp t :: r => (cRes r).map (.t (P.of t) :: ·)
  | .cell a t :: r => match shapeT Q t, cRes r with
    | some n, some l => some (.c (P.of a) n :: l)
    | _, _ => none

def cFunc (fn : Func) : Option CF :=
  match fn.body, cRes Q fn.results.toList with
  | some b, some r => if fn.params.size + fn.nfree ≤ fn.ntmps ∧ fn.name ≠ "runtime.NumGoroutine" then some { ps := (List.range (fn.params.size + fn.nfree)).map P.of, body := cC Q fn.ntmps b, res := r } else none
  | _, _ => none

end
end Go.Ev
