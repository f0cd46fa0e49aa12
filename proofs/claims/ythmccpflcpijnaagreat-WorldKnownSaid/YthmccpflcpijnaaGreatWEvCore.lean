/- An evaluator of my own over a compact form of the model's code: values, heap, operations, code. It proves nothing by itself. -/
import GoSem.Core.Code
import GoSem.Core.View
namespace Go.Ev

inductive FV where
  | fn (g : Nat)
  | yld (l : Nat)
  deriving Inhabited

inductive V where
  | b (x : Bool)
  | i (k : IntKind) (n : Int)
  | s (l : List Nat)
  | p (blk off : Nat)
  | np
  | sl (sz blk off len cap : Nat) (ex : Bool)
  | nsl
  | m (blk : Nat)
  | nm
  | f (g : FV) (first cap : List V)
  | nf
  | ifc (t : Nat) (v : V)
  | ni
  | a (l : List V)
  | tup (l : List V)
  deriving Inhabited

def undef : V := .tup []

def V.cells : V → List V
  | .a l => l
  | v => [v]

def V.one : V → Bool
  | .a _ => false
  | .tup _ => false
  | _ => true

def ones : List V → Bool
  | [] => true
  | v :: l => v.one && ones l

def IntKind.same : IntKind → IntKind → Bool
  | .i8, .i8 | .i16, .i16 | .i32, .i32 | .i64, .i64 | .u8, .u8 | .u16, .u16 | .u32, .u32 | .u64, .u64 => true
  | _, _ => false

def natsSame : List Nat → List Nat → Bool
  | [], [] => true
  | x :: l, y :: r => bif Nat.beq x y then natsSame l r else false
  | _, _ => false

def FvSame : FV → FV → Bool
  | .fn g, .fn h => Nat.beq g h
  | .yld g, .yld h => Nat.beq g h
  | _, _ => false

mutual
def vSame : V → V → Bool
  | .b x, .b y => x == y
  | .i k x, .i j y => IntKind.same k j && decide (x = y)
  | .s x, .s y => natsSame x y
  | .p x u, .p y v => Nat.beq x y && Nat.beq u v
  | .np, .np => true
  | .sl z x u n c e, .sl w y v n' c' e' => Nat.beq z w && Nat.beq x y && Nat.beq u v && Nat.beq n n' && Nat.beq c c' && (e == e')
  | .nsl, .nsl => true
  | .m x, .m y => Nat.beq x y
  | .nm, .nm => true
  | .f g x u, .f h y v => FvSame g h && vsSame x y && vsSame u v
  | .nf, .nf => true
  | .ifc t x, .ifc u y => Nat.beq t u && vSame x y
  | .ni, .ni => true
  | .a x, .a y => vsSame x y
  | .tup x, .tup y => vsSame x y
  | _, _ => false
def vsSame : List V → List V → Bool
  | [], [] => true
  | x :: l, y :: r => vSame x y && vsSame l r
  | _, _ => false
end

/- names of temporaries: binary numbers -/
inductive P where
  | h
  | o (p : P)
  | i (p : P)
  deriving DecidableEq, Inhabited, Repr

def P.ofFuel : Nat → Nat → P
  | 0, _ => .h
  | f + 1, n => bif Nat.ble n 1 then .h else bif Nat.beq (n % 2) 1 then .i (P.ofFuel f (n / 2)) else .o (P.ofFuel f (n / 2))
/- the name of temporary t -/
def P.of (t : Nat) : P := P.ofFuel (t + 2) (t + 1)

inductive Env where
  | e
  | n (l : Env) (v : V) (r : Env)
  deriving Inhabited

def Env.get : P → Env → V
  | _, .e => undef
  | .h, .n _ v _ => v
  | .o p, .n l _ _ => Env.get p l
  | .i p, .n _ _ r => Env.get p r

def Env.set : P → V → Env → Env
  | .h, v, .e => .n .e v .e
  | .h, v, .n l _ r => .n l v r
  | .o p, v, .e => .n (Env.set p v .e) undef .e
  | .o p, v, .n l u r => .n (Env.set p v l) u r
  | .i p, v, .e => .n .e undef (Env.set p v .e)
  | .i p, v, .n l u r => .n l u (Env.set p v r)

inductive X where
  | t (p : P)
  | c (v : V)
  deriving Inhabited

def Env.val (E : Env) : X → V
  | .t p => E.get p
  | .c v => v

def Env.vals (E : Env) : List X → List V
  | [] => []
  | x :: l => E.val x :: E.vals l

inductive O where
  | mv (x : X)
  | pick (c a b : X)
  | box (x : X)
  | build (zero : List V) (ps : List (Nat × Nat × X))
  | bsl (sz len : Nat) (zero : List V) (ps : List (Nat × Nat × X))
  | ld (n : Option Nat) (x : X)
  | st (n : Nat) (x v : X)
  | nilck (x : X)
  | bin (op : BinOp) (x y : X)
  | eqn (neg : Bool) (kd : Nat) (x y : X)
  | eqa (neg : Bool) (ks : List Nat) (x y : X)
  | un (op : UnOp) (x : X)
  | cvi (k : IntKind) (x : X)
  | b2s (x : X)
  | s2b (x : X)
  | mkI (t : Nat) (x : X)
  | mkF (g : Nat) (first cap : List X)
  | mkM
  | mkS (sz bytes : Nat) (zero : List V) (l c : X)
  | slc (sz : Nat) (x : X) (lo hi mx : Option X)
  | sst (x : X) (lo hi : Option X)
  | fa (off : Nat) (x : X)
  | fld (off : Nat) (n : Option Nat) (x : X)
  | ia (sz : Nat) (x i : X)
  | iaA (n sz : Nat) (x i : X)
  | ixs (x i : X)
  | ixa (n sz : Nat) (one : Option Nat) (x i : X)
  | lk (zero : V) (ok : Bool) (m k : X)
  | mu (m k v : X)
  | del (m k : X)
  | ext (i : Nat) (x : X)
  | call (f : X) (args : List X)
  | inv (tbl : List (Nat × Nat)) (r : X) (args : List X)
  | add64 (a b c : X)
  | app (sz bytes : Nat) (x y : X)
  | clr (zero : List V) (x : X)
  | lens (x : X)
  | lenz (x : X)
  | lenm (x : X)
  | lenc (n : Nat)
  | mx (x y : X)
  | mn (x y : X)
  | fail
  deriving Inhabited

/- what an operation looks at -/
def optX : Option X → List X
  | none => []
  | some x => [x]
def opsX : O → List X
  | .mv x | .box x | .ld _ x | .nilck x | .un _ x | .cvi _ x | .b2s x | .s2b x | .mkI _ x | .fa _ x | .fld _ _ x | .ext _ x | .clr _ x | .lens x | .lenz x | .lenm x => [x]
  | .pick c a b => [c, a, b]
  | .build _ ps | .bsl _ _ _ ps => ps.map fun p => p.2.2
  | .st _ x v => [x, v]
  | .bin _ x y | .eqn _ _ x y | .eqa _ _ x y | .ia _ x y | .iaA _ _ x y | .ixs x y | .ixa _ _ _ x y | .lk _ _ x y | .del x y | .app _ _ x y | .mx x y | .mn x y => [x, y]
  | .mkF _ a b => a ++ b
  | .mkM | .lenc _ | .fail => []
  | .mkS _ _ _ l c => [l, c]
  | .slc _ x a b c => x :: (optX a ++ optX b ++ optX c)
  | .sst x a b => x :: (optX a ++ optX b)
  | .mu m k v => [m, k, v]
  | .call f as => f :: as
  | .inv _ r as => r :: as
  | .add64 a b c => [a, b, c]

structure Op1 where
  id : Nat
  dst : Option P
  gd : Option (P × Bool)
  o : O
  deriving Inhabited

/- the steps of a region whose order is open: do one; look that one would still answer the same; look that a new block is still as it was laid -/
inductive PI where
  | op (o : Op1)
  | chk (o : Op1)
  | chkA (o : Op1)
  deriving Inhabited

inductive J where
  | nrm
  | ret
  | exit (id : Nat)
  deriving Inhabited

inductive C where
  | skip
  | ret
  | exit (id : Nat)
  | seq (a b : C)
  | cond (x : X) (a b : C)
  | block (id : Nat) (c : C)
  | loop (c : C)
  | reg (ops : List Op1)
  | dreg (n : Nat) (ps : List PI)
  | rngF (f : X) (ps : List P) (as bd : C)
  | fail
  deriving Inhabited

inductive RV where
  | t (p : P)
  | c (p : P) (n : Option Nat)
  deriving Inhabited

structure CF where
  ps : List P
  body : C
  res : List RV
  deriving Inhabited

inductive Obj where
  | cells (l : List V) (rw : Bool)
  | map (es : List (V × V))
  | loop (st : Nat) (pd : J) (E : Env) (ps : List P) (as bd : C)
  | dead
  deriving Inhabited

/- the heap: a tree over the blocks' numbers -/
inductive H where
  | e
  | n (l : H) (v : Option Obj) (r : H)
  deriving Inhabited

def H.get : H → Nat → Option Obj
  | .e, _ => none
  | .n l v r, k => bif Nat.beq k 0 then v else bif Nat.beq (k % 2) 1 then l.get (k / 2) else r.get (k / 2 - 1)

def H.putF : Nat → H → Nat → Obj → H
  | 0, h, _, _ => h
  | f + 1, .e, k, o =>
    bif Nat.beq k 0 then .n .e (some o) .e
    else bif Nat.beq (k % 2) 1 then .n (H.putF f .e (k / 2) o) none .e else .n .e none (H.putF f .e (k / 2 - 1) o)
  | f + 1, .n l v r, k, o =>
    bif Nat.beq k 0 then .n l (some o) r
    else bif Nat.beq (k % 2) 1 then .n (H.putF f l (k / 2) o) v r else .n l v (H.putF f r (k / 2 - 1) o)

def H.put (h : H) (k : Nat) (o : Obj) : H := H.putF (k + 1) h k o

structure S where
  h : H
  nx : Nat
  deriving Inhabited

def S.get (s : S) (b : Nat) : Option Obj := s.h.get b
def S.put (s : S) (b : Nat) (o : Obj) : S := ⟨s.h.put b o, s.nx⟩
/- a new block, at the next number, or at one that was set aside -/
def S.newAt (s : S) : Option Nat → Nat
  | none => s.nx
  | some b => b
def S.new (s : S) (slot : Option Nat) (o : Obj) : S :=
  match slot with
  | none => ⟨s.h.put s.nx o, s.nx + 1⟩
  | some b => ⟨s.h.put b o, s.nx⟩

def nth : List V → Nat → Option V
  | [], _ => none
  | v :: l, n => bif Nat.beq n 0 then some v else nth l (n - 1)

/- n cells from a place on -/
def cut (off n : Nat) (l : List V) : Option (List V) :=
  bif Nat.ble (off + n) l.length then some ((l.drop off).take n) else none

def splice (off : Nat) (vs l : List V) : Option (List V) :=
  bif Nat.ble (off + vs.length) l.length then some (l.take off ++ vs ++ l.drop (off + vs.length)) else none

/- lay parts into a row of cells -/
def fill (E : Env) : List (Nat × Nat × X) → List V → Option (List V)
  | [], l => some l
  | (off, n, x) :: ps, l =>
    let vs := (E.val x).cells
    bif Nat.beq vs.length n then
      match splice off vs l with
      | some l' => fill E ps l'
      | none => none
    else none

def rep (z : List V) : Nat → List V
  | 0 => []
  | n + 1 => z ++ rep z n

def findE (k : Int) (j : IntKind) : List (V × V) → Option (Option V)
  | [] => some none
  | (.i j' k', v) :: es => bif IntKind.same j j' then (bif decide (k = k') then some (some v) else findE k j es) else none
  | _ :: _ => none

def updE (k : Int) (j : IntKind) (u : V) : List (V × V) → Option (List (V × V))
  | [] => some [(.i j k, u)]
  | (.i j' k', v) :: es =>
    bif IntKind.same j j' then
      (bif decide (k = k') then some ((.i j k, u) :: es)
      else match updE k j u es with | some r => some ((.i j' k', v) :: r) | none => none)
    else none
  | _ :: _ => none

def delE (k : Int) (j : IntKind) : List (V × V) → Option (List (V × V))
  | [] => some []
  | (.i j' k', v) :: es =>
    bif IntKind.same j j' then
      (bif decide (k = k') then some es
      else match delE k j es with | some r => some ((.i j' k', v) :: r) | none => none)
    else none
  | _ :: _ => none

def bytesLt : List Nat → List Nat → Bool
  | _, [] => false
  | [], _ :: _ => true
  | x :: l, y :: r => Nat.blt x y || (Nat.beq x y && bytesLt l r)

def intBits (op : BinOp) (k : IntKind) (x y : Int) : Option Int :=
  let a := (x % (2 ^ k.bits : Nat)).toNat
  let b := (y % (2 ^ k.bits : Nat)).toNat
  match op with
  | .and => some (k.wrap (Nat.land a b : Nat))
  | .or => some (k.wrap (Nat.lor a b : Nat))
  | .xor => some (k.wrap (Nat.xor a b : Nat))
  | .andNot => some (k.wrap (Nat.land a (2 ^ k.bits - 1 - b) : Nat))
  | _ => none

def intOp (op : BinOp) (k : IntKind) (x y : Int) : Option V :=
  match op with
  | .add => some (.i k (k.wrap (x + y)))
  | .sub => some (.i k (k.wrap (x - y)))
  | .mul => some (.i k (k.wrap (x * y)))
  | .quo => bif decide (y = 0) then none else some (.i k (k.wrap (x.tdiv y)))
  | .rem => bif decide (y = 0) then none else some (.i k (x.tmod y))
  | .eql => some (.b (decide (x = y)))
  | .neq => some (.b (!decide (x = y)))
  | .lss => some (.b (decide (x < y)))
  | .leq => some (.b (decide (x ≤ y)))
  | .gtr => some (.b (decide (y < x)))
  | .geq => some (.b (decide (y ≤ x)))
  | .and | .or | .xor | .andNot => (intBits op k x y).map (.i k)
  | .shl | .shr => none

def shift (op : BinOp) (k : IntKind) (x y : Int) : Option V :=
  bif decide (y < 0) then none else
  let n := Nat.min y.toNat k.bits
  match op with
  | .shl => some (.i k (k.wrap (x * (2 ^ n : Nat))))
  | .shr => some (.i k (x.fdiv (2 ^ n : Nat)))
  | _ => none

def strOp (op : BinOp) (x y : List Nat) : Option V :=
  match op with
  | .add => bif Nat.ble (x.length + y.length) (2 ^ 40) then some (.s (x ++ y)) else none
  | .eql => some (.b (natsSame x y))
  | .neq => some (.b (!natsSame x y))
  | .lss => some (.b (bytesLt x y))
  | .leq => some (.b (bytesLt x y || natsSame x y))
  | .gtr => some (.b (!(bytesLt x y || natsSame x y)))
  | .geq => some (.b (!bytesLt x y))
  | _ => none

def isShift : BinOp → Bool
  | .shl | .shr => true
  | _ => false

def bin (op : BinOp) : V → V → Option V
  | .i k x, .i j y => bif isShift op then shift op k x y else bif IntKind.same k j then intOp op k x y else none
  | .s x, .s y => strOp op x y
  | _, _ => none

/- == where one side or both are plain, or nil; the kind: 0 bool, 1 pointer, 2 map, 3 function, 4 slice -/
def eqv : Nat → V → V → Option Bool
  | 0, .b x, .b y => some (x == y)
  | 1, .np, .np => some true
  | 1, .np, .p _ _ => some false
  | 1, .p _ _, .np => some false
  | 2, .nm, .nm => some true
  | 2, .nm, .m _ => some false
  | 2, .m _, .nm => some false
  | 3, .nf, .nf => some true
  | 3, .nf, .f .. => some false
  | 3, .f .., .nf => some false
  | 4, .nsl, .nsl => some true
  | 4, .nsl, .sl .. => some false
  | 4, .sl .., .nsl => some false
  | _, _, _ => none

/- == of a struct's cells, each a bool (0), a number (1) or a string (2) -/
def eqCell : Nat → V → V → Option Bool
  | 0, .b x, .b y => some (x == y)
  | 1, .i k x, .i j y => bif IntKind.same k j then some (decide (x = y)) else none
  | 2, .s x, .s y => some (natsSame x y)
  | _, _, _ => none

def eqCells : List Nat → List V → List V → Option Bool
  | [], [], [] => some true
  | k :: ks, x :: l, y :: r =>
    match eqCell k x y, eqCells ks l r with
    | some a, some b => some (a && b)
    | _, _ => none
  | _, _, _ => none

def un (op : UnOp) : V → Option V
  | .b x => match op with | .not => some (.b (!x)) | _ => none
  | .i k x => match op with
    | .neg => some (.i k (k.wrap (0 - x)))
    | .xor => (intBits .xor k (if k.signed then -1 else k.max) x).map (.i k)
    | _ => none
  | _ => none

def natIn (v : V) (hi : Nat) : Option Nat :=
  match v with
  | .i _ n => bif decide (0 ≤ n) && decide (n ≤ (hi : Int)) then some n.toNat else none
  | _ => none

def slcOf (sz : Nat) (E : Env) (x : V) (lo hi mx : Option X) : Option V :=
  match x with
  | .nsl =>
    let z (o : Option X) : Bool := match o with | none => true | some y => (natIn (E.val y) 0).isSome
    bif z lo && z hi && z mx then some .nsl else none
  | .sl z b o len cap ex =>
    bif Nat.beq z sz then
    match (match mx with | none => some cap | some y => natIn (E.val y) cap) with
    | none => none
    | some m =>
      match (match hi with | none => some len | some y => natIn (E.val y) m) with
      | none => none
      | some h =>
        match (match lo with | none => some 0 | some y => natIn (E.val y) h) with
        | none => none
        | some l => bif Nat.ble h m then some (.sl sz b (o + l * sz) (h - l) (m - l) (ex || mx.isSome)) else none
    else none
  | _ => none

def sstOf (E : Env) (x : V) (lo hi : Option X) : Option V :=
  match x with
  | .s t =>
    match (match hi with | none => some t.length | some y => natIn (E.val y) t.length) with
    | none => none
    | some h =>
      match (match lo with | none => some 0 | some y => natIn (E.val y) h) with
      | none => none
      | some l => some (.s ((t.take h).drop l))
  | _ => none

def bytesOf : List V → Option (List Nat)
  | [] => some []
  | .i .u8 n :: l => bif Nat.ble n.toNat 255 then (match bytesOf l with | some r => some (n.toNat :: r) | none => none) else none
  | _ :: _ => none

def maxGrow : Nat := 2 ^ 40

def S.cell (s : S) (b o : Nat) : Option V :=
  match s.get b with
  | some (.cells l _) => nth l o
  | _ => none

def S.row (s : S) (b o n : Nat) : Option (List V) :=
  match s.get b with
  | some (.cells l _) => cut o n l
  | _ => none

variable {R : Type}

def optK {α : Type} (o : Option α) (k : α → Option R) : Option R :=
  match o with
  | some a => k a
  | none => none

def ldK (s : S) (n : Option Nat) (v : V) (k : V → S → Option R) : Option R :=
  match v with
  | .p b o => match n with
    | none => optK (s.cell b o) fun v => k v s
    | some n => optK (s.row b o n) fun l => k (.a l) s
  | _ => none

def stK (s : S) (n : Nat) (x v : V) (k : S → Option R) : Option R :=
  match x with
  | .p b o =>
    match s.get b with
    | some (.cells l true) =>
      bif Nat.beq v.cells.length n && ones v.cells then optK (splice o v.cells l) fun l' => k (s.put b (.cells l' true)) else none
    | _ => none
  | _ => none

def newK (s : S) (slot : Option Nat) (o : Obj) (k : Nat → S → Option R) : Option R := k (s.newAt slot) (s.new slot o)

/- the elements of what is appended -/
def srcRow (s : S) : V → Option (Nat × List V)
  | .nsl => some (0, [])
  | .sl sz b o n _ _ => (s.row b o (n * sz)).map fun l => (n, l)
  | .s t => some (t.length, t.map fun n => .i .u8 (n : Nat))
  | _ => none

def appK (s : S) (sz bytes : Nat) (x y : V) (k : V → S → Option R) : Option R :=
  optK (srcRow s y) fun (n, new) =>
  bif Nat.beq new.length (n * sz) then
  match x with
  | .nsl =>
    bif Nat.beq n 0 then k .nsl s
    else bif Nat.ble (n * bytes) maxGrow then newK s none (.cells new true) fun b s => k (.sl sz b 0 n n false) s else none
  | .sl z b o len cap ex =>
    bif Nat.beq z sz then
    bif Nat.beq n 0 then k x s
    else bif Nat.ble ((len + n) * bytes) maxGrow && ones new then
      match s.get b with
      | some (.cells l rw) =>
        bif Nat.ble (len + n) cap then
          bif rw then optK (splice (o + len * sz) new l) fun l' => k (.sl sz b o (len + n) cap ex) (s.put b (.cells l' true)) else none
        else
          optK (cut o (len * sz) l) fun old =>
          bif ex then newK s none (.cells (old ++ new) true) fun b' s => k (.sl sz b' 0 (len + n) (len + n) false) s
          else bif rw then newK (s.put b .dead) none (.cells (old ++ new) true) fun b' s => k (.sl sz b' 0 (len + n) (len + n) false) s
          else none
      | _ => none
    else none
    else none
  | _ => none
  else none

def callK (call : FV → List V → S → (V → S → Option R) → Option R) (f : V) (args : List V) (s : S) (k : V → S → Option R) : Option R :=
  match f with
  | .f (.fn g) first cap => call (.fn g) (first ++ args ++ cap) s k
  | .f (.yld l) first [] => call (.yld l) (first ++ args) s k
  | _ => none

def lookT (t : Nat) : List (Nat × Nat) → Option Nat
  | [] => none
  | (u, g) :: l => bif Nat.beq t u then some g else lookT t l

def lkK (s : S) (zero : V) (ok : Bool) (m x : V) (k : V → S → Option R) : Option R :=
  let fin (r : Option V) : Option R :=
    let v := match r with | some v => v | none => zero
    k (bif ok then .tup [v, .b r.isSome] else v) s
  match x with
  | .i j n =>
    match m with
    | .nm => fin none
    | .m b => match s.get b with
      | some (.map es) => optK (findE n j es) fin
      | _ => none
    | _ => none
  | _ => none

def evO (call : FV → List V → S → (V → S → Option R) → Option R) (slot : Option Nat) (o : O) (E : Env) (s : S) (k : V → S → Option R) : Option R :=
  match o with
  | .mv x => k (E.val x) s
  | .pick c a b => match E.val c with
    | .b t => k (bif t then E.val a else E.val b) s
    | _ => none
  | .box x => newK s slot (.cells (E.val x).cells true) fun b s => k (.p b 0) s
  | .build zero ps => optK (fill E ps zero) fun l => k (.a l) s
  | .bsl sz len zero ps => optK (fill E ps (rep zero len)) fun l => newK s slot (.cells l true) fun b s => k (.sl sz b 0 len len true) s
  | .ld n x => ldK s n (E.val x) k
  | .st n x v => stK s n (E.val x) (E.val v) (k undef)
  | .nilck x => match E.val x with
    | .np | .ni | .nf => none
    | v => k v s
  | .bin op x y => optK (bin op (E.val x) (E.val y)) fun v => k v s
  | .eqn neg kd x y => optK (eqv kd (E.val x) (E.val y)) fun r => k (.b (neg != r)) s
  | .eqa neg ks x y => match E.val x, E.val y with
    | .a l, .a r => optK (eqCells ks l r) fun r => k (.b (neg != r)) s
    | _, _ => none
  | .un op x => optK (un op (E.val x)) fun v => k v s
  | .cvi j x => match E.val x with
    | .i _ n => k (.i j (j.wrap n)) s
    | _ => none
  | .b2s x => match E.val x with
    | .nsl => k (.s []) s
    | .sl sz b o n _ _ => bif Nat.beq sz 1 then optK (s.row b o n) fun l => optK (bytesOf l) fun t => k (.s t) s else none
    | _ => none
  | .s2b x => match E.val x with
    | .s t => newK s slot (.cells (t.map fun n => .i .u8 (n : Nat)) true) fun b s => k (.sl 1 b 0 t.length t.length false) s
    | _ => none
  | .mkI t x => k (.ifc t (E.val x)) s
  | .mkF g first cap => k (.f (.fn g) (E.vals first) (E.vals cap)) s
  | .mkM => newK s slot (.map []) fun b s => k (.m b) s
  | .mkS sz bytes zero l c => match E.val l, E.val c with
    | .i _ n, .i _ m =>
      bif decide (0 ≤ n) && decide (n ≤ m) && decide (m * bytes ≤ (maxGrow : Nat)) && decide (m ≤ (maxGrow : Nat)) then
        newK s slot (.cells (rep zero m.toNat) true) fun b s => k (.sl sz b 0 n.toNat m.toNat true) s
      else none
    | _, _ => none
  | .slc sz x lo hi mx => optK (slcOf sz E (E.val x) lo hi mx) fun v => k v s
  | .sst x lo hi => optK (sstOf E (E.val x) lo hi) fun v => k v s
  | .fa off x => match E.val x with
    | .p b o => k (.p b (o + off)) s
    | _ => none
  | .fld off n x => match E.val x with
    | .a l => match n with
      | none => optK (nth l off) fun v => k v s
      | some n => k (.a ((l.drop off).take n)) s
    | _ => none
  | .ia sz x i => match E.val x, E.val i with
    | .sl z b o len _ _, .i _ n => bif Nat.beq z sz && decide (0 ≤ n) && decide (n < (len : Int)) then k (.p b (o + n.toNat * sz)) s else none
    | _, _ => none
  | .iaA len sz x i => match E.val x, E.val i with
    | .p b o, .i _ n => bif decide (0 ≤ n) && decide (n < (len : Int)) then k (.p b (o + n.toNat * sz)) s else none
    | _, _ => none
  | .ixs x i => match E.val x, E.val i with
    | .s t, .i _ n => bif decide (0 ≤ n) then (match t[n.toNat]? with | some c => k (.i .u8 (c : Nat)) s | none => none) else none
    | _, _ => none
  | .ixa len sz one x i => match E.val x, E.val i with
    | .a l, .i _ n => bif decide (0 ≤ n) && decide (n < (len : Int)) then
        (match one with
          | none => optK (nth l (n.toNat * sz)) fun v => k v s
          | some w => k (.a ((l.drop (n.toNat * sz)).take w)) s)
      else none
    | _, _ => none
  | .lk zero ok m x => lkK s zero ok (E.val m) (E.val x) k
  | .mu m x v => match E.val m, E.val x with
    | .m b, .i j n => match s.get b with
      | some (.map es) => optK (updE n j (E.val v) es) fun es' => k undef (s.put b (.map es'))
      | _ => none
    | _, _ => none
  | .del m x => match E.val m, E.val x with
    | .m b, .i j n => match s.get b with
      | some (.map es) => optK (delE n j es) fun es' => k (.tup []) (s.put b (.map es'))
      | _ => none
    | _, _ => none
  | .ext i x => match E.val x with
    | .tup l => optK (nth l i) fun v => k v s
    | _ => none
  | .call f args => callK call (E.val f) (E.vals args) s k
  | .inv tbl r args => match E.val r with
    | .ifc t v => optK (lookT t tbl) fun g => call (.fn g) (v :: E.vals args) s k
    | _ => none
  | .add64 a b c => match E.val a, E.val b, E.val c with
    | .i .u64 x, .i .u64 y, .i .u64 z => bif decide (0 ≤ x) && decide (0 ≤ y) && decide (0 ≤ z) && decide (z ≤ 1) then
        k (.tup [.i .u64 ((x + y + z) % 18446744073709551616), .i .u64 ((x + y + z) / 18446744073709551616)]) s
      else none
    | _, _, _ => none
  | .app sz bytes x y => appK s sz bytes (E.val x) (E.val y) k
  | .clr zero x => match E.val x with
    | .nsl => k (.tup []) s
    | .sl _ b o n _ _ => bif Nat.beq n 0 then k (.tup []) s else stK s (n * zero.length) (.p b o) (.a (rep zero n)) (k (.tup []))
    | _ => none
  | .lens x => match E.val x with
    | .nsl => k (.i .i64 0) s
    | .sl _ _ _ n _ _ => k (.i .i64 (n : Nat)) s
    | _ => none
  | .lenz x => match E.val x with
    | .s t => k (.i .i64 (t.length : Nat)) s
    | _ => none
  | .lenm x => match E.val x with
    | .nm => k (.i .i64 0) s
    | .m b => match s.get b with
      | some (.map es) => k (.i .i64 (es.length : Nat)) s
      | _ => none
    | _ => none
  | .lenc n => k (.i .i64 (n : Nat)) s
  | .mx x y => match E.val x, E.val y with
    | .i j a, .i _ b => k (.i j (if b > a then b else a)) s
    | _, _ => none
  | .mn x y => match E.val x, E.val y with
    | .i j a, .i _ b => k (.i j (if b < a then b else a)) s
    | _, _ => none
  | .fail => none

def setD (E : Env) (d : Option P) (v : V) : Env :=
  match d with
  | some p => E.set p v
  | none => E

def wanted (E : Env) : Option (P × Bool) → Bool
  | none => true
  | some (p, w) => match E.get p with | .b t => t == w | _ => false

def evOps (call : FV → List V → S → (V → S → Option R) → Option R) : List Op1 → Env → S → (Env → S → Option R) → Option R
  | [], E, s, k => k E s
  | o :: ops, E, s, k =>
    bif wanted E o.gd then evO call none o.o E s fun v s => evOps call ops (setD E o.dst v) s k
    else evOps call ops (setD E o.dst undef) s k

def slotOf (base : Nat) (o : Op1) : Option Nat :=
  match o.o with
  | .box _ | .bsl .. | .mkM | .mkS .. | .s2b _ => some (base + o.id)
  | _ => none

/- what an operation that makes a block lays into it -/
def objOf (E : Env) : O → Option Obj
  | .box x => some (.cells (E.val x).cells true)
  | .bsl _ len zero ps => (fill E ps (rep zero len)).map (.cells · true)
  | .s2b x => match E.val x with
    | .s t => some (.cells (t.map fun n => .i .u8 (n : Nat)) true)
    | _ => none
  | .mkM => some (.map [])
  | .mkS _ _ zero _ c => match E.val c with
    | .i _ m => some (.cells (rep zero m.toNat) true)
    | _ => none
  | _ => none

def objSame : Obj → Obj → Bool
  | .cells l true, .cells r true => vsSame l r
  | .map [], .map [] => true
  | _, _ => false

def freeAt (s : S) : Option Nat → Bool
  | none => true
  | some b => (s.get b).isNone

def evPlan (call : FV → List V → S → (V → S → Option R) → Option R) (base : Nat) : List PI → Env → S → (Env → S → Option R) → Option R
  | [], E, s, k => k E s
  | .op o :: ps, E, s, k =>
    bif wanted E o.gd then
      bif freeAt s (slotOf base o) then evO call (slotOf base o) o.o E s fun v s => evPlan call base ps (setD E o.dst v) s k else none
    else evPlan call base ps (setD E o.dst undef) s k
  | .chk o :: ps, E, s, k =>
    bif wanted E o.gd then
      match o.dst with
      | some p => evO call none o.o E s fun v _ => bif vSame v (E.get p) then evPlan call base ps E s k else none
      | none => evO call none o.o E s fun _ _ => evPlan call base ps E s k
    else evPlan call base ps E s k
  | .chkA o :: ps, E, s, k =>
    bif wanted E o.gd then
      match objOf E o.o, s.get (base + o.id) with
      | some a, some b => bif objSame a b then evPlan call base ps E s k else none
      | _, _ => none
    else evPlan call base ps E s k

def evC (call : FV → List V → S → (V → S → Option R) → Option R)
    (it : (Env → S → (J → Env → S → Option R) → Option R) → Env → S → (J → Env → S → Option R) → Option R) :
    C → Env → S → (J → Env → S → Option R) → Option R
  | .skip, E, s, k => k .nrm E s
  | .ret, E, s, k => k .ret E s
  | .exit id, E, s, k => k (.exit id) E s
  | .seq a b, E, s, k => evC call it a E s fun x E s => match x with
    | .nrm => evC call it b E s k
    | .ret => k .ret E s
    | .exit id => k (.exit id) E s
  | .cond x a b, E, s, k => match E.val x with
    | .b t => bif t then evC call it a E s k else evC call it b E s k
    | _ => none
  | .block id c, E, s, k => evC call it c E s fun x E s => match x with
    | .nrm => k .nrm E s
    | .ret => k .ret E s
    | .exit j => bif Nat.beq j id then k .nrm E s else k (.exit j) E s
  | .loop c, E, s, k => it (fun E s k => evC call it c E s k) E s k
  | .reg ops, E, s, k => evOps call ops E s fun E s => k .nrm E s
  | .dreg n ps, E, s, k => evPlan call s.nx ps E ⟨s.h, s.nx + n⟩ fun E s => k .nrm E s
  | .rngF f ps as bd, E, s, k =>
    newK s none (.loop 0 .nrm E ps as bd) fun l s =>
    callK call (E.val f) [.f (.yld l) [] []] s fun _ s =>
    match s.get l with
    | some (.loop st pd E' ps' as' bd') =>
      bif Nat.beq st 1 then none else k pd E (s.put l (.loop 3 pd E' ps' as' bd'))
    | _ => none
  | .fail, _, _, _ => none

def iter : Nat → (Env → S → (J → Env → S → Option R) → Option R) → Env → S → (J → Env → S → Option R) → Option R
  | 0, _, _, _, _ => none
  | n + 1, body, E, s, k => body E s fun x E s => match x with
    | .nrm => iter n body E s k
    | .ret => k .ret E s
    | .exit id => k (.exit id) E s

def setArgs : List P → List V → Env → Option Env
  | [], [], E => some E
  | p :: ps, v :: vs, E => setArgs ps vs (E.set p v)
  | _, _, _ => none

def resVals (s : S) (E : Env) : List RV → Option (List V)
  | [] => some []
  | .t p :: r => match resVals s E r with | some l => some (E.get p :: l) | none => none
  | .c p n :: r =>
    match resVals s E r with
    | none => none
    | some l => match E.get p with
      | .p b o => match n with
        | none => match s.cell b o with | some v => some (v :: l) | none => none
        | some n => match s.row b o n with | some w => some (.a w :: l) | none => none
      | _ => none

def tupOf : List V → V
  | [v] => v
  | l => .tup l

def isNrm : J → Bool
  | .nrm => true
  | _ => false

def run (tab : Nat → Option CF) : Nat → FV → List V → S → (V → S → Option R) → Option R
  | 0, _, _, _, _ => none
  | n + 1, .fn g, args, s, k =>
    optK (tab g) fun cf =>
    optK (setArgs cf.ps args .e) fun E =>
    evC (run tab n) (iter n) cf.body E s fun x E s =>
    match x with
    | .exit _ => none
    | _ => optK (resVals s E cf.res) fun vs => k (tupOf vs) s
  | n + 1, .yld l, args, s, k =>
    match s.get l with
    | some (.loop _ _ E ps as bd) =>
      optK (setArgs ps args E) fun E =>
      evC (run tab n) (iter n) as E s fun x E s =>
      match x with
      | .nrm =>
        match s.get l with
        | some (.loop 0 pd E' ps' as' bd') =>
          evC (run tab n) (iter n) bd E (s.put l (.loop 1 pd E' ps' as' bd')) fun x _ s =>
          match s.get l with
          | some (.loop _ _ E' ps' as' bd') => k (.b (isNrm x)) (s.put l (.loop (bif isNrm x then 0 else 2) x E' ps' as' bd'))
          | _ => none
        | _ => none
      | _ => none
    | _ => none

end Go.Ev
