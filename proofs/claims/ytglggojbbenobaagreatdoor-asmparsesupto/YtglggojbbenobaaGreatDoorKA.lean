/- A verified evaluator of loaded functions, part KA: what it computes, the machine does. Plain texts joined. -/
import Derived.Orders
import Derived.Laws.Sem
import Derived.Laws.World
import Derived.Calls
import Derived.Laws.CopyRow
import Derived.Laws.Strings
import Derived.IntWalk
import Derived.Lib.Strings
import Derived.Lib.ConvBytes
set_option linter.all false

/- The definitions of an executable evaluator of loaded Go functions on pure data: values, cells, operations, code. -/
section
namespace Go.Ev

/-! ## Data -/
inductive D where
  | int (k : IntKind) (n : Int)
  | bool (b : Bool)
  | str (s : List UInt8)
  | sl (l : List D)
  | agg (l : List D)
  | nilptr
  | nilif
  | nilfn
  | nilmap
  | err
  | fn (f : FuncId)
  | map (ks vs : List D)
  deriving Inhabited

mutual
def D.size : D → Nat
  | .agg l => D.sizes l
  | _ => 1
def D.sizes : List D → Nat
  | [] => 0
  | x :: l => x.size + D.sizes l
end

def D.isAgg : D → Bool
  | .agg _ => true
  | _ => false

inductive V where
  | d (x : D)
  | nils
  | own (t : Nat)
  | mp (t : Nat)
  | ptr (t off : Nat) (p : List Nat)
  | eptr (t i sz off : Nat) (p : List Nat)
  | sptr (t n : Nat)
  | fref (x : D)
  | agg (l : List V)
  | clo (f : FuncId) (cap : List V)
  | tup (l : List V)
  | skp
  | und
  deriving Inhabited

mutual
def V.size : V → Nat
  | .d x => x.size
  | .agg l => V.sizes l
  | _ => 1
def V.sizes : List V → Nat
  | [] => 0
  | x :: l => x.size + V.sizes l
end

def V.isAgg : V → Bool
  | .d x => x.isAgg
  | .agg _ => true
  | _ => false

/-- May it lie in memory (no tuple, no mark)? -/
def V.flat : V → Bool
  | .tup _ | .skp | .und => false
  | _ => true

def V.toDs : List V → Option (List D)
  | [] => some []
  | .d x :: l => match V.toDs l with
    | some r => some (x :: r)
    | none => none
  | _ :: _ => none

def V.mk (l : List V) : V :=
  match V.toDs l with
  | some ds => .d (.agg ds)
  | none => .agg l

def V.kids : V → Option (List V)
  | .d (.agg ds) => some (ds.map V.d)
  | .agg l => some l
  | _ => none

/-- The part of a value at a path: how many cells lie before it, and the part. -/
def V.at (v : V) : List Nat → Option (Nat × V)
  | [] => some (0, v)
  | i :: p => match v.kids with
    | none => none
    | some l => match l[i]? with
      | none => none
      | some u => match u.at p with
        | none => none
        | some (o, r) => some (V.sizes (l.take i) + o, r)

def V.setAt (v : V) (x : V) : List Nat → Option V
  | [] => some x
  | i :: p => match v.kids with
    | none => none
    | some l => match l[i]? with
      | none => none
      | some u => match u.setAt x p with
        | none => none
        | some r => some (V.mk (l.set i r))

mutual
def V.refs : V → List Nat
  | .own t | .mp t | .ptr t _ _ | .eptr t _ _ _ _ | .sptr t _ => [t]
  | .agg l | .clo _ l | .tup l => V.refsL l
  | _ => []
def V.refsL : List V → List Nat
  | [] => []
  | x :: l => x.refs ++ V.refsL l
end

mutual
/-- References to the cells 'ks' are forgotten. -/
def V.kill (ks : List Nat) : V → V
  | .own t => if ks.contains t then .und else .own t
  | .mp t => if ks.contains t then .und else .mp t
  | .ptr t o p => if ks.contains t then .und else .ptr t o p
  | .eptr t i s o p => if ks.contains t then .und else .eptr t i s o p
  | .sptr t n => if ks.contains t then .und else .sptr t n
  | .agg l => .agg (V.killL ks l)
  | .clo f l => .clo f (V.killL ks l)
  | .tup l => .tup (V.killL ks l)
  | v => v
def V.killL (ks : List Nat) : List V → List V
  | [] => []
  | x :: l => x.kill ks :: V.killL ks l
end

mutual
/-- Nothing in it is forgotten. -/
def V.whole : V → Bool
  | .und => false
  | .agg l | .clo _ l | .tup l => V.wholeL l
  | _ => true
def V.wholeL : List V → Bool
  | [] => true
  | x :: l => x.whole && V.wholeL l
end

def assoc {α : Type} (k : Nat) : List (Nat × α) → Option α
  | [] => none
  | (j, x) :: l => if j = k then some x else assoc k l

mutual
/-- References are renamed; what has no new name is forgotten. -/
def V.ren (σ : List (Nat × Nat)) : V → V
  | .own t => match assoc t σ with | some u => .own u | none => .und
  | .mp t => match assoc t σ with | some u => .mp u | none => .und
  | .ptr t o p => match assoc t σ with | some u => .ptr u o p | none => .und
  | .eptr t i s o p => match assoc t σ with | some u => .eptr u i s o p | none => .und
  | .sptr t n => match assoc t σ with | some u => .sptr u n | none => .und
  | .agg l => .agg (V.renL σ l)
  | .clo f l => .clo f (V.renL σ l)
  | .tup l => .tup (V.renL σ l)
  | v => v
def V.renL (σ : List (Nat × Nat)) : List V → List V
  | [] => []
  | x :: l => x.ren σ :: V.renL σ l
end

/-! ## Cells and states -/
inductive Cell where
  | var (e : TypeId) (v : V)
  | row (e : TypeId) (sz : Nat) (l : List D)
  | map (ks vs : List D)
  | frz (x : D)
  | iter (s : List UInt8) (pos : Nat)
  deriving Inhabited

def Cell.refs : Cell → List Nat
  | .var _ v => v.refs
  | _ => []

def Cell.whole : Cell → Bool
  | .var _ v => v.whole
  | _ => true

def Cell.kill (ks : List Nat) : Cell → Cell
  | .var e v => .var e (v.kill ks)
  | c => c

def Cell.ren (σ : List (Nat × Nat)) : Cell → Cell
  | .var e v => .var e (v.ren σ)
  | c => c

abbrev Env := List (Nat × V)
abbrev Cells := List (Nat × Cell)

def Env.get (e : Env) (s : Nat) : V :=
  match e with
  | [] => .und
  | (k, v) :: e => if k = s then v else Env.get e s

def Env.set (e : Env) (s : Nat) (v : V) : Env :=
  match e with
  | [] => [(s, v)]
  | (k, u) :: e => if k = s then (k, v) :: e else (k, u) :: Env.set e s v

def Env.kill (ks : List Nat) : Env → Env
  | [] => []
  | (k, v) :: e => (k, v.kill ks) :: Env.kill ks e

def Cells.set (e : Cells) (t : Nat) (c : Cell) : Cells :=
  match e with
  | [] => [(t, c)]
  | (k, u) :: e => if k = t then (k, c) :: e else (k, u) :: Cells.set e t c

def Cells.kill (ks : List Nat) : Cells → Cells
  | [] => []
  | (k, c) :: e => (k, c.kill ks) :: Cells.kill ks e

def Cells.setAll (e : Cells) : List (Nat × Cell) → Cells
  | [] => e
  | (t, c) :: l => Cells.setAll (Cells.set e t c) l

structure St where
  env : Env
  cells : Cells

/-! ## Operations -/
inductive X where
  | t (n : Nat)
  | c (v : V)
  | g (n : Nat)
  deriving Inhabited

inductive TC where
  | int
  | bool
  | str
  | ptr
  | sl
  | map
  | fn
  | ifc
  | flat (n : Nat)
  | other
  deriving Inhabited, DecidableEq

inductive SOp where
  | mov (x : X)
  | nilrow (e : TypeId) (sz : Nat)
  | pick (c a b : X)
  | alloc (e : TypeId) (z : V)
  | box (e : TypeId) (x : X)
  | build (zs : List V) (ps : List (Nat × X))
  | bsl (e : TypeId) (sz : Nat) (n : Nat) (ps : List X)
  | ld (sz : Nat) (ag : Bool) (a : X)
  | st (sz : Nat) (a x : X)
  | nilc (x : X)
  | bin (op : BinOp) (tc : TC) (x y : X)
  | eqS (neg : Bool) (ks : List TC) (x y : X)
  | un (op : UnOp) (x : X)
  | cnvI (k : IntKind) (x : X)
  | cnvSB (x : X)
  | cnvBS (x : X)
  | cnvIS (x : X)
  | cnvS (x : X)
  | rngS (x : X)
  | nxtS (x : X)
  | mkf (f : FuncId) (cap : List X)
  | mkm
  | mks (e : TypeId) (sz bytes : Nat) (z : D) (l c : X)
  | slS (x : X) (lo hi : Option X)
  | slL (sz : Nat) (x : X) (lo hi : Option X)
  | fa (x : X) (i off : Nat)
  | fld (x : X) (i off sz : Nat) (ag : Bool)
  | ia (sz : Nat) (x i : X)
  | iaA (n sz : Nat) (x i : X)
  | ixS (x i : X)
  | ixA (n sz : Nat) (ag : Bool) (x i : X)
  | lk (kc : TC) (z : V) (m k : X) (ok : Bool)
  | mu (kc : TC) (m k x : X)
  | ext (x : X) (i : Nat)
  | call (f : FuncId) (args : List X)
  | callM (f : FuncId) (args : List X)
  | callv (f : X) (args : List X)
  | app (e : TypeId) (sz bytes : Nat) (s x : X)
  | len (k : TC) (x : X)
  | cst (v : V)
  | mxn (mx : Bool) (xs : List X)
  deriving Inhabited

def SOp.xs : SOp → List X
  | .mov x | .box _ x | .ld _ _ x | .nilc x | .un _ x | .cnvI _ x | .cnvSB x | .cnvBS x | .cnvIS x | .cnvS x | .rngS x | .nxtS x | .fa x _ _ | .fld x _ _ _ _ | .ext x _ | .len _ x => [x]
  | .pick c a b => [c, a, b]
  | .build _ ps => ps.map (·.2)
  | .bsl _ _ _ ps => ps
  | .st _ a x | .bin _ _ a x | .eqS _ _ a x | .mks _ _ _ _ a x | .ia _ a x | .iaA _ _ a x | .ixS a x | .ixA _ _ _ a x | .lk _ _ a x _ | .app _ _ _ a x => [a, x]
  | .mkf _ cap => cap
  | .slS x lo hi | .slL _ x lo hi => [x] ++ lo.toList ++ hi.toList
  | .mu _ m k x => [m, k, x]
  | .call _ args | .callM _ args => args
  | .callv f args => f :: args
  | .mxn _ xs => xs
  | .nilrow _ _ | .alloc _ _ | .mkm | .cst _ => []

def X.slots : X → List Nat
  | .t n => [n]
  | _ => []

structure SOpr where
  dst : Option Nat
  op : SOp
  guard : Option (Nat × Bool)
  deriving Inhabited

/-- The slots that an operation looks at. -/
def SOpr.reads (o : SOpr) : List Nat := o.op.xs.flatMap X.slots ++ (match o.guard with | some (s, _) => [s] | none => [])

/-- Two operations that do not look at each other's slots. -/
def SOpr.apart (x y : SOpr) : Bool :=
  (match x.dst with
   | some d => !(y.reads.contains d) && y.dst != some d
   | none => true) &&
  (match y.dst with
   | some d => !(x.reads.contains d)
   | none => true)

inductive SCode where
  | skip
  | region (id : Nat) (ops : List SOpr) (draw : Bool) (chk : List (Nat × Nat)) (drop : List Nat)
  | seq (a b : SCode)
  | cond (c : X) (a b : SCode)
  | block (id : Nat) (c : SCode)
  | loop (c : SCode)
  | exit (id : Nat)
  | ret
  | bad
  deriving Inhabited

inductive SRes where
  | tmp (t : Nat)
  | raw (t : Nat)
  | cell (t sz : Nat) (ag : Bool)
  deriving Inhabited

structure SFunc where
  nparams : Nat
  ntmps : Nat
  code : SCode
  results : List SRes
  deriving Inhabited

inductive EX where
  | normal
  | exit (id : Nat)
  | ret
  deriving DecidableEq, Inhabited

structure Eff where
  res : V
  wr : List (Nat × Cell) := []
  kill : List Nat := []

end Go.Ev
end

/- The evaluator: what each operation, each piece of code and each function of the digested form gives on pure data. -/
section
namespace Go.Ev

/-! ## Arithmetic and comparisons -/
def intBin (op : BinOp) (k : IntKind) (a b : Int) : Option D :=
  match op with
  | .add => some (.int k (k.wrap (a + b)))
  | .sub => some (.int k (k.wrap (a - b)))
  | .mul => some (.int k (k.wrap (a * b)))
  | .quo => if b = 0 then none else some (.int k (k.wrap (a.tdiv b)))
  | .rem => if b = 0 then none else some (.int k (a.tmod b))
  | .and => some (.int k (k.wrap (BitVec.ofInt k.bits a &&& BitVec.ofInt k.bits b).toNat))
  | .or => some (.int k (k.wrap (BitVec.ofInt k.bits a ||| BitVec.ofInt k.bits b).toNat))
  | .xor => some (.int k (k.wrap (BitVec.ofInt k.bits a ^^^ BitVec.ofInt k.bits b).toNat))
  | .andNot => some (.int k (k.wrap (BitVec.ofInt k.bits a &&& ~~~ BitVec.ofInt k.bits b).toNat))
  | .eql => some (.bool (decide (a = b)))
  | .neq => some (.bool (!decide (a = b)))
  | .lss => some (.bool (decide (a < b)))
  | .leq => some (.bool (decide (a ≤ b)))
  | .gtr => some (.bool (decide (b < a)))
  | .geq => some (.bool (decide (b ≤ a)))
  | .shl => none
  | .shr => none

def shiftBin (op : BinOp) (k : IntKind) (a b : Int) : Option D :=
  if b < 0 then none else
  match op with
  | .shl => some (.int k (k.wrap (a * 2 ^ (min b.toNat k.bits))))
  | .shr => some (.int k (a.fdiv (2 ^ (min b.toNat k.bits))))
  | _ => none

def isShift : BinOp → Bool
  | .shl | .shr => true
  | _ => false

def strBin (op : BinOp) (a b : List UInt8) : Option D :=
  match op with
  | .add => if a.length + b.length ≤ 9223372036854775807 then some (.str (a ++ b)) else none
  | .eql => some (.bool (decide (a = b)))
  | .neq => some (.bool (!decide (a = b)))
  | .lss => some (.bool (Op.bytesLess a b))
  | .leq => some (.bool (Op.bytesLess a b || decide (a = b)))
  | .gtr => some (.bool (!(Op.bytesLess a b || decide (a = b))))
  | .geq => some (.bool (!Op.bytesLess a b))
  | _ => none

/-- Equality where one side is nil, and of bools. -/
def eqV (get : Nat → Option Cell) (tc : TC) (a b : V) : Option Bool :=
  match tc, a, b with
  | .bool, .d (.bool x), .d (.bool y) => some (x == y)
  | .ptr, .d .nilptr, .d .nilptr => some true
  | .ptr, .ptr _ _ _, .d .nilptr => some false
  | .ptr, .eptr _ _ _ _ _, .d .nilptr => some false
  | .ptr, .fref _, .d .nilptr => some false
  | .ptr, .d .nilptr, .ptr _ _ _ => some false
  | .sl, .nils, .nils => some true
  | .sl, .d (.sl (_ :: _)), .nils => some false
  | .sl, .own t, .nils => match get t with
    | some (.row _ _ (_ :: _)) => some false
    | _ => none
  | .ifc, .d .nilif, .d .nilif => some true
  | .ifc, .d .err, .d .nilif => some false
  | .fn, .d .nilfn, .d .nilfn => some true
  | .fn, .d (.fn _), .d .nilfn => some false
  | .fn, .clo _ _, .d .nilfn => some false
  | .map, .d .nilmap, .d .nilmap => some true
  | .map, .mp t, .d .nilmap => match get t with
    | some (.map _ _) => some false
    | _ => none
  | .map, .d (.map _ _), .d .nilmap => some false
  | _, _, _ => none

def binV (get : Nat → Option Cell) (op : BinOp) (tc : TC) (a b : V) : Option V :=
  match a, b with
  | .d (.int k x), .d (.int k' y) =>
    if isShift op then (shiftBin op k x y).map .d
    else if k = k' then (intBin op k x y).map .d else none
  | .d (.str x), .d (.str y) => (strBin op x y).map .d
  | a, b => match op with
    | .eql => (eqV get tc a b).map fun r => .d (.bool r)
    | .neq => (eqV get tc a b).map fun r => .d (.bool (!r))
    | _ => none

def unV (op : UnOp) (a : V) : Option V :=
  match op, a with
  | .neg, .d (.int k n) => some (.d (.int k (k.wrap (0 - n))))
  | .xor, .d (.int k n) => some (.d (.int k (k.wrap (BitVec.ofInt k.bits (if k.signed then -1 else k.max) ^^^ BitVec.ofInt k.bits n).toNat)))
  | .not, .d (.bool b) => some (.d (.bool (!b)))
  | _, _ => none

/-! ## Slices and maps as they are seen -/
inductive SV where
  | own (t : Nat) (e : TypeId) (sz : Nat) (l : List D)
  | frz (l : List D)
  | nil

def slView (get : Nat → Option Cell) (v : V) : Option SV :=
  match v with
  | .own t => match get t with
    | some (.row e sz l) => some (.own t e sz l)
    | some (.frz (.sl l)) => some (.frz l)
    | _ => none
  | .d (.sl l) => some (.frz l)
  | .nils => some .nil
  | _ => none

def keyEq (a b : D) : Option Bool :=
  match a, b with
  | .int k x, .int k' y => if k = k' then some (decide (x = y)) else none
  | .str x, .str y => some (decide (x = y))
  | .bool x, .bool y => some (x == y)
  | _, _ => none

/-- The index of a key. -/
def keyAt (k : D) : List D → Option (Option Nat)
  | [] => some none
  | x :: l => match keyEq k x with
    | none => none
    | some true => some (some 0)
    | some false => match keyAt k l with
      | none => none
      | some none => some none
      | some (some i) => some (some (i + 1))

def keyFits (kc : TC) (k : D) : Bool :=
  match kc, k with
  | .int, .int _ _ | .str, .str _ | .bool, .bool _ => true
  | _, _ => false

def mpView (get : Nat → Option Cell) (v : V) : Option (List D × List D) :=
  match v with
  | .mp t => match get t with
    | some (.map ks vs) => some (ks, vs)
    | some (.frz (.map ks vs)) => some (ks, vs)
    | _ => none
  | .d (.map ks vs) => some (ks, vs)
  | .d .nilmap => some ([], [])
  | _ => none

def bytesOf : List D → Option (List UInt8)
  | [] => some []
  | .int .u8 n :: l => match bytesOf l with
    | some r => if 0 ≤ n ∧ n < 256 then some (UInt8.ofNat n.toNat :: r) else none
    | none => none
  | _ :: _ => none

def ofBytes (s : List UInt8) : List D := s.map fun b => .int .u8 b.toNat

/-! ## Freezing -/
mutual
def V.frz (get : Nat → Option Cell) : V → Option V
  | .own t => match get t with
    | some (.row _ _ l) => some (.d (.sl l))
    | some (.frz (.sl l)) => some (.d (.sl l))
    | _ => none
  | .mp t => match get t with
    | some (.map ks vs) => some (.d (.map ks vs))
    | some (.frz (.map ks vs)) => some (.d (.map ks vs))
    | _ => none
  | .nils => some (.d (.sl []))
  | .agg l => match V.frzL get l with
    | some r => some (V.mk r)
    | none => none
  | .tup l => match V.frzL get l with
    | some r => some (.tup r)
    | none => none
  | v => some v
def V.frzL (get : Nat → Option Cell) : List V → Option (List V)
  | [] => some []
  | x :: l => match x.frz get with
    | none => none
    | some y => match V.frzL get l with
      | none => none
      | some r => some (y :: r)
end

mutual
/-- The cells that freezing meets. -/
def V.ftags : V → List Nat
  | .own t | .mp t => [t]
  | .agg l | .tup l => V.ftagsL l
  | _ => []
def V.ftagsL : List V → List Nat
  | [] => []
  | x :: l => x.ftags ++ V.ftagsL l
end

def frzWr (get : Nat → Option Cell) : List Nat → List (Nat × Cell)
  | [] => []
  | t :: l => match get t with
    | some (.row _ _ r) => (t, .frz (.sl r)) :: frzWr get l
    | some (.map ks vs) => (t, .frz (.map ks vs)) :: frzWr get l
    | _ => frzWr get l

/-! ## Calls -/
def addNew (acc : List Nat) : List Nat → List Nat
  | [] => acc
  | t :: l => if acc.contains t then addNew acc l else addNew (acc ++ [t]) l

/-- What freezing these values writes. -/
def fzw (get : Nat → Option Cell) (vs : List V) : List (Nat × Cell) := frzWr get (addNew [] (V.ftagsL vs))

def refsAt (get : Nat → Option Cell) : List Nat → List Nat
  | [] => []
  | t :: l => (match get t with
    | some c => c.refs
    | none => []) ++ refsAt get l

/-- All cells that are reached from 'ts' (three steps; more is refused). -/
def reach (get : Nat → Option Cell) (ts : List Nat) : Option (List Nat) :=
  let a := addNew [] ts
  let b := addNew a (refsAt get a)
  let c := addNew b (refsAt get b)
  if (refsAt get c).all (fun t => c.contains t) then some c else none

def numbered {α : Type} (i : Nat) : List α → List (Nat × α)
  | [] => []
  | x :: l => (i, x) :: numbered (i + 1) l

def swapped : List (Nat × Nat) → List (Nat × Nat)
  | [] => []
  | (a, b) :: l => (b, a) :: swapped l

/-- Each of 'ts' with its cell, under the new names 'σ'. -/
def pass (get : Nat → Option Cell) (σ : List (Nat × Nat)) : List Nat → Option Cells
  | [] => some []
  | t :: l => match assoc t σ, get t, pass get σ l with
    | some u, some c, some r => some ((u, c.ren σ) :: r)
    | _, _, _ => none

abbrev CallF := FuncId → List V → Cells → Option (V × Cells)

def without (l : List Nat) (m : Nat) : List Nat := l.filter fun t => m ≤ t

/-- The cells among 'ts' that are no variables. -/
def noVars (get : Nat → Option Cell) : List Nat → List Nat
  | [] => []
  | t :: l => match get t with
    | some (.var _ _) => noVars get l
    | _ => t :: noVars get l

def newTags (T : Nat) (new : List Nat) : List Nat :=
  match new with
  | [] => []
  | _ :: _ => [T, T + 1, T + 2, T + 3]

/-- What is frozen is no longer handed over as a row. -/
def over (fw : List (Nat × Cell)) (get : Nat → Option Cell) : Nat → Option Cell := fun t =>
  match assoc t fw with
  | some c => some c
  | none => get t

/-- A new name that is none of 'ts' (a loop's later round may hand over what an earlier one has made). -/
def pickT (T : Nat) (ts : List Nat) : Nat :=
  if ts.all (fun t => t < T || T + 4 ≤ t) = true then T
  else if ts.all (fun t => t < T + 1000000000 || T + 1000000004 ≤ t) = true then T + 1000000000 else T + 2000000000

/-- What is handed over: frozen, or as it is ('moved'). -/
def frzM (mv : Bool) (get : Nat → Option Cell) (args : List V) : Option (List V) :=
  match mv with
  | true => some args
  | false => V.frzL get args
def fzwM (mv : Bool) (get : Nat → Option Cell) (args : List V) : List (Nat × Cell) :=
  match mv with
  | true => []
  | false => fzw get args

def callEff (call : CallF) (mv : Bool) (T : Nat) (f : FuncId) (args : List V) (get : Nat → Option Cell) : Option Eff :=
  match frzM mv get args with
  | none => none
  | some as => match reach (over (fzwM mv get args) get) (V.refsL as) with
    | none => none
    | some ts => match pass (over (fzwM mv get args) get) (swapped (numbered 0 ts)) ts with
      | none => none
      | some cs0 => match call f (V.renL (swapped (numbered 0 ts)) as) cs0 with
        | none => none
        | some (r, cs) => match reach (fun t => assoc t cs) (List.range ts.length ++ r.refs) with
          | none => none
          | some es => match pass (fun t => assoc t cs) (numbered 0 ts ++ swapped (numbered (pickT T ts) (without es ts.length))) es with
            | none => none
            | some back =>
              if (without es ts.length).length ≤ 4 ∧ ts.length ≤ 900 ∧ ts.all (fun t => t < pickT T ts || pickT T ts + 4 ≤ t) = true then
                some { res := r.ren (numbered 0 ts ++ swapped (numbered (pickT T ts) (without es ts.length))), wr := fzwM mv get args ++ back,
                       kill := noVars (over (fzwM mv get args) get) ts ++ newTags (pickT T ts) (without es ts.length) }
              else none

/-! ## Operations -/
def asIdx (v : V) : Option Int :=
  match v with
  | .d (.int _ n) => some n
  | _ => none

def optIdx (val : X → V) (o : Option X) (dflt : Nat) : Option Nat :=
  match o with
  | none => some dflt
  | some x => match asIdx (val x) with
    | some n => if 0 ≤ n then some n.toNat else none
    | none => none

/-- 'v' fits a variable's part of 'sz' cells. -/
def fits (sz : Nat) (v : V) : Bool := v.flat && (v.size == sz)

def ldV (get : Nat → Option Cell) (sz : Nat) (ag : Bool) (a : V) : Option V :=
  match a with
  | .ptr t off p => match get t with
    | some (.var _ v) => match v.at p with
      | some (o, u) => if o = off ∧ u.size = sz ∧ u.isAgg = ag then some u else none
      | none => none
    | _ => none
  | .eptr t i esz off p => match get t with
    | some (.row _ sz' l) => match l[i]? with
      | some x => match (V.d x).at p with
        | some (o, u) => if sz' = esz ∧ o = off ∧ u.size = sz ∧ u.isAgg = ag then some u else none
        | none => none
      | none => none
    | _ => none
  | .fref x => if x.size = sz ∧ x.isAgg = ag then some (.d x) else none
  | _ => none

def stV (get : Nat → Option Cell) (sz : Nat) (a x : V) : Option (Nat × Cell) :=
  if fits sz x then
    match a with
    | .ptr t off p => match get t with
      | some (.var e v) => match v.at p, v.setAt x p with
        | some (o, u), some v' => if o = off ∧ u.size = sz then some (t, .var e v') else none
        | _, _ => none
      | _ => none
    | .eptr t i esz off p => match get t with
      | some (.row e sz' l) => match l[i]? with
        | some y => match (V.d y).at p, (V.d y).setAt x p with
          | some (o, u), some (.d y') => if sz' = esz ∧ o = off ∧ u.size = sz then some (t, .row e sz' (l.set i y')) else none
          | _, _ => none
        | none => none
      | _ => none
    | _ => none
  else none

def setParts (zs : List V) : List (Nat × V) → Option (List V)
  | [] => some zs
  | (i, x) :: ps => match zs[i]? with
    | none => none
    | some z => if fits z.size x then setParts (zs.set i x) ps else none

def toD (v : V) : Option D :=
  match v with
  | .d x => some x
  | _ => none

def toDL : List V → Option (List D)
  | [] => some []
  | v :: l => match toD v, toDL l with
    | some x, some r => some (x :: r)
    | _, _ => none

def okEff (v : V) : Option Eff := some { res := v }

def slotHead (sz : Nat) (l : List D) : Bool :=
  match l with
  | [] => true
  | x :: _ => x.size == sz

/-- What is appended. -/
def srcOf (get : Nat → Option Cell) (sz : Nat) (v : V) : Option (List D) :=
  match v with
  | .d (.str b) => if sz = 1 then some (ofBytes b) else none
  | v => match slView get v with
    | some (.own _ _ sz' l) => if sz' = sz then some l else none
    | some (.frz l) => if slotHead sz l then some l else none
    | some .nil => some []
    | none => none

/-- The elements of a slice of bytes. -/
def srcB (get : Nat → Option Cell) (v : V) : Option (List D) :=
  match v with
  | .d (.str _) => none
  | v => srcOf get 1 v

/-- Equality of structs of numbers, strings and bools. -/
def eqDs : List TC → List D → List D → Option Bool
  | [], [], [] => some true
  | k :: ks, x :: xs, y :: ys => if keyFits k x = true then match keyEq x y with
      | none => none
      | some false => some false
      | some true => eqDs ks xs ys
    else none
  | _, _, _ => none

/-- The element at 'l', if there is one, has 'sz' cells. -/
def slotAt (sz : Nat) (s : List D) (l : Nat) : Bool :=
  match s[l]? with
  | some y => y.size == sz
  | none => true

def evalOp (call : CallF) (T : Nat) (op : SOp) (val : X → V) (get : Nat → Option Cell) : Option Eff :=
  match op with
  | .mov x => okEff (val x)
  | .cst v => okEff v
  | .nilrow e sz => some { res := .own T, wr := [(T, .row e sz [])], kill := [T] }
  | .pick c a b => match val c with
    | .d (.bool true) => okEff (val a)
    | .d (.bool false) => okEff (val b)
    | _ => none
  | .alloc e z => some { res := .ptr T 0 [], wr := [(T, .var e z)], kill := [T] }
  | .box e x => if (val x).flat then some { res := .ptr T 0 [], wr := [(T, .var e ((val x).kill [T]))], kill := [T] } else none
  | .build zs ps => match setParts zs (ps.map fun (i, x) => (i, val x)) with
    | some l => okEff (V.mk l)
    | none => none
  | .bsl e sz _ ps => match V.frzL get (ps.map val) with
    | none => none
    | some l => match toDL l with
      | none => if l.all (fun v => v.flat && (v.size == sz)) then
          some { res := .sptr T l.length, wr := fzw get (ps.map val) ++ [(T, .var e (.agg (V.killL [T] l)))], kill := [T] }
        else none
      | some ds => if ds.all (fun x => x.size == sz) then
          some { res := .own T, wr := fzw get (ps.map val) ++ [(T, .row e sz ds)], kill := [T] }
        else none
  | .ld sz ag a => match ldV get sz ag (val a) with
    | some v => okEff v
    | none => none
  | .st sz a x => match stV get sz (val a) (val x) with
    | some w => some { res := .skp, wr := [w] }
    | none => none
  | .nilc x => match val x with
    | .ptr t o p => okEff (.ptr t o p)
    | .eptr t i s o p => okEff (.eptr t i s o p)
    | .fref d => okEff (.fref d)
    | .d (.fn f) => okEff (.d (.fn f))
    | .clo f l => okEff (.clo f l)
    | _ => none
  | .bin op tc x y => match binV get op tc (val x) (val y) with
    | some v => okEff v
    | none => none
  | .eqS neg ks x y => match val x, val y with
    | .d (.agg xs), .d (.agg ys) => match eqDs ks xs ys with
      | some b => okEff (.d (.bool (if neg then !b else b)))
      | none => none
    | _, _ => none
  | .un op x => match unV op (val x) with
    | some v => okEff v
    | none => none
  | .cnvI k x => match val x with
    | .d (.int _ n) => okEff (.d (.int k (k.wrap n)))
    | _ => none
  | .cnvSB x => match val x with
    | .d (.str s) => okEff (.d (.sl (ofBytes s)))
    | _ => none
  | .cnvBS x => match srcB get (val x) with
    | some m => match bytesOf m with
      | some s => okEff (.d (.str s))
      | none => none
    | none => none
  | .cnvIS x => match val x with
    | .d (.int _ n) => okEff (.d (.str (Utf8.encode n).data.toList))
    | _ => none
  | .rngS x => match val x with
    | .d (.str s) => some { res := .ptr T 0 [], wr := [(T, .iter s 0)], kill := [T] }
    | _ => none
  | .nxtS x => match val x with
    | .ptr t 0 _ => match get t with
      | some (.iter s pos) => if pos < s.length then some { res := .tup [.d (.bool true), .d (.int .i64 pos), .d (.int .i32 (Utf8.decode ⟨s.toArray⟩ pos).1)], wr := [(t, .iter s (pos + (Utf8.decode ⟨s.toArray⟩ pos).2))] } else okEff (.tup [.d (.bool false)])
      | _ => none
    | _ => none
  | .cnvS x => match val x with
    | .d (.str s) => okEff (.d (.str s))
    | _ => none
  | .mkf f cap => match cap with
    | [] => okEff (.d (.fn f))
    | cs => okEff (.clo f (cs.map val))
  | .mkm => some { res := .mp T, wr := [(T, .map [] [])], kill := [T] }
  | .mks e sz bytes z l c => match asIdx (val l), asIdx (val c) with
    | some l, some c => if 0 ≤ l ∧ l ≤ c ∧ c ≤ 140737488355328 ∧ bytes * c ≤ 140737488355328 ∧ z.size = sz then
        some { res := .own T, wr := [(T, .row e sz (List.replicate l.toNat z))], kill := [T] }
      else none
    | _, _ => none
  | .slS x lo hi => match val x with
    | .d (.str s) => match optIdx val lo 0, optIdx val hi s.length with
      | some l, some h => if l ≤ h ∧ h ≤ s.length then okEff (.d (.str ((s.take h).drop l))) else none
      | _, _ => none
    | _ => none
  | .slL sz x lo hi => match slView get (val x) with
    | some (.frz s) => match optIdx val lo 0, optIdx val hi s.length with
      | some l, some h =>
        if l ≤ h ∧ h ≤ s.length ∧ slotAt sz s l = true then okEff (.d (.sl ((s.take h).drop l))) else none
      | _, _ => none
    | some .nil => match optIdx val lo 0, optIdx val hi 0 with
      | some 0, some 0 => okEff .nils
      | _, _ => none
    | some (.own t e sz' s) => match optIdx val lo 0, optIdx val hi s.length with
      | some l, some h =>
        if sz' = sz ∧ l ≤ h ∧ h ≤ s.length then
          if l = 0 then some { res := .own t, wr := [(t, .row e sz (s.take h))], kill := [t] }
          else some { res := .d (.sl ((s.take h).drop l)), wr := [(t, .frz (.sl s))] }
        else none
      | _, _ => none
    | none => none
  | .fa x i off => match val x with
    | .ptr t o p => okEff (.ptr t (o + off) (p ++ [i]))
    | .eptr t j s o p => okEff (.eptr t j s (o + off) (p ++ [i]))
    | .fref (.agg ds) => match ds[i]? with
      | some y => if D.sizes (ds.take i) = off then okEff (.fref y) else none
      | none => none
    | _ => none
  | .fld x i off sz ag => match (val x).kids with
    | some l => match l[i]? with
      | some u => if V.sizes (l.take i) = off ∧ u.size = sz ∧ u.isAgg = ag then okEff u else none
      | none => none
    | none => none
  | .ia sz x i => match slView get (val x), asIdx (val i) with
    | some (.frz l), some n => if 0 ≤ n then match l[n.toNat]? with
        | some y => if y.size = sz then okEff (.fref y) else none
        | none => none
      else none
    | some (.own t _ sz' l), some n => if 0 ≤ n ∧ n.toNat < l.length ∧ sz' = sz then okEff (.eptr t n.toNat sz 0 []) else none
    | none, some k => match val x with
      | .sptr t n => if 0 ≤ k ∧ k.toNat < n then okEff (.ptr t (k.toNat * sz) [k.toNat]) else none
      | _ => none
    | _, _ => none
  | .iaA n sz x i => match val x, asIdx (val i) with
    | .ptr t o p, some k => if 0 ≤ k ∧ k.toNat < n then okEff (.ptr t (o + k.toNat * sz) (p ++ [k.toNat])) else none
    | .fref (.agg ds), some k => if 0 ≤ k ∧ k.toNat < n then match ds[k.toNat]? with
        | some y => if D.sizes (ds.take k.toNat) = k.toNat * sz then okEff (.fref y) else none
        | none => none
      else none
    | _, _ => none
  | .ixS x i => match val x, asIdx (val i) with
    | .d (.str s), some n => if 0 ≤ n then match s[n.toNat]? with
        | some b => okEff (.d (.int .u8 b.toNat))
        | none => none
      else none
    | _, _ => none
  | .ixA n sz ag x i => match (val x).kids, asIdx (val i) with
    | some l, some k => if 0 ≤ k ∧ k.toNat < n then match l[k.toNat]? with
        | some u => if V.sizes (l.take k.toNat) = k.toNat * sz ∧ u.size = sz ∧ u.isAgg = ag then okEff u else none
        | none => none
      else none
    | _, _ => none
  | .lk kc z m k ok => match mpView get (val m), toD (val k) with
    | some (ks, vs), some key => if keyFits kc key then match keyAt key ks with
      | none => none
      | some none => okEff (if ok then .tup [z, .d (.bool false)] else z)
      | some (some i) => match vs[i]? with
        | some x => okEff (if ok then .tup [.d x, .d (.bool true)] else .d x)
        | none => none
      else none
    | _, _ => none
  | .mu kc m k x => match val m with
    | .mp t => match get t, toD (val k), V.frzL get [val x] with
      | some (.map ks vs), some key, some [.d y] => if keyFits kc key && !((val x).ftags.contains t) then match keyAt key ks with
        | none => none
        | some none => some { res := .skp, wr := fzw get [val x] ++ [(t, .map (ks ++ [key]) (vs ++ [y]))] }
        | some (some i) => some { res := .skp, wr := fzw get [val x] ++ [(t, .map (ks.set i key) (vs.set i y))] }
        else none
      | _, _, _ => none
    | _ => none
  | .ext x i => match val x with
    | .tup l => match l[i]? with
      | some v => okEff v
      | none => none
    | _ => none
  | .call f args => callEff call false T f (args.map val) get
  | .callM f args => callEff call true T f (args.map val) get
  | .callv f args => match val f with
    | .d (.fn g) => callEff call false T g (args.map val) get
    | .clo g cap => callEff call false T g (args.map val ++ cap) get
    | _ => none
  | .app e sz bytes s x =>
    match srcOf get sz (val x) with
    | none => none
    | some m => match slView get (val s) with
      | some .nil => if m.length ≤ 140737488355328 ∧ m.length * bytes ≤ 140737488355328 then some { res := .own T, wr := [(T, .row e sz m)], kill := [T] } else none
      | some (.own t e' sz' l) => if e' = e ∧ sz' = sz ∧ l.length + m.length ≤ 140737488355328 ∧ (l.length + m.length) * bytes ≤ 140737488355328 then
          some { res := .own t, wr := [(t, .row e sz (l ++ m))], kill := [t] } else none
      | _ => none
  | .len k x => match k with
    | .str => match val x with
      | .d (.str s) => okEff (.d (.int .i64 s.length))
      | _ => none
    | .sl => match slView get (val x) with
      | some (.own _ _ _ l) => okEff (.d (.int .i64 l.length))
      | some (.frz l) => okEff (.d (.int .i64 l.length))
      | some .nil => okEff (.d (.int .i64 0))
      | none => match val x with
        | .sptr _ n => okEff (.d (.int .i64 n))
        | _ => none
    | .map => match mpView get (val x) with
      | some (ks, _) => okEff (.d (.int .i64 ks.length))
      | none => none
    | _ => none
  | .mxn mx xs => match toDL (xs.map val) with
    | some [.int k a, .int k' b] => if k = k' then okEff (.d (.int k (if mx then (if b > a then b else a) else (if b < a then b else a)))) else none
    | _ => none

/-! ## Regions, code, functions -/
def St.val (gl : Nat → Option D) (σ : St) : X → V
  | .t n => σ.env.get n
  | .c v => v
  | .g n => match gl n with
    | some x => .fref x
    | none => .und

def St.get (σ : St) (t : Nat) : Option Cell := assoc t σ.cells

def killE (ks : List Nat) (e : Env) : Env :=
  match ks with
  | [] => e
  | k :: ks => Env.kill (k :: ks) e

def killC (ks : List Nat) (e : Cells) : Cells :=
  match ks with
  | [] => e
  | k :: ks => Cells.kill (k :: ks) e

def St.put (σ : St) (dst : Option Nat) (e : Eff) : St :=
  { env := match dst with
      | some d => (killE e.kill σ.env).set d e.res
      | none => killE e.kill σ.env,
    cells := (killC e.kill σ.cells).setAll e.wr }

/-- Is the operation carried out? -/
def wants (σ : St) (g : Option (Nat × Bool)) : Option Bool :=
  match g with
  | none => some true
  | some (s, want) => match σ.env.get s with
    | .d (.bool b) => some (b == want)
    | .skp => some false
    | _ => none

def tagOf (id i : Nat) : Nat := (id * 64 + i) * 4 + 1000

/-- The effect of an operation; one that is not carried out leaves its mark. -/
def stepE (gl : Nat → Option D) (call : CallF) (T : Nat) (o : SOpr) (σ : St) : Option Eff :=
  match wants σ o.guard with
  | none => none
  | some false => some { res := .skp }
  | some true => evalOp call T o.op (σ.val gl) σ.get

def steps (gl : Nat → Option D) (call : CallF) (id : Nat) (i : Nat) : List SOpr → St → Option St
  | [], σ => some σ
  | o :: l, σ => match stepE gl call (tagOf id i) o σ with
    | none => none
    | some e => steps gl call id (i + 1) l (σ.put o.dst e)

/-- The cells that an operation may look at. -/
def readTags (gl : Nat → Option D) (o : SOpr) (σ : St) : List Nat :=
  let a := addNew [] (V.refsL (o.op.xs.map (σ.val gl)))
  let b := addNew a (refsAt σ.get a)
  addNew b (refsAt σ.get b)

def wrTags (e : Eff) : List Nat := e.wr.map Prod.fst ++ e.kill

def disj (a b : List Nat) : Bool := a.all fun t => !b.contains t

def noDup : List Nat → Bool
  | [] => true
  | t :: l => !l.contains t && noDup l

def wrRefs : List (Nat × Cell) → List Nat
  | [] => []
  | (_, c) :: l => c.refs ++ wrRefs l

def wholeAt (get : Nat → Option Cell) : List Nat → Bool
  | [] => true
  | t :: l => (match get t with
    | some c => c.whole
    | none => true) && wholeAt get l

/-- What an operation read and wrote, and whether all that it saw was whole. -/
structure Info where
  rd : List Nat
  wr : List Nat
  ok : Bool

def Info.indep (x y : Info) : Bool := x.ok && y.ok && disj x.wr y.rd && disj x.wr y.wr && disj y.wr x.rd

def infoOf (gl : Nat → Option D) (o : SOpr) (σ : St) (e : Eff) : Info :=
  { rd := readTags gl o σ ++ (e.res.refs ++ wrRefs e.wr), wr := wrTags e,
    ok := V.wholeL (o.op.xs.map (σ.val gl)) && wholeAt σ.get (readTags gl o σ) &&
      (refsAt σ.get (readTags gl o σ)).all (fun t => (readTags gl o σ).contains t) && noDup (e.wr.map Prod.fst) }

/-- The steps, with what each read and wrote. -/
def stepsI (gl : Nat → Option D) (call : CallF) (id : Nat) (i : Nat) : List SOpr → St → Option (St × List Info)
  | [], σ => some (σ, [])
  | o :: l, σ => match stepE gl call (tagOf id i) o σ with
    | none => none
    | some e => match stepsI gl call id (i + 1) l (σ.put o.dst e) with
      | none => none
      | some (σ', is) => some (σ', infoOf gl o σ e :: is)

def indepAt (is : List Info) (i j : Nat) : Bool :=
  match is[i]?, is[j]? with
  | some x, some y => x.indep y
  | _, _ => false

def Env.drop (ds : List Nat) : Env → Env
  | [] => []
  | (k, v) :: e => if ds.contains k then Env.drop ds e else (k, v) :: Env.drop ds e

def keepKeys {β : Type} (ks : List Nat) : List (Nat × β) → List (Nat × β)
  | [] => []
  | (k, v) :: e => if ks.contains k then (k, v) :: keepKeys ks e else keepKeys ks e

def envRefs : Env → List Nat
  | [] => []
  | (_, v) :: e => v.refs ++ envRefs e

/-- At a loop's head only what was there at its begin is kept, and what that leads to. -/
def St.norm (ks ts : List Nat) (σ : St) : St :=
  let env := keepKeys ks σ.env
  let a := ts ++ envRefs env
  let b := a ++ refsAt (fun t => assoc t σ.cells) a
  { env := env, cells := keepKeys b σ.cells }

def iter (ks ts : List Nat) (body : St → Option (EX × St)) : Nat → St → Option (EX × St)
  | 0, _ => none
  | n + 1, σ => match body σ with
    | some (.normal, σ') => iter ks ts body n (σ'.norm ks ts)
    | r => r

def evalCode (gl : Nat → Option D) (call : CallF) (n : Nat) : SCode → St → Option (EX × St)
  | .skip, σ => some (.normal, σ)
  | .region id ops _ chk drop, σ => match chk with
    | [] => match steps gl call id 0 ops σ with
      | some σ' => some (.normal, { σ' with env := σ'.env.drop drop })
      | none => none
    | c :: cs => match stepsI gl call id 0 ops σ with
      | some (σ', is) => if (c :: cs).all (fun p => indepAt is p.1 p.2) = true then some (.normal, { σ' with env := σ'.env.drop drop }) else none
      | none => none
  | .seq a b, σ => match evalCode gl call n a σ with
    | some (.normal, σ') => evalCode gl call n b σ'
    | r => r
  | .cond c x y, σ => match σ.val gl c with
    | .d (.bool true) => evalCode gl call n x σ
    | .d (.bool false) => evalCode gl call n y σ
    | _ => none
  | .block id c, σ => match evalCode gl call n c σ with
    | some (.exit j, σ') => if j = id then some (.normal, σ') else some (.exit j, σ')
    | r => r
  | .loop c, σ => iter (σ.env.map Prod.fst) (σ.cells.map Prod.fst) (evalCode gl call n c) n σ
  | .exit id, σ => some (.exit id, σ)
  | .ret, σ => some (.ret, σ)
  | .bad, _ => none

def resultsOf (σ : St) : List SRes → Option (List V)
  | [] => some []
  | r :: l => match (match r with
      | .tmp t | .raw t => some (σ.env.get t)
      | .cell t sz ag => ldV σ.get sz ag (σ.env.get t)), resultsOf σ l with
    | some v, some vs => some (v :: vs)
    | _, _ => none

def SRes.isRaw : SRes → Bool
  | .raw _ => true
  | _ => false

/-- The results, frozen (or as they are, where one is 'raw'): one bare, else a tuple. -/
def result (rs : List SRes) (σ : St) : Option (V × Cells) :=
  match resultsOf σ rs with
  | none => none
  | some vs => if rs.any SRes.isRaw then match vs with
      | [v] => some (v, σ.cells)
      | l => some (.tup l, σ.cells)
    else match V.frzL σ.get vs with
    | some [v] => some (v, σ.cells.setAll (fzw σ.get vs))
    | some l => some (.tup l, σ.cells.setAll (fzw σ.get vs))
    | none => none

structure Cfg where
  fn : FuncId → Option SFunc
  prim : FuncId → Option (List V → Cells → Option (V × Cells))
  gl : Nat → Option D

def runBody (gl : Nat → Option D) (call : CallF) (n : Nat) (S : SFunc) (args : List V) (cells : Cells) : Option (V × Cells) :=
  if args.length = S.nparams then
    match evalCode gl call n S.code { env := numbered 0 args, cells := cells } with
    | some (.normal, σ) | some (.ret, σ) => result S.results σ
    | _ => none
  else none

def evalFn (C : Cfg) : Nat → CallF
  | 0, _, _, _ => none
  | n + 1, f, args, cells => match C.prim f with
    | some p => p args cells
    | none => match C.fn f with
      | none => none
      | some S => runBody C.gl (evalFn C n) n S args cells

end Go.Ev
end

/- The relation between pure data and the model's values in a world, and its first laws. -/
section
namespace Go.Ev

abbrev Imm := Nat → Option Obj
abbrev Bind := Nat → Value

/-- A map's entries bear different births, all before its clock. -/
def mapWf (es : Array MapEntry) (clk : Nat) : Prop := (∀ x ∈ es.toList, x.born < clk) ∧ (es.toList.map (·.born)).Nodup

/-! ## Frozen data -/
mutual
inductive RD (H : Imm) : D → List Value → Prop
  | int (k : IntKind) (n : Int) : RD H (.int k n) [.int k n]
  | bool (b : Bool) : RD H (.bool b) [.bool b]
  | str (s : List UInt8) : RD H (.str s) [.string ⟨⟨s⟩⟩]
  | sl0 (a : Option Addr) (cap : Nat) : RD H (.sl []) [.slice a 0 cap]
  | sl {l : List D} {c : Array Value} {e : TypeId} {fr : Nat × Nat} {pre cs post : List Value} {a : Addr} {cap sz : Nat} :
      H a.block = some (.cells c e fr) → a.spot = none → c.toList = pre ++ (cs ++ post) → pre.length = a.off → RDs H l cs →
      (∀ x ∈ l, x.size = sz) → l.length ≤ cap → RD H (.sl l) [.slice (some a) l.length cap]
  | agg {ds : List D} {cs : List Value} : RDs H ds cs → RD H (.agg ds) cs
  | nilptr : RD H .nilptr [.pointer none]
  | nilif : RD H .nilif [.nilIface]
  | nilfn : RD H .nilfn [.nilFunc]
  | nilmap : RD H .nilmap [.map none]
  | err (t : TypeId) (v : Value) : RD H .err [.iface t v]
  | fn (f : FuncId) : RD H (.fn f) [.func (.func f) #[] #[]]
  | map {ks vs : List D} {es : Array MapEntry} {clk r : Nat} : H r = some (.map es clk) → mapWf es clk → RDvs H ks (es.toList.map (·.key)) →
      RDvs H vs (es.toList.map (·.val)) → RD H (.map ks vs) [.map (some r)]
inductive RDs (H : Imm) : List D → List Value → Prop
  | nil : RDs H [] []
  | cons {x : D} {l : List D} {cs cs' : List Value} : RD H x cs → RDs H l cs' → RDs H (x :: l) (cs ++ cs')
inductive RDv (H : Imm) : D → Value → Prop
  | one {x : D} {v : Value} : x.isAgg = false → RD H x [v] → RDv H x v
  | agg {ds : List D} {cs : List Value} : RDs H ds cs → RDv H (.agg ds) (.agg cs.toArray)
inductive RDvs (H : Imm) : List D → List Value → Prop
  | nil : RDvs H [] []
  | cons {x : D} {l : List D} {v : Value} {vs : List Value} : RDv H x v → RDvs H l vs → RDvs H (x :: l) (v :: vs)
end

def Imm.le (H H' : Imm) : Prop := ∀ b o, H b = some o → H' b = some o

theorem Imm.le_refl (H : Imm) : H.le H := fun _ _ h => h
theorem Imm.le_trans {H H' H'' : Imm} (h : H.le H') (h' : H'.le H'') : H.le H'' := fun _ _ x => h' _ _ (h _ _ x)

mutual
theorem RD.mono {H H' : Imm} (h : H.le H') : ∀ {x : D} {cs : List Value}, RD H x cs → RD H' x cs
  | _, _, .int k n => .int k n
  | _, _, .bool b => .bool b
  | _, _, .str s => .str s
  | _, _, .sl0 a c => .sl0 a c
  | _, _, .sl h1 h2 h3 h4 h5 h6 h7 => .sl (h _ _ h1) h2 h3 h4 (RDs.mono h h5) h6 h7
  | _, _, .agg h1 => .agg (RDs.mono h h1)
  | _, _, .nilptr => .nilptr
  | _, _, .nilif => .nilif
  | _, _, .nilfn => .nilfn
  | _, _, .nilmap => .nilmap
  | _, _, .err t v => .err t v
  | _, _, .fn f => .fn f
  | _, _, .map h1 hw h2 h3 => .map (h _ _ h1) hw (RDvs.mono h h2) (RDvs.mono h h3)
theorem RDs.mono {H H' : Imm} (h : H.le H') : ∀ {x : List D} {cs : List Value}, RDs H x cs → RDs H' x cs
  | _, _, .nil => .nil
  | _, _, .cons h1 h2 => .cons (RD.mono h h1) (RDs.mono h h2)
theorem RDv.mono {H H' : Imm} (h : H.le H') : ∀ {x : D} {v : Value}, RDv H x v → RDv H' x v
  | _, _, .one h1 h2 => .one h1 (RD.mono h h2)
  | _, _, .agg h1 => .agg (RDs.mono h h1)
theorem RDvs.mono {H H' : Imm} (h : H.le H') : ∀ {x : List D} {v : List Value}, RDvs H x v → RDvs H' x v
  | _, _, .nil => .nil
  | _, _, .cons h1 h2 => .cons (RDv.mono h h1) (RDvs.mono h h2)
end

mutual
theorem RD.size {H : Imm} : ∀ {x : D} {cs : List Value}, RD H x cs → cs.length = x.size
  | _, _, .int k n => rfl
  | _, _, .bool b => rfl
  | _, _, .str s => rfl
  | _, _, .sl0 a c => rfl
  | _, _, .sl _ _ _ _ _ _ _ => rfl
  | _, _, .agg h1 => by simpa [D.size] using RDs.size h1
  | _, _, .nilptr => rfl
  | _, _, .nilif => rfl
  | _, _, .nilfn => rfl
  | _, _, .nilmap => rfl
  | _, _, .err _ _ => rfl
  | _, _, .fn f => rfl
  | _, _, .map _ _ _ _ => rfl
theorem RDs.size {H : Imm} : ∀ {x : List D} {cs : List Value}, RDs H x cs → cs.length = D.sizes x
  | _, _, .nil => rfl
  | _, _, .cons h1 h2 => by simp [D.sizes, RD.size h1, RDs.size h2]
end

/-! ## Slot values -/
abbrev oneC : Value → Bool := Value.oneCell'

mutual
inductive RV (H : Imm) (B : Bind) : V → List Value → Prop
  | d {x : D} {cs : List Value} : RD H x cs → RV H B (.d x) cs
  | nils : RV H B .nils [.slice none 0 0]
  | own {t n cap : Nat} {a : Option Addr} : B t = .slice a n cap → RV H B (.own t) [.slice a n cap]
  | mp {t : Nat} {r : Option Nat} : B t = .map r → RV H B (.mp t) [.map r]
  | ptr {t off b : Nat} {p : List Nat} : B t = .pointer (some ⟨b, 0, none⟩) → RV H B (.ptr t off p) [.pointer (some ⟨b, off, none⟩)]
  | eptr {t i sz off b n cap : Nat} {p : List Nat} : B t = .slice (some ⟨b, 0, none⟩) n cap →
      RV H B (.eptr t i sz off p) [.pointer (some ⟨b, i * sz + off, none⟩)]
  | sptr {t n b : Nat} : B t = .pointer (some ⟨b, 0, none⟩) → RV H B (.sptr t n) [.slice (some ⟨b, 0, none⟩) n n]
  | fref {x : D} {c : Array Value} {e : TypeId} {fr : Nat × Nat} {pre cs post : List Value} {a : Addr} :
      H a.block = some (.cells c e fr) → a.spot = none → c.toList = pre ++ (cs ++ post) → pre.length = a.off → RD H x cs →
      RV H B (.fref x) [.pointer (some a)]
  | agg {l : List V} {cs : List Value} : RVs H B l cs → RV H B (.agg l) cs
  | clo {f : FuncId} {l : List V} {vs : List Value} : RVvs H B l vs → RV H B (.clo f l) [.func (.func f) #[] vs.toArray]
  | und {v : Value} : oneC v = true → RV H B .und [v]
inductive RVs (H : Imm) (B : Bind) : List V → List Value → Prop
  | nil : RVs H B [] []
  | cons {x : V} {l : List V} {cs cs' : List Value} : RV H B x cs → RVs H B l cs' → RVs H B (x :: l) (cs ++ cs')
inductive RVv (H : Imm) (B : Bind) : V → Value → Prop
  | one {x : V} {v : Value} : x.isAgg = false → RV H B x [v] → RVv H B x v
  | agg {x : V} {cs : List Value} : x.isAgg = true → RV H B x cs → RVv H B x (.agg cs.toArray)
  | tup {l : List V} {vs : List Value} : RVvs H B l vs → RVv H B (.tup l) (.tuple vs.toArray)
  | skp : RVv H B .skp undef
  | und (v : Value) : RVv H B .und v
inductive RVvs (H : Imm) (B : Bind) : List V → List Value → Prop
  | nil : RVvs H B [] []
  | cons {x : V} {l : List V} {v : Value} {vs : List Value} : RVv H B x v → RVvs H B l vs → RVvs H B (x :: l) (v :: vs)
end

mutual
theorem RV.mono {H H' : Imm} {B B' : Bind} (h : H.le H') : ∀ {x : V} {cs : List Value}, (∀ t ∈ x.refs, B' t = B t) → RV H B x cs → RV H' B' x cs
  | _, _, _, .d h1 => .d (h1.mono h)
  | _, _, _, .nils => .nils
  | _, _, hb, .own h1 => .own (by rw [hb _ (by simp [V.refs])]; exact h1)
  | _, _, hb, .mp h1 => .mp (by rw [hb _ (by simp [V.refs])]; exact h1)
  | _, _, hb, .ptr h1 => .ptr (by rw [hb _ (by simp [V.refs])]; exact h1)
  | _, _, hb, .eptr h1 => .eptr (by rw [hb _ (by simp [V.refs])]; exact h1)
  | _, _, hb, .sptr h1 => .sptr (by rw [hb _ (by simp [V.refs])]; exact h1)
  | _, _, _, .fref h1 h2 h3 h4 h5 => .fref (h _ _ h1) h2 h3 h4 (h5.mono h)
  | _, _, hb, .agg h1 => .agg (RVs.mono h (fun t ht => hb t (by simpa [V.refs] using ht)) h1)
  | _, _, hb, .clo h1 => .clo (RVvs.mono h (fun t ht => hb t (by simpa [V.refs] using ht)) h1)
  | _, _, _, .und h1 => .und h1
theorem RVs.mono {H H' : Imm} {B B' : Bind} (h : H.le H') : ∀ {x : List V} {cs : List Value}, (∀ t ∈ V.refsL x, B' t = B t) → RVs H B x cs → RVs H' B' x cs
  | _, _, _, .nil => .nil
  | _, _, hb, .cons h1 h2 => .cons (RV.mono h (fun t ht => hb t (by simp [V.refsL, ht])) h1) (RVs.mono h (fun t ht => hb t (by simp [V.refsL, ht])) h2)
theorem RVv.mono {H H' : Imm} {B B' : Bind} (h : H.le H') : ∀ {x : V} {v : Value}, (∀ t ∈ x.refs, B' t = B t) → RVv H B x v → RVv H' B' x v
  | _, _, hb, .one h1 h2 => .one h1 (RV.mono h hb h2)
  | _, _, hb, .agg h1 h2 => .agg h1 (RV.mono h hb h2)
  | _, _, hb, .tup h1 => .tup (RVvs.mono h (fun t ht => hb t (by simpa [V.refs] using ht)) h1)
  | _, _, _, .skp => .skp
  | _, _, _, .und v => .und v
theorem RVvs.mono {H H' : Imm} {B B' : Bind} (h : H.le H') : ∀ {x : List V} {v : List Value}, (∀ t ∈ V.refsL x, B' t = B t) → RVvs H B x v → RVvs H' B' x v
  | _, _, _, .nil => .nil
  | _, _, hb, .cons h1 h2 => .cons (RVv.mono h (fun t ht => hb t (by simp [V.refsL, ht])) h1) (RVvs.mono h (fun t ht => hb t (by simp [V.refsL, ht])) h2)
end

mutual
theorem RV.size {H : Imm} {B : Bind} : ∀ {x : V} {cs : List Value}, RV H B x cs → cs.length = x.size
  | _, _, .d h1 => by simpa [V.size] using h1.size
  | _, _, .nils => rfl
  | _, _, .own _ => rfl
  | _, _, .mp _ => rfl
  | _, _, .ptr _ => rfl
  | _, _, .eptr _ => rfl
  | _, _, .sptr _ => rfl
  | _, _, .fref _ _ _ _ _ => rfl
  | _, _, .agg h1 => by simpa [V.size] using RVs.size h1
  | _, _, .clo _ => rfl
  | _, _, .und _ => rfl
theorem RVs.size {H : Imm} {B : Bind} : ∀ {x : List V} {cs : List Value}, RVs H B x cs → cs.length = V.sizes x
  | _, _, .nil => rfl
  | _, _, .cons h1 h2 => by simp [V.sizes, RV.size h1, RVs.size h2]
end

theorem RD.one {H : Imm} {x : D} {v : Value} (h : RD H x [v]) (hx : x.isAgg = false) : oneC v = true := by
  cases h <;> first | rfl | simp [D.isAgg] at hx

theorem RV.one {H : Imm} {B : Bind} {x : V} {v : Value} (h : RV H B x [v]) (hx : x.isAgg = false) : oneC v = true := by
  cases h with
  | d h1 => exact h1.one hx
  | agg _ => simp [V.isAgg] at hx
  | und h1 => exact h1
  | _ => rfl

theorem cells_one {v : Value} (h : oneC v = true) : v.cells = #[v] := by
  cases v <;> first | rfl | simp [Value.oneCell'] at h

theorem RVv.cells {H : Imm} {B : Bind} {x : V} {v : Value} (h : RVv H B x v) (hf : x.flat = true) : RV H B x v.cells.toList := by
  cases h with
  | one h1 h2 => rw [cells_one (h2.one h1)]; exact h2
  | agg h1 h2 => exact h2
  | tup h1 => simp [V.flat] at hf
  | skp => simp [V.flat] at hf
  | und v => simp [V.flat] at hf

theorem RVv.agg_cells {H : Imm} {B : Bind} {x : V} {v : Value} (h : RVv H B x v) (hx : x.isAgg = true) : ∃ cs, v = .agg cs ∧ RV H B x cs.toList := by
  cases h with
  | one h1 h2 => simp [hx] at h1
  | agg h1 h2 => exact ⟨_, rfl, h2⟩
  | tup h1 => simp [V.isAgg] at hx
  | skp => simp [V.isAgg] at hx
  | und v => simp [V.isAgg] at hx

theorem RVv.of_cells {H : Imm} {B : Bind} {x : V} {cs : List Value} (h : RV H B x cs) : RVv H B x (if x.isAgg then .agg cs.toArray else cs.headD undef) := by
  cases hx : x.isAgg with
  | true => exact .agg hx h
  | false =>
    have hs := h.size
    have : ∃ v, cs = [v] := by
      cases h with
      | d h1 => cases h1 <;> first | exact ⟨_, rfl⟩ | simp [V.isAgg, D.isAgg] at hx
      | agg _ => simp [V.isAgg] at hx
      | _ => exact ⟨_, rfl⟩
    obtain ⟨v, rfl⟩ := this
    exact .one hx h

mutual
theorem RD.ones {H : Imm} : ∀ {x : D} {cs : List Value}, RD H x cs → ∀ v ∈ cs, Value.oneCell' v = true
  | _, _, .int k n => by simp [Value.oneCell']
  | _, _, .bool b => by simp [Value.oneCell']
  | _, _, .str s => by simp [Value.oneCell']
  | _, _, .sl0 a c => by simp [Value.oneCell']
  | _, _, .sl _ _ _ _ _ _ _ => by simp [Value.oneCell']
  | _, _, .agg h1 => RDs.ones h1
  | _, _, .nilptr => by simp [Value.oneCell']
  | _, _, .nilif => by simp [Value.oneCell']
  | _, _, .nilfn => by simp [Value.oneCell']
  | _, _, .nilmap => by simp [Value.oneCell']
  | _, _, .err _ _ => by simp [Value.oneCell']
  | _, _, .fn _ => by simp [Value.oneCell']
  | _, _, .map _ _ _ _ => by simp [Value.oneCell']
theorem RDs.ones {H : Imm} : ∀ {x : List D} {cs : List Value}, RDs H x cs → ∀ v ∈ cs, Value.oneCell' v = true
  | _, _, .nil => by simp
  | _, _, .cons h1 h2 => fun v hv => (List.mem_append.1 hv).elim (RD.ones h1 v) (RDs.ones h2 v)
end

mutual
theorem RV.ones {H : Imm} {B : Bind} : ∀ {x : V} {cs : List Value}, RV H B x cs → ∀ v ∈ cs, Value.oneCell' v = true
  | _, _, .d h1 => h1.ones
  | _, _, .nils => by simp [Value.oneCell']
  | _, _, .own _ => by simp [Value.oneCell']
  | _, _, .mp _ => by simp [Value.oneCell']
  | _, _, .ptr _ => by simp [Value.oneCell']
  | _, _, .eptr _ => by simp [Value.oneCell']
  | _, _, .sptr _ => by simp [Value.oneCell']
  | _, _, .fref _ _ _ _ _ => by simp [Value.oneCell']
  | _, _, .agg h1 => RVs.ones h1
  | _, _, .clo _ => by simp [Value.oneCell']
  | _, _, .und h => by simpa using h
theorem RVs.ones {H : Imm} {B : Bind} : ∀ {x : List V} {cs : List Value}, RVs H B x cs → ∀ v ∈ cs, Value.oneCell' v = true
  | _, _, .nil => by simp
  | _, _, .cons h1 h2 => fun v hv => (List.mem_append.1 hv).elim (RV.ones h1 v) (RVs.ones h2 v)
end

end Go.Ev
end

/- Laws of the relation: parts of values at paths, forgetting, renaming and freezing references. -/
section
namespace Go.Ev
variable {H : Imm} {B : Bind}

theorem RVs_of_toDs : ∀ {l : List V} {ds : List D} {cs : List Value}, V.toDs l = some ds → RVs H B l cs → RDs H ds cs
  | [], ds, cs, h, r => by
    simp [V.toDs] at h; subst h; cases r; exact .nil
  | v :: l, ds, cs, h, r => by
    cases r with
    | cons h1 h2 =>
      cases v <;> simp only [V.toDs] at h <;> try contradiction
      cases hl : V.toDs l with
      | none => simp [hl] at h
      | some r' =>
        simp only [hl, Option.some.injEq] at h; subst h
        cases h1 with
        | d h3 => exact .cons h3 (RVs_of_toDs hl h2)

theorem RVs_of_RDs : ∀ {ds : List D} {cs : List Value}, RDs H ds cs → RVs H B (ds.map V.d) cs
  | _, _, .nil => .nil
  | _, _, .cons h1 h2 => .cons (.d h1) (RVs_of_RDs h2)

theorem RV_mk {l : List V} {cs : List Value} (h : RVs H B l cs) : RV H B (V.mk l) cs := by
  unfold V.mk
  split
  · exact .d (.agg (RVs_of_toDs ‹_› h))
  · exact .agg h

theorem mk_isAgg (l : List V) : (V.mk l).isAgg = true := by
  unfold V.mk; split <;> rfl

theorem kids_RVs {v : V} {l : List V} {cs : List Value} (h : v.kids = some l) (r : RV H B v cs) : RVs H B l cs := by
  cases r with
  | d h1 =>
    cases h1 <;> simp [V.kids] at h
    rename_i h2; subst h; exact RVs_of_RDs h2
  | agg h1 => simp [V.kids] at h; subst h; exact h1
  | _ => simp [V.kids] at h

theorem kids_isAgg {v : V} {l : List V} (h : v.kids = some l) : v.isAgg = true := by
  cases v with
  | d x => cases x <;> simp [V.kids] at h; rfl
  | agg l => rfl
  | _ => simp [V.kids] at h

theorem RVs_split : ∀ {l : List V} {cs : List Value} {i : Nat} {u : V}, RVs H B l cs → l[i]? = some u →
    ∃ pre mid post, cs = pre ++ (mid ++ post) ∧ pre.length = V.sizes (l.take i) ∧ RV H B u mid ∧
      ∀ x xs, RV H B x xs → RVs H B (l.set i x) (pre ++ (xs ++ post))
  | _, _, i, u, .nil, h => by simp at h
  | _, _, 0, u, .cons (x := x) (cs := c1) (cs' := c2) h1 h2, h => by
    simp at h; subst h
    exact ⟨[], c1, c2, rfl, rfl, h1, fun y ys hy => by simpa using RVs.cons hy h2⟩
  | _, _, i + 1, u, .cons (x := x) (cs := c1) (cs' := c2) h1 h2, h => by
    obtain ⟨pre, mid, post, rfl, hp, hu, hs⟩ := RVs_split h2 (by simpa using h)
    refine ⟨c1 ++ pre, mid, post, by simp, by simp [V.sizes, hp, h1.size], hu, fun y ys hy => ?_⟩
    have := RVs.cons h1 (hs y ys hy)
    simpa using this

theorem at_split : ∀ {p : List Nat} {v : V} {cs : List Value} {o : Nat} {u : V}, RV H B v cs → v.at p = some (o, u) →
    ∃ pre mid post, cs = pre ++ (mid ++ post) ∧ pre.length = o ∧ RV H B u mid ∧
      ∀ x v' xs, v.setAt x p = some v' → RV H B x xs → RV H B v' (pre ++ (xs ++ post))
  | [], v, cs, o, u, r, h => by
    simp [V.at] at h; obtain ⟨rfl, rfl⟩ := h
    exact ⟨[], cs, [], by simp, rfl, r, fun x v' xs hs hx => by simp [V.setAt] at hs; subst hs; simpa using hx⟩
  | i :: p, v, cs, o, u, r, h => by
    simp only [V.at] at h
    cases hk : v.kids with
    | none => simp [hk] at h
    | some l =>
      simp only [hk] at h
      cases hi : l[i]? with
      | none => simp [hi] at h
      | some w =>
        simp only [hi] at h
        cases ha : w.at p with
        | none => simp [ha] at h
        | some q =>
          obtain ⟨o', u'⟩ := q
          simp only [ha, Option.some.injEq, Prod.mk.injEq] at h
          obtain ⟨rfl, rfl⟩ := h
          obtain ⟨pre, mid, post, rfl, hp, hw, hs⟩ := RVs_split (kids_RVs hk r) hi
          obtain ⟨pre2, mid2, post2, rfl, hp2, hu, hs2⟩ := at_split hw ha
          refine ⟨pre ++ pre2, mid2, post2 ++ post, by simp, by simp [hp, hp2], hu, fun x v' xs hset hx => ?_⟩
          simp only [V.setAt, hk, hi] at hset
          cases hw' : w.setAt x p with
          | none => simp [hw'] at hset
          | some r' =>
            simp only [hw', Option.some.injEq] at hset
            subst hset
            have := RV_mk (hs _ _ (hs2 x r' xs hw' hx))
            simpa using this

/-! ## Forgetting -/
theorem kill_isAgg (ks : List Nat) : ∀ v : V, (v.kill ks).isAgg = v.isAgg
  | .d x => rfl
  | .nils => rfl
  | .own t => by simp only [V.kill]; split <;> rfl
  | .mp t => by simp only [V.kill]; split <;> rfl
  | .ptr t o p => by simp only [V.kill]; split <;> rfl
  | .eptr t i s o p => by simp only [V.kill]; split <;> rfl
  | .sptr t n => by simp only [V.kill]; split <;> rfl
  | .fref x => rfl
  | .agg l => rfl
  | .clo f l => rfl
  | .tup l => rfl
  | .skp => rfl
  | .und => rfl

mutual
theorem RV.kill (ks : List Nat) : ∀ {x : V} {cs : List Value}, RV H B x cs → RV H B (x.kill ks) cs
  | _, _, .d h1 => .d h1
  | _, _, .nils => .nils
  | _, _, .own h1 => by
    simp only [V.kill]; split
    · exact .und rfl
    · exact .own h1
  | _, _, .mp h1 => by
    simp only [V.kill]; split
    · exact .und rfl
    · exact .mp h1
  | _, _, .ptr h1 => by
    simp only [V.kill]; split
    · exact .und rfl
    · exact .ptr h1
  | _, _, .eptr h1 => by
    simp only [V.kill]; split
    · exact .und rfl
    · exact .eptr h1
  | _, _, .sptr h1 => by
    simp only [V.kill]; split
    · exact .und rfl
    · exact .sptr h1
  | _, _, .fref h1 h2 h3 h4 h5 => .fref h1 h2 h3 h4 h5
  | _, _, .agg h1 => .agg (RVs.kill ks h1)
  | _, _, .clo h1 => .clo (RVvs.kill ks h1)
  | _, _, .und h1 => .und h1
theorem RVs.kill (ks : List Nat) : ∀ {x : List V} {cs : List Value}, RVs H B x cs → RVs H B (V.killL ks x) cs
  | _, _, .nil => .nil
  | _, _, .cons h1 h2 => .cons (RV.kill ks h1) (RVs.kill ks h2)
theorem RVv.kill (ks : List Nat) : ∀ {x : V} {v : Value}, RVv H B x v → RVv H B (x.kill ks) v
  | _, _, .one h1 h2 => .one (by rw [kill_isAgg]; exact h1) (RV.kill ks h2)
  | _, _, .agg h1 h2 => .agg (by rw [kill_isAgg]; exact h1) (RV.kill ks h2)
  | _, _, .tup h1 => .tup (RVvs.kill ks h1)
  | _, _, .skp => .skp
  | _, _, .und v => .und v
theorem RVvs.kill (ks : List Nat) : ∀ {x : List V} {v : List Value}, RVvs H B x v → RVvs H B (V.killL ks x) v
  | _, _, .nil => .nil
  | _, _, .cons h1 h2 => .cons (RVv.kill ks h1) (RVvs.kill ks h2)
end

mutual
theorem kill_refs (ks : List Nat) : ∀ (v : V) (t : Nat), t ∈ (v.kill ks).refs → t ∉ ks ∧ t ∈ v.refs
  | .d x, t, h => by simp [V.kill, V.refs] at h
  | .nils, t, h => by simp [V.kill, V.refs] at h
  | .own u, t, h => by simp only [V.kill] at h; split at h <;> simp_all [V.refs]
  | .mp u, t, h => by simp only [V.kill] at h; split at h <;> simp_all [V.refs]
  | .ptr u o p, t, h => by simp only [V.kill] at h; split at h <;> simp_all [V.refs]
  | .eptr u i s o p, t, h => by simp only [V.kill] at h; split at h <;> simp_all [V.refs]
  | .sptr u n, t, h => by simp only [V.kill] at h; split at h <;> simp_all [V.refs]
  | .fref x, t, h => by simp [V.kill, V.refs] at h
  | .agg l, t, h => by simp only [V.kill, V.refs] at h ⊢; exact killL_refs ks l t h
  | .clo f l, t, h => by simp only [V.kill, V.refs] at h ⊢; exact killL_refs ks l t h
  | .tup l, t, h => by simp only [V.kill, V.refs] at h ⊢; exact killL_refs ks l t h
  | .skp, t, h => by simp [V.kill, V.refs] at h
  | .und, t, h => by simp [V.kill, V.refs] at h
theorem killL_refs (ks : List Nat) : ∀ (v : List V) (t : Nat), t ∈ V.refsL (V.killL ks v) → t ∉ ks ∧ t ∈ V.refsL v
  | [], t, h => by simp [V.killL, V.refsL] at h
  | x :: l, t, h => by
    simp only [V.killL, V.refsL, List.mem_append] at h ⊢
    rcases h with h | h
    · exact ⟨(kill_refs ks x t h).1, .inl (kill_refs ks x t h).2⟩
    · exact ⟨(killL_refs ks l t h).1, .inr (killL_refs ks l t h).2⟩
end

/-! ## Renaming -/
theorem ren_isAgg (σ : List (Nat × Nat)) : ∀ v : V, (v.ren σ).isAgg = v.isAgg
  | .d x => rfl
  | .nils => rfl
  | .own t => by simp only [V.ren]; split <;> rfl
  | .mp t => by simp only [V.ren]; split <;> rfl
  | .ptr t o p => by simp only [V.ren]; split <;> rfl
  | .eptr t i s o p => by simp only [V.ren]; split <;> rfl
  | .sptr t n => by simp only [V.ren]; split <;> rfl
  | .fref x => rfl
  | .agg l => rfl
  | .clo f l => rfl
  | .tup l => rfl
  | .skp => rfl
  | .und => rfl

mutual
theorem RV.ren {H' : Imm} {B' : Bind} {σ : List (Nat × Nat)} (hH : H.le H') (hσ : ∀ t u, assoc t σ = some u → B' u = B t) :
    ∀ {x : V} {cs : List Value}, RV H B x cs → RV H' B' (x.ren σ) cs
  | _, _, .d h1 => .d (h1.mono hH)
  | _, _, .nils => .nils
  | _, _, .own h1 => by
    simp only [V.ren]; split
    · exact .own (by rw [hσ _ _ ‹_›]; exact h1)
    · exact .und rfl
  | _, _, .mp h1 => by
    simp only [V.ren]; split
    · exact .mp (by rw [hσ _ _ ‹_›]; exact h1)
    · exact .und rfl
  | _, _, .ptr h1 => by
    simp only [V.ren]; split
    · exact .ptr (by rw [hσ _ _ ‹_›]; exact h1)
    · exact .und rfl
  | _, _, .eptr h1 => by
    simp only [V.ren]; split
    · exact .eptr (by rw [hσ _ _ ‹_›]; exact h1)
    · exact .und rfl
  | _, _, .sptr h1 => by
    simp only [V.ren]; split
    · exact .sptr (by rw [hσ _ _ ‹_›]; exact h1)
    · exact .und rfl
  | _, _, .fref h1 h2 h3 h4 h5 => .fref (hH _ _ h1) h2 h3 h4 (h5.mono hH)
  | _, _, .agg h1 => .agg (RVs.ren hH hσ h1)
  | _, _, .clo h1 => .clo (RVvs.ren hH hσ h1)
  | _, _, .und h1 => .und h1
theorem RVs.ren {H' : Imm} {B' : Bind} {σ : List (Nat × Nat)} (hH : H.le H') (hσ : ∀ t u, assoc t σ = some u → B' u = B t) :
    ∀ {x : List V} {cs : List Value}, RVs H B x cs → RVs H' B' (V.renL σ x) cs
  | _, _, .nil => .nil
  | _, _, .cons h1 h2 => .cons (RV.ren hH hσ h1) (RVs.ren hH hσ h2)
theorem RVv.ren {H' : Imm} {B' : Bind} {σ : List (Nat × Nat)} (hH : H.le H') (hσ : ∀ t u, assoc t σ = some u → B' u = B t) :
    ∀ {x : V} {v : Value}, RVv H B x v → RVv H' B' (x.ren σ) v
  | _, _, .one h1 h2 => .one (by rw [ren_isAgg]; exact h1) (RV.ren hH hσ h2)
  | _, _, .agg h1 h2 => .agg (by rw [ren_isAgg]; exact h1) (RV.ren hH hσ h2)
  | _, _, .tup h1 => .tup (RVvs.ren hH hσ h1)
  | _, _, .skp => .skp
  | _, _, .und v => .und v
theorem RVvs.ren {H' : Imm} {B' : Bind} {σ : List (Nat × Nat)} (hH : H.le H') (hσ : ∀ t u, assoc t σ = some u → B' u = B t) :
    ∀ {x : List V} {v : List Value}, RVvs H B x v → RVvs H' B' (V.renL σ x) v
  | _, _, .nil => .nil
  | _, _, .cons h1 h2 => .cons (RVv.ren hH hσ h1) (RVvs.ren hH hσ h2)
end

/-! ## Freezing: 'HF get' says that what is frozen may be relied on -/
def HF (H : Imm) (B : Bind) (get : Nat → Option Cell) (ks : List Nat) : Prop :=
  ∀ t ∈ ks, (∀ e sz l, get t = some (.row e sz l) → RD H (.sl l) [B t]) ∧ (∀ ks vs, get t = some (.map ks vs) → RD H (.map ks vs) [B t]) ∧
    (∀ x, get t = some (.frz x) → RD H x [B t])

mutual
theorem RV.frz {get : Nat → Option Cell} : ∀ {x : V} {cs : List Value}, RV H B x cs → ∀ (y : V), HF H B get x.ftags → x.frz get = some y → RV H B y cs
  | _, _, .d h1, y, hf, h => by simp [V.frz] at h; subst h; exact .d h1
  | _, _, .nils, y, hf, h => by simp [V.frz] at h; subst h; exact .d (.sl0 _ _)
  | _, _, .own (t := t) h1, y, hf, h => by
    simp only [V.frz] at h
    have hf := hf t (by simp [V.ftags])
    rw [h1] at hf
    split at h
    · simp at h; subst h; exact .d (hf.1 _ _ _ ‹_›)
    · simp at h; subst h; exact .d (hf.2.2 _ ‹_›)
    · simp at h
  | _, _, .mp (t := t) h1, y, hf, h => by
    simp only [V.frz] at h
    have hf := hf t (by simp [V.ftags])
    rw [h1] at hf
    split at h
    · simp at h; subst h; exact .d (hf.2.1 _ _ ‹_›)
    · simp at h; subst h; exact .d (hf.2.2 _ ‹_›)
    · simp at h
  | _, _, .ptr h1, y, hf, h => by simp [V.frz] at h; subst h; exact .ptr h1
  | _, _, .eptr h1, y, hf, h => by simp [V.frz] at h; subst h; exact .eptr h1
  | _, _, .sptr h1, y, hf, h => by simp [V.frz] at h; subst h; exact .sptr h1
  | _, _, .fref h1 h2 h3 h4 h5, y, hf, h => by simp [V.frz] at h; subst h; exact .fref h1 h2 h3 h4 h5
  | _, _, .agg h1, y, hf, h => by
    simp only [V.frz] at h
    split at h
    · simp at h; subst h; exact RV_mk (RVs.frz h1 _ (by simpa [V.ftags] using hf) ‹_›)
    · simp at h
  | _, _, .clo h1, y, hf, h => by simp [V.frz] at h; subst h; exact .clo h1
  | _, _, .und h1, y, hf, h => by simp [V.frz] at h; subst h; exact .und h1
theorem RVs.frz {get : Nat → Option Cell} : ∀ {x : List V} {cs : List Value}, RVs H B x cs → ∀ (y : List V), HF H B get (V.ftagsL x) → V.frzL get x = some y → RVs H B y cs
  | _, _, .nil, y, hf, h => by simp [V.frzL] at h; subst h; exact .nil
  | _, _, .cons (x := x) (l := l) h1 h2, y, hf, h => by
    simp only [V.frzL] at h
    cases hx : x.frz get with
    | none => simp [hx] at h
    | some y' =>
      simp only [hx] at h
      cases hl : V.frzL get l with
      | none => simp [hl] at h
      | some r =>
        simp only [hl, Option.some.injEq] at h; subst h
        exact .cons (RV.frz h1 _ (fun t ht => hf t (by simp [V.ftagsL, ht])) hx) (RVs.frz h2 _ (fun t ht => hf t (by simp [V.ftagsL, ht])) hl)
end

theorem frz_isAgg {get : Nat → Option Cell} : ∀ {x y : V}, x.frz get = some y → y.isAgg = x.isAgg := by
  intro x y h
  cases x with
  | own t => simp only [V.frz] at h; split at h <;> simp at h <;> subst h <;> rfl
  | mp t => simp only [V.frz] at h; split at h <;> simp at h <;> subst h <;> rfl
  | agg l => simp only [V.frz] at h; split at h <;> simp at h; subst h; exact mk_isAgg _
  | tup l => simp only [V.frz] at h; split at h <;> simp at h; subst h; rfl
  | nils => simp [V.frz] at h; subst h; rfl
  | _ => simp [V.frz] at h; subst h; rfl

mutual
theorem RVv.frz {get : Nat → Option Cell} : ∀ {x : V} {v : Value}, RVv H B x v → ∀ (y : V), HF H B get x.ftags → x.frz get = some y → RVv H B y v
  | _, _, .one h1 h2, y, hf, h => .one (by rw [frz_isAgg h]; exact h1) (RV.frz h2 y hf h)
  | _, _, .agg h1 h2, y, hf, h => .agg (by rw [frz_isAgg h]; exact h1) (RV.frz h2 y hf h)
  | _, _, .tup h1, y, hf, h => by
    simp only [V.frz] at h
    split at h
    · simp at h; subst h; exact .tup (RVvs.frz h1 _ (by simpa [V.ftags] using hf) ‹_›)
    · simp at h
  | _, _, .skp, y, hf, h => by simp [V.frz] at h; subst h; exact .skp
  | _, _, .und v, y, hf, h => by simp [V.frz] at h; subst h; exact .und v
theorem RVvs.frz {get : Nat → Option Cell} : ∀ {x : List V} {v : List Value}, RVvs H B x v → ∀ (y : List V), HF H B get (V.ftagsL x) → V.frzL get x = some y → RVvs H B y v
  | _, _, .nil, y, hf, h => by simp [V.frzL] at h; subst h; exact .nil
  | _, _, .cons (x := x) (l := l) h1 h2, y, hf, h => by
    simp only [V.frzL] at h
    cases hx : x.frz get with
    | none => simp [hx] at h
    | some y' =>
      simp only [hx] at h
      cases hl : V.frzL get l with
      | none => simp [hl] at h
      | some r =>
        simp only [hl, Option.some.injEq] at h; subst h
        exact .cons (RVv.frz h1 _ (fun t ht => hf t (by simp [V.ftagsL, ht])) hx) (RVvs.frz h2 _ (fun t ht => hf t (by simp [V.ftagsL, ht])) hl)
end

end Go.Ev
end

/- The invariant between the evaluator's state and a frame's slots and world; the law by which every operation's effect keeps it. -/
section
namespace Go.Ev

def Cell.live : Cell → Bool
  | .frz _ => false
  | _ => true

def blkOf : Value → Option Nat
  | .pointer (some a) => some a.block
  | .slice (some a) _ _ => some a.block
  | .map (some r) => some r
  | _ => none

def CellOk (H : Imm) (B : Bind) (w : World) (t : Nat) : Cell → Prop
  | .var e v => ∃ b c, B t = .pointer (some ⟨b, 0, none⟩) ∧ w.heap[b]? = some (.cells c e (0, 0)) ∧ RV H B v c.toList
  | .row e sz l => (l = [] ∧ B t = .slice none 0 0) ∨ ∃ b cap c cs post, B t = .slice (some ⟨b, 0, none⟩) l.length cap ∧
      w.heap[b]? = some (.cells c e (0, 0)) ∧ c.toList = cs ++ post ∧ RDs H l cs ∧ (∀ x ∈ l, x.size = sz) ∧ l.length ≤ cap ∧ c.size = cap * sz
  | .map ks vs => ∃ r es clk, B t = .map (some r) ∧ w.heap[r]? = some (.map es clk) ∧ mapWf es clk ∧ RDvs H ks (es.toList.map (·.key)) ∧ RDvs H vs (es.toList.map (·.val))
  | .frz x => RD H x [B t]
  | .iter s pos => ∃ b, B t = .pointer (some ⟨b, 0, none⟩) ∧ w.heap[b]? = some (.stringIter ⟨s.toArray⟩ pos)

theorem CellOk.lt {H : Imm} {B : Bind} {w : World} {t b : Nat} {c : Cell} (h : CellOk H B w t c) (hl : c.live = true) (hb : blkOf (B t) = some b) :
    b < w.heap.size := by
  have key : ∀ {b' : Nat} {o : Obj}, w.heap[b']? = some o → b' < w.heap.size := fun h => (Array.getElem?_eq_some_iff.1 h).1
  cases c with
  | var e v => obtain ⟨b', c, h1, h2, _⟩ := h; rw [h1] at hb; simp [blkOf] at hb; subst hb; exact key h2
  | row e sz l =>
    rcases h with ⟨_, h1⟩ | ⟨b', cap, c, cs, post, h1, h2, _⟩
    · rw [h1] at hb; simp [blkOf] at hb
    · rw [h1] at hb; simp [blkOf] at hb; subst hb; exact key h2
  | map ks vs => obtain ⟨r, es, clk, h1, h2, _⟩ := h; rw [h1] at hb; simp [blkOf] at hb; subst hb; exact key h2
  | frz x => simp [Cell.live] at hl
  | iter s pos => obtain ⟨b', h1, h2⟩ := h; rw [h1] at hb; simp [blkOf] at hb; subst hb; exact key h2

structure Inv (w0 : World) (O : Nat → Prop) (H0 : Imm) (N : Nat) (K : Nat → Prop) (B0 : Bind) (H : Imm) (B : Bind) (σ : St) (a : Act) (w : World) : Prop where
  size : a.tmps.size = N
  defers : a.defers = []
  env : ∀ s, RVv H B (σ.env.get s) (a.tmps.getD s undef)
  cells : ∀ t c, σ.get t = some c → CellOk H B w t c
  sep : ∀ t c b, σ.get t = some c → c.live = true → blkOf (B t) = some b → H b = none ∧ (O b ∨ w0.heap.size ≤ b)
  apart : ∀ t t' c c' b, t ≠ t' → σ.get t = some c → σ.get t' = some c' → c.live = true → c'.live = true → blkOf (B t) = some b → blkOf (B t') ≠ some b
  imm : ∀ b o, H b = some o → w.heap[b]? = some o
  le : H0.le H
  fromH : ∀ b o, H b = some o → (∃ o', H0 b = some o') ∨ O b ∨ w0.heap.size ≤ b
  frame : ∀ b, b < w0.heap.size → ¬ O b → w.heap[b]? = w0.heap[b]?
  grow : w0.heap.size ≤ w.heap.size
  os : w.os = w0.os
  tape : w.tape = w0.tape
  output : w.output = w0.output
  keep : ∀ t, K t → B t = B0 t ∧ t < 1000 ∧ ∃ e v, σ.get t = some (.var e v)

/-! ## Environments and cells as maps -/
theorem Env.get_set (e : Env) (s : Nat) (v : V) (s' : Nat) : (Env.set e s v).get s' = if s = s' then v else e.get s' := by
  induction e with
  | nil => simp [Env.set, Env.get]
  | cons p e ih =>
    obtain ⟨k, u⟩ := p
    simp only [Env.set]
    split
    · rename_i hk; subst hk
      simp only [Env.get]
      split <;> simp_all
    · rename_i hk
      simp only [Env.get, ih]
      split
      · rename_i hk'; subst hk'; simp [Ne.symm hk]
      · rfl

theorem Env.get_kill (ks : List Nat) (e : Env) (s : Nat) : (Env.kill ks e).get s = (e.get s).kill ks := by
  induction e with
  | nil => simp [Env.kill, Env.get, V.kill]
  | cons p e ih => obtain ⟨k, u⟩ := p; simp only [Env.kill, Env.get]; split <;> simp_all

theorem Cells.get_set (e : Cells) (t : Nat) (c : Cell) (t' : Nat) : assoc t' (Cells.set e t c) = if t = t' then some c else assoc t' e := by
  induction e with
  | nil => simp [Cells.set, assoc]
  | cons p e ih =>
    obtain ⟨k, u⟩ := p
    simp only [Cells.set]
    split
    · rename_i hk; subst hk
      simp only [assoc]
      split <;> simp_all
    · rename_i hk
      simp only [assoc, ih]
      split
      · rename_i hk'; subst hk'; simp [Ne.symm hk]
      · rfl

theorem Cells.get_kill (ks : List Nat) (e : Cells) (t : Nat) : assoc t (Cells.kill ks e) = (assoc t e).map (Cell.kill ks) := by
  induction e with
  | nil => simp [Cells.kill, assoc]
  | cons p e ih => obtain ⟨k, u⟩ := p; simp only [Cells.kill, assoc]; split <;> simp_all

theorem Cells.get_setAll : ∀ (l : List (Nat × Cell)) (e : Cells) (t : Nat), (l.map Prod.fst).Nodup →
    (∀ c, (t, c) ∈ l → assoc t (Cells.setAll e l) = some c) ∧ (t ∉ l.map Prod.fst → assoc t (Cells.setAll e l) = assoc t e)
  | [], e, t, _ => ⟨fun c h => (by simp at h), fun _ => rfl⟩
  | (u, x) :: l, e, t, hn => by
    simp only [List.map_cons, List.nodup_cons] at hn
    obtain ⟨h1, h2⟩ := Cells.get_setAll l (Cells.set e u x) t hn.2
    refine ⟨fun c h => ?_, fun h => ?_⟩
    · simp only [List.mem_cons, Prod.mk.injEq] at h
      simp only [Cells.setAll]
      rcases h with ⟨rfl, rfl⟩ | h
      · rw [h2 hn.1, Cells.get_set]; simp
      · exact h1 c h
    · simp only [List.map_cons, List.mem_cons, not_or] at h
      simp only [Cells.setAll]
      rw [h2 h.2, Cells.get_set]
      simp [Ne.symm h.1]

theorem V.kill_nil_get (e : Env) (ks : List Nat) (s : Nat) :
    (killE ks e).get s = (e.get s).kill ks ∨ (ks = [] ∧ (killE ks e).get s = e.get s) := by
  cases ks with
  | nil => exact .inr ⟨rfl, rfl⟩
  | cons k ks => exact .inl (Env.get_kill _ _ _)

theorem Act.getD_put (a : Act) (dst : Option Nat) (v : Value) (s : Nat) (hd : ∀ d, dst = some d → d < a.tmps.size) :
    (a.put dst v).tmps.getD s undef = if dst = some s then v else a.tmps.getD s undef := by
  cases dst with
  | none => simp [Act.put]
  | some d =>
    have := hd d rfl
    simp only [Act.put, Option.some.injEq]
    by_cases h : d = s
    · subst h; simp [this]
    · simp [h, Array.getElem?_setIfInBounds_ne h]

theorem Cell.kill_live (ks : List Nat) (c : Cell) : (c.kill ks).live = c.live := by cases c <;> rfl

/-- The blocks that an effect may touch. -/
def touched (B : Bind) (σ : St) (e : Eff) (b : Nat) : Prop :=
  ∃ t c, t ∈ e.wr.map Prod.fst ∧ σ.get t = some c ∧ c.live = true ∧ blkOf (B t) = some b

theorem Inv.put {w0 : World} {O : Nat → Prop} {H0 : Imm} {N : Nat} {K : Nat → Prop} {B0 : Bind} {H H' : Imm} {B B' : Bind} {σ : St} {a : Act} {w w' : World}
    {dst : Option Nat} {e : Eff} {v : Value} (I : Inv w0 O H0 N K B0 H B σ a w)
    (hd : ∀ d, dst = some d → d < N) (hH : H.le H')
    (hB : ∀ t, t ∉ e.kill ∨ t ∉ e.wr.map Prod.fst → B' t = B t)
    (hres : RVv H' B' e.res v)
    (himm : ∀ b o, H' b = some o → w'.heap[b]? = some o)
    (hnd : (e.wr.map Prod.fst).Nodup)
    (hwr : ∀ t c, (t, c) ∈ e.wr → CellOk H' B' w' t c)
    (hfr : ∀ b, b < w.heap.size → ¬ touched B σ e b → w'.heap[b]? = w.heap[b]?)
    (hHf : ∀ b o, H' b = some o → H b = some o ∨ touched B σ e b ∨ w.heap.size ≤ b)
    (hlive : ∀ t c b, (t, c) ∈ e.wr → c.live = true → blkOf (B' t) = some b →
      H' b = none ∧ (w.heap.size ≤ b ∨ touched B σ e b))
    (hap : ∀ t t' c c' b, t ≠ t' → (t, c) ∈ e.wr → (t', c') ∈ e.wr → c.live = true → c'.live = true → blkOf (B' t) = some b → blkOf (B' t') ≠ some b)
    (hK : ∀ t, K t → B' t = B t ∧ ∀ c, (t, c) ∈ e.wr → ∃ ty v, c = .var ty v)
    (hgrow : w.heap.size ≤ w'.heap.size) (hos : w'.os = w.os) (htape : w'.tape = w.tape) (hout : w'.output = w.output) :
    Inv w0 O H0 N K B0 H' B' (σ.put dst e) (a.put dst v) w' := by
  have hkB : ∀ t, t ∉ e.kill → B' t = B t := fun t h => hB t (.inl h)
  have hwB : ∀ t, t ∉ e.wr.map Prod.fst → B' t = B t := fun t h => hB t (.inr h)
  -- slots
  have henv : ∀ s, RVv H' B' ((killE e.kill σ.env).get s) (a.tmps.getD s undef) := by
    intro s
    rcases V.kill_nil_get σ.env e.kill s with h | ⟨h0, h⟩
    · rw [h]; exact ((I.env s).kill e.kill).mono hH (fun t ht => hkB t (kill_refs _ _ t ht).1)
    · rw [h]; exact (I.env s).mono hH (fun t _ => hkB t (by simp [h0]))
  -- cells: what is written, what is kept
  have hget : ∀ t, (∀ c, (t, c) ∈ e.wr → (σ.put dst e).get t = some c) ∧ (t ∉ e.wr.map Prod.fst → (σ.put dst e).get t = (σ.get t).map (Cell.kill e.kill) ∨ (e.kill = [] ∧ (σ.put dst e).get t = σ.get t)) := by
    intro t
    obtain ⟨h1, h2⟩ := Cells.get_setAll e.wr (killC e.kill σ.cells) t hnd
    refine ⟨h1, fun h => ?_⟩
    have h3 := h2 h
    cases hk : e.kill with
    | nil => right; refine ⟨rfl, ?_⟩; simp only [hk] at h3; simpa [St.put, St.get, hk, killC] using h3
    | cons k ks => left; simp only [hk, killC] at h3; rw [Cells.get_kill] at h3; simpa [St.put, St.get, hk, killC] using h3
  have hmem : ∀ t, t ∈ e.wr.map Prod.fst → ∃ c, (t, c) ∈ e.wr := by
    intro t h; obtain ⟨⟨t', c⟩, hm, rfl⟩ := List.mem_map.1 h; exact ⟨c, hm⟩
  have hold : ∀ t c, (σ.put dst e).get t = some c → t ∉ e.wr.map Prod.fst → ∃ c0, σ.get t = some c0 ∧ c0.live = c.live ∧ (c = c0.kill e.kill ∨ (e.kill = [] ∧ c = c0)) := by
    intro t c hc ht
    rcases (hget t).2 ht with h | ⟨h0, h⟩
    · rw [h] at hc
      cases hg : σ.get t with
      | none => simp [hg] at hc
      | some c0 => simp only [hg, Option.map_some, Option.some.injEq] at hc; subst hc; exact ⟨c0, rfl, (Cell.kill_live _ _).symm, .inl rfl⟩
    · rw [h] at hc; exact ⟨c, hc, rfl, .inr ⟨h0, rfl⟩⟩
  have huntouched : ∀ t c b, σ.get t = some c → c.live = true → blkOf (B t) = some b → t ∉ e.wr.map Prod.fst → ¬ touched B σ e b := by
    rintro t c b hc hl hb ht ⟨t', c', ht', hc', hl', hb'⟩
    have hne : t' ≠ t := fun h => ht (h ▸ ht')
    exact I.apart t' t c' c b hne hc' hc hl' hl hb' hb
  refine ⟨?_, ?_, ?_, ?_, ?_, ?_, himm, Imm.le_trans I.le hH, ?_, ?_, Nat.le_trans I.grow hgrow, hos.trans I.os, htape.trans I.tape, hout.trans I.output, ?_⟩
  · cases dst <;> simp [Act.put, I.size]
  · cases dst <;> simp [Act.put, I.defers]
  · intro s
    rw [Act.getD_put a dst v s (fun d h => by rw [I.size]; exact hd d h)]
    cases dst with
    | none => exact henv s
    | some d =>
      simp only [St.put, Option.some.injEq]
      rw [Env.get_set]
      by_cases h : d = s
      · simp [h, hres]
      · simp only [h, if_false]; exact henv s
  · intro t c hc
    by_cases ht : t ∈ e.wr.map Prod.fst
    · obtain ⟨c', hm⟩ := hmem t ht
      have := (hget t).1 c' hm
      rw [hc] at this; cases this
      exact hwr t c hm
    · obtain ⟨c0, h0, hl, hk⟩ := hold t c hc ht
      have hBt := hwB t ht
      have hok := I.cells t c0 h0
      have hun := fun b (h1 : c0.live = true) (h2 : blkOf (B t) = some b) => huntouched t c0 b h0 h1 h2 ht
      cases c0 with
      | var ty x =>
        obtain ⟨b, cs, h1, h2, h3⟩ := hok
        have hb : w'.heap[b]? = w.heap[b]? := hfr b (Array.getElem?_eq_some_iff.1 h2).1 (hun b rfl (by rw [h1]; rfl))
        rcases hk with hk | ⟨h0', hk⟩
        · subst hk
          refine ⟨b, cs, hBt.trans h1, hb.trans h2, (h3.kill e.kill).mono hH (fun u hu => hkB u (kill_refs _ _ u hu).1)⟩
        · subst hk
          exact ⟨b, cs, hBt.trans h1, hb.trans h2, h3.mono hH (fun u _ => hkB u (by simp [h0']))⟩
      | row ty sz l =>
        have hc' : c = .row ty sz l := by rcases hk with hk | ⟨_, hk⟩ <;> exact hk
        subst hc'
        rcases hok with ⟨h1, h2⟩ | ⟨b, cap, cs, cells, post, h1, h2, h3, h4, h5, h6, h7⟩
        · exact .inl ⟨h1, hBt.trans h2⟩
        · have hb : w'.heap[b]? = w.heap[b]? := hfr b (Array.getElem?_eq_some_iff.1 h2).1 (hun b rfl (by rw [h1]; rfl))
          exact .inr ⟨b, cap, cs, cells, post, hBt.trans h1, hb.trans h2, h3, h4.mono hH, h5, h6, h7⟩
      | map ks vs =>
        have hc' : c = .map ks vs := by rcases hk with hk | ⟨_, hk⟩ <;> exact hk
        subst hc'
        obtain ⟨r, es, clk, h1, h2, hw, h3, h4⟩ := hok
        have hb : w'.heap[r]? = w.heap[r]? := hfr r (Array.getElem?_eq_some_iff.1 h2).1 (hun r rfl (by rw [h1]; rfl))
        exact ⟨r, es, clk, hBt.trans h1, hb.trans h2, hw, h3.mono hH, h4.mono hH⟩
      | frz x =>
        have hc' : c = .frz x := by rcases hk with hk | ⟨_, hk⟩ <;> exact hk
        subst hc'
        show RD H' x [B' t]
        rw [hBt]; exact RD.mono hH hok
      | iter s pos =>
        have hc' : c = .iter s pos := by rcases hk with hk | ⟨_, hk⟩ <;> exact hk
        subst hc'
        obtain ⟨b, h1, h2⟩ := hok
        have hb : w'.heap[b]? = w.heap[b]? := hfr b (Array.getElem?_eq_some_iff.1 h2).1 (hun b rfl (by rw [h1]; rfl))
        exact ⟨b, hBt.trans h1, hb.trans h2⟩
  · intro t c b hc hl hb
    by_cases ht : t ∈ e.wr.map Prod.fst
    · obtain ⟨c', hm⟩ := hmem t ht
      have := (hget t).1 c' hm
      rw [hc] at this; cases this
      obtain ⟨h1, h2⟩ := hlive t c b hm hl hb
      refine ⟨h1, ?_⟩
      rcases h2 with h2 | ⟨t1, c0, _, h3, h4, h5⟩
      · exact .inr (Nat.le_trans I.grow h2)
      · exact (I.sep t1 c0 b h3 h4 h5).2
    · obtain ⟨c0, h0, hl0, _⟩ := hold t c hc ht
      rw [hwB t ht] at hb
      have hl0' : c0.live = true := hl0.trans hl
      obtain ⟨h1, h2⟩ := I.sep t c0 b h0 hl0' hb
      refine ⟨?_, h2⟩
      cases hx : H' b with
      | none => rfl
      | some o =>
        exfalso
        rcases hHf b o hx with h | h | h
        · rw [h1] at h; cases h
        · exact huntouched t c0 b h0 hl0' hb ht h
        · exact absurd ((I.cells t c0 h0).lt hl0' hb) (by omega)
  · intro t t' c c' b hne hc hc' hl hl' hb
    by_cases ht : t ∈ e.wr.map Prod.fst
    · obtain ⟨x, hm⟩ := hmem t ht
      have hx := (hget t).1 x hm
      rw [hc] at hx; cases hx
      by_cases ht' : t' ∈ e.wr.map Prod.fst
      · obtain ⟨x', hm'⟩ := hmem t' ht'
        have hx' := (hget t').1 x' hm'
        rw [hc'] at hx'; cases hx'
        exact hap t t' c c' b hne hm hm' hl hl' hb
      · obtain ⟨c0', h0', hl0', _⟩ := hold t' c' hc' ht'
        have hl0'' : c0'.live = true := hl0'.trans hl'
        rw [hwB t' ht']
        intro hb'
        rcases (hlive t c b hm hl hb).2 with h2 | ⟨t1, c0, h6, h3, h4, h5⟩
        · exact absurd ((I.cells t' c0' h0').lt hl0'' hb') (by omega)
        · exact I.apart t1 t' c0 c0' b (fun e => ht' (e ▸ h6)) h3 h0' h4 hl0'' h5 hb'
    · obtain ⟨c0, h0, hl0, _⟩ := hold t c hc ht
      have hl0' : c0.live = true := hl0.trans hl
      rw [hwB t ht] at hb
      by_cases ht' : t' ∈ e.wr.map Prod.fst
      · obtain ⟨x', hm'⟩ := hmem t' ht'
        have hx' := (hget t').1 x' hm'
        rw [hc'] at hx'; cases hx'
        intro hb'
        rcases (hlive t' c' b hm' hl' hb').2 with h2 | ⟨t1, c0', h6, h3, h4, h5⟩
        · exact absurd ((I.cells t c0 h0).lt hl0' hb) (by omega)
        · exact I.apart t t1 c0 c0' b (fun e => ht (e ▸ h6)) h0 h3 hl0' h4 hb h5
      · obtain ⟨c0', h0', hl0c, _⟩ := hold t' c' hc' ht'
        rw [hwB t' ht']
        exact I.apart t t' c0 c0' b hne h0 h0' hl0' (hl0c.trans hl') hb
  · intro b o h
    rcases hHf b o h with h | ⟨t, c, _, hc, hl, hb⟩ | h
    · exact I.fromH b o h
    · exact .inr (I.sep t c b hc hl hb).2
    · exact .inr (.inr (Nat.le_trans I.grow h))
  · intro b hb hO
    have hnt : ¬ touched B σ e b := by
      rintro ⟨t, c, _, hc, hl, hbt⟩
      rcases (I.sep t c b hc hl hbt).2 with h | h
      · exact hO h
      · omega
    rw [hfr b (Nat.lt_of_lt_of_le hb I.grow) hnt]
    exact I.frame b hb hO
  · intro t ht
    obtain ⟨h1, h2, ty, v, h3⟩ := I.keep t ht
    obtain ⟨h4, h5⟩ := hK t ht
    refine ⟨h4.trans h1, h2, ?_⟩
    by_cases hm : t ∈ e.wr.map Prod.fst
    · obtain ⟨c, hc⟩ := hmem t hm
      obtain ⟨ty', v', rfl⟩ := h5 c hc
      exact ⟨ty', v', (hget t).1 _ hc⟩
    · rcases (hget t).2 hm with h | ⟨_, h⟩
      · rw [h, h3]; exact ⟨_, _, rfl⟩
      · rw [h, h3]; exact ⟨_, _, rfl⟩

end Go.Ev
end

/- The digested form of a loaded function: computed from the program, to be compared in the kernel. -/
section
namespace Go.Ev

def cConst : Value → Option V
  | .int k n => some (.d (.int k n))
  | .bool b => some (.d (.bool b))
  | .string s => some (.d (.str s.data.toList))
  | .pointer none => some (.d .nilptr)
  | .slice none 0 0 => some .nils
  | .map none => some (.d .nilmap)
  | .nilFunc => some (.d .nilfn)
  | .nilIface => some (.d .nilif)
  | _ => none

def cX : Operand → Option X
  | .tmp t => some (.t t)
  | .const v => (cConst v).map .c
  | .global g => some (.g g)
  | .func f => some (.c (.d (.fn f)))

def cXs : List Operand → Option (List X)
  | [] => some []
  | x :: l => match cX x, cXs l with
    | some y, some r => some (y :: r)
    | _, _ => none

def szOf (P : Program) (t : TypeId) : Option Nat := (P.info? t).map (·.size)
def byOf (P : Program) (t : TypeId) : Option Nat := (P.info? t).map (·.bytes)
def agOf (P : Program) (t : TypeId) : Option Bool :=
  match P.underlying t with
  | some (.struct _) | some (.array _ _) => some true
  | some _ => some false
  | none => none

def allSome {α : Type} : List (Option α) → Option (List α)
  | [] => some []
  | some x :: l => match allSome l with
    | some r => some (x :: r)
    | none => none
  | none :: _ => none

def zeroV (P : Program) : Nat → TypeId → Option V
  | 0, _ => none
  | n + 1, t => match P.underlying t with
    | some (.int k) => some (.d (.int k 0))
    | some .bool => some (.d (.bool false))
    | some .string => some (.d (.str []))
    | some (.pointer _) => some (.d .nilptr)
    | some (.slice _) => some .nils
    | some (.map _ _) => some (.d .nilmap)
    | some (.func _ _ _) => some (.d .nilfn)
    | some (.interface _) => some (.d .nilif)
    | some (.struct fs) => (allSome (fs.toList.map fun f => zeroV P n f.type)).map V.mk
    | some (.array len e) => (zeroV P n e).map fun z => V.mk (List.replicate len z)
    | _ => none

/-- One cell of a zero value: the same as the model's. -/
def sameD : D → Value → Bool
  | .int k n, .int k' m => k == k' && n == m
  | .bool b, .bool c => b == c
  | .str [], .string s => s.size == 0
  | .nilptr, .pointer none => true
  | .nilmap, .map none => true
  | .nilfn, .nilFunc => true
  | .nilif, .nilIface => true
  | _, _ => false

mutual
def chkD : D → List Value → Option (List Value)
  | .agg l, cs => chkDs l cs
  | x, c :: cs => if sameD x c then some cs else none
  | _, [] => none
def chkDs : List D → List Value → Option (List Value)
  | [], cs => some cs
  | x :: l, cs => match chkD x cs with
    | some r => chkDs l r
    | none => none
end

mutual
def chkZ : V → List Value → Option (List Value)
  | .d x, cs => chkD x cs
  | .nils, .slice none 0 0 :: cs => some cs
  | .agg l, cs => chkZs l cs
  | _, _ => none
def chkZs : List V → List Value → Option (List Value)
  | [], cs => some cs
  | x :: l, cs => match chkZ x cs with
    | some r => chkZs l r
    | none => none
end

def isAggV : Value → Bool
  | .agg _ => true
  | _ => false

def zeroFits (P : Program) (t : TypeId) (z : V) : Bool :=
  match P.info? t with
  | some i => match i.zero with
    | some zv => z.isAgg == isAggV zv && (match chkZ z zv.cells.toList with | some [] => true | _ => false)
    | none => false
  | none => false

def zeroOf (P : Program) (t : TypeId) : Option V :=
  match zeroV P 8 t with
  | some z => if zeroFits P t z then some z else none
  | none => none

mutual
def V.zD : V → Option D
  | .d x => some x
  | .nils => some (.sl [])
  | .agg l => match V.zDs l with
    | some r => some (.agg r)
    | none => none
  | _ => none
def V.zDs : List V → Option (List D)
  | [] => some []
  | x :: l => match x.zD, V.zDs l with
    | some y, some r => some (y :: r)
    | _, _ => none
end

def tcOf (P : Program) (t : TypeId) : TC :=
  match P.underlying t with
  | some (.int _) => .int
  | some .bool => .bool
  | some .string => .str
  | some (.pointer _) => .ptr
  | some (.slice _) => .sl
  | some (.map _ _) => .map
  | some (.func _ _ _) => .fn
  | some (.interface _) => .ifc
  | _ => .other

def keyOk (P : Program) (t : TypeId) : Bool :=
  match P.underlying t with
  | some (.int _) | some .string | some .bool => true
  | _ => false

/-- The fields' places are the sums of the sizes before them. -/
def offsOk (P : Program) (o : Nat) : List Field → List V → Bool
  | [], [] => true
  | f :: fs, z :: zs => f.offset == o && (szOf P f.type == some z.size) && offsOk P (o + z.size) fs zs
  | _, _ => false

def optX : Option Operand → Option (Option X)
  | none => some none
  | some x => (cX x).map some

/-- Fields of one cell each, numbers, strings, bools. -/
def eqFlds (P : Program) (i : Nat) : List Field → Bool
  | [] => true
  | f :: fs => (f.name != "_") && (f.offset == i) && keyOk P f.type && eqFlds P (i + 1) fs

/-- The fields' kinds of a struct that is compared field by field. -/
def eqFlat (P : Program) (t : TypeId) : Option (List TC) :=
  match P.underlying t with
  | some (.struct fs) => if !P.stoodInHeld t && !P.eqGuardType P.depth t && eqFlds P 0 fs.toList then some (fs.toList.map fun f => tcOf P f.type) else none
  | _ => none

def cEq (op : BinOp) : Option Bool :=
  match op with
  | .eql => some false
  | .neq => some true
  | _ => none

def isC : Operand → Bool
  | .const _ => true
  | _ => false

def inOrder (i : Nat) : List (Nat × Operand) → Bool
  | [] => true
  | (j, _) :: l => i == j && inOrder (i + 1) l

def appendable : TypeDesc → Bool
  | .slice _ | .string => true
  | _ => false

def cBuiltin (P : Program) (b : Builtin) (argTypes : List TypeId) (args : List X) : Option SOp :=
  match b, argTypes, args with
  | .append, [t, u], [s, x] => match P.underlying t, P.underlying u with
    | some (.slice e), some d => match szOf P e, byOf P e, zeroOf P e with
      | some sz, some by', some z => if 0 < sz ∧ z.size = sz ∧ appendable d = true then some (.app e sz by' s x) else none
      | _, _, _ => none
    | _, _ => none
  | .len, [t], [x] => match P.underlying t with
    | some .string => some (.len .str x)
    | some (.slice _) => some (.len .sl x)
    | some (.map _ _) => some (.len .map x)
    | some (.array n _) => some (.cst (.d (.int .i64 n)))
    | _ => none
  | .min, [_, _], [a, b] => some (.mxn false [a, b])
  | .max, [_, _], [a, b] => some (.mxn true [a, b])
  | _, _, _ => none

def cCall (P : Program) (mv : Nat → Bool) (c : Call) : Option SOp :=
  match cXs c.args.toList with
  | none => none
  | some args => match c.callee with
    | .value (.func g) => some (if mv g then .callM g args else .call g args)
    | .value f => (cX f).map fun f => .callv f args
    | .invoke _ _ => none
    | .builtin b => cBuiltin P b c.argTypes.toList args

def isNilSlice : Operand → Bool
  | .const (.slice none 0 0) => true
  | _ => false

def cAssign (P : Program) (t : TypeId) (x : Operand) : Option SOp :=
  if isNilSlice x then
    match P.underlying t with
    | some (.slice e) => match szOf P e with
      | some sz => if 0 < sz then some (.nilrow e sz) else none
      | none => none
    | _ => none
  else (cX x).map .mov

def cOp (P : Program) (mv : Nat → Bool) (o : Oper) : Option SOp :=
  match o.op with
  | .move x => (cX x).map .mov
  | .assign x => cAssign P o.type x
  | .pick c a b => match cX c, cX a, cX b with
    | some c, some a, some b => some (.pick c a b)
    | _, _, _ => none
  | .alloc t => (zeroOf P t).map (.alloc t)
  | .box t x => (cX x).map (.box t)
  | .build t parts => match P.underlying t, cXs (parts.toList.map (·.2)) with
    | some (.struct fs), some xs => match allSome (fs.toList.map fun f => zeroOf P f.type) with
      | some zs => if offsOk P 0 fs.toList zs && zeroFits P t (V.mk zs) then some (.build zs ((parts.toList.map (·.1)).zip xs)) else none
      | none => none
    | some (.array n e), some xs => match zeroOf P e, szOf P e with
      | some z, some sz => if sz == z.size && zeroFits P t (V.mk (List.replicate n z)) then some (.build (List.replicate n z) ((parts.toList.map (·.1)).zip xs)) else none
      | _, _ => none
    | _, _ => none
  | .buildSlice t n parts => match P.underlying t, cXs (parts.toList.map (·.2)) with
    | some (.slice e), some xs => match szOf P e, zeroOf P e with
      | some sz, some z => if 0 < sz ∧ n * sz ≤ 16777216 ∧ inOrder 0 parts.toList ∧ parts.toList.length = n ∧ z.size = sz then some (.bsl e sz n xs) else none
      | _, _ => none
    | _, _ => none
  | .load t a => match szOf P t, agOf P t, cX a with
    | some sz, some ag, some a => some (.ld sz ag a)
    | _, _, _ => none
  | .store t a x => match szOf P t, cX a, cX x with
    | some sz, some a, some x => some (.st sz a x)
    | _, _, _ => none
  | .nilCheck x => (cX x).map .nilc
  | .binOp op t x y _ => match cX x, cX y with
    | some x', some y' => match eqFlat P t, cEq op with
      | some n, some b => some (.eqS b n x' y')
      | _, _ => if tcOf P t = .ifc ∧ isC y = false then none else some (.bin op (tcOf P t) x' y')
    | _, _ => none
  | .unOp op _ x => (cX x).map (.un op)
  | .convert s d x => match P.underlying s, P.underlying d, cX x with
    | some (.int _), some (.int k), some x => some (.cnvI k x)
    | some .string, some .string, some x => some (.cnvS x)
    | some (.int _), some .string, some x => some (.cnvIS x)
    | some .string, some (.slice e), some x => match P.underlying e, szOf P e with
      | some (.int .u8), some 1 => some (.cnvSB x)
      | _, _ => none
    | some (.slice e), some .string, some x => match P.underlying e, szOf P e with
      | some (.int .u8), some 1 => some (.cnvBS x)
      | _, _ => none
    | _, _, _ => none
  | .makeFunc (.func f) first cap => match first.toList, cXs cap.toList with
    | [], some cs => some (.mkf f cs)
    | _, _ => none
  | .makeMap _ none => some .mkm
  | .makeMap t (some (.const (.int _ _))) => match P.underlying t with
    | some (.map _ _) => some .mkm
    | _ => none
  | .makeSlice t l c => match P.underlying t, cX l, cX c with
    | some (.slice e), some l, some c => match szOf P e, byOf P e, zeroOf P e with
      | some sz, some by', some z => match z.zD with
        | some d => if 0 < sz ∧ z.size = sz then some (.mks e sz by' d l c) else none
        | none => none
      | _, _, _ => none
    | _, _, _ => none
  | .slice t x lo hi none => match P.underlying t, cX x, optX lo, optX hi with
    | some .string, some x, some lo, some hi => some (.slS x lo hi)
    | some (.slice e), some x, some lo, some hi => match szOf P e with
      | some sz => if 0 < sz then some (.slL sz x lo hi) else none
      | none => none
    | _, _, _, _ => none
  | .fieldAddr s x f => match P.underlying s, cX x with
    | some (.struct fs), some x => match fs[f]? with
      | some fd => match szOf P fd.type with
        | some sz => if 0 < sz then some (.fa x f fd.offset) else none
        | none => none
      | none => none
    | _, _ => none
  | .field t x f => match P.underlying t, cX x with
    | some (.struct fs), some x => match fs[f]? with
      | some fd => match szOf P fd.type, agOf P fd.type with
        | some sz, some ag => some (.fld x f fd.offset sz ag)
        | _, _ => none
      | none => none
    | _, _ => none
  | .indexAddr t x i => match P.underlying t, cX x, cX i with
    | some (.slice e), some x, some i => match szOf P e with
      | some sz => if 0 < sz then some (.ia sz x i) else none
      | none => none
    | some (.array n e), some x, some i => match szOf P e with
      | some sz => some (.iaA n sz x i)
      | none => none
    | _, _, _ => none
  | .index t x i => match P.underlying t, cX x, cX i with
    | some .string, some x, some i => some (.ixS x i)
    | some (.array n e), some x, some i => match szOf P e, agOf P e with
      | some sz, some ag => some (.ixA n sz ag x i)
      | _, _ => none
    | _, _, _ => none
  | .lookup t m k ok => match P.underlying t, cX m, cX k with
    | some (.map kt e), some m, some k => match zeroOf P e with
      | some z => if keyOk P kt then some (.lk (tcOf P kt) z m k ok) else none
      | none => none
    | _, _, _ => none
  | .mapUpdate t m k x | .insert t m k x => match P.underlying t, cX m, cX k, cX x with
    | some (.map kt _), some m, some k, some x => if keyOk P kt then some (.mu (tcOf P kt) m k x) else none
    | _, _, _, _ => none
  | .range t x => match P.underlying t, cX x with
    | some .string, some x => some (.rngS x)
    | _, _ => none
  | .next x true => (cX x).map fun x => .nxtS x
  | .extract x i => (cX x).map fun x => .ext x i
  | .call c => cCall P mv c
  | _ => none

/-! ## Code -/
def cOper (P : Program) (mv : Nat → Bool) (ops : Array Oper) (o : Oper) : Option SOpr :=
  match cOp P mv o with
  | none => none
  | some op => match o.guard with
    | none => some { dst := o.dst, op := op, guard := none }
    | some (j, want) => match (ops[j]?).bind (·.dst) with
      | some s => some { dst := o.dst, op := op, guard := some (s, want) }
      | none => none

def cOpers (P : Program) (mv : Nat → Bool) (ops : Array Oper) : List Oper → Option (List SOpr)
  | [] => some []
  | o :: l => match cOper P mv ops o, cOpers P mv ops l with
    | some x, some r => some (x :: r)
    | _, _ => none

/-- Does an operation write, or make memory? -/
def SOp.loud : SOp → Bool
  | .nilrow _ _ | .alloc _ _ | .box _ _ | .bsl _ _ _ _ | .st _ _ _ | .cnvSB _ | .mkm | .mks _ _ _ _ _ _ | .slL _ _ _ _ | .mu _ _ _ _ | .call _ _ | .callM _ _ | .callv _ _ | .app _ _ _ _ _ | .rngS _ | .nxtS _ => true
  | _ => false

/-- All that must come before an operation with these edges, by the edges that bind always; as bits. -/
def maskOf (ms : List Nat) : List Edge → Nat
  | [] => 0
  | e :: l => if Region.binds .any e then (2 ^ e.on ||| ms.getD e.on 0) ||| maskOf ms l else maskOf ms l

def masks (acc : List Nat) : List Oper → List Nat
  | [] => acc
  | o :: l => masks (acc ++ [maskOf acc o.after.toList]) l

/-- The pairs of unordered operations of which one may write: they are looked at in the run. -/
def chkRow (y : SOpr) (m j : Nat) : List (Nat × SOpr) → List (Nat × Nat)
  | [] => []
  | (i, x) :: l => if !(m.testBit i) && (x.op.loud || y.op.loud) then (i, j) :: chkRow y m j l else chkRow y m j l

def chkPairs (prev : List (Nat × SOpr)) (j : Nat) : List SOpr → List Nat → List (Nat × Nat)
  | y :: l, m :: ms => chkRow y m j prev ++ chkPairs (prev ++ [(j, y)]) (j + 1) l ms
  | _, _ => []

/-- Whatever is unordered lies apart. -/
def apartOk (prev : List (Nat × SOpr)) (j : Nat) : List SOpr → List Nat → Bool
  | y :: l, m :: ms => prev.all (fun p => m.testBit p.1 || p.2.apart y) && apartOk (prev ++ [(j, y)]) (j + 1) l ms
  | _, _ => true

/-- The edges lead back, and the bits are what they say. -/
def backOk (ms : List Nat) (i : Nat) : List Oper → List Nat → Bool
  | o :: l, m :: ns => m == maskOf ms o.after.toList && Nat.blt m (2 ^ i) && backOk ms (i + 1) l ns
  | [], [] => true
  | _, _ => false

def tmpsOf : List SOpr → List Nat
  | [] => []
  | o :: l => o.dst.toList ++ tmpsOf l

def cCode (P : Program) (mv : Nat → Bool) (drop : Nat → List Nat) : Code → SCode
  | .skip | .label _ => .skip
  | .region id ops draw => match cOpers P mv ops ops.toList with
    | none => .bad
    | some os =>
      if draw then
        let ms := masks [] ops.toList
        if apartOk [] 0 os ms && backOk ms 0 ops.toList ms then .region id os true (chkPairs [] 0 os ms) (drop id) else .bad
      else .region id os false [] (drop id)
  | .seq a b => .seq (cCode P mv drop a) (cCode P mv drop b)
  | .cond c a b => match cX c with
    | some x => .cond x (cCode P mv drop a) (cCode P mv drop b)
    | none => .bad
  | .block id c => .block id (cCode P mv drop c)
  | .loop c => .loop (cCode P mv drop c)
  | .exit id => .exit id
  | .ret => .ret
  | _ => .bad

def cRes (P : Program) (own : Bool) : ResultVar → Option SRes
  | .tmp t => some (if own then .raw t else .tmp t)
  | .cell a t => match szOf P t, agOf P t with
    | some sz, some ag => some (.cell a sz ag)
    | _, _ => none

def dstsOk (n : Nat) : SCode → Bool
  | .region _ ops _ _ _ => ops.all fun o => match o.dst with | some d => d < n | none => true
  | .seq a b | .cond _ a b => dstsOk n a && dstsOk n b
  | .block _ c | .loop c => dstsOk n c
  | _ => true

def cFunc (P : Program) (mv : Nat → Bool) (f : FuncId) (drop : Nat → List Nat) : Option SFunc :=
  match P.funcs[f]? with
  | none => none
  | some fn => match fn.body with
    | none => none
    | some c =>
      let sc := cCode P mv drop c
      match allSome (fn.results.toList.map (cRes P (mv f))) with
      | none => none
      | some rs =>
        if dstsOk (max fn.ntmps (fn.params.size + fn.nfree)) sc && fn.name != "runtime.NumGoroutine" then
          some { nparams := fn.params.size + fn.nfree, ntmps := max fn.ntmps (fn.params.size + fn.nfree), code := sc, results := rs }
        else none

end Go.Ev
end

/- How the invariant is kept: by what computes alone, by new memory, by a change of one cell, by freezing. -/
section
namespace Go.Ev
variable {w0 : World} {O : Nat → Prop} {H0 : Imm} {N : Nat} {K : Nat → Prop} {B0 : Bind} {H : Imm} {B : Bind} {σ : St} {a : Act} {w : World} {dst : Option Nat}

theorem Imm.le_self : H.le H := Imm.le_refl H

/-- Nothing but a slot changes. -/
theorem Inv.pure (I : Inv w0 O H0 N K B0 H B σ a w) {x : V} {v : Value} {w' : World} (hd : ∀ d, dst = some d → d < N) (hx : RVv H B x v)
    (hw : w'.heap = w.heap) (hos : w'.os = w.os) (htape : w'.tape = w.tape) (hout : w'.output = w.output) :
    Inv w0 O H0 N K B0 H B (σ.put dst { res := x }) (a.put dst v) w' :=
  I.put hd Imm.le_self (fun _ _ => rfl) hx (fun b o h => by rw [hw]; exact I.imm b o h) (by simp) (by simp)
    (fun b _ _ => by rw [hw]) (fun b o h => .inl h) (by simp) (by simp) (fun _ _ => ⟨rfl, by simp⟩) (by rw [hw]; exact Nat.le_refl _) hos htape hout

theorem Inv.same (I : Inv w0 O H0 N K B0 H B σ a w) {x : V} {v : Value} (hd : ∀ d, dst = some d → d < N) (hx : RVv H B x v) :
    Inv w0 O H0 N K B0 H B (σ.put dst { res := x }) (a.put dst v) w := I.pure hd hx rfl rfl rfl rfl

def Bind.set (B : Bind) (T : Nat) (v : Value) : Bind := fun t => if t = T then v else B t

theorem Bind.set_same (B : Bind) (T : Nat) (v : Value) : B.set T v T = v := by simp [Bind.set]
theorem Bind.set_ne (B : Bind) {T t : Nat} (v : Value) (h : t ≠ T) : B.set T v t = B t := by simp [Bind.set, h]

theorem heap_alloc_new (w : World) (o : Obj) : (w.alloc o).heap[w.heap.size]? = some o := by
  show (w.heap.push o)[w.heap.size]? = some o; simp
theorem heap_alloc_old (w : World) (o : Obj) {b : Nat} (h : b < w.heap.size) : (w.alloc o).heap[b]? = w.heap[b]? := by
  show (w.heap.push o)[b]? = w.heap[b]?
  rw [Array.getElem?_push, if_neg (by omega)]

/-- A new cell 'T' in a new block. -/
theorem Inv.alloc (I : Inv w0 O H0 N K B0 H B σ a w) {x : V} {v hdr : Value} {T : Nat} {c : Cell} {o : Obj} {w' : World} (hT : 1000 ≤ T) (hd : ∀ d, dst = some d → d < N)
    (hblk : blkOf hdr = some w.heap.size)
    (hx : RVv H (B.set T hdr) x v) (hc : CellOk H (B.set T hdr) w' T c)
    (hw : w'.heap = (w.alloc o).heap) (hos : w'.os = w.os) (htape : w'.tape = w.tape) (hout : w'.output = w.output) :
    Inv w0 O H0 N K B0 H (B.set T hdr) (σ.put dst { res := x, wr := [(T, c)], kill := [T] }) (a.put dst v) w' := by
  have hsz : w'.heap.size = w.heap.size + 1 := by rw [hw]; exact Array.size_push ..
  have hold : ∀ b, b < w.heap.size → w'.heap[b]? = w.heap[b]? := fun b h => by rw [hw]; exact heap_alloc_old w o h
  have hlt : ∀ b o', H b = some o' → b < w.heap.size := fun b o' h => (Array.getElem?_eq_some_iff.1 (I.imm b o' h)).1
  refine I.put hd Imm.le_self (fun t h => ?_) hx (fun b o' h => ?_) (by simp) ?_ (fun b h _ => hold b h) (fun b o' h => .inl h) ?_ ?_ (fun t ht => ?_) (by omega) hos htape hout
  · simp only [List.mem_singleton, List.map_cons, List.map_nil] at h
    rcases h with h | h <;> exact B.set_ne hdr h
  · rw [hold b (hlt b o' h)]; exact I.imm b o' h
  · intro t c' h
    simp only [List.mem_singleton, Prod.mk.injEq] at h
    obtain ⟨rfl, rfl⟩ := h; exact hc
  · intro t c' b h hl hb
    simp only [List.mem_singleton, Prod.mk.injEq] at h
    obtain ⟨rfl, rfl⟩ := h
    rw [B.set_same, hblk] at hb
    simp only [Option.some.injEq] at hb
    subst hb
    refine ⟨?_, .inl (Nat.le_refl _)⟩
    cases hx : H w.heap.size with
    | none => rfl
    | some o' => exact absurd (hlt _ o' hx) (by omega)
  · intro t t' c1 c2 b hne h h' _ _ _
    simp only [List.mem_singleton, Prod.mk.injEq] at h h'
    exact absurd (h.1.trans h'.1.symm) hne
  · have hne : t ≠ T := fun e => by have := (I.keep t ht).2.1; omega
    exact ⟨B.set_ne _ hne, fun c hc => by simp only [List.mem_singleton, Prod.mk.injEq] at hc; exact absurd hc.1 hne⟩

/-- A nil row: a new cell without a block. -/
theorem Inv.nilrow (I : Inv w0 O H0 N K B0 H B σ a w) {T sz : Nat} {el : TypeId} (hT : 1000 ≤ T) (hd : ∀ d, dst = some d → d < N) :
    Inv w0 O H0 N K B0 H (B.set T (.slice none 0 0)) (σ.put dst { res := .own T, wr := [(T, .row el sz [])], kill := [T] }) (a.put dst (.slice none 0 0)) w := by
  refine I.put hd Imm.le_self (fun t h => ?_) (.one rfl (.own (B.set_same _ _))) I.imm (by simp) ?_ (fun b _ _ => rfl) (fun b o' h => .inl h) ?_ ?_ (fun t ht => ?_) (Nat.le_refl _) rfl rfl rfl
  · simp only [List.mem_singleton, List.map_cons, List.map_nil] at h
    rcases h with h | h <;> exact B.set_ne _ h
  · intro t c' h
    simp only [List.mem_singleton, Prod.mk.injEq] at h
    obtain ⟨rfl, rfl⟩ := h; exact .inl ⟨rfl, B.set_same _ _⟩
  · intro t c' b h hl hb
    simp only [List.mem_singleton, Prod.mk.injEq] at h
    obtain ⟨rfl, rfl⟩ := h
    rw [B.set_same] at hb; simp [blkOf] at hb
  · intro t t' c1 c2 b hne h h' _ _ _
    simp only [List.mem_singleton, Prod.mk.injEq] at h h'
    exact absurd (h.1.trans h'.1.symm) hne
  · have hne : t ≠ T := fun e => by have := (I.keep t ht).2.1; omega
    exact ⟨B.set_ne _ hne, fun c hc => by simp only [List.mem_singleton, Prod.mk.injEq] at hc; exact absurd hc.1 hne⟩

/-- The live cell 't' changes within its block 'b'; its header may change too where 'kill' forgets the others. -/
theorem Inv.change (I : Inv w0 O H0 N K B0 H B σ a w) {x : V} {v : Value} {t b : Nat} {c0 c : Cell} {w' : World} (hd : ∀ d, dst = some d → d < N)
    (hc0 : σ.get t = some c0) (hl0 : c0.live = true) (hcv : ∀ ty v, c0 = .var ty v → ∃ ty' v', c = .var ty' v') (hb0 : blkOf (B t) = some b)
    (hx : RVv H B x v) (hc : CellOk H B w' t c)
    (hw : ∀ b', b' ≠ b → w'.heap[b']? = w.heap[b']?) (hsz : w'.heap.size = w.heap.size)
    (hos : w'.os = w.os) (htape : w'.tape = w.tape) (hout : w'.output = w.output) :
    Inv w0 O H0 N K B0 H B (σ.put dst { res := x, wr := [(t, c)] }) (a.put dst v) w' := by
  have hsep := I.sep t c0 b hc0 hl0 hb0
  refine I.put hd Imm.le_self (fun _ _ => rfl) hx (fun b' o h => ?_) (by simp) ?_ ?_ (fun b o h => .inl h) ?_ ?_ (fun t' ht => ?_) (by omega) hos htape hout
  · rw [hw b' (fun e => by subst e; rw [hsep.1] at h; cases h)]; exact I.imm b' o h
  · intro t' c' h
    simp only [List.mem_singleton, Prod.mk.injEq] at h
    obtain ⟨rfl, rfl⟩ := h; exact hc
  · intro b' _ hnt
    refine hw b' (fun e => hnt ⟨t, c0, by simp, hc0, hl0, by rw [e]; exact hb0⟩)
  · intro t' c' b' h hl hb
    simp only [List.mem_singleton, Prod.mk.injEq] at h
    obtain ⟨rfl, rfl⟩ := h
    rw [hb0] at hb; cases hb
    exact ⟨hsep.1, .inr ⟨_, c0, by simp, hc0, hl0, hb0⟩⟩
  · intro t1 t2 c1 c2 b' hne h h' _ _ _
    simp only [List.mem_singleton, Prod.mk.injEq] at h h'
    exact absurd (h.1.trans h'.1.symm) hne
  · refine ⟨rfl, fun c' hc' => ?_⟩
    simp only [List.mem_singleton, Prod.mk.injEq] at hc'
    obtain ⟨rfl, rfl⟩ := hc'
    obtain ⟨_, _, ty, v, h3⟩ := I.keep _ ht
    rw [hc0] at h3; cases h3
    exact hcv ty v rfl

/-- The live cell 't' gets another header over the same block, or over a new one, or none; the other references to it are forgotten. -/
theorem Inv.rehead (I : Inv w0 O H0 N K B0 H B σ a w) {x : V} {v hdr : Value} {t : Nat} {c0 c : Cell} {w' : World} (hd : ∀ d, dst = some d → d < N)
    (hc0 : σ.get t = some c0) (hl0 : c0.live = true) (hnv : ∀ ty v, c0 ≠ .var ty v)
    (hblk : ∀ b, blkOf hdr = some b → (w.heap.size ≤ b ∧ b < w'.heap.size) ∨ blkOf (B t) = some b)
    (hx : RVv H (B.set t hdr) x v) (hc : CellOk H (B.set t hdr) w' t c)
    (hw : ∀ b', b' < w.heap.size → blkOf (B t) ≠ some b' → w'.heap[b']? = w.heap[b']?) (hsz : w.heap.size ≤ w'.heap.size)
    (hos : w'.os = w.os) (htape : w'.tape = w.tape) (hout : w'.output = w.output) :
    Inv w0 O H0 N K B0 H (B.set t hdr) (σ.put dst { res := x, wr := [(t, c)], kill := [t] }) (a.put dst v) w' := by
  have hlt : ∀ b o', H b = some o' → b < w.heap.size := fun b o' h => (Array.getElem?_eq_some_iff.1 (I.imm b o' h)).1
  refine I.put hd Imm.le_self (fun t' h => ?_) hx (fun b' o h => ?_) (by simp) ?_ ?_ (fun b o h => .inl h) ?_ ?_ (fun t' ht => ?_) hsz hos htape hout
  · simp only [List.mem_singleton, List.map_cons, List.map_nil] at h
    rcases h with h | h <;> exact B.set_ne _ h
  · rw [hw b' (hlt b' o h) (fun e => by rw [(I.sep t c0 b' hc0 hl0 e).1] at h; cases h)]; exact I.imm b' o h
  · intro t' c' h
    simp only [List.mem_singleton, Prod.mk.injEq] at h
    obtain ⟨rfl, rfl⟩ := h; exact hc
  · intro b' hb' hnt
    exact hw b' hb' (fun e => hnt ⟨t, c0, by simp, hc0, hl0, e⟩)
  · intro t' c' b' h hl hb
    simp only [List.mem_singleton, Prod.mk.injEq] at h
    obtain ⟨rfl, rfl⟩ := h
    rw [B.set_same] at hb
    rcases hblk b' hb with h | h
    · refine ⟨?_, .inl h.1⟩
      cases hx : H b' with
      | none => rfl
      | some o' => exact absurd (hlt _ o' hx) (by omega)
    · exact ⟨(I.sep _ c0 b' hc0 hl0 h).1, .inr ⟨_, c0, by simp, hc0, hl0, h⟩⟩
  · intro t1 t2 c1 c2 b' hne h h' _ _ _
    simp only [List.mem_singleton, Prod.mk.injEq] at h h'
    exact absurd (h.1.trans h'.1.symm) hne
  · have hne : t' ≠ t := fun e => by
      subst e
      obtain ⟨_, _, ty, v, h3⟩ := I.keep _ ht
      rw [hc0] at h3; cases h3
      exact hnv ty v rfl
    exact ⟨B.set_ne _ hne, fun c hc => by simp only [List.mem_singleton, Prod.mk.injEq] at hc; exact absurd hc.1 hne⟩

/-! ## Freezing -/
theorem mem_frzWr {get : Nat → Option Cell} : ∀ {l : List Nat} {t : Nat} {c : Cell}, (t, c) ∈ frzWr get l →
    t ∈ l ∧ ((∃ e sz r, get t = some (.row e sz r) ∧ c = .frz (.sl r)) ∨ (∃ ks vs, get t = some (.map ks vs) ∧ c = .frz (.map ks vs)))
  | [], t, c, h => by simp [frzWr] at h
  | u :: l, t, c, h => by
    simp only [frzWr] at h
    split at h
    · rename_i sz r hr
      simp only [List.mem_cons, Prod.mk.injEq] at h
      rcases h with ⟨rfl, rfl⟩ | h
      · exact ⟨by simp, .inl ⟨_, _, _, hr, rfl⟩⟩
      · exact ⟨by simp [(mem_frzWr h).1], (mem_frzWr h).2⟩
    · rename_i ks vs hr
      simp only [List.mem_cons, Prod.mk.injEq] at h
      rcases h with ⟨rfl, rfl⟩ | h
      · exact ⟨by simp, .inr ⟨_, _, hr, rfl⟩⟩
      · exact ⟨by simp [(mem_frzWr h).1], (mem_frzWr h).2⟩
    · exact ⟨by simp [(mem_frzWr h).1], (mem_frzWr h).2⟩

theorem frzWr_mem {get : Nat → Option Cell} : ∀ {l : List Nat} {t : Nat}, t ∈ l → (∀ e sz r, get t = some (.row e sz r) → (t, .frz (.sl r)) ∈ frzWr get l) ∧
    (∀ ks vs, get t = some (.map ks vs) → (t, .frz (.map ks vs)) ∈ frzWr get l)
  | [], t, h => by simp at h
  | u :: l, t, h => by
    simp only [List.mem_cons] at h
    constructor
    · intro e sz r hr
      rcases h with rfl | h
      · simp only [frzWr, hr]; simp
      · have := (frzWr_mem h).1 e sz r hr
        simp only [frzWr]; split <;> simp [this]
    · intro ks vs hr
      rcases h with rfl | h
      · simp only [frzWr, hr]; simp
      · have := (frzWr_mem h).2 ks vs hr
        simp only [frzWr]; split <;> simp [this]

theorem frzWr_nodup {get : Nat → Option Cell} : ∀ {l : List Nat}, l.Nodup → ((frzWr get l).map Prod.fst).Nodup ∧ ∀ t ∈ (frzWr get l).map Prod.fst, t ∈ l
  | [], _ => by simp [frzWr]
  | u :: l, h => by
    simp only [List.nodup_cons] at h
    obtain ⟨h1, h2⟩ := frzWr_nodup (get := get) h.2
    simp only [frzWr]
    split
    · refine ⟨by simp only [List.map_cons, List.nodup_cons]; exact ⟨fun hm => h.1 (h2 _ hm), h1⟩, fun t ht => ?_⟩
      simp only [List.map_cons, List.mem_cons] at ht ⊢
      exact ht.imp id (h2 t)
    · refine ⟨by simp only [List.map_cons, List.nodup_cons]; exact ⟨fun hm => h.1 (h2 _ hm), h1⟩, fun t ht => ?_⟩
      simp only [List.map_cons, List.mem_cons] at ht ⊢
      exact ht.imp id (h2 t)
    · exact ⟨h1, fun t ht => by simp [h2 t ht]⟩

theorem addNew_nodup : ∀ (l acc : List Nat), acc.Nodup → (addNew acc l).Nodup
  | [], acc, h => h
  | t :: l, acc, h => by
    simp only [addNew]
    split
    · exact addNew_nodup l acc h
    · rename_i hc
      refine addNew_nodup l _ ?_
      rw [List.nodup_append]
      refine ⟨h, by simp, ?_⟩
      intro x hx y hy
      simp only [List.mem_singleton] at hy
      subst hy
      intro e; subst e
      exact hc (by simpa using hx)

theorem mem_addNew : ∀ (l acc : List Nat) (t : Nat), t ∈ addNew acc l ↔ t ∈ acc ∨ t ∈ l
  | [], acc, t => by simp [addNew]
  | u :: l, acc, t => by
    simp only [addNew]
    split
    · rename_i hc
      rw [mem_addNew l acc t]
      simp only [List.mem_cons]
      constructor
      · rintro (h | h)
        · exact .inl h
        · exact .inr (.inr h)
      · rintro (h | rfl | h)
        · exact .inl h
        · exact .inl (by simpa using hc)
        · exact .inr h
    · rw [mem_addNew l _ t]
      simp only [List.mem_append, List.mem_cons, List.not_mem_nil, or_false]
      constructor
      · rintro ((h | rfl) | h)
        · exact .inl h
        · exact .inr (.inl rfl)
        · exact .inr (.inr h)
      · rintro (h | rfl | h)
        · exact .inl (.inl h)
        · exact .inl (.inr rfl)
        · exact .inr h

open Classical in
/-- What is frozen once the cells 'ks' are. -/
noncomputable def frozenBy (H : Imm) (B : Bind) (σ : St) (w : World) (ks : List Nat) : Imm := fun b =>
  if ∃ t c, t ∈ (frzWr σ.get ks).map Prod.fst ∧ σ.get t = some c ∧ c.live = true ∧ blkOf (B t) = some b then w.heap[b]? else H b

theorem Inv.freeze (I : Inv w0 O H0 N K B0 H B σ a w) (vs : List V) :
    ∃ H', Inv w0 O H0 N K B0 H' B (σ.put none { res := .und, wr := fzw σ.get vs }) a w ∧ H.le H' ∧ HF H' B σ.get (V.ftagsL vs) := by
  have hnd : (addNew [] (V.ftagsL vs)).Nodup := addNew_nodup _ _ (by simp)
  generalize hks : addNew [] (V.ftagsL vs) = ks at hnd
  have hmem : ∀ t, t ∈ V.ftagsL vs → t ∈ ks := fun t h => by rw [← hks, mem_addNew]; exact .inr h
  have hlt : ∀ b o', H b = some o' → b < w.heap.size := fun b o' h => (Array.getElem?_eq_some_iff.1 (I.imm b o' h)).1
  have hle : H.le (frozenBy H B σ w ks) := by
    intro b o h
    unfold frozenBy
    split
    · exact I.imm b o h
    · exact h
  have himm : ∀ b o, frozenBy H B σ w ks b = some o → w.heap[b]? = some o := by
    intro b o h
    unfold frozenBy at h
    split at h
    · exact h
    · exact I.imm b o h
  have hin : ∀ t c b, t ∈ ks → σ.get t = some c → ((∃ e sz r, c = .row e sz r) ∨ (∃ k v, c = .map k v)) → blkOf (B t) = some b → frozenBy H B σ w ks b = w.heap[b]? := by
    intro t c b ht hc hk hb
    unfold frozenBy
    rw [if_pos]
    refine ⟨t, c, ?_, hc, ?_, hb⟩
    · rcases hk with ⟨e, sz, r, rfl⟩ | ⟨k, v, rfl⟩
      · exact List.mem_map.2 ⟨_, (frzWr_mem ht).1 e sz r hc, rfl⟩
      · exact List.mem_map.2 ⟨_, (frzWr_mem ht).2 k v hc, rfl⟩
    · rcases hk with ⟨e, sz, r, rfl⟩ | ⟨k, v, rfl⟩ <;> rfl
  have hF : ∀ t ∈ ks, (∀ e sz l, σ.get t = some (.row e sz l) → RD (frozenBy H B σ w ks) (.sl l) [B t]) ∧
      (∀ k v, σ.get t = some (.map k v) → RD (frozenBy H B σ w ks) (.map k v) [B t]) := by
    intro t ht
    constructor
    · intro e sz l hc
      rcases I.cells t _ hc with ⟨rfl, h2⟩ | ⟨b, cap, c, cs, post, h1, h2, h3, h4, h5, h6, h7⟩
      · rw [h2]; exact .sl0 _ _
      · rw [h1]
        have hb := hin t _ b ht hc (.inl ⟨e, sz, l, rfl⟩) (by rw [h1]; rfl)
        exact .sl (a := ⟨b, 0, none⟩) (pre := []) (by rw [hb]; exact h2) rfl (by simpa using h3) rfl (h4.mono hle) h5 h6
    · intro k v hc
      obtain ⟨r, es, clk, h1, h2, hwf, h3, h4⟩ := I.cells t _ hc
      rw [h1]
      have hb := hin t _ r ht hc (.inr ⟨k, v, rfl⟩) (by rw [h1]; rfl)
      exact .map (by rw [hb]; exact h2) hwf (h3.mono hle) (h4.mono hle)
  refine ⟨frozenBy H B σ w ks, ?_, hle, fun t ht => ⟨(hF t (hmem t ht)).1, (hF t (hmem t ht)).2, fun x hx => RD.mono hle (I.cells t _ hx)⟩⟩
  have hfz : fzw σ.get vs = frzWr σ.get ks := by unfold fzw; rw [hks]
  have hput : (a.put none undef) = a := rfl
  rw [← hput]
  rw [hfz]
  refine I.put (by simp) hle (fun _ _ => rfl) (.und _) himm (frzWr_nodup hnd).1 ?_ (fun _ _ _ => rfl) ?_ ?_ ?_ (fun t ht => ⟨rfl, fun c hc => ?_⟩) (Nat.le_refl _) rfl rfl rfl
  · intro t c h
    obtain ⟨h1, h2⟩ := mem_frzWr h
    rcases h2 with ⟨e, sz, r, h2, rfl⟩ | ⟨k, v, h2, rfl⟩
    · exact (hF t h1).1 e sz r h2
    · exact (hF t h1).2 k v h2
  · intro b o h
    unfold frozenBy at h
    split at h
    · exact .inr (.inl ‹_›)
    · exact .inl h
  · intro t c b h hl
    obtain ⟨_, h2⟩ := mem_frzWr h
    rcases h2 with ⟨_, _, _, _, rfl⟩ | ⟨_, _, _, rfl⟩ <;> simp [Cell.live] at hl
  · intro t t' c c' b _ h _ hl
    obtain ⟨_, h2⟩ := mem_frzWr h
    rcases h2 with ⟨_, _, _, _, rfl⟩ | ⟨_, _, _, rfl⟩ <;> simp [Cell.live] at hl
  · obtain ⟨_, h2⟩ := mem_frzWr hc
    obtain ⟨_, _, ty, v, h3⟩ := I.keep t ht
    rcases h2 with ⟨_, _, _, h4, _⟩ | ⟨_, _, h4, _⟩ <;> (rw [h3] at h4; cases h4)

end Go.Ev
end

/- What the model's operations come to where the values are related to data: reads and writes of variables, zero values, literals. -/
section
namespace Go.Ev
variable {P : Program} {w : World}

theorem run_info {t : TypeId} {i : TypeInfo} (h : P.info? t = some i) (w : World) : (typeInfo t).run P w = .ok i w := by
  simp [typeInfo, h]

theorem run_szOf {t : TypeId} {n : Nat} (h : szOf P t = some n) (w : World) : (sizeOf t).run P w = .ok n w := by
  unfold szOf at h
  cases hi : P.info? t with
  | none => simp [hi] at h
  | some i => simp only [hi, Option.map_some, Option.some.injEq] at h; simp [sizeOf, run_info hi, h]

theorem run_agOf {t : TypeId} {b : Bool} (h : agOf P t = some b) (w : World) : (isAgg t).run P w = .ok b w := by
  unfold agOf at h
  split at h <;> simp at h <;> subst h <;> (rename_i hu; simp only [isAgg, Sem.run_bind, run_underlying hu]; try rfl)
  rename_i d _ _ _
  cases d <;> first | rfl | simp_all

theorem cell_at {g off : Nat} {c : Array Value} {e : TypeId} {fr : Nat × Nat} {pre mid post : List Value}
    (hg : w.heap[g]? = some (.cells c e fr)) (hc : c.toList = pre ++ (mid ++ post)) (hp : pre.length = off) (j : Nat) (v : Value)
    (hv : mid[j]? = some v) : w.cell? ((⟨g, off, none⟩ : Addr).add j) = some v := by
  have hadd : (⟨g, off, none⟩ : Addr).add j = ⟨g, off + j, none⟩ := by unfold Addr.add; split <;> simp_all
  rw [hadd]
  have hlt : j < mid.length := (List.getElem?_eq_some_iff.1 hv).1
  have : c[off + j]? = some v := by
    rw [← Array.getElem?_toList, hc, List.getElem?_append_right (by omega), hp, Nat.add_sub_cancel_left, List.getElem?_append_left hlt]
    exact hv
  simp [World.cell?, hg, this]

theorem run_loadVar_at {H : Imm} {B : Bind} {t : TypeId} {sz g off : Nat} {ag : Bool} {c : Array Value} {e : TypeId} {fr : Nat × Nat} {pre mid post : List Value} {u : V}
    (hsz : szOf P t = some sz) (hag : agOf P t = some ag)
    (hg : w.heap[g]? = some (.cells c e fr)) (hc : c.toList = pre ++ (mid ++ post)) (hp : pre.length = off)
    (hu : RV H B u mid) (hus : u.size = sz) (hua : u.isAgg = ag) :
    ∃ v, (loadVar t ⟨g, off, none⟩).run P w = .ok v w ∧ RVv H B u v := by
  have hml : mid.length = sz := hu.size.trans hus
  cases ag with
  | true =>
    refine ⟨.agg mid.toArray, ?_, .agg hua hu⟩
    have := run_loadCells_list (P := P) w ⟨g, off, none⟩ mid (cell_at hg hc hp)
    rw [hml] at this
    simp [loadVar, run_agOf hag, run_szOf hsz, this]
  | false =>
    obtain ⟨v, rfl⟩ : ∃ v, mid = [v] := by
      cases hu with
      | d h1 => cases h1 <;> first | exact ⟨_, rfl⟩ | simp [V.isAgg, D.isAgg] at hua
      | agg _ => simp [V.isAgg] at hua
      | _ => exact ⟨_, rfl⟩
    refine ⟨v, ?_, .one hua hu⟩
    have := cell_at hg hc hp 0 v rfl
    have hadd : (⟨g, off, none⟩ : Addr).add 0 = ⟨g, off, none⟩ := by simp [Addr.add]
    rw [hadd] at this
    simp [loadVar, run_agOf hag, this]

theorem run_storeVar_at {t : TypeId} {sz g off : Nat} {c : Array Value} {e : TypeId} {pre mid post : List Value} {v : Value}
    (hsz : szOf P t = some sz)
    (hg : w.heap[g]? = some (.cells c e (0, 0))) (hc : c.toList = pre ++ (mid ++ post)) (hp : pre.length = off) (hm : mid.length = sz)
    (hv : v.cells.toList.length = sz) (h1 : ∀ x ∈ v.cells.toList, Value.oneCell' x = true) :
    (storeVar t ⟨g, off, none⟩ v).run P w = .ok () (w.setRow g (pre ++ (v.cells.toList ++ post)).toArray) := by
  have hcs : c.size = off + sz + post.length := by
    rw [← Array.length_toList, hc]; simp only [List.length_append]; omega
  have hst := run_storeCells_at P g off e v.cells.toList 0 c w hg (by omega) h1
  have e1 : c.toList.take (off + 0) = pre := by rw [hc, ← hp]; simp
  have e2 : c.toList.drop (off + 0 + v.cells.toList.length) = post := by
    rw [hc, hv, ← hp, ← hm]
    have : pre.length + 0 + mid.length = (pre ++ mid).length := by simp
    rw [this, ← List.append_assoc, List.drop_left]
  rw [e1, e2] at hst
  have hsz' : v.cells.size = sz := by rw [← Array.length_toList]; exact hv
  simp only [storeVar, Sem.run_bind, run_szOf hsz, Result.andThen_ok, hsz', ne_eq, not_true_eq_false, if_false]
  rw [hst]
  simp

theorem setRow_other (w : World) (g : Nat) (cs : Array Value) {b : Nat} (h : b ≠ g) : (w.setRow g cs).heap[b]? = w.heap[b]? := by
  simp only [World.setRow, Array.getElem?_modify]; rw [if_neg (fun e => h e.symm)]

theorem setRow_size (w : World) (g : Nat) (cs : Array Value) : (w.setRow g cs).heap.size = w.heap.size := by simp [World.setRow]

/-! ## Zero values -/
theorem sameD_ok {H : Imm} {x : D} {v : Value} (h : sameD x v = true) : RD H x [v] := by
  cases x with
  | int k n => cases v <;> simp [sameD] at h; obtain ⟨rfl, rfl⟩ := h; exact .int _ _
  | bool b => cases v <;> simp [sameD] at h; subst h; exact .bool _
  | str s =>
    cases s with
    | cons c s => cases v <;> simp [sameD] at h
    | nil =>
      cases v <;> simp [sameD] at h
      subst h; exact .str []
  | nilptr => cases v <;> simp [sameD] at h; rename_i a; cases a <;> simp [sameD] at h; exact .nilptr
  | nilmap => cases v <;> simp [sameD] at h; rename_i a; cases a <;> simp [sameD] at h; exact .nilmap
  | nilfn => cases v <;> simp [sameD] at h; exact .nilfn
  | nilif => cases v <;> simp [sameD] at h; exact .nilif
  | _ => cases v <;> simp [sameD] at h

mutual
theorem chkD_ok {H : Imm} : ∀ {x : D} {cs r : List Value}, chkD x cs = some r → ∃ pre, cs = pre ++ r ∧ RD H x pre
  | .agg l, cs, r, h => by
    simp only [chkD] at h
    obtain ⟨pre, rfl, hp⟩ := chkDs_ok h
    exact ⟨pre, rfl, .agg hp⟩
  | .int k n, cs, r, h => by cases cs <;> simp [chkD] at h; obtain ⟨h1, rfl⟩ := h; exact ⟨[_], rfl, sameD_ok h1⟩
  | .bool k, cs, r, h => by cases cs <;> simp [chkD] at h; obtain ⟨h1, rfl⟩ := h; exact ⟨[_], rfl, sameD_ok h1⟩
  | .str k, cs, r, h => by cases cs <;> simp [chkD] at h; obtain ⟨h1, rfl⟩ := h; exact ⟨[_], rfl, sameD_ok h1⟩
  | .sl k, cs, r, h => by cases cs <;> simp [chkD, sameD] at h
  | .nilptr, cs, r, h => by cases cs <;> simp [chkD] at h; obtain ⟨h1, rfl⟩ := h; exact ⟨[_], rfl, sameD_ok h1⟩
  | .nilif, cs, r, h => by cases cs <;> simp [chkD] at h; obtain ⟨h1, rfl⟩ := h; exact ⟨[_], rfl, sameD_ok h1⟩
  | .nilfn, cs, r, h => by cases cs <;> simp [chkD] at h; obtain ⟨h1, rfl⟩ := h; exact ⟨[_], rfl, sameD_ok h1⟩
  | .nilmap, cs, r, h => by cases cs <;> simp [chkD] at h; obtain ⟨h1, rfl⟩ := h; exact ⟨[_], rfl, sameD_ok h1⟩
  | .err, cs, r, h => by cases cs <;> simp [chkD, sameD] at h
  | .fn f, cs, r, h => by cases cs <;> simp [chkD, sameD] at h
  | .map _ _, cs, r, h => by cases cs <;> simp [chkD, sameD] at h
theorem chkDs_ok {H : Imm} : ∀ {x : List D} {cs r : List Value}, chkDs x cs = some r → ∃ pre, cs = pre ++ r ∧ RDs H x pre
  | [], cs, r, h => by simp [chkDs] at h; subst h; exact ⟨[], rfl, .nil⟩
  | x :: l, cs, r, h => by
    simp only [chkDs] at h
    cases hx : chkD x cs with
    | none => simp [hx] at h
    | some q =>
      simp only [hx] at h
      obtain ⟨p1, rfl, h1⟩ := chkD_ok (H := H) hx
      obtain ⟨p2, rfl, h2⟩ := chkDs_ok (H := H) h
      exact ⟨p1 ++ p2, by simp, .cons h1 h2⟩
end

mutual
theorem chkZ_ok {H : Imm} {B : Bind} : ∀ {x : V} {cs r : List Value}, chkZ x cs = some r → ∃ pre, cs = pre ++ r ∧ RV H B x pre
  | .d x, cs, r, h => by simp only [chkZ] at h; obtain ⟨p, rfl, hp⟩ := chkD_ok (H := H) h; exact ⟨p, rfl, .d hp⟩
  | .nils, cs, r, h => by
    cases cs with
    | nil => simp [chkZ] at h
    | cons c cs =>
      cases c with
      | slice a n k =>
        cases a with
        | some _ => simp [chkZ] at h
        | none => cases n with
          | succ _ => simp [chkZ] at h
          | zero => cases k with
            | succ _ => simp [chkZ] at h
            | zero => simp [chkZ] at h; subst h; exact ⟨[_], rfl, .nils⟩
      | _ => simp [chkZ] at h
  | .agg l, cs, r, h => by simp only [chkZ] at h; obtain ⟨p, rfl, hp⟩ := chkZs_ok (H := H) (B := B) h; exact ⟨p, rfl, .agg hp⟩
  | .own _, cs, r, h => by simp [chkZ] at h
  | .mp _, cs, r, h => by simp [chkZ] at h
  | .ptr _ _ _, cs, r, h => by simp [chkZ] at h
  | .eptr _ _ _ _ _, cs, r, h => by simp [chkZ] at h
  | .sptr _ _, cs, r, h => by simp [chkZ] at h
  | .fref _, cs, r, h => by simp [chkZ] at h
  | .clo _ _, cs, r, h => by simp [chkZ] at h
  | .tup _, cs, r, h => by simp [chkZ] at h
  | .skp, cs, r, h => by simp [chkZ] at h
  | .und, cs, r, h => by simp [chkZ] at h
theorem chkZs_ok {H : Imm} {B : Bind} : ∀ {x : List V} {cs r : List Value}, chkZs x cs = some r → ∃ pre, cs = pre ++ r ∧ RVs H B x pre
  | [], cs, r, h => by simp [chkZs] at h; subst h; exact ⟨[], rfl, .nil⟩
  | x :: l, cs, r, h => by
    simp only [chkZs] at h
    cases hx : chkZ x cs with
    | none => simp [hx] at h
    | some q =>
      simp only [hx] at h
      obtain ⟨p1, rfl, h1⟩ := chkZ_ok (H := H) (B := B) hx
      obtain ⟨p2, rfl, h2⟩ := chkZs_ok (H := H) (B := B) h
      exact ⟨p1 ++ p2, by simp, .cons h1 h2⟩
end

theorem zeroFits_ok {H : Imm} {B : Bind} {t : TypeId} {z : V} (h : zeroFits P t z = true) : ∃ zv, (∀ w, (zeroValue t).run P w = .ok zv w) ∧ RVv H B z zv ∧ RV H B z zv.cells.toList := by
  unfold zeroFits at h
  cases hi : P.info? t with
  | none => simp [hi] at h
  | some i =>
    simp only [hi] at h
    cases hz : i.zero with
    | none => simp [hz] at h
    | some zv =>
      simp only [hz, Bool.and_eq_true, beq_iff_eq] at h
      obtain ⟨h1, h2⟩ := h
      split at h2
      · rename_i hc
        obtain ⟨pre, hp, hr⟩ := chkZ_ok (H := H) (B := B) hc
        simp only [List.append_nil] at hp
        refine ⟨zv, fun w => by simp [zeroValue, run_info hi, hz], ?_, by rw [hp]; exact hr⟩
        cases zv with
        | agg cs => rw [← hp] at hr; exact .agg h1 hr
        | tuple vs =>
          exfalso
          have := hr.ones (.tuple vs) (by rw [← hp]; simp [Value.cells])
          simp [Value.oneCell'] at this
        | _ => rw [← hp] at hr; exact .one h1 hr
      · simp at h2

theorem zeroOf_ok {H : Imm} {B : Bind} {t : TypeId} {z : V} (h : zeroOf P t = some z) : ∃ zv, (∀ w, (zeroValue t).run P w = .ok zv w) ∧ RVv H B z zv ∧ RV H B z zv.cells.toList := by
  unfold zeroOf at h
  split at h
  · split at h
    · simp at h; subst h; exact zeroFits_ok ‹_›
    · simp at h
  · simp at h

end Go.Ev
end

/- Each operation of the model does what the evaluator says: operations without memory. -/
section
namespace Go.Ev
variable {P : Program} {gl : Nat → Option D}
variable {w0 : World} {O : Nat → Prop} {H0 : Imm} {N : Nat} {K : Nat → Prop} {B0 : Bind} {H : Imm} {B : Bind} {σ : St} {a : Act} {w : World}

def GlOk (gl : Nat → Option D) (H0 : Imm) : Prop :=
  ∀ g x, gl g = some x → ∃ c e fr, H0 g = some (.cells c e fr) ∧ RD H0 x c.toList

theorem cConst_ok {v : Value} {x : V} (h : cConst v = some x) : RVv H B x v := by
  unfold cConst at h
  split at h <;> simp at h <;> subst h
  · exact .one rfl (.d (.int _ _))
  · exact .one rfl (.d (.bool _))
  · exact .one rfl (.d (.str _))
  · exact .one rfl (.d .nilptr)
  · exact .one rfl .nils
  · exact .one rfl (.d .nilmap)
  · exact .one rfl (.d .nilfn)
  · exact .one rfl (.d .nilif)

theorem X_ok (G : GlOk gl H0) (I : Inv w0 O H0 N K B0 H B σ a w) {x : Operand} {X' : X} (h : cX x = some X') : RVv H B (σ.val gl X') (a.eval x) := by
  cases x with
  | tmp t => simp [cX] at h; subst h; exact I.env t
  | const v =>
    simp only [cX] at h
    cases hc : cConst v with
    | none => simp [hc] at h
    | some y => simp only [hc, Option.map_some, Option.some.injEq] at h; subst h; exact cConst_ok hc
  | global g =>
    simp [cX] at h; subst h
    simp only [St.val]
    split
    · rename_i x hx
      obtain ⟨c, e, fr, h1, h3⟩ := G g x hx
      exact .one rfl (.fref (pre := []) (cs := c.toList) (post := []) (I.le _ _ h1) rfl (by simp) rfl (h3.mono I.le))
    · exact .und _
  | func f => simp [cX] at h; subst h; exact .one rfl (.d (.fn f))

theorem Xs_ok (G : GlOk gl H0) (I : Inv w0 O H0 N K B0 H B σ a w) : ∀ {l : List Operand} {xs : List X}, cXs l = some xs → RVvs H B (xs.map (σ.val gl)) (l.map a.eval)
  | [], xs, h => by simp [cXs] at h; subst h; exact .nil
  | x :: l, xs, h => by
    simp only [cXs] at h
    cases hx : cX x with
    | none => simp [hx] at h
    | some y =>
      cases hl : cXs l with
      | none => simp [hx, hl] at h
      | some r =>
        simp only [hx, hl, Option.some.injEq] at h; subst h
        exact .cons (X_ok G I hx) (Xs_ok G I hl)

theorem wp_value {o : Oper} {K : Act → World → Prop} {Q : Exit → Act → World → Prop} {v : Value} {w' : World}
    (h : (execOp a.eval o).run P w = .ok (.value v) w') (hk : K (a.put o.dst v) w') : o.wp P a w K Q := by
  unfold Oper.wp; rw [h]; exact hk

theorem wp_skp {o : Oper} {K : Act → World → Prop} {Q : Exit → Act → World → Prop} {w' : World}
    (h : (execOp a.eval o).run P w = .ok .skip w') (hk : K (a.put o.dst undef) w') : o.wp P a w K Q := by
  unfold Oper.wp; rw [h]; exact hk

/-- The operation ends with a value (or none), and the invariant holds behind the effect. -/
def Done (P : Program) (w0 : World) (O : Nat → Prop) (H0 : Imm) (N : Nat) (K : Nat → Prop) (B0 : Bind) (H : Imm) (σ : St) (a : Act) (w : World) (o : Oper) (e : Eff) : Prop :=
  ∃ H' B' v w', ((execOp a.eval o).run P w = .ok (.value v) w' ∨ ((execOp a.eval o).run P w = .ok .skip w' ∧ v = undef)) ∧ H.le H' ∧
    Inv w0 O H0 N K B0 H' B' (σ.put o.dst e) (a.put o.dst v) w'

/-! ## Inversion of the relation at plain data -/
theorem RVv.d_inv {x : D} {v : Value} (h : RVv H B (.d x) v) (hx : x.isAgg = false) : RD H x [v] := by
  cases h with
  | one h1 h2 => cases h2 with | d h3 => exact h3
  | agg h1 h2 => simp [V.isAgg, hx] at h1

theorem RVv.int_inv {k : IntKind} {n : Int} {v : Value} (h : RVv H B (.d (.int k n)) v) : v = .int k n := by
  have := h.d_inv rfl; cases this; rfl
theorem RVv.bool_inv {b : Bool} {v : Value} (h : RVv H B (.d (.bool b)) v) : v = .bool b := by
  have := h.d_inv rfl; cases this; rfl
theorem RVv.str_inv {s : List UInt8} {v : Value} (h : RVv H B (.d (.str s)) v) : v = .string ⟨⟨s⟩⟩ := by
  have := h.d_inv rfl; cases this; rfl
theorem RVv.fn_inv {f : FuncId} {v : Value} (h : RVv H B (.d (.fn f)) v) : v = .func (.func f) #[] #[] := by
  have := h.d_inv rfl; cases this; rfl
theorem RVv.clo_inv {f : FuncId} {l : List V} {v : Value} (h : RVv H B (.clo f l) v) : ∃ vs, RVvs H B l vs ∧ v = .func (.func f) #[] vs.toArray := by
  cases h with
  | one h1 h2 => cases h2 with | clo h3 => exact ⟨_, h3, rfl⟩
  | agg h1 h2 => simp [V.isAgg] at h1
theorem RVv.tup_inv {l : List V} {v : Value} (h : RVv H B (.tup l) v) : ∃ vs, RVvs H B l vs ∧ v = .tuple vs.toArray := by
  cases h with
  | one h1 h2 => cases h2
  | agg h1 h2 => simp [V.isAgg] at h1
  | tup h1 => exact ⟨_, h1, rfl⟩
theorem RVv.ptr_inv {t off : Nat} {p : List Nat} {v : Value} (h : RVv H B (.ptr t off p) v) : ∃ b, B t = .pointer (some ⟨b, 0, none⟩) ∧ v = .pointer (some ⟨b, off, none⟩) := by
  cases h with
  | one h1 h2 => cases h2 with | ptr h3 => exact ⟨_, h3, rfl⟩
  | agg h1 h2 => simp [V.isAgg] at h1
theorem RVv.eptr_inv {t i sz off : Nat} {p : List Nat} {v : Value} (h : RVv H B (.eptr t i sz off p) v) :
    ∃ b n cap, B t = .slice (some ⟨b, 0, none⟩) n cap ∧ v = .pointer (some ⟨b, i * sz + off, none⟩) := by
  cases h with
  | one h1 h2 => cases h2 with | eptr h3 => exact ⟨_, _, _, h3, rfl⟩
  | agg h1 h2 => simp [V.isAgg] at h1
theorem RVv.sptr_inv {t n : Nat} {v : Value} (h : RVv H B (.sptr t n) v) : ∃ b, B t = .pointer (some ⟨b, 0, none⟩) ∧ v = .slice (some ⟨b, 0, none⟩) n n := by
  cases h with
  | one h1 h2 => cases h2 with | sptr h3 => exact ⟨_, h3, rfl⟩
  | agg h1 h2 => simp [V.isAgg] at h1
theorem RVv.fref_inv {x : D} {v : Value} (h : RVv H B (.fref x) v) : ∃ (a : Addr) (c : Array Value) (e : TypeId) (fr : Nat × Nat) (pre cs post : List Value),
    H a.block = some (.cells c e fr) ∧ a.spot = none ∧ c.toList = pre ++ (cs ++ post) ∧ pre.length = a.off ∧ RD H x cs ∧ v = .pointer (some a) := by
  cases h with
  | one h1 h2 => cases h2 with | fref h3 h4 h5 h6 h7 => exact ⟨_, _, _, _, _, _, _, h3, h4, h5, h6, h7, rfl⟩
  | agg h1 h2 => simp [V.isAgg] at h1
theorem RVv.own_inv {t : Nat} {v : Value} (h : RVv H B (.own t) v) : ∃ a n cap, B t = .slice a n cap ∧ v = .slice a n cap := by
  cases h with
  | one h1 h2 => cases h2 with | own h3 => exact ⟨_, _, _, h3, rfl⟩
  | agg h1 h2 => simp [V.isAgg] at h1
theorem RVv.mp_inv {t : Nat} {v : Value} (h : RVv H B (.mp t) v) : ∃ r, B t = .map r ∧ v = .map r := by
  cases h with
  | one h1 h2 => cases h2 with | mp h3 => exact ⟨_, h3, rfl⟩
  | agg h1 h2 => simp [V.isAgg] at h1
theorem RVv.nils_inv {v : Value} (h : RVv H B .nils v) : v = .slice none 0 0 := by
  cases h with
  | one h1 h2 => cases h2; rfl
  | agg h1 h2 => simp [V.isAgg] at h1

theorem RVvs.get : ∀ {l : List V} {vs : List Value} {i : Nat} {x : V}, RVvs H B l vs → l[i]? = some x → ∃ v, vs[i]? = some v ∧ RVv H B x v
  | _, _, i, x, .nil, h => by simp at h
  | _, _, 0, x, .cons h1 _, h => by simp at h; subst h; exact ⟨_, rfl, h1⟩
  | _, _, i + 1, x, .cons _ h2, h => by simpa using RVvs.get h2 (by simpa using h)

/-! ## Numbers and strings -/
theorem intBin_ok {op : BinOp} {k : IntKind} {x y : Int} {r : D} (h : intBin op k x y = some r) (hs : isShift op = false) (t : TypeId) :
    ∃ v, (binOp op t (.int k x) (.int k y)).run P w = .ok v w ∧ RVv H B (.d r) v := by
  cases op <;> simp only [intBin] at h <;> simp only [isShift] at hs <;> (try contradiction)
  case quo =>
    split at h
    · simp at h
    · rename_i hy; simp at h; subst h; exact ⟨_, by simp [binOp, Op.intDiv, hy], .one rfl (.d (.int _ _))⟩
  case rem =>
    split at h
    · simp at h
    · rename_i hy; simp at h; subst h; exact ⟨_, by simp [binOp, Op.intDiv, hy], .one rfl (.d (.int _ _))⟩
  all_goals
    simp at h; subst h
    refine ⟨_, by simp [binOp, Op.intArith, Op.intBits, Op.intCmp]; rfl, ?_⟩
    first
      | exact .one rfl (.d (.int _ _))
      | (refine (?_ : RVv H B (.d (.bool _)) (.bool _)); first | exact .one rfl (.d (.bool _)) | skip)

end Go.Ev
end

/- Each operation of the model does what the evaluator says: arithmetic, comparisons, conversions of numbers. -/
section
namespace Go.Ev
variable {P : Program} {gl : Nat → Option D}
variable {w0 : World} {O : Nat → Prop} {H0 : Imm} {N : Nat} {K : Nat → Prop} {B0 : Bind} {H : Imm} {B : Bind} {σ : St} {a : Act} {w : World}

theorem shiftBin_ok {op : BinOp} {k k' : IntKind} {x y : Int} {r : D} (h : shiftBin op k x y = some r) (t : TypeId) :
    ∃ v, (binOp op t (.int k x) (.int k' y)).run P w = .ok v w ∧ RVv H B (.d r) v := by
  unfold shiftBin at h
  split at h
  · simp at h
  · rename_i hy
    cases op <;> simp at h <;> subst h <;> exact ⟨_, by simp [binOp, Op.shift, hy], .one rfl (.d (.int _ _))⟩

theorem strBin_ok {op : BinOp} {x y : List UInt8} {r : D} (h : strBin op x y = some r) (t : TypeId) :
    ∃ v, (binOp op t (.string ⟨⟨x⟩⟩) (.string ⟨⟨y⟩⟩)).run P w = .ok v w ∧ RVv H B (.d r) v := by
  have hl : ∀ s : List UInt8, (⟨⟨s⟩⟩ : ByteArray).toList = s := fun s => by rw [ByteArray.toList_eq]
  have hz : ∀ s : List UInt8, (⟨⟨s⟩⟩ : ByteArray).size = s.length := fun s => rfl
  have ha : (⟨⟨x⟩⟩ : ByteArray) ++ ⟨⟨y⟩⟩ = ⟨⟨x ++ y⟩⟩ := by
    have h1 : ((⟨⟨x⟩⟩ : ByteArray) ++ ⟨⟨y⟩⟩).data = ⟨x ++ y⟩ := by rw [ByteArray.data_append]; simp
    cases hh : ((⟨⟨x⟩⟩ : ByteArray) ++ ⟨⟨y⟩⟩) with
    | mk d => rw [hh] at h1; exact congrArg ByteArray.mk h1
  cases op <;> simp only [strBin] at h <;> (try contradiction)
  case add =>
    split at h
    · rename_i hb
      simp at h; subst h
      refine ⟨.string ⟨⟨x ++ y⟩⟩, ?_, .one rfl (.d (.str _))⟩
      have : ¬ (((x.length + y.length : Nat) : Int) > IntKind.i64.max) := by simp [IntKind.max, IntKind.signed, IntKind.bits]; omega
      simp only [binOp, Op.stringOp, hz]
      rw [if_neg this, ha]; rfl
    · simp at h
  all_goals
    simp only [Option.some.injEq] at h; subst h
    refine ⟨_, by simp only [binOp, Op.stringOp, hl]; rfl, ?_⟩
    refine (?_ : RVv H B (.d (.bool _)) (.bool _))
    first
      | exact .one rfl (.d (.bool _))
      | (have e1 : (x == y) = decide (x = y) := by rw [Bool.eq_iff_iff]; simp
         first
          | (rw [e1]; exact .one rfl (.d (.bool _)))
          | exact .one rfl (.d (.bool _)))

theorem tc_inv {t : TypeId} {tc : TC} (h : tcOf P t = tc) : ∃ d, (P.underlying t = some d ∨ tc = .other) ∧
    (tc = .bool → d = .bool) ∧ (tc = .ptr → ∃ e, d = .pointer e) ∧ (tc = .sl → ∃ e, d = .slice e) ∧ (tc = .map → ∃ k e, d = .map k e) ∧
    (tc = .fn → ∃ p r v, d = .func p r v) ∧ (tc = .ifc → ∃ m, d = .interface m) := by
  unfold tcOf at h
  split at h <;> subst h
  · exact ⟨_, .inl ‹_›, by simp⟩
  · exact ⟨_, .inl ‹_›, by simp⟩
  · exact ⟨_, .inl ‹_›, by simp⟩
  · exact ⟨_, .inl ‹_›, by simp⟩
  · exact ⟨_, .inl ‹_›, by simp⟩
  · exact ⟨_, .inl ‹_›, by simp⟩
  · exact ⟨_, .inl ‹_›, by simp⟩
  · exact ⟨_, .inl ‹_›, by simp⟩
  · exact ⟨.invalid, .inr rfl, by simp⟩


theorem eqV_ok {tc : TC} {t : TypeId} {x y : V} {u v : Value} {r : Bool} (I : Inv w0 O H0 N K B0 H B σ a w) (h : eqV σ.get tc x y = some r) (ht : tcOf P t = tc)
    (hx : RVv H B x u) (hy : RVv H B y v) : (∀ n, (Op.equalIn (n + 1) t u v).run P w = .ok r w) ∧ (tc = .ifc ∨ u ≠ .nilIface) ∧ (∀ cs, u ≠ .agg cs) ∧
    binOp .eql t u v = (do pure (.bool (← Op.equal t u v))) ∧ binOp .neq t u v = (do pure (.bool (!(← Op.equal t u v)))) := by
  obtain ⟨d, h1, h2, h3, h4, h5, h6, h7⟩ := tc_inv ht
  unfold eqV at h
  split at h <;> (try simp only [Option.some.injEq, reduceCtorEq] at h)
  · subst h; obtain rfl := h2 rfl; rw [hx.bool_inv, hy.bool_inv]; exact ⟨fun n => by simp [Op.equalIn, run_underlying (h1.resolve_right (by simp))], by simp, by simp, rfl, rfl⟩
  · subst h; obtain ⟨e, rfl⟩ := h3 rfl; have := hx.d_inv rfl; cases this; have := hy.d_inv rfl; cases this; exact ⟨fun n => by simp [Op.equalIn, run_underlying (h1.resolve_right (by simp))], by simp, by simp, rfl, rfl⟩
  · subst h; obtain ⟨e, rfl⟩ := h3 rfl; obtain ⟨b, _, rfl⟩ := hx.ptr_inv; have := hy.d_inv rfl; cases this; exact ⟨fun n => by simp [Op.equalIn, run_underlying (h1.resolve_right (by simp))], by simp, by simp, rfl, rfl⟩
  · subst h; obtain ⟨e, rfl⟩ := h3 rfl; obtain ⟨b, _, _, _, rfl⟩ := hx.eptr_inv; have := hy.d_inv rfl; cases this; exact ⟨fun n => by simp [Op.equalIn, run_underlying (h1.resolve_right (by simp))], by simp, by simp, rfl, rfl⟩
  · subst h; obtain ⟨e, rfl⟩ := h3 rfl; obtain ⟨b, _, _, _, _, _, _, _, _, _, _, _, rfl⟩ := hx.fref_inv; have := hy.d_inv rfl; cases this; exact ⟨fun n => by simp [Op.equalIn, run_underlying (h1.resolve_right (by simp))], by simp, by simp, rfl, rfl⟩
  · subst h; obtain ⟨e, rfl⟩ := h3 rfl; obtain ⟨b, _, rfl⟩ := hy.ptr_inv; have := hx.d_inv rfl; cases this; exact ⟨fun n => by simp [Op.equalIn, run_underlying (h1.resolve_right (by simp))], by simp, by simp, rfl, rfl⟩
  · subst h; obtain ⟨e, rfl⟩ := h4 rfl; rw [hx.nils_inv, hy.nils_inv]; exact ⟨fun n => by simp [Op.equalIn, run_underlying (h1.resolve_right (by simp))], by simp, by simp, rfl, rfl⟩
  · subst h; obtain ⟨e, rfl⟩ := h4 rfl; rw [hy.nils_inv]; have := hx.d_inv rfl; cases this; exact ⟨fun n => by simp [Op.equalIn, run_underlying (h1.resolve_right (by simp))], by simp, by simp, rfl, rfl⟩
  · split at h
    · rename_i t' sz x0 l0 hg
      simp at h; subst h; obtain ⟨e, rfl⟩ := h4 rfl; rw [hy.nils_inv]
      obtain ⟨a', n, cap, hB, rfl⟩ := hx.own_inv
      rcases I.cells _ _ hg with ⟨h0, _⟩ | ⟨b, cap', c, cs, post, h8, _⟩
      · simp at h0
      · rw [h8] at hB; cases hB; exact ⟨fun n => by simp [Op.equalIn, run_underlying (h1.resolve_right (by simp))], by simp, by simp, rfl, rfl⟩
    · simp at h
  · subst h; obtain ⟨m, rfl⟩ := h7 rfl; have := hx.d_inv rfl; cases this; have := hy.d_inv rfl; cases this; exact ⟨fun n => by simp [Op.equalIn, run_underlying (h1.resolve_right (by simp))], by simp, by simp, rfl, rfl⟩
  · subst h; obtain ⟨m, rfl⟩ := h7 rfl; have := hx.d_inv rfl; cases this; have := hy.d_inv rfl; cases this; exact ⟨fun n => by simp [Op.equalIn, run_underlying (h1.resolve_right (by simp))], by simp, by simp, rfl, rfl⟩
  · subst h; obtain ⟨_, _, _, rfl⟩ := h6 rfl; have := hx.d_inv rfl; cases this; have := hy.d_inv rfl; cases this; exact ⟨fun n => by simp [Op.equalIn, run_underlying (h1.resolve_right (by simp))], by simp, by simp, rfl, rfl⟩
  · subst h; obtain ⟨_, _, _, rfl⟩ := h6 rfl; rw [hx.fn_inv]; have := hy.d_inv rfl; cases this; exact ⟨fun n => by simp [Op.equalIn, run_underlying (h1.resolve_right (by simp))], by simp, by simp, rfl, rfl⟩
  · subst h; obtain ⟨_, _, _, rfl⟩ := h6 rfl; obtain ⟨vs, _, rfl⟩ := hx.clo_inv; have := hy.d_inv rfl; cases this; exact ⟨fun n => by simp [Op.equalIn, run_underlying (h1.resolve_right (by simp))], by simp, by simp, rfl, rfl⟩
  · subst h; obtain ⟨_, _, rfl⟩ := h5 rfl; have := hx.d_inv rfl; cases this; have := hy.d_inv rfl; cases this; exact ⟨fun n => by simp [Op.equalIn, run_underlying (h1.resolve_right (by simp))], by simp, by simp, rfl, rfl⟩
  · split at h
    · rename_i t' ks vs hg
      simp at h; subst h; obtain ⟨_, _, rfl⟩ := h5 rfl; have := hy.d_inv rfl; cases this
      obtain ⟨r', hB, rfl⟩ := hx.mp_inv
      obtain ⟨r, es, clk, h8, _⟩ := I.cells _ _ hg
      rw [h8] at hB; cases hB; exact ⟨fun n => by simp [Op.equalIn, run_underlying (h1.resolve_right (by simp))], by simp, by simp, rfl, rfl⟩
    · simp at h
  · subst h; obtain ⟨_, _, rfl⟩ := h5 rfl; have := hx.d_inv rfl; cases this; have := hy.d_inv rfl; cases this; exact ⟨fun n => by simp [Op.equalIn, run_underlying (h1.resolve_right (by simp))], by simp, by simp, rfl, rfl⟩

theorem run_equal {t : TypeId} {u v : Value} {r : Bool} (h : ∀ n, (Op.equalIn (n + 1) t u v).run P w = .ok r w) : (Op.equal t u v).run P w = .ok r w := h 9999

theorem run_eqGuard_ok {op : BinOp} {t : TypeId} {X Y : Operand} {u v : Value} (h1 : isC Y = true ∨ u ≠ .nilIface) (h2 : ∀ cs, u ≠ .agg cs) :
    (eqGuard op t X Y u v).run P w = .ok () w := by
  cases u with
  | nilIface =>
    rcases h1 with h1 | h1
    · cases Y <;> simp [isC] at h1
      cases op <;> cases v <;> simp [eqGuard]
    · exact absurd rfl h1
  | agg cs => exact absurd rfl (h2 cs)
  | _ => cases op <;> rfl

theorem binV_ok {op : BinOp} {tc : TC} {t : TypeId} {x y r : V} {u v : Value} {X Y : Operand} (I : Inv w0 O H0 N K B0 H B σ a w) (h : binV σ.get op tc x y = some r) (ht : tcOf P t = tc)
    (hc : tc = .ifc → isC Y = true) (hx : RVv H B x u) (hy : RVv H B y v) :
    ∃ z, (do eqGuard op t X Y u v; binOp op t u v : Sem Value).run P w = .ok z w ∧ RVv H B r z := by
  unfold binV at h
  split at h
  · rename_i k n k' n'
    rw [hx.int_inv, hy.int_inv]
    have hg : (eqGuard op t X Y (.int k n) (.int k' n')).run P w = .ok () w := run_eqGuard_ok (.inr (by simp)) (by simp)
    split at h
    · cases hs : shiftBin op k n n' with
      | none => simp [hs] at h
      | some q =>
        simp only [hs, Option.map_some, Option.some.injEq] at h; subst h
        obtain ⟨z, hz, hr⟩ := shiftBin_ok (P := P) (w := w) (H := H) (B := B) (k' := k') hs t
        exact ⟨z, by simp [hg, hz], hr⟩
    · split at h
      · rename_i hk; subst hk
        cases hs : intBin op k n n' with
        | none => simp [hs] at h
        | some q =>
          simp only [hs, Option.map_some, Option.some.injEq] at h; subst h
          obtain ⟨z, hz, hr⟩ := intBin_ok (P := P) (w := w) (H := H) (B := B) hs (by simp_all) t
          exact ⟨z, by simp [hg, hz], hr⟩
      · simp at h
  · rename_i s s'
    rw [hx.str_inv, hy.str_inv]
    have hg : (eqGuard op t X Y (.string ⟨⟨s⟩⟩) (.string ⟨⟨s'⟩⟩)).run P w = .ok () w := run_eqGuard_ok (.inr (by simp)) (by simp)
    cases hs : strBin op s s' with
    | none => simp [hs] at h
    | some q =>
      simp only [hs, Option.map_some, Option.some.injEq] at h; subst h
      obtain ⟨z, hz, hr⟩ := strBin_ok (P := P) (w := w) (H := H) (B := B) hs t
      exact ⟨z, by simp [hg, hz], hr⟩
  · split at h
    · cases hs : eqV σ.get tc x y with
      | none => simp [hs] at h
      | some q =>
        simp only [hs, Option.map_some, Option.some.injEq] at h; subst h
        obtain ⟨h1, h2, h3, h4, h5⟩ := eqV_ok I hs ht hx hy
        exact ⟨.bool q, by rw [h4]; simp [run_eqGuard_ok (P := P) (w := w) (h2.imp hc id) h3, run_equal h1], .one rfl (.d (.bool _))⟩
    · cases hs : eqV σ.get tc x y with
      | none => simp [hs] at h
      | some q =>
        simp only [hs, Option.map_some, Option.some.injEq] at h; subst h
        obtain ⟨h1, h2, h3, h4, h5⟩ := eqV_ok I hs ht hx hy
        exact ⟨.bool (!q), by rw [h5]; simp [run_eqGuard_ok (P := P) (w := w) (h2.imp hc id) h3, run_equal h1], .one rfl (.d (.bool _))⟩
    · simp at h

theorem unV_ok {op : UnOp} {x r : V} {u : Value} (h : unV op x = some r) (hx : RVv H B x u) : ∃ z, (Op.unary op u).run P w = .ok z w ∧ RVv H B r z := by
  unfold unV at h
  split at h <;> simp at h
  · subst h; rw [hx.int_inv]; exact ⟨_, by simp [Op.unary, Op.intArith], .one rfl (.d (.int _ _))⟩
  · subst h; rw [hx.int_inv]; exact ⟨_, by simp [Op.unary, Op.intBits], .one rfl (.d (.int _ _))⟩
  · subst h; rw [hx.bool_inv]; exact ⟨_, by simp [Op.unary], .one rfl (.d (.bool _))⟩

end Go.Ev
end

/- Each operation of the model does what the evaluator says: slots, new variables, literals. -/
section
namespace Go.Ev
variable {P : Program} {gl : Nat → Option D}
variable {w0 : World} {O : Nat → Prop} {H0 : Imm} {N : Nat} {K : Nat → Prop} {B0 : Bind} {H : Imm} {B : Bind} {σ : St} {a : Act} {w : World} {o : Oper}

theorem Done.val (I : Inv w0 O H0 N K B0 H B σ a w) (hd : ∀ d, o.dst = some d → d < N) {x : V} {v : Value}
    (hrun : (execOp a.eval o).run P w = .ok (.value v) w) (hx : RVv H B x v) : Done P w0 O H0 N K B0 H σ a w o { res := x } :=
  ⟨H, B, v, w, .inl hrun, Imm.le_refl H, I.same hd hx⟩

theorem setAll_append (e : Cells) : ∀ (l m : List (Nat × Cell)), e.setAll (l ++ m) = (e.setAll l).setAll m := by
  intro l
  induction l generalizing e with
  | nil => intro m; rfl
  | cons p l ih => intro m; obtain ⟨t, c⟩ := p; exact ih _ m

theorem kill_set_frz (ks : List Nat) (e : Cells) (t : Nat) (x : D) : Cells.kill ks (Cells.set e t (.frz x)) = Cells.set (Cells.kill ks e) t (.frz x) := by
  induction e with
  | nil => rfl
  | cons p e ih =>
    obtain ⟨k, c⟩ := p
    simp only [Cells.set, Cells.kill]
    split
    · simp [Cells.kill, Cell.kill]
    · simp [Cells.kill, ih]

theorem killC_setAll (ks : List Nat) : ∀ (l : List (Nat × Cell)) (e : Cells), (∀ p ∈ l, ∃ x, p.2 = .frz x) → killC ks (e.setAll l) = (killC ks e).setAll l := by
  cases ks with
  | nil => intro l e _; rfl
  | cons k ks =>
    intro l
    induction l with
    | nil => intro e _; rfl
    | cons p l ih =>
      intro e h
      obtain ⟨t, c⟩ := p
      obtain ⟨x, rfl⟩ : ∃ x, c = .frz x := h (t, c) (by simp)
      simp only [Cells.setAll]
      rw [ih _ (fun p hp => h p (by simp [hp]))]
      simp only [killC, kill_set_frz]

theorem fzw_frz {get : Nat → Option Cell} {vs : List V} : ∀ p ∈ fzw get vs, ∃ x, p.2 = .frz x := by
  rintro ⟨t, c⟩ hp
  obtain ⟨_, h⟩ := mem_frzWr hp
  rcases h with ⟨_, _, r, _, rfl⟩ | ⟨k, v, _, rfl⟩ <;> exact ⟨_, rfl⟩

/-- To freeze first and then to act is to do both. -/
theorem put_after_freeze (σ : St) (dst : Option Nat) (x : V) (vs : List V) (wr : List (Nat × Cell)) (ks : List Nat) :
    (σ.put none { res := .und, wr := fzw σ.get vs }).put dst { res := x, wr := wr, kill := ks } = σ.put dst { res := x, wr := fzw σ.get vs ++ wr, kill := ks } := by
  have hc : ((killC ks (σ.cells.setAll (fzw σ.get vs))).setAll wr) = (killC ks σ.cells).setAll (fzw σ.get vs ++ wr) := by
    rw [setAll_append, killC_setAll ks (fzw σ.get vs) σ.cells fzw_frz]
  cases dst with
  | none => exact congrArg (St.mk _) hc
  | some d => exact congrArg (St.mk _) hc

theorem X_und (G : GlOk gl H0) (I : Inv w0 O H0 N K B0 H B σ a w) {x : Operand} {X' : X} (h : cX x = some X') (hf : (σ.val gl X').flat = true) :
    RV H B (σ.val gl X') (a.eval x).cells.toList := (X_ok G I h).cells hf

theorem mov_ok (G : GlOk gl H0) (I : Inv w0 O H0 N K B0 H B σ a w) (hd : ∀ d, o.dst = some d → d < N) {x : Operand} {X' : X} (hx : cX x = some X')
    (hop : o.op = .move x ∨ o.op = .assign x) : Done P w0 O H0 N K B0 H σ a w o { res := σ.val gl X' } := by
  refine Done.val I hd ?_ (X_ok G I hx)
  rcases hop with h | h <;> simp [execOp, h]

theorem pick_ok (G : GlOk gl H0) (I : Inv w0 O H0 N K B0 H B σ a w) (hd : ∀ d, o.dst = some d → d < N) {c x y : Operand} {C X' Y : X} {e : Eff} {call : CallF} {T : Nat}
    (hc : cX c = some C) (hx : cX x = some X') (hy : cX y = some Y) (hop : o.op = .pick c x y)
    (h : evalOp call T (.pick C X' Y) (σ.val gl) σ.get = some e) : Done P w0 O H0 N K B0 H σ a w o e := by
  have h1 := X_ok G I hc
  simp only [evalOp] at h
  split at h
  · rename_i hb
    rw [hb] at h1
    simp [okEff] at h; subst h
    exact Done.val I hd (by simp [execOp, hop, h1.bool_inv, asBool]) (X_ok G I hx)
  · rename_i hb
    rw [hb] at h1
    simp [okEff] at h; subst h
    exact Done.val I hd (by simp [execOp, hop, h1.bool_inv, asBool]) (X_ok G I hy)
  · simp at h

theorem newVar_run (t : TypeId) (v : Value) : (newVar t v).run P w = .ok ⟨w.heap.size, 0, none⟩ (w.alloc (.cells v.cells t)) := by
  simp [newVar, newRow, run_newObj]

theorem alloc_ok (I : Inv w0 O H0 N K B0 H B σ a w) {T : Nat} (hT : 1000 ≤ T) (hd : ∀ d, o.dst = some d → d < N) {t : TypeId} {z : V} (hz : zeroOf P t = some z) (hop : o.op = .alloc t) :
    Done P w0 O H0 N K B0 H σ a w o { res := .ptr T 0 [], wr := [(T, .var t z)], kill := [T] } := by
  obtain ⟨zv, h1, _, h3⟩ := zeroOf_ok (H := H) (B := B.set T (.pointer (some ⟨w.heap.size, 0, none⟩))) hz
  refine ⟨H, _, .pointer (some ⟨w.heap.size, 0, none⟩), w.alloc (.cells zv.cells t), .inl ?_, Imm.le_refl H,
    I.alloc (hdr := .pointer (some ⟨w.heap.size, 0, none⟩)) hT hd rfl (.one rfl (.ptr (b := w.heap.size) (B.set_same _ _))) ⟨_, _, B.set_same _ _, heap_alloc_new w _, h3⟩ rfl rfl rfl rfl⟩
  simp [execOp, hop, Instr.alloc, h1, newVar_run]

theorem box_ok (G : GlOk gl H0) (I : Inv w0 O H0 N K B0 H B σ a w) {T : Nat} (hT : 1000 ≤ T) (hd : ∀ d, o.dst = some d → d < N) {t : TypeId} {x : Operand} {X' : X} (hx : cX x = some X') (hop : o.op = .box t x)
    (hf : (σ.val gl X').flat = true) :
    Done P w0 O H0 N K B0 H σ a w o { res := .ptr T 0 [], wr := [(T, .var t ((σ.val gl X').kill [T]))], kill := [T] } := by
  have h1 := (X_und G I hx hf).kill [T]
  refine ⟨H, _, .pointer (some ⟨w.heap.size, 0, none⟩), w.alloc (.cells (a.eval x).cells t), .inl ?_, Imm.le_refl H,
    I.alloc (hdr := .pointer (some ⟨w.heap.size, 0, none⟩)) hT hd rfl (.one rfl (.ptr (b := w.heap.size) (B.set_same _ _))) ⟨_, _, B.set_same _ _, heap_alloc_new w _, h1.mono (Imm.le_refl H) ?_⟩ rfl rfl rfl rfl⟩
  · simp [execOp, hop, Instr.box, newVar_run]
  · intro u hu
    have := (kill_refs _ _ u hu).1
    exact B.set_ne _ (by simpa using this)

/-! ## Literals of structs and arrays -/
theorem fold_set : ∀ (cs : List Value) (k off : Nat) (pre mid post : List Value), pre.length = off + k → mid.length = cs.length →
    ((cs.zipIdx k).foldl (fun (acc : Array Value) p => acc.setIfInBounds (off + p.2) p.1) ⟨pre ++ (mid ++ post)⟩) = ⟨pre ++ (cs ++ post)⟩
  | [], k, off, pre, mid, post, _, hm => by
    have : mid = [] := List.length_eq_zero_iff.1 hm
    subst this; rfl
  | c :: cs, k, off, pre, mid, post, hp, hm => by
    cases mid with
    | nil => simp at hm
    | cons m mid =>
      simp only [List.zipIdx_cons, List.foldl_cons]
      have h1 : (⟨pre ++ (m :: mid ++ post)⟩ : Array Value).setIfInBounds (off + k) c = ⟨(pre ++ [c]) ++ (mid ++ post)⟩ := by
        apply Array.ext'
        simp only [Array.toList_setIfInBounds]
        rw [← hp, List.set_append_right _ _ (Nat.le_refl _)]
        simp
      rw [h1, fold_set cs (k + 1) off (pre ++ [c]) mid post (by simp [hp, Nat.add_assoc]) (by simpa using hm)]
      simp

theorem fill_one {place : Nat → Option (Nat × Nat)} {cells : Array Value} {i off size : Nat} {v : Value} {rest : List (Nat × Value)} {pre mid post : List Value}
    (hp : place i = some (off, size)) (hc : cells.toList = pre ++ (mid ++ post)) (hpre : pre.length = off) (hmid : mid.length = size) (hv : v.cells.toList.length = size) :
    Instr.fill place cells ((i, v) :: rest) = Instr.fill place ⟨pre ++ (v.cells.toList ++ post)⟩ rest := by
  have hvs : v.cells.size = size := by rw [← Array.length_toList]; exact hv
  have hcs : cells.size = off + size + post.length := by rw [← Array.length_toList, hc]; simp only [List.length_append]; omega
  simp only [Instr.fill, hp]
  rw [if_neg (by simp [hvs, hcs])]
  congr 1
  have h1 : v.cells.zipIdx.foldl (fun (cs : Array Value) (x : Value × Nat) => match x with | (c, j) => cs.setIfInBounds (off + j) c) cells =
      (v.cells.toList.zipIdx 0).foldl (fun (acc : Array Value) p => acc.setIfInBounds (off + p.2) p.1) cells := by
    rw [← Array.foldl_toList, Array.toList_zipIdx]
  rw [h1]
  have h2 : cells = ⟨pre ++ (mid ++ post)⟩ := Array.ext' hc
  rw [h2]
  exact fold_set _ 0 off pre mid post (by simp [hpre]) (by omega)

/-- The places of a row of parts: each begins where those before it end. -/
def placesOk (place : Nat → Option (Nat × Nat)) (zs : List V) : Prop := ∀ i z, zs[i]? = some z → place i = some (V.sizes (zs.take i), z.size)

theorem sizes_set : ∀ (zs : List V) (i j : Nat) (x z : V), zs[i]? = some z → x.size = z.size → V.sizes ((zs.set i x).take j) = V.sizes (zs.take j)
  | [], i, j, x, z, h, _ => by simp at h
  | y :: zs, 0, j, x, z, h, hs => by
    simp at h; subst h
    cases j with
    | zero => simp [V.sizes]
    | succ j => simp [V.sizes, hs]
  | y :: zs, i + 1, j, x, z, h, hs => by
    cases j with
    | zero => simp [V.sizes]
    | succ j => simp only [List.set_cons_succ, List.take_succ_cons, V.sizes]; rw [sizes_set zs i j x z (by simpa using h) hs]

theorem placesOk_set {place : Nat → Option (Nat × Nat)} {zs : List V} {i : Nat} {x z : V} (hp : placesOk place zs) (hz : zs[i]? = some z) (hs : x.size = z.size) : placesOk place (zs.set i x) := by
  intro j y hj
  rw [List.getElem?_set] at hj
  split at hj
  · rename_i e; subst e
    split at hj
    · simp at hj; subst hj
      rw [hp i z hz, sizes_set _ _ _ _ _ hz hs, hs]
    · simp at hj
  · rw [hp j y hj, sizes_set _ _ _ _ _ hz hs]

theorem fill_ok {place : Nat → Option (Nat × Nat)} : ∀ {ps : List (Nat × V)} {vs : List (Nat × Value)} {zs l : List V} {cells : Array Value},
    placesOk place zs → RVs H B zs cells.toList → setParts zs ps = some l → ps.map (·.1) = vs.map (·.1) → RVvs H B (ps.map (·.2)) (vs.map (·.2)) →
    ∃ cs, Instr.fill place cells vs = some cs ∧ RVs H B l cs.toList
  | [], vs, zs, l, cells, _, hz, h, hn, _ => by
    simp [setParts] at h; subst h
    cases vs with
    | nil => exact ⟨cells, rfl, hz⟩
    | cons v vs => simp at hn
  | (i, x) :: ps, vs, zs, l, cells, hp, hz, h, hn, hr => by
    cases vs with
    | nil => simp at hn
    | cons q vs =>
      obtain ⟨j, v⟩ := q
      simp only [List.map_cons, List.cons.injEq] at hn
      obtain ⟨rfl, hn⟩ := hn
      simp only [setParts] at h
      cases hi : zs[i]? with
      | none => simp [hi] at h
      | some z =>
        simp only [hi] at h
        split at h
        · rename_i hfit
          simp only [fits, Bool.and_eq_true, beq_iff_eq] at hfit
          cases hr with
          | cons hx hr =>
            have hxc := hx.cells hfit.1
            obtain ⟨pre, mid, post, hc, hpre, hm, hset⟩ := RVs_split hz hi
            have := fill_one (rest := vs) (hp i z hi) hc hpre hm.size (hxc.size.trans hfit.2)
            rw [this]
            refine fill_ok (placesOk_set hp hi hfit.2) ?_ h hn hr
            exact hset x _ hxc
        · simp at h

end Go.Ev
end

/- Each operation of the model does what the evaluator says: struct, array and slice literals, reads and writes. -/
section
namespace Go.Ev
variable {P : Program} {gl : Nat → Option D}
variable {w0 : World} {O : Nat → Prop} {H0 : Imm} {N : Nat} {K : Nat → Prop} {B0 : Bind} {H : Imm} {B : Bind} {σ : St} {a : Act} {w : World} {o : Oper}

theorem run_mapM_list {α β : Type} (f : α → Sem β) (g : α → β) : ∀ (l : List α), (∀ x ∈ l, (f x).run P w = .ok (g x) w) → (l.mapM f).run P w = .ok (l.map g) w
  | [], _ => by simp
  | x :: l, h => by
    have h1 := h x (by simp)
    have h2 := run_mapM_list f g l (fun y hy => h y (by simp [hy]))
    simp [h1, h2]

theorem run_mapM_array {α β : Type} (f : α → Sem β) (g : α → β) (l : Array α) (h : ∀ x ∈ l.toList, (f x).run P w = .ok (g x) w) : (l.mapM f).run P w = .ok (l.toList.map g).toArray w := by
  have h1 : l.mapM f = List.toArray <$> l.toList.mapM f := by
    rw [← List.mapM_toArray]
  rw [h1, Sem.run_map, run_mapM_list f g l.toList h]
  rfl

theorem allSome_get {α : Type} : ∀ {l : List (Option α)} {r : List α}, allSome l = some r → l = r.map some
  | [], r, h => by simp [allSome] at h; subst h; rfl
  | none :: l, r, h => by simp [allSome] at h
  | some x :: l, r, h => by
    simp only [allSome] at h
    cases hl : allSome l with
    | none => simp [hl] at h
    | some q => simp only [hl, Option.some.injEq] at h; subst h; rw [allSome_get hl]; rfl

theorem offs_places : ∀ {fs : List Field} {zs : List V} {o : Nat}, offsOk P o fs zs = true → ∀ i z, zs[i]? = some z →
    ∃ f, fs[i]? = some f ∧ f.offset = o + V.sizes (zs.take i) ∧ szOf P f.type = some z.size
  | [], [], o, h, i, z, hz => by simp at hz
  | [], _ :: _, o, h, i, z, hz => by simp [offsOk] at h
  | _ :: _, [], o, h, i, z, hz => by simp at hz
  | f :: fs, y :: zs, o, h, 0, z, hz => by
    simp only [offsOk, Bool.and_eq_true, beq_iff_eq] at h
    simp at hz; subst hz
    exact ⟨f, rfl, by simp [V.sizes, h.1.1], h.1.2⟩
  | f :: fs, y :: zs, o, h, i + 1, z, hz => by
    simp only [offsOk, Bool.and_eq_true, beq_iff_eq] at h
    obtain ⟨f', h1, h2, h3⟩ := offs_places h.2 i z (by simpa using hz)
    exact ⟨f', by simpa using h1, by simp [V.sizes, h2, Nat.add_assoc], h3⟩

theorem offs_length : ∀ {fs : List Field} {zs : List V} {o : Nat}, offsOk P o fs zs = true → fs.length = zs.length
  | [], [], _, _ => rfl
  | [], _ :: _, _, h => by simp [offsOk] at h
  | _ :: _, [], _, h => by simp [offsOk] at h
  | f :: fs, y :: zs, o, h => by simp only [offsOk, Bool.and_eq_true] at h; simp [offs_length h.2]

theorem zipped (G : GlOk gl H0) (I : Inv w0 O H0 N K B0 H B σ a w) : ∀ {ps : List (Nat × Operand)} {xs : List X}, cXs (ps.map (·.2)) = some xs →
    (((ps.map (·.1)).zip xs).map fun p => (p.1, σ.val gl p.2)).map (·.1) = (ps.map fun p => (p.1, a.eval p.2)).map (·.1) ∧
    RVvs H B ((((ps.map (·.1)).zip xs).map fun p => (p.1, σ.val gl p.2)).map (·.2)) ((ps.map fun p => (p.1, a.eval p.2)).map (·.2))
  | [], xs, h => by simp [cXs] at h; subst h; exact ⟨rfl, .nil⟩
  | (i, x) :: ps, xs, h => by
    simp only [List.map_cons, cXs] at h
    cases hx : cX x with
    | none => simp [hx] at h
    | some y =>
      cases hl : cXs (ps.map (·.2)) with
      | none => simp [hx, hl] at h
      | some r =>
        simp only [hx, hl, Option.some.injEq] at h; subst h
        obtain ⟨h1, h2⟩ := zipped G I hl
        exact ⟨by simp only [List.map_cons, List.zip_cons_cons, List.cons.injEq, true_and]; exact h1, by simpa using RVvs.cons (X_ok G I hx) h2⟩

theorem build_ok (G : GlOk gl H0) (I : Inv w0 O H0 N K B0 H B σ a w) (hd : ∀ d, o.dst = some d → d < N) {t : TypeId} {parts : Array (Nat × Operand)} {xs : List X} {zs : List V} {e : Eff} {call : CallF} {T : Nat}
    (hop : o.op = .build t parts) (hxs : cXs (parts.toList.map (·.2)) = some xs) (hz : zeroFits P t (V.mk zs) = true)
    (hu : (∃ fs, P.underlying t = some (.struct fs) ∧ offsOk P 0 fs.toList zs = true) ∨
      (∃ n el z, P.underlying t = some (.array n el) ∧ szOf P el = some z.size ∧ zs = List.replicate n z))
    (h : evalOp call T (.build zs ((parts.toList.map (·.1)).zip xs)) (σ.val gl) σ.get = some e) : Done P w0 O H0 N K B0 H σ a w o e := by
  simp only [evalOp] at h
  split at h
  · rename_i l hl
    simp [okEff] at h; subst h
    obtain ⟨zv, hzv, hzr, hzc⟩ := zeroFits_ok (H := H) (B := B) hz
    have hzs : RVs H B zs zv.cells.toList := by
      unfold V.mk at hzc
      split at hzc
      · rename_i ds hds
        cases hzc with
        | d h1 => cases h1 with
          | agg h2 =>
            clear hl hz hzv hzr hu
            have : ∀ {zs : List V} {ds : List D} {cs : List Value}, V.toDs zs = some ds → RDs H ds cs → RVs H B zs cs := by
              intro zs
              induction zs with
              | nil => intro ds cs hd hr; simp [V.toDs] at hd; subst hd; cases hr; exact .nil
              | cons y zs ih =>
                intro ds cs hd hr
                cases y <;> simp only [V.toDs] at hd <;> try contradiction
                cases hq : V.toDs zs with
                | none => simp [hq] at hd
                | some q =>
                  simp only [hq, Option.some.injEq] at hd; subst hd
                  cases hr with
                  | cons h3 h4 => exact .cons (.d h3) (ih hq h4)
            exact this hds h2
      · cases hzc with | agg h1 => exact h1
    obtain ⟨hn, hr⟩ := zipped G I hxs
    have hps : ((parts.toList.map (·.1)).zip xs).map (fun (i, x) => (i, σ.val gl x)) = ((parts.toList.map (·.1)).zip xs).map fun p => (p.1, σ.val gl p.2) := rfl
    rw [hps] at hl
    have hrun : ∃ cs, RVs H B l cs.toList ∧ (Instr.build t (parts.map fun (i, x) => (i, a.eval x))).run P w = .ok (.agg cs) w := by
      rcases hu with ⟨fs, hu, ho⟩ | ⟨n, el, z, hu, hs, rfl⟩
      · have hplaces : (fs.mapM fun f => (do pure (f.offset, ← sizeOf f.type) : Sem (Nat × Nat))).run P w = .ok (fs.toList.map fun f => (f.offset, (szOf P f.type).getD 0)).toArray w := by
          refine run_mapM_array _ _ fs (fun f hf => ?_)
          obtain ⟨i, hi⟩ := List.getElem?_of_mem hf
          have hlt : i < zs.length := by rw [← offs_length ho]; exact (List.getElem?_eq_some_iff.1 hi).1
          obtain ⟨f', h1, h2, h3⟩ := offs_places ho i _ (List.getElem?_eq_getElem hlt)
          rw [hi] at h1; cases h1
          simp [run_szOf h3, h3]
        have hp : placesOk (fun i => (fs.toList.map fun f => (f.offset, (szOf P f.type).getD 0)).toArray[i]?) zs := by
          intro i z hz
          obtain ⟨f, h1, h2, h3⟩ := offs_places ho i z hz
          simp only [List.getElem?_toArray, List.getElem?_map, h1, Option.map_some, h3, Option.getD_some, h2, Nat.zero_add]
        obtain ⟨cs, hfill, hcs⟩ := fill_ok hp hzs hl hn hr
        refine ⟨cs, hcs, ?_⟩
        simp only [Instr.build, Sem.run_bind, hzv, Result.andThen_ok, run_underlying hu, hplaces]
        have : (parts.map fun (x : Nat × Operand) => match x with | (i, x) => (i, a.eval x)).toList = parts.toList.map fun p => (p.1, a.eval p.2) := by simp
        rw [this, hfill]
        rfl
      · have hp : placesOk (fun i => some (i * z.size, z.size)) (List.replicate n z) := by
          intro i y hy
          have hy' := List.getElem?_eq_some_iff.1 hy
          obtain ⟨hlt, hy'⟩ := hy'
          simp only [List.getElem_replicate] at hy'
          subst hy'
          simp only [List.length_replicate] at hlt
          have : ∀ k, V.sizes (List.replicate k z) = k * z.size := by
            intro k; induction k with
            | zero => simp [V.sizes]
            | succ k ih => simp [List.replicate_succ, V.sizes, ih, Nat.succ_mul, Nat.add_comm]
          simp [List.take_replicate, this, Nat.min_eq_left (Nat.le_of_lt hlt)]
        obtain ⟨cs, hfill, hcs⟩ := fill_ok hp hzs hl hn hr
        refine ⟨cs, hcs, ?_⟩
        simp only [Instr.build, Sem.run_bind, hzv, Result.andThen_ok, run_underlying hu, run_szOf hs]
        have : (parts.map fun (x : Nat × Operand) => match x with | (i, x) => (i, a.eval x)).toList = parts.toList.map fun p => (p.1, a.eval p.2) := by simp
        rw [this, hfill]
        rfl
    obtain ⟨cs, hcs, hrun⟩ := hrun
    exact Done.val I hd (v := .agg cs) (by simp [execOp, hop, hrun]) (.agg (mk_isAgg l) (RV_mk hcs))
  · simp at h

end Go.Ev
end

/- Each operation of the model does what the evaluator says: slice literals, reads and writes of variables. -/
section
namespace Go.Ev
variable {P : Program} {gl : Nat → Option D}
variable {w0 : World} {O : Nat → Prop} {H0 : Imm} {N : Nat} {K : Nat → Prop} {B0 : Bind} {H : Imm} {B : Bind} {σ : St} {a : Act} {w : World} {o : Oper}

theorem fill_all {sz : Nat} : ∀ {ps : List (Nat × Value)} {k : Nat} {cells : Array Value} {pre rest : List Value},
    (∀ i p, ps[i]? = some p → p.1 = k + i) → (∀ p ∈ ps, p.2.cells.toList.length = sz) → cells.toList = pre ++ rest → pre.length = k * sz → rest.length = ps.length * sz →
    ∃ cs, Instr.fill (fun i => some (i * sz, sz)) cells ps = some cs ∧ cs.toList = pre ++ ps.flatMap (fun p => p.2.cells.toList)
  | [], k, cells, pre, rest, _, _, hc, _, hr => by
    have : rest = [] := List.length_eq_zero_iff.1 (by simpa using hr)
    subst this
    exact ⟨cells, rfl, by simpa using hc⟩
  | (i, v) :: ps, k, cells, pre, rest, hi, hv, hc, hp, hr => by
    have h0 : i = k := by simpa using hi 0 (i, v) rfl
    subst h0
    have hlen : sz ≤ rest.length := by rw [hr]; simp only [List.length_cons, Nat.succ_mul]; omega
    have hsplit : rest = rest.take sz ++ rest.drop sz := (List.take_append_drop _ _).symm
    have h1 := fill_one (place := fun i => some (i * sz, sz)) (rest := ps) (i := i) (off := i * sz) (size := sz) (v := v) (pre := pre) (mid := rest.take sz) (post := rest.drop sz) rfl
      (by rw [hc]; congr 1) hp (by simp; omega) (hv (i, v) (by simp))
    rw [h1]
    obtain ⟨cs, h2, h3⟩ := fill_all (ps := ps) (k := i + 1) (cells := ⟨pre ++ (v.cells.toList ++ rest.drop sz)⟩) (pre := pre ++ v.cells.toList) (rest := rest.drop sz)
      (fun j p hj => by have := hi (j + 1) p (by simpa using hj); omega) (fun p hp => hv p (by simp [hp])) (by simp)
      (by simp only [List.length_append, hp, hv (i, v) (by simp), Nat.succ_mul]) (by simp only [List.length_drop, hr, List.length_cons, Nat.succ_mul]; omega)
    exact ⟨cs, h2, by rw [h3]; simp⟩

theorem toDL_RDs : ∀ {ys : List V} {ds : List D} {vs : List Value}, toDL ys = some ds → RVvs H B ys vs → RDs H ds (vs.flatMap fun v => v.cells.toList) ∧ vs.length = ds.length
  | [], ds, vs, h, hr => by simp [toDL] at h; subst h; cases hr; exact ⟨.nil, rfl⟩
  | y :: ys, ds, vs, h, hr => by
    cases hr with
    | cons h1 h2 =>
      simp only [toDL] at h
      cases y <;> simp only [toD] at h <;> try contradiction
      rename_i x v vs
      cases hq : toDL ys with
      | none => simp [hq] at h
      | some q =>
        simp only [hq, Option.some.injEq] at h; subst h
        obtain ⟨h3, h4⟩ := toDL_RDs hq h2
        have := h1.cells rfl
        cases this with
        | d h5 => exact ⟨by simp only [List.flatMap_cons]; exact .cons h5 h3, by simp [h4]⟩

theorem toDL_sizes : ∀ {ys : List V} {ds : List D} {vs : List Value}, toDL ys = some ds → RVvs H B ys vs → ∀ sz, (∀ x ∈ ds, x.size = sz) → ∀ v ∈ vs, v.cells.toList.length = sz
  | [], ds, vs, h, hr, sz, hs => by cases hr; simp
  | y :: ys, ds, vs, h, hr, sz, hs => by
    cases hr with
    | cons h1 h2 =>
      simp only [toDL] at h
      cases y <;> simp only [toD] at h <;> try contradiction
      rename_i x v vs
      cases hq : toDL ys with
      | none => simp [hq] at h
      | some q =>
        simp only [hq, Option.some.injEq] at h; subst h
        have hc := h1.cells rfl
        intro u hu
        simp only [List.mem_cons] at hu
        rcases hu with rfl | hu
        · rw [hc.size]; simp only [V.size]; exact hs _ (by simp)
        · exact toDL_sizes hq h2 sz (fun y hy => hs y (by simp [hy])) u hu

theorem inOrder_get : ∀ {l : List (Nat × Operand)} {k : Nat}, inOrder k l = true → ∀ i p, l[i]? = some p → p.1 = k + i
  | [], k, _, i, p, h => by simp at h
  | (j, x) :: l, k, h, 0, p, hp => by
    simp only [inOrder, Bool.and_eq_true, beq_iff_eq] at h
    simp at hp; subst hp; simp [h.1]
  | (j, x) :: l, k, h, i + 1, p, hp => by
    simp only [inOrder, Bool.and_eq_true, beq_iff_eq] at h
    have := inOrder_get h.2 i p (by simpa using hp)
    omega

theorem range_map_length (n : Nat) (z : Array Value) : ((Array.range n).map (z[· % z.size]!)).toList.length = n := by simp

theorem bsl_run {t el : TypeId} {n sz : Nat} {parts : Array (Nat × Operand)} {z : V}
    (hop : o.op = .buildSlice t n parts) (hu : P.underlying t = some (.slice el)) (hsz : szOf P el = some sz) (hz : zeroOf P el = some z)
    (hn : n * sz ≤ 16777216) (hin : inOrder 0 parts.toList = true) (hlen : parts.toList.length = n)
    (hsizes : ∀ v ∈ (parts.toList.map (·.2)).map a.eval, v.cells.toList.length = sz) :
    ∃ cs : Array Value, (execOp a.eval o).run P w = .ok (.value (.slice (some ⟨w.heap.size, 0, none⟩) n n)) (w.alloc (.cells cs el)) ∧
      cs.toList = ((parts.toList.map (·.2)).map a.eval).flatMap (fun v => v.cells.toList) := by
  obtain ⟨zv, hzv, _, _⟩ := zeroOf_ok (H := fun _ => none) (B := fun _ => undef) hz
  have hps : (parts.map fun (x : Nat × Operand) => match x with | (i, x) => (i, a.eval x)).toList = parts.toList.map fun p => (p.1, a.eval p.2) := by simp
  obtain ⟨cs, hfill, hcs⟩ := fill_all (sz := sz) (ps := parts.toList.map fun p => (p.1, a.eval p.2)) (k := 0)
    (cells := (Array.range (n * sz)).map ((if n * sz = 0 then #[] else zv.cells)[· % (if n * sz = 0 then #[] else zv.cells).size]!)) (pre := [])
    (rest := ((Array.range (n * sz)).map ((if n * sz = 0 then #[] else zv.cells)[· % (if n * sz = 0 then #[] else zv.cells).size]!)).toList)
    (fun i p hp => by
      rw [List.getElem?_map] at hp
      cases hq : parts.toList[i]? with
      | none => simp [hq] at hp
      | some q => simp only [hq, Option.map_some, Option.some.injEq] at hp; subst hp; exact inOrder_get hin i q hq)
    (fun p hp => by
      obtain ⟨q, hq, rfl⟩ := List.mem_map.1 hp
      exact hsizes _ (List.mem_map.2 ⟨q.2, List.mem_map.2 ⟨q, hq, rfl⟩, rfl⟩))
    (by simp) (by simp) (by simp [← hlen])
  refine ⟨cs, ?_, by rw [hcs]; simp [List.flatMap_map]⟩
  have hgt : ¬ n * sz > 2 ^ 24 := by omega
  simp only [execOp, hop, Instr.buildSlice, Sem.run_bind, run_underlying hu, Result.andThen_ok, run_szOf hsz]
  rw [if_neg hgt]
  by_cases hz0 : n * sz = 0
  · simp only [if_pos hz0] at hfill ⊢
    simp only [Sem.run_bind, Sem.run_pure, Result.andThen_ok, hps]
    rw [hfill]
    simp [newRow, run_newObj]
  · simp only [if_neg hz0] at hfill ⊢
    simp only [Sem.run_bind, hzv, Sem.run_pure, Result.andThen_ok, hps]
    rw [hfill]
    simp [newRow, run_newObj]

theorem RVvs_flat : ∀ {ys : List V} {vs : List Value}, RVvs H B ys vs → (∀ y ∈ ys, y.flat = true) → RVs H B ys (vs.flatMap fun v => v.cells.toList)
  | _, _, .nil, _ => .nil
  | _, _, .cons h1 h2, hf => by simp only [List.flatMap_cons]; exact .cons (h1.cells (hf _ (by simp))) (RVvs_flat h2 (fun y hy => hf y (by simp [hy])))

theorem RVvs_sizes {sz : Nat} : ∀ {ys : List V} {vs : List Value}, RVvs H B ys vs → (∀ y ∈ ys, y.flat = true ∧ y.size = sz) → ∀ v ∈ vs, v.cells.toList.length = sz
  | _, _, .nil, _ => by simp
  | _, _, .cons h1 h2, hf => by
    intro u hu
    simp only [List.mem_cons] at hu
    rcases hu with rfl | hu
    · rw [(h1.cells (hf _ (by simp)).1).size]; exact (hf _ (by simp)).2
    · exact RVvs_sizes h2 (fun y hy => hf y (by simp [hy])) u hu

theorem RVvs_len : ∀ {ys : List V} {vs : List Value}, RVvs H B ys vs → vs.length = ys.length
  | _, _, .nil => rfl
  | _, _, .cons _ h => by simp [RVvs_len h]

theorem bsl_ok (G : GlOk gl H0) (I : Inv w0 O H0 N K B0 H B σ a w) {T : Nat} (hT : 1000 ≤ T) (hd : ∀ d, o.dst = some d → d < N) {t el : TypeId} {n sz : Nat} {parts : Array (Nat × Operand)} {xs : List X} {z : V} {e : Eff} {call : CallF}
    (hop : o.op = .buildSlice t n parts) (hxs : cXs (parts.toList.map (·.2)) = some xs) (hu : P.underlying t = some (.slice el)) (hsz : szOf P el = some sz) (hz : zeroOf P el = some z)
    (h0 : 0 < sz) (hn : n * sz ≤ 16777216) (hin : inOrder 0 parts.toList = true) (hlen : parts.toList.length = n)
    (h : evalOp call T (.bsl el sz n xs) (σ.val gl) σ.get = some e) : Done P w0 O H0 N K B0 H σ a w o e := by
  simp only [evalOp] at h
  split at h
  · simp at h
  · rename_i ys hys
    have hvals := Xs_ok G I hxs
    obtain ⟨H', I1, hle, hF⟩ := I.freeze (xs.map (σ.val gl))
    have hfr := (hvals.mono hle (fun _ _ => rfl)).frz ys hF hys
    split at h
    · split at h
      · rename_i hall
        simp at h; subst h
        have hall' : ∀ y ∈ ys, y.flat = true ∧ y.size = sz := by simpa using hall
        have hyl : ys.length = n := by rw [← RVvs_len hfr]; simpa using hlen
        obtain ⟨cs, hrun, hflat⟩ := bsl_run (w := w) (a := a) hop hu hsz hz hn hin hlen (RVvs_sizes hfr hall')
        have hrv := RVs.kill [T] (RVvs_flat hfr (fun y hy => (hall' y hy).1))
        rw [← hflat] at hrv
        refine ⟨H', B.set T (.pointer (some ⟨w.heap.size, 0, none⟩)), _, _, .inl hrun, hle, ?_⟩
        rw [← put_after_freeze]
        refine I1.alloc (hdr := .pointer (some ⟨w.heap.size, 0, none⟩)) hT hd rfl (.one rfl (by rw [hyl]; exact .sptr (B.set_same _ _))) ⟨_, _, B.set_same _ _, heap_alloc_new w _, .agg (hrv.mono (Imm.le_refl H') ?_)⟩ rfl rfl rfl rfl
        intro u hu
        have := (killL_refs _ _ u hu).1
        exact B.set_ne _ (by simpa using this)
      · simp at h
    · rename_i ds hds
      split at h
      · rename_i hall
        simp at h; subst h
        have hall' : ∀ x ∈ ds, x.size = sz := by simpa using hall
        obtain ⟨hrd, hcount⟩ := toDL_RDs hds hfr
        obtain ⟨cs, hrun, hflat⟩ := bsl_run (w := w) (a := a) hop hu hsz hz hn hin hlen (toDL_sizes hds hfr sz hall')
        have hdl : ds.length = n := by rw [← hcount]; simpa using hlen
        have hcsz : cs.size = n * sz := by
          rw [← Array.length_toList, hflat]
          have h1 := hrd.size
          rw [h1]
          have : ∀ {l : List D}, (∀ x ∈ l, x.size = sz) → D.sizes l = l.length * sz := by
            intro l
            induction l with
            | nil => intro _; simp [D.sizes]
            | cons y l ih => intro hl; simp [D.sizes, hl y (by simp), ih (fun x hx => hl x (by simp [hx])), Nat.succ_mul, Nat.add_comm]
          rw [this hall', hdl]
        refine ⟨H', B.set T (.slice (some ⟨w.heap.size, 0, none⟩) n n), _, _, .inl hrun, hle, ?_⟩
        rw [← put_after_freeze]
        refine I1.alloc (hdr := .slice (some ⟨w.heap.size, 0, none⟩) n n) hT hd rfl (.one rfl (.own (B.set_same _ _))) (.inr ⟨w.heap.size, n, cs, cs.toList, [], ?_, heap_alloc_new w _, by simp, ?_, hall', by omega, hcsz⟩) rfl rfl rfl rfl
        · rw [B.set_same, hdl]
        · rw [hflat]; exact hrd
      · simp at h

/-! ## Reads -/
theorem ldV_run (I : Inv w0 O H0 N K B0 H B σ a w) {t : TypeId} {x : Value} {X' : V} {sz : Nat} {ag : Bool} {u : V}
    (hX : RVv H B X' x) (hsz : szOf P t = some sz) (hag : agOf P t = some ag)
    (h : ldV σ.get sz ag X' = some u) : ∃ ad v, x = .pointer (some ad) ∧ (loadVar t ad).run P w = .ok v w ∧ RVv H B u v := by
  have key : ∀ {g off : Nat} {c : Array Value} {e : TypeId} {fr : Nat × Nat} {pre mid post : List Value}, x = .pointer (some ⟨g, off, none⟩) → w.heap[g]? = some (.cells c e fr) →
      c.toList = pre ++ (mid ++ post) → pre.length = off → RV H B u mid → u.size = sz → u.isAgg = ag → ∃ ad v, x = .pointer (some ad) ∧ (loadVar t ad).run P w = .ok v w ∧ RVv H B u v := by
    intro g off c e fr pre mid post he hg hc hp hu hus hua
    obtain ⟨v, hv, hr⟩ := run_loadVar_at (P := P) hsz hag hg hc hp hu hus hua
    exact ⟨_, v, he, hv, hr⟩
  unfold ldV at h
  split at h
  · rename_i tt off p
    split at h
    · rename_i v hg
      split at h
      · rename_i o' u' hat
        split at h
        · rename_i hcond
          simp at h; subst h
          obtain ⟨rfl, hus, hua⟩ := hcond
          obtain ⟨b, c, h1, h2, h3⟩ := I.cells _ _ hg
          obtain ⟨b', hB, he⟩ := hX.ptr_inv
          rw [h1] at hB; cases hB
          obtain ⟨pre, mid, post, hc, hp, hu, _⟩ := at_split h3 hat
          exact key he h2 hc hp hu hus hua
        · simp at h
      · simp at h
    · simp at h
  · rename_i tt i esz off p
    split at h
    · rename_i sz' l hg
      split at h
      · rename_i y hy
        split at h
        · rename_i o' u' hat
          split at h
          · rename_i hcond
            simp at h; subst h
            obtain ⟨rfl, rfl, hus, hua⟩ := hcond
            obtain ⟨b', n, cap', hB, he⟩ := hX.eptr_inv
            rcases I.cells _ _ hg with ⟨rfl, _⟩ | ⟨b, cap, c, cs, post0, h1, h2, h3, h4, h5, h6, h7⟩
            · simp at hy
            · rw [h1] at hB; cases hB
              obtain ⟨pre, mid, post, hc, hp, hu, _⟩ := RVs_split (H := H) (B := B) (RVs_of_RDs h4) (i := i) (u := .d y) (by simp [hy])
              obtain ⟨pre2, mid2, post2, rfl, hp2, hu2, _⟩ := at_split hu hat
              have hpl : pre.length = i * sz' := by
                rw [hp]
                have : ∀ {l : List D} {k : Nat}, (∀ x ∈ l, x.size = sz') → k ≤ l.length → V.sizes ((l.map V.d).take k) = k * sz' := by
                  intro l
                  induction l with
                  | nil => intro k _ hk; simp at hk; subst hk; simp [V.sizes]
                  | cons q l ih =>
                    intro k hl hk
                    cases k with
                    | zero => simp [V.sizes]
                    | succ k => simp only [List.map_cons, List.take_succ_cons, V.sizes, V.size]; rw [hl q (by simp), ih (fun x hx => hl x (by simp [hx])) (by simpa using hk), Nat.succ_mul, Nat.add_comm]
                exact this h5 (Nat.le_of_lt (List.getElem?_eq_some_iff.1 hy).1)
              exact key (pre := pre ++ pre2) (mid := mid2) (post := post2 ++ post ++ post0) he h2 (by rw [h3, hc]; simp) (by simp [hpl, hp2]) hu2 hus hua
          · simp at h
        · simp at h
      · simp at h
    · simp at h
  · rename_i y
    split at h
    · rename_i hcond
      simp at h; subst h
      obtain ⟨ad, c, e, fr, pre, cs, post, h1, h2, h3, h4, h5, he⟩ := hX.fref_inv
      obtain ⟨g, off, sp⟩ := ad
      cases h2
      exact key he (I.imm _ _ h1) h3 h4 (.d h5) hcond.1 hcond.2
    · simp at h
  · simp at h

theorem ld_ok (G : GlOk gl H0) (I : Inv w0 O H0 N K B0 H B σ a w) (hd : ∀ d, o.dst = some d → d < N) {t : TypeId} {x : Operand} {X' : X} {sz : Nat} {ag : Bool} {u : V}
    (hop : o.op = .load t x) (hx : cX x = some X') (hsz : szOf P t = some sz) (hag : agOf P t = some ag)
    (h : ldV σ.get sz ag (σ.val gl X') = some u) : Done P w0 O H0 N K B0 H σ a w o { res := u } := by
  obtain ⟨ad, v, he, hv, hr⟩ := ldV_run I (X_ok G I hx) hsz hag h
  exact Done.val I hd (v := v) (by simp [execOp, hop, Instr.loadAt, Instr.sureAddr, he, hv]) hr

end Go.Ev
end

/- Each operation of the model does what the evaluator says: stores, arithmetic, addresses, indexes. -/
section
namespace Go.Ev
variable {P : Program} {gl : Nat → Option D}
variable {w0 : World} {O : Nat → Prop} {H0 : Imm} {N : Nat} {K : Nat → Prop} {B0 : Bind} {H : Imm} {B : Bind} {σ : St} {a : Act} {w : World} {o : Oper}

theorem toDs_map : ∀ (ds : List D), V.toDs (ds.map V.d) = some ds
  | [] => rfl
  | x :: l => by simp [V.toDs, toDs_map l]

theorem RDs_of_RVs {ds : List D} {cs : List Value} (h : RVs H B (ds.map V.d) cs) : RDs H ds cs := RVs_of_toDs (toDs_map ds) h

theorem sizes_map_take {sz : Nat} : ∀ {l : List D} {k : Nat}, (∀ x ∈ l, x.size = sz) → k ≤ l.length → V.sizes ((l.map V.d).take k) = k * sz
  | [], k, _, hk => by simp at hk; subst hk; simp [V.sizes]
  | q :: l, 0, _, _ => by simp [V.sizes]
  | q :: l, k + 1, hl, hk => by
    simp only [List.map_cons, List.take_succ_cons, V.sizes, V.size]
    rw [hl q (by simp), sizes_map_take (fun x hx => hl x (by simp [hx])) (by simpa using hk), Nat.succ_mul, Nat.add_comm]

theorem st_ok (G : GlOk gl H0) (I : Inv w0 O H0 N K B0 H B σ a w) (hd : ∀ d, o.dst = some d → d < N) {t : TypeId} {x y : Operand} {X' Y : X} {sz : Nat} {wr : Nat × Cell}
    (hop : o.op = .store t x y) (hx : cX x = some X') (hy : cX y = some Y) (hsz : szOf P t = some sz)
    (h : stV σ.get sz (σ.val gl X') (σ.val gl Y) = some wr) : Done P w0 O H0 N K B0 H σ a w o { res := .skp, wr := [wr] } := by
  have hX := X_ok G I hx
  have hY := X_ok G I hy
  unfold stV at h
  split at h
  · rename_i hfit
    simp only [fits, Bool.and_eq_true, beq_iff_eq] at hfit
    have hYc := hY.cells hfit.1
    have hYs : (a.eval y).cells.toList.length = sz := hYc.size.trans hfit.2
    split at h
    · rename_i tt off p hval
      rw [hval] at hX
      split at h
      · rename_i e v hg
        split at h
        · rename_i o' u' v' hat hset
          split at h
          · rename_i hcond
            simp at h; subst h
            obtain ⟨rfl, hus⟩ := hcond
            obtain ⟨b, c, h1, h2, h3⟩ := I.cells _ _ hg
            obtain ⟨b', hB, he⟩ := hX.ptr_inv
            rw [h1] at hB; cases hB
            obtain ⟨pre, mid, post, hc, hp, hu, hset'⟩ := at_split h3 hat
            have hrun := run_storeVar_at (P := P) hsz h2 hc hp (hu.size.trans hus) hYs hYc.ones
            refine ⟨H, B, undef, w.setRow b (pre ++ ((a.eval y).cells.toList ++ post)).toArray, .inr ⟨by simp [execOp, hop, Instr.storeAt, Instr.sureAddr, he, hrun], rfl⟩, Imm.le_refl H, ?_⟩
            refine I.change (t := tt) (b := b) (c0 := .var e v) hd hg rfl (fun _ _ _ => ⟨_, _, rfl⟩) (by rw [h1]; rfl)   .skp ⟨b, _, h1, setRow_heap _ _ _ _ _ _ h2, ?_⟩ (fun b' hb' => setRow_other _ _ _ hb') (setRow_size _ _ _) rfl rfl rfl
            simpa using hset' _ v' _ hset hYc
          · simp at h
        · simp at h
      · simp at h
    · rename_i tt i esz off p hval
      rw [hval] at hX
      split at h
      · rename_i e sz' l hg
        split at h
        · rename_i y0 hy0
          split at h
          · rename_i o' u' y' hat hset
            split at h
            · rename_i hcond
              simp at h; subst h
              obtain ⟨rfl, rfl, hus⟩ := hcond
              obtain ⟨b', n, cap', hB, he⟩ := hX.eptr_inv
              rcases I.cells _ _ hg with ⟨rfl, _⟩ | ⟨b, cap, c, cs, post0, h1, h2, h3, h4, h5, h6, h7⟩
              · simp at hy0
              · rw [h1] at hB; cases hB
                obtain ⟨pre, mid, post, hc, hp, hu, hset2⟩ := RVs_split (H := H) (B := B) (RVs_of_RDs h4) (i := i) (u := .d y0) (by simp [hy0])
                obtain ⟨pre2, mid2, post2, rfl, hp2, hu2, hset'⟩ := at_split hu hat
                have hpl : pre.length = i * sz' := by rw [hp]; exact sizes_map_take h5 (Nat.le_of_lt (List.getElem?_eq_some_iff.1 hy0).1)
                have hrun := run_storeVar_at (P := P) (off := i * sz' + o') (pre := pre ++ pre2) (mid := mid2) (post := post2 ++ post ++ post0) (v := a.eval y) hsz h2 (by rw [h3, hc]; simp) (by simp [hpl, hp2]) (hu2.size.trans hus) hYs hYc.ones
                have hnew := hset' _ _ _ hset hYc
                have hnewl := hset2 _ _ hnew
                have hmap : (l.map V.d).set i (.d y') = (l.set i y').map V.d := by simp [List.map_set]
                rw [hmap] at hnewl
                have hnewD := RDs_of_RVs hnewl
                have hy's : y'.size = sz' := by
                  have h8 := hnew.size
                  have h9 := hu.size
                  have h10 := h5 y0 (List.mem_of_getElem? hy0)
                  simp only [V.size, List.length_append] at h8 h9
                  have := hu2.size
                  omega
                refine ⟨H, B, undef, w.setRow b' (pre ++ pre2 ++ ((a.eval y).cells.toList ++ (post2 ++ post ++ post0))).toArray, .inr ⟨by simp [execOp, hop, Instr.storeAt, Instr.sureAddr, he, hrun], rfl⟩, Imm.le_refl H, ?_⟩
                refine I.change (t := tt) (b := b') (c0 := .row e sz' l) hd hg rfl (by simp) (by rw [h1]; rfl) .skp
                  (.inr ⟨b', cap', _, pre ++ ((pre2 ++ ((a.eval y).cells.toList ++ post2)) ++ post), post0, ?_, setRow_heap _ _ _ _ _ _ h2, by simp, hnewD, ?_, by simpa using h6, ?_⟩) (fun b' hb' => setRow_other _ _ _ hb') (setRow_size _ _ _) rfl rfl rfl
                · simpa using h1
                · intro x hx
                  rcases List.mem_or_eq_of_mem_set hx with h | h
                  · exact h5 x h
                  · rw [h]; exact hy's
                · have hcs : c.size = (pre ++ (pre2 ++ (mid2 ++ post2)) ++ post).length + post0.length := by
                    rw [← Array.length_toList, h3, hc]; simp only [List.length_append]; omega
                  have := hu2.size
                  rw [← h7, hcs]
                  simp only [List.size_toArray, List.length_append]
                  omega
            · simp at h
          · simp at h
        · simp at h
      · simp at h
    · simp at h
  · simp at h

theorem nilc_ok (G : GlOk gl H0) (I : Inv w0 O H0 N K B0 H B σ a w) (hd : ∀ d, o.dst = some d → d < N) {x : Operand} {X' : X} {e : Eff} {call : CallF} {T : Nat}
    (hop : o.op = .nilCheck x) (hx : cX x = some X') (h : evalOp call T (.nilc X') (σ.val gl) σ.get = some e) : Done P w0 O H0 N K B0 H σ a w o e := by
  have hX := X_ok G I hx
  simp only [evalOp, okEff] at h
  split at h <;> simp at h <;> subst h <;> rename_i hval <;> rw [hval] at hX
  · obtain ⟨b, _, he⟩ := hX.ptr_inv
    exact Done.val I hd (v := a.eval x) (by simp [execOp, hop, he]) hX
  · obtain ⟨b, _, _, _, he⟩ := hX.eptr_inv
    exact Done.val I hd (v := a.eval x) (by simp [execOp, hop, he]) hX
  · obtain ⟨b, _, _, _, _, _, _, _, _, _, _, _, he⟩ := hX.fref_inv
    exact Done.val I hd (v := a.eval x) (by simp [execOp, hop, he]) hX
  · exact Done.val I hd (v := a.eval x) (by simp [execOp, hop, hX.fn_inv]) hX
  · obtain ⟨vs, _, he⟩ := hX.clo_inv
    exact Done.val I hd (v := a.eval x) (by simp [execOp, hop, he]) hX

theorem bin_ok (G : GlOk gl H0) (I : Inv w0 O H0 N K B0 H B σ a w) (hd : ∀ d, o.dst = some d → d < N) {op : BinOp} {t t' : TypeId} {x y : Operand} {X' Y : X} {r : V}
    (hop : o.op = .binOp op t x y t') (hx : cX x = some X') (hy : cX y = some Y) (hc : ¬ (tcOf P t = .ifc ∧ isC y = false))
    (h : binV σ.get op (tcOf P t) (σ.val gl X') (σ.val gl Y) = some r) : Done P w0 O H0 N K B0 H σ a w o { res := r } := by
  obtain ⟨z, hz, hr⟩ := binV_ok (P := P) (w := w) (X := x) (Y := y) I h rfl (fun he => by cases hy' : isC y with | true => rfl | false => exact absurd ⟨he, hy'⟩ hc) (X_ok G I hx) (X_ok G I hy)
  exact Done.val I hd (v := z) (by simp only [execOp, hop]; simp only [Sem.run_bind] at hz ⊢; rw [hz]; rfl) hr

theorem un_ok (G : GlOk gl H0) (I : Inv w0 O H0 N K B0 H B σ a w) (hd : ∀ d, o.dst = some d → d < N) {op : UnOp} {t : TypeId} {x : Operand} {X' : X} {r : V}
    (hop : o.op = .unOp op t x) (hx : cX x = some X') (h : unV op (σ.val gl X') = some r) : Done P w0 O H0 N K B0 H σ a w o { res := r } := by
  obtain ⟨z, hz, hr⟩ := unV_ok (P := P) (w := w) h (X_ok G I hx)
  exact Done.val I hd (v := z) (by simp [execOp, hop, hz]) hr

theorem cnvI_ok (G : GlOk gl H0) (I : Inv w0 O H0 N K B0 H B σ a w) (hd : ∀ d, o.dst = some d → d < N) {s d : TypeId} {x : Operand} {X' : X} {k ks : IntKind} {e : Eff} {call : CallF} {T : Nat}
    (hop : o.op = .convert s d x) (hs : P.underlying s = some (.int ks)) (hdd : P.underlying d = some (.int k)) (hx : cX x = some X')
    (h : evalOp call T (.cnvI k X') (σ.val gl) σ.get = some e) : Done P w0 O H0 N K B0 H σ a w o e := by
  have hX := X_ok G I hx
  simp only [evalOp, okEff] at h
  split at h
  · rename_i k' n hval
    rw [hval] at hX
    simp at h; subst h
    exact Done.val I hd (v := .int k (k.wrap n)) (by simp [execOp, hop, convert, run_underlying hs, run_underlying hdd, hX.int_inv, Conv.intToInt]) (.one rfl (.d (.int _ _)))
  · simp at h

theorem cnvIS_ok (G : GlOk gl H0) (I : Inv w0 O H0 N K B0 H B σ a w) (hd : ∀ d, o.dst = some d → d < N) {s d : TypeId} {x : Operand} {X' : X} {ks : IntKind} {e : Eff} {call : CallF} {T : Nat}
    (hop : o.op = .convert s d x) (hs : P.underlying s = some (.int ks)) (hdd : P.underlying d = some .string) (hx : cX x = some X')
    (h : evalOp call T (.cnvIS X') (σ.val gl) σ.get = some e) : Done P w0 O H0 N K B0 H σ a w o e := by
  have hX := X_ok G I hx
  simp only [evalOp, okEff] at h
  split at h
  · rename_i k' n hval
    rw [hval] at hX
    simp at h; subst h
    exact Done.val I hd (v := .string (Utf8.encode n)) (by simp [execOp, hop, convert, run_underlying hs, run_underlying hdd, hX.int_inv, Conv.intToString]) (.one rfl (.d (by simpa using RD.str (H := H) (Utf8.encode n).data.toList)))
  · simp at h

theorem RVvs.list {l : List V} {vs : List Value} (h : RVvs H B l vs) : vs.length = l.length := by
  induction l generalizing vs with
  | nil => cases h; rfl
  | cons x l ih => cases h with | cons _ h2 => simp [ih h2]

theorem mkf_ok (G : GlOk gl H0) (I : Inv w0 O H0 N K B0 H B σ a w) (hd : ∀ d, o.dst = some d → d < N) {f : FuncId} {first cap : Array Operand} {cs : List X} {e : Eff} {call : CallF} {T : Nat}
    (hop : o.op = .makeFunc (.func f) first cap) (hf : first.toList = []) (hx : cXs cap.toList = some cs)
    (h : evalOp call T (.mkf f cs) (σ.val gl) σ.get = some e) : Done P w0 O H0 N K B0 H σ a w o e := by
  have hX := Xs_ok G I hx
  have hf' : first = #[] := by cases first; simpa using hf
  have hrun : (execOp a.eval o).run P w = .ok (.value (.func (.func f) #[] (cap.toList.map a.eval).toArray)) w := by
    simp only [execOp, hop, Instr.makeFunc, hf']
    have : cap.map a.eval = (cap.toList.map a.eval).toArray := by apply Array.ext'; simp
    rw [this]; simp
  simp only [evalOp, okEff] at h
  split at h
  · simp at h; subst h
    have hl := hX.list
    simp only [List.map_nil, List.length_nil, List.length_eq_zero_iff] at hl
    rw [hl] at hrun
    exact Done.val I hd hrun (.one rfl (.d (.fn f)))
  · simp at h; subst h
    exact Done.val I hd hrun (.one rfl (.clo hX))

theorem mkm_ok (I : Inv w0 O H0 N K B0 H B σ a w) {T : Nat} (hT : 1000 ≤ T) (hd : ∀ d, o.dst = some d → d < N)
    (hop : (∃ t, o.op = .makeMap t none) ∨ (∃ t k n kt e, o.op = .makeMap t (some (.const (.int k n))) ∧ P.underlying t = some (.map kt e))) :
    Done P w0 O H0 N K B0 H σ a w o { res := .mp T, wr := [(T, .map [] [])], kill := [T] } := by
  refine ⟨H, B.set T (.map (some w.heap.size)), .map (some w.heap.size), w.alloc (.map #[] 0), .inl ?_, Imm.le_refl H,
    I.alloc (hdr := .map (some w.heap.size)) hT hd rfl (.one rfl (.mp (B.set_same _ _))) ⟨_, #[], 0, B.set_same _ _, heap_alloc_new w _, ⟨by simp, by simp⟩, .nil, .nil⟩ rfl rfl rfl rfl⟩
  rcases hop with ⟨t, h⟩ | ⟨t, k, n, kt, e, h, hu⟩
  · simp [execOp, h, Instr.makeMap, run_newObj]
  · simp [execOp, h, Instr.makeMap, run_newObj, run_underlying hu, Act.eval, asInt, asIntOf]

theorem rng_ok (G : GlOk gl H0) (I : Inv w0 O H0 N K B0 H B σ a w) {T : Nat} (hT : 1000 ≤ T) (hd : ∀ d, o.dst = some d → d < N) {t : TypeId} {x : Operand} {X' : X} {e : Eff} {call : CallF}
    (hop : o.op = .range t x) (hu : P.underlying t = some .string) (hx : cX x = some X')
    (h : evalOp call T (.rngS X') (σ.val gl) σ.get = some e) : Done P w0 O H0 N K B0 H σ a w o e := by
  have hX := X_ok G I hx
  simp only [evalOp] at h
  split at h
  · rename_i s hval
    rw [hval] at hX
    simp at h; subst h
    refine ⟨H, B.set T (.pointer (some ⟨w.heap.size, 0, none⟩)), .pointer (some ⟨w.heap.size, 0, none⟩), w.alloc (.stringIter ⟨s.toArray⟩ 0), .inl ?_, Imm.le_refl H,
      I.alloc (hdr := .pointer (some ⟨w.heap.size, 0, none⟩)) hT hd rfl (.one rfl (.ptr (B.set_same _ _))) ⟨_, B.set_same _ _, heap_alloc_new w _⟩ rfl rfl rfl rfl⟩
    simp [execOp, hop, Instr.range, run_underlying hu, hX.str_inv, run_newObj]
  · simp at h

theorem asIdx_ok {v : V} {n : Int} {u : Value} (h : asIdx v = some n) (hr : RVv H B v u) : ∃ k, u = .int k n := by
  unfold asIdx at h
  split at h
  · simp at h; subst h; exact ⟨_, hr.int_inv⟩
  · simp at h

mutual
theorem zD_ok : ∀ {z : V} {zd : D} {cs : List Value}, z.zD = some zd → RV H B z cs → RD H zd cs
  | .d x, zd, cs, h, hr => by simp [V.zD] at h; subst h; cases hr with | d h => exact h
  | .nils, zd, cs, h, hr => by simp [V.zD] at h; subst h; cases hr; exact .sl0 _ _
  | .agg l, zd, cs, h, hr => by
    simp only [V.zD] at h
    split at h
    · simp at h; subst h; cases hr with | agg h => exact .agg (zDs_ok ‹_› h)
    · simp at h
  | .own t, zd, cs, h, _ => by simp [V.zD] at h
  | .mp t, zd, cs, h, _ => by simp [V.zD] at h
  | .ptr t o p, zd, cs, h, _ => by simp [V.zD] at h
  | .eptr t i s o p, zd, cs, h, _ => by simp [V.zD] at h
  | .sptr t n, zd, cs, h, _ => by simp [V.zD] at h
  | .fref x, zd, cs, h, _ => by simp [V.zD] at h
  | .clo f l, zd, cs, h, _ => by simp [V.zD] at h
  | .tup l, zd, cs, h, _ => by simp [V.zD] at h
  | .skp, zd, cs, h, _ => by simp [V.zD] at h
  | .und, zd, cs, h, _ => by simp [V.zD] at h
theorem zDs_ok : ∀ {z : List V} {zd : List D} {cs : List Value}, V.zDs z = some zd → RVs H B z cs → RDs H zd cs
  | [], zd, cs, h, hr => by simp [V.zDs] at h; subst h; cases hr; exact .nil
  | x :: l, zd, cs, h, hr => by
    simp only [V.zDs] at h
    split at h
    · simp at h; subst h; cases hr with | cons h1 h2 => exact .cons (zD_ok ‹_› h1) (zDs_ok ‹_› h2)
    · simp at h
end

/-- 'n' copies of a zero value. -/
theorem zero_cells {zd : D} {zc : List Value} (hz : RD H zd zc) : ∀ n, RDs H (List.replicate n zd) (List.replicate n zc).flatten
  | 0 => .nil
  | n + 1 => by simp only [List.replicate_succ, List.flatten_cons]; exact .cons hz (zero_cells hz n)

theorem range_cells (z : Array Value) (hz : 0 < z.size) (n : Nat) : ((Array.range (n * z.size)).map (z[· % z.size]!)).toList = (List.replicate n z.toList).flatten := by
  induction n with
  | zero => simp
  | succ n ih =>
    rw [List.replicate_succ', List.flatten_append]
    have h1 : Array.range ((n + 1) * z.size) = Array.range (n * z.size) ++ (Array.range z.size).map (n * z.size + ·) := by
      apply Array.ext'
      simp [Nat.succ_mul, List.range_add]
    rw [h1, Array.map_append, Array.toList_append, ih]
    congr 1
    apply List.ext_getElem?
    intro j
    simp only [Array.map_map, Array.toList_map, Array.toList_range, List.getElem?_map, List.flatten_cons, List.flatten_nil, List.append_nil]
    by_cases hj : j < z.size
    · rw [List.getElem?_range hj]
      have : (n * z.size + j) % z.size = j := by rw [Nat.mul_comm, Nat.mul_add_mod]; exact Nat.mod_eq_of_lt hj
      simp only [Option.map_some, Function.comp, this, Array.getElem?_toList]
      simp [hj]
    · simp [hj]

theorem mks_ok (G : GlOk gl H0) (I : Inv w0 O H0 N K B0 H B σ a w) {T : Nat} (hT : 1000 ≤ T) (hd : ∀ d, o.dst = some d → d < N) {t el : TypeId} {x y : Operand} {X' Y : X} {sz by' : Nat} {z : V} {zd : D} {e : Eff} {call : CallF}
    (hop : o.op = .makeSlice t x y) (hu : P.underlying t = some (.slice el)) (hx : cX x = some X') (hy : cX y = some Y) (hsz : szOf P el = some sz) (hby : byOf P el = some by') (hz : zeroOf P el = some z)
    (hzd : z.zD = some zd) (h0 : 0 < sz) (h : evalOp call T (.mks el sz by' zd X' Y) (σ.val gl) σ.get = some e) : Done P w0 O H0 N K B0 H σ a w o e := by
  have hX := X_ok G I hx
  have hY := X_ok G I hy
  simp only [evalOp] at h
  split at h
  · rename_i l c hl hc
    split at h
    · rename_i hcond
      obtain ⟨h1, h2, h9, h3, h4⟩ := hcond
      simp at h; subst h
      obtain ⟨kl, hul⟩ := asIdx_ok hl hX
      obtain ⟨kc, huc⟩ := asIdx_ok hc hY
      obtain ⟨zv, hzv, _, hzc⟩ := zeroOf_ok (H := H) (B := B) hz
      have hzD := zD_ok hzd hzc
      have hzs : zv.cells.size = sz := by rw [← Array.length_toList, hzD.size, h4]
      obtain ⟨i, hi, hib⟩ : ∃ i, P.info? el = some i ∧ i.bytes = by' := by
        unfold byOf at hby
        cases hi : P.info? el with
        | none => simp [hi] at hby
        | some i => exact ⟨i, rfl, by simpa [hi] using hby⟩
      have hbl : (by' : Int) * l ≤ (by' : Int) * c := Int.mul_le_mul_of_nonneg_left h2 (by omega)
      have hwl : IntKind.i64.wrap l = l := IntWalk.i64_in l (by omega)
      have hwc : IntKind.i64.wrap c = c := IntWalk.i64_in c (by omega)
      have hcond : ¬ (((decide (c < 0) || decide ((i.bytes : Int) * c > 2 ^ 48)) || decide (l < 0) || decide (l > c)) = true) := by
        rw [hib]; simp only [Bool.or_eq_true, decide_eq_true_eq]; omega
      have hcells := range_cells zv.cells (by omega) c.toNat
      rw [hzs] at hcells
      let cs : Array Value := (Array.range (c.toNat * sz)).map (fun k => zv.cells[k % sz]!)
      have hrun : (execOp a.eval o).run P w = .ok (.value (.slice (some ⟨w.heap.size, 0, none⟩) l.toNat c.toNat)) (w.alloc (.cells cs el)) := by
        simp only [execOp, hop, Instr.makeSlice, Sem.run_bind, run_underlying hu, Result.andThen_ok, hul, huc, asInt, asIntOf, Sem.run_pure, run_info hi, hwl, hwc]
        rw [if_neg hcond]
        simp only [Sem.run_bind, run_askRoom, Result.andThen_ok, run_szOf hsz]
        by_cases hz0 : c.toNat * sz = 0
        · have hcs : cs = #[] := by simp [cs, hz0]
          rw [if_pos hz0, hcs]
          have hr0 : Array.range 0 = #[] := by simp
          simp only [hz0, hr0, Array.map_empty, Sem.run_bind, Sem.run_pure, Result.andThen_ok, newRow]
          simp [run_newObj]
        · rw [if_neg hz0]
          simp [hzv, newRow, run_newObj, hzs, cs]
      refine ⟨H, B.set T (.slice (some ⟨w.heap.size, 0, none⟩) l.toNat c.toNat), _, _, .inl hrun, Imm.le_refl H, ?_⟩
      have hsplit : (List.replicate c.toNat zv.cells.toList).flatten = (List.replicate l.toNat zv.cells.toList).flatten ++ (List.replicate (c.toNat - l.toNat) zv.cells.toList).flatten := by
        rw [← List.flatten_append, List.replicate_append_replicate]; congr 2; omega
      refine I.alloc (hdr := .slice (some ⟨w.heap.size, 0, none⟩) l.toNat c.toNat) hT hd rfl (.one rfl (.own (B.set_same _ _)))
        (.inr ⟨w.heap.size, c.toNat, cs, (List.replicate l.toNat zv.cells.toList).flatten, (List.replicate (c.toNat - l.toNat) zv.cells.toList).flatten, ?_, heap_alloc_new w _, ?_, zero_cells hzD _, ?_, ?_, ?_⟩) rfl rfl rfl rfl
      · rw [B.set_same]; simp
      · rw [← hsplit]; exact hcells
      · intro x hx; rw [List.eq_of_mem_replicate hx]; exact h4
      · simp; omega
      · simp [cs]
    · simp at h
  · simp at h

end Go.Ev
end

/- Each operation of the model does what the evaluator says: strings and slices cut and indexed, fields, tuples. -/
section
namespace Go.Ev
variable {P : Program} {gl : Nat → Option D}
variable {w0 : World} {O : Nat → Prop} {H0 : Imm} {N : Nat} {K : Nat → Prop} {B0 : Bind} {H : Imm} {B : Bind} {σ : St} {a : Act} {w : World} {o : Oper}

/-! ## Bounds -/
theorem asIdx_run {v : V} {n : Int} {u : Value} (h : asIdx v = some n) (hr : RVv H B v u) : ∃ k, (asIntOf u).run P w = .ok (k, n) w := by
  obtain ⟨k, rfl⟩ := asIdx_ok h hr
  exact ⟨k, rfl⟩

theorem run_bound {v : V} {k y : Nat} {n : Int} {u : Value} {code : BoundsCode} (h : asIdx v = some n) (hn : 0 ≤ n) (hk : n.toNat = k) (hr : RVv H B v u) (hy : k ≤ y) :
    (Instr.sliceBound u y code).run P w = .ok k w := by
  obtain ⟨kk, hkk⟩ := asIdx_run (P := P) (w := w) h hr
  have : 0 ≤ n ∧ n ≤ (y : Int) := by omega
  simp [Instr.sliceBound, hkk, this, hk]

/-- The bounds 'l', 'h' of a slice expression without a third index. -/
theorem run_bounds (G : GlOk gl H0) (I : Inv w0 O H0 N K B0 H B σ a w) {lo hi : Option Operand} {Lo Hi : Option X} {len cap l h : Nat} {b : Bool}
    (hlo : optX lo = some Lo) (hhi : optX hi = some Hi) (h1 : optIdx (σ.val gl) Lo 0 = some l) (h2 : optIdx (σ.val gl) Hi len = some h)
    (hl : l ≤ h) (hh : h ≤ cap) (hlen : len ≤ cap) :
    (Instr.sliceBounds b len cap (lo.map a.eval) (hi.map a.eval) none).run P w = .ok (l, h, cap) w := by
  have hHi : ∀ y, hi = some y → ∀ code, (Instr.sliceBound (a.eval y) cap code).run P w = .ok h w := by
    rintro x rfl code
    simp only [optX] at hhi
    cases hx : cX x with
    | none => simp [hx] at hhi
    | some X' =>
      simp only [hx, Option.map_some, Option.some.injEq] at hhi; subst hhi
      simp only [optIdx] at h2
      cases hi' : asIdx (σ.val gl X') with
      | none => simp [hi'] at h2
      | some n =>
        simp only [hi'] at h2
        split at h2
        · simp at h2
          exact run_bound hi' ‹_› h2 (X_ok G I hx) hh
        · simp at h2
  have hHn : hi = none → h = len := by
    rintro rfl
    simp [optX] at hhi; subst hhi
    simp [optIdx] at h2; exact h2.symm
  have hLo : ∀ y, lo = some y → ∀ code, (Instr.sliceBound (a.eval y) h code).run P w = .ok l w := by
    rintro x rfl code
    simp only [optX] at hlo
    cases hx : cX x with
    | none => simp [hx] at hlo
    | some X' =>
      simp only [hx, Option.map_some, Option.some.injEq] at hlo; subst hlo
      simp only [optIdx] at h1
      cases hi' : asIdx (σ.val gl X') with
      | none => simp [hi'] at h1
      | some n =>
        simp only [hi'] at h1
        split at h1
        · simp at h1
          exact run_bound hi' ‹_› h1 (X_ok G I hx) hl
        · simp at h1
  have hLn : lo = none → l = 0 := by
    rintro rfl
    simp [optX] at hlo; subst hlo
    simp [optIdx] at h1; exact h1.symm
  cases hi with
  | none =>
    have := hHn rfl; subst this
    cases lo with
    | none => have := hLn rfl; subst this; simp [Instr.sliceBounds]
    | some y => simp [Instr.sliceBounds, hLo y rfl]
  | some z =>
    cases lo with
    | none => have := hLn rfl; subst this; simp [Instr.sliceBounds, hHi z rfl]
    | some y => simp [Instr.sliceBounds, hLo y rfl, hHi z rfl]

theorem slS_ok (G : GlOk gl H0) (I : Inv w0 O H0 N K B0 H B σ a w) (hd : ∀ d, o.dst = some d → d < N) {t : TypeId} {x : Operand} {lo hi : Option Operand} {X' : X} {Lo Hi : Option X} {e : Eff} {call : CallF} {T : Nat}
    (hop : o.op = .slice t x lo hi none) (hu : P.underlying t = some .string) (hx : cX x = some X') (hlo : optX lo = some Lo) (hhi : optX hi = some Hi)
    (h : evalOp call T (.slS X' Lo Hi) (σ.val gl) σ.get = some e) : Done P w0 O H0 N K B0 H σ a w o e := by
  have hX := X_ok G I hx
  simp only [evalOp, okEff] at h
  split at h
  · rename_i s hval
    rw [hval] at hX
    split at h
    · rename_i l h' h1 h2
      split at h
      · rename_i hc
        simp at h; subst h
        have hb := run_bounds (P := P) (b := false) (cap := s.length) G I hlo hhi h1 h2 hc.1 hc.2 (Nat.le_refl _)
        have hex : (⟨⟨s⟩⟩ : ByteArray).extract l h' = ⟨⟨(s.take h').drop l⟩⟩ := by
          have := Lib.extract_data ⟨⟨s⟩⟩ l h'
          cases hh : (⟨⟨s⟩⟩ : ByteArray).extract l h' with
          | mk d =>
            rw [hh] at this
            congr 1
            apply Array.ext'
            simp only at this
            rw [this, List.drop_take]
        refine Done.val I hd (v := .string ⟨⟨(s.take h').drop l⟩⟩) ?_ (.one rfl (.d (.str _)))
        have hsz : (⟨⟨s⟩⟩ : ByteArray).size = s.length := rfl
        simp only [execOp, hop, Instr.sliceAt, Sem.run_bind, run_underlying hu, Result.andThen_ok, Instr.slice, hX.str_inv, Option.isSome_none, Bool.false_eq_true, if_false, hsz, Option.map_none, hb, hex, Sem.run_pure]
      · simp at h
    · simp at h
  · simp at h

theorem RDs_append : ∀ {l1 l2 : List D} {cs : List Value}, RDs H (l1 ++ l2) cs → ∃ c1 c2, cs = c1 ++ c2 ∧ RDs H l1 c1 ∧ RDs H l2 c2
  | [], l2, cs, h => ⟨[], cs, rfl, .nil, h⟩
  | x :: l1, l2, cs, h => by
    cases h with
    | cons h1 h2 =>
      obtain ⟨c1, c2, rfl, h3, h4⟩ := RDs_append h2
      exact ⟨_ ++ c1, c2, by simp, .cons h1 h3, h4⟩

theorem sizes_all {sz : Nat} : ∀ {l : List D}, (∀ x ∈ l, x.size = sz) → D.sizes l = l.length * sz
  | [], _ => by simp [D.sizes]
  | q :: l, hl => by
    have h1 := sizes_all (sz := sz) (l := l) (fun x hx => hl x (List.mem_cons_of_mem _ hx))
    have h2 := hl q (List.mem_cons_self ..)
    simp only [D.sizes, h1, h2, List.length_cons, Nat.succ_mul, Nat.add_comm]

theorem add_facts (ad : Addr) (n : Nat) (hs : ad.spot = none) : (ad.add n).off = ad.off + n ∧ (ad.add n).block = ad.block ∧ (ad.add n).spot = none := by
  unfold Addr.add; split <;> simp_all

/-- A part of a frozen slice. -/
theorem slice_frz {s : List D} {v : Value} {t el : TypeId} {l h sz : Nat} {lo hi : Option Value} (hr : RD H (.sl s) [v]) (hu : P.underlying t = some (.slice el)) (hsz : szOf P el = some sz)
    (hl : l ≤ h) (hh : h ≤ s.length) (hhead : slotAt sz s l = true)
    (hb : ∀ cap, s.length ≤ cap → (Instr.sliceBounds true s.length cap lo hi none).run P w = .ok (l, h, cap) w) :
    ∃ v', (Instr.slice t v lo hi none).run P w = .ok v' w ∧ RD H (.sl ((s.take h).drop l)) [v'] := by
  cases hr with
  | sl0 ad cap =>
    have : l = 0 ∧ h = 0 := by simp at hh; omega
    obtain ⟨rfl, rfl⟩ := this
    refine ⟨.slice (if cap = 0 then ad else ad.map (fun x => x.add (0 * sz))) 0 cap, ?_, by simpa using RD.sl0 _ _⟩
    · have := hb cap (by simp)
      simp only [List.length_nil] at this
      simp only [Instr.slice, Sem.run_bind, run_underlying hu, Result.andThen_ok, this, run_szOf hsz, Sem.run_pure, Nat.sub_zero]
  | sl hH hs hc hp hrd hsizes hcap =>
    rename_i c e fr pre cs post ad cap sz'
    have hrun := hb cap hcap
    refine ⟨.slice (if cap = l then some ad else some (ad.add (l * sz))) (h - l) (cap - l), ?_, ?_⟩
    · simp only [Instr.slice, Sem.run_bind, run_underlying hu, Result.andThen_ok, hrun, run_szOf hsz, Sem.run_pure]
      split <;> rfl
    · have hlen : ((s.take h).drop l).length = h - l := by simp; omega
      by_cases he : h - l = 0
      · have : (s.take h).drop l = [] := List.length_eq_zero_iff.1 (by omega)
        rw [this, he]
        split <;> exact .sl0 _ _
      · have hlt : l < s.length := by omega
        have hcl : cap ≠ l := by omega
        rw [if_neg hcl]
        have hsz' : sz' = sz := by
          simp only [slotAt, List.getElem?_eq_getElem hlt, beq_iff_eq] at hhead
          rw [← hhead]; exact (hsizes _ (List.getElem_mem hlt)).symm
        subst hsz'
        have hs1 : s = s.take l ++ (((s.take h).drop l) ++ s.drop h) := by
          have h1 : s = s.take h ++ s.drop h := (List.take_append_drop _ _).symm
          have h2 : s.take h = (s.take h).take l ++ (s.take h).drop l := (List.take_append_drop _ _).symm
          have h3 : (s.take h).take l = s.take l := by rw [List.take_take]; congr 1; omega
          rw [h3] at h2
          rw [← List.append_assoc, ← h2]; exact h1
        rw [hs1] at hrd
        obtain ⟨c1, c2, rfl, hr1, hr2⟩ := RDs_append hrd
        obtain ⟨c2, c3, rfl, hr2, hr3⟩ := RDs_append hr2
        have hl1 : c1.length = l * sz' := by
          rw [hr1.size, sizes_all (fun x hx => hsizes x (List.mem_of_mem_take hx)), List.length_take, Nat.min_eq_left (by omega)]
        rw [← hlen]
        have hoff := add_facts ad (l * sz') hs
        refine .sl (a := ad.add (l * sz')) (pre := pre ++ c1) (cs := c2) (post := c3 ++ post) (sz := sz') (by rw [hoff.2.1]; exact hH) hoff.2.2 ?_ ?_ hr2 (fun x hx => hsizes x (List.mem_of_mem_take (List.mem_of_mem_drop hx))) (by omega)
        · rw [hc]; simp
        · rw [hoff.1]; simp [hp, hl1]

theorem HF_one {get : Nat → Option Cell} {e : TypeId} {t sz : Nat} {l : List D} (h : HF H B get (V.ftagsL [.own t])) (hg : get t = some (.row e sz l)) : RD H (.sl l) [B t] :=
  (h t (by simp [V.ftagsL, V.ftags])).1 _ _ _ hg

theorem fzw_own {e : TypeId} {t sz : Nat} {l : List D} (hg : σ.get t = some (.row e sz l)) : fzw σ.get [.own t] = [(t, .frz (.sl l))] := by
  simp [fzw, V.ftagsL, V.ftags, addNew, frzWr, hg]

theorem slL_ok (G : GlOk gl H0) (I : Inv w0 O H0 N K B0 H B σ a w) (hd : ∀ d, o.dst = some d → d < N) {t el : TypeId} {x : Operand} {lo hi : Option Operand} {X' : X} {Lo Hi : Option X} {sz : Nat} {e : Eff} {call : CallF} {T : Nat}
    (hop : o.op = .slice t x lo hi none) (hu : P.underlying t = some (.slice el)) (hsz : szOf P el = some sz) (hx : cX x = some X') (hlo : optX lo = some Lo) (hhi : optX hi = some Hi)
    (h : evalOp call T (.slL sz X' Lo Hi) (σ.val gl) σ.get = some e) : Done P w0 O H0 N K B0 H σ a w o e := by
  have hX := X_ok G I hx
  have hexec : ∀ {v' : Value} {w' : World}, (Instr.slice t (a.eval x) (lo.map a.eval) (hi.map a.eval) none).run P w = .ok v' w' → (execOp a.eval o).run P w = .ok (.value v') w' := by
    intro v' w' h
    simp [execOp, hop, Instr.sliceAt, run_underlying hu, h]
  simp only [evalOp, okEff] at h
  split at h
  · -- frozen
    rename_i s hv
    have hR : RVv H B (.d (.sl s)) (a.eval x) ∨ ∃ tt, σ.val gl X' = .own tt ∧ σ.get tt = some (.frz (.sl s)) := by
      unfold slView at hv
      split at hv
      · split at hv
        · simp at hv
        · simp at hv; subst hv; exact .inr ⟨_, ‹_›, ‹_›⟩
        · simp at hv
      · simp at hv; subst hv; rename_i hval; rw [hval] at hX; exact .inl hX
      · simp at hv
      · simp at hv
    have hRD : RD H (.sl s) [a.eval x] := by
      rcases hR with hR | ⟨tt, hval, hg⟩
      · exact hR.d_inv rfl
      · rw [hval] at hX
        obtain ⟨a', n, cap, hB, he⟩ := hX.own_inv
        have := I.cells _ _ hg
        rw [he, ← hB]; exact this
    split at h
    · rename_i l h' h1 h2
      split at h
      · rename_i hc
        simp at h; subst h
        obtain ⟨v', hrun, hr⟩ := slice_frz (w := w) hRD hu hsz hc.1 hc.2.1 hc.2.2 (fun cap hcap => run_bounds G I hlo hhi h1 h2 hc.1 (Nat.le_trans hc.2.1 hcap) hcap)
        exact Done.val I hd (hexec hrun) (.one rfl (.d hr))
      · simp at h
    · simp at h
  · -- nil
    rename_i hv
    have hval : σ.val gl X' = .nils := by
      unfold slView at hv
      split at hv
      · split at hv <;> simp at hv
      · simp at hv
      · assumption
      · simp at hv
    rw [hval] at hX
    split at h
    · rename_i h1 h2
      simp at h; subst h
      have hb := run_bounds (P := P) (b := true) (len := 0) (cap := 0) G I hlo hhi h1 h2 (Nat.le_refl _) (Nat.le_refl _) (Nat.le_refl _)
      refine Done.val I hd (v := .slice none 0 0) (hexec ?_) (.one rfl .nils)
      rw [hX.nils_inv]
      simp only [Instr.slice, Sem.run_bind, run_underlying hu, Result.andThen_ok, hb, run_szOf hsz, Sem.run_pure]
      rfl
    · simp at h
  · -- a row of the call's own
    rename_i tt ety sz' s hv
    have hval : σ.val gl X' = .own tt ∧ σ.get tt = some (.row ety sz' s) := by
      unfold slView at hv
      split at hv
      · split at hv
        · simp at hv; obtain ⟨rfl, rfl, rfl, rfl⟩ := hv; exact ⟨‹_›, ‹_›⟩
        · simp at hv
        · simp at hv
      · simp at hv
      · simp at hv
      · simp at hv
    obtain ⟨hval, hg⟩ := hval
    rw [hval] at hX
    obtain ⟨ad, n, cap, hB, he⟩ := hX.own_inv
    split at h
    · rename_i l h' h1 h2
      split at h
      · rename_i hc
        obtain ⟨rfl, hl, hh⟩ := hc
        split at h
        · rename_i hl0
          subst hl0
          simp at h; subst h
          -- the same row, cut
          have hlen : n = s.length ∧ s.length ≤ cap ∧ CellOk H (B.set tt (.slice ad h' cap)) w tt (.row ety sz' (s.take h')) := by
            rcases I.cells _ _ hg with ⟨rfl, h3⟩ | ⟨b, cap', c, cs, post, h3, h4, h5, h6, h7, h8, h9⟩
            · rw [hB] at h3; cases h3
              refine ⟨rfl, Nat.le_refl _, .inl ⟨by simp, ?_⟩⟩
              rw [B.set_same]; simp at hh; subst hh; rfl
            · rw [hB] at h3; cases h3
              have hs : s = s.take h' ++ s.drop h' := (List.take_append_drop _ _).symm
              rw [hs] at h6
              obtain ⟨c1, c2, rfl, h10, h11⟩ := RDs_append h6
              refine ⟨rfl, h8, .inr ⟨b, cap, c, c1, c2 ++ post, ?_, h4, by rw [h5]; simp, h10, fun x hx => h7 x (List.mem_of_mem_take hx), by simp; omega, h9⟩⟩
              rw [B.set_same]; simp [Nat.min_eq_left hh]
          obtain ⟨rfl, hcap, hok⟩ := hlen
          have hb := run_bounds (P := P) (b := true) (cap := cap) G I hlo hhi h1 h2 hl (Nat.le_trans hh hcap) hcap
          have hrun : (Instr.slice t (a.eval x) (lo.map a.eval) (hi.map a.eval) none).run P w = .ok (.slice ad h' cap) w := by
            rw [he]
            simp only [Instr.slice, Sem.run_bind, run_underlying hu, Result.andThen_ok, hb, run_szOf hsz, Sem.run_pure, Nat.sub_zero, Nat.zero_mul]
            cases ad with
            | none => simp
            | some ad => simp [Addr.add]
          refine ⟨H, B.set tt (.slice ad h' cap), _, w, .inl (hexec hrun), Imm.le_refl H, ?_⟩
          refine I.rehead hd hg rfl (by simp) (fun b hb => .inr ?_) (.one rfl (.own (B.set_same _ _))) hok (fun _ _ _ => rfl) (Nat.le_refl _) rfl rfl rfl
          rw [hB]; cases ad <;> simpa [blkOf] using hb
        · -- a part from the middle: the row is frozen
          rename_i hl0
          simp at h; subst h
          obtain ⟨H', I1, hle, hF⟩ := I.freeze [.own tt]
          have hRD : RD H' (.sl s) [a.eval x] := by
            have := HF_one hF hg
            rw [hB] at this; rw [he]; exact this
          have hhead : slotAt sz' s l = true := by
            unfold slotAt
            cases hsl : s[l]? with
            | none => rfl
            | some y =>
              rcases I.cells _ _ hg with ⟨rfl, h3⟩ | ⟨b, cap', c, cs, post, h3, h4, h5, h6, h7, h8, h9⟩
              · simp at hsl
              · simp [h7 y (List.mem_of_getElem? hsl)]
          obtain ⟨v', hrun, hr⟩ := slice_frz (w := w) hRD hu hsz hl hh hhead (fun cap hcap => run_bounds G I hlo hhi h1 h2 hl (Nat.le_trans hh hcap) hcap)
          refine ⟨H', B, v', w, .inl (hexec hrun), hle, ?_⟩
          have hput := put_after_freeze σ o.dst (.d (.sl ((s.take h').drop l))) [.own tt] [] []
          rw [fzw_own hg] at hput I1
          simp only [List.append_nil] at hput
          rw [← hput]
          exact I1.same hd (.one rfl (.d hr))
      · simp at h
    · simp at h
  · simp at h

end Go.Ev
end

/- Each operation of the model does what the evaluator says: fields, elements, tuples, lengths, conversions. -/
section
namespace Go.Ev
variable {P : Program} {gl : Nat → Option D}
variable {w0 : World} {O : Nat → Prop} {H0 : Imm} {N : Nat} {K : Nat → Prop} {B0 : Bind} {H : Imm} {B : Bind} {σ : St} {a : Act} {w : World} {o : Oper}

theorem addr_add (b o' n : Nat) : (⟨b, o', none⟩ : Addr).add n = ⟨b, o' + n, none⟩ := by unfold Addr.add; split <;> simp_all

theorem sizes_map (ds : List D) : V.sizes (ds.map V.d) = D.sizes ds := by
  induction ds with
  | nil => rfl
  | cons x l ih => simp [V.sizes, D.sizes, V.size, ih]

/-- A frozen part of a frozen aggregate. -/
theorem fref_part {ds : List D} {i : Nat} {y : D} {v : Value} (hr : RVv H B (.fref (.agg ds)) v) (hy : ds[i]? = some y) :
    ∃ ad : Addr, v = .pointer (some ad) ∧ RVv H B (.fref y) (.pointer (some (ad.add (D.sizes (ds.take i))))) := by
  obtain ⟨ad, c, e, fr, pre, cs, post, h1, h2, h3, h4, h5, rfl⟩ := hr.fref_inv
  cases h5 with
  | agg h6 =>
    obtain ⟨pre2, mid, post2, rfl, hp, hu, _⟩ := RVs_split (H := H) (B := B) (RVs_of_RDs h6) (i := i) (u := .d y) (by simp [hy])
    cases hu with
    | d hu =>
      have hoff := add_facts ad (D.sizes (ds.take i)) h2
      refine ⟨ad, rfl, .one rfl (.fref (pre := pre ++ pre2) (cs := mid) (post := post2 ++ post) (by rw [hoff.2.1]; exact h1) hoff.2.2 (by rw [h3]; simp) ?_ hu)⟩
      rw [hoff.1, List.length_append, h4, hp, ← List.map_take, sizes_map]

theorem fa_ok (G : GlOk gl H0) (I : Inv w0 O H0 N K B0 H B σ a w) (hd : ∀ d, o.dst = some d → d < N) {s : TypeId} {x : Operand} {X' : X} {fs : Array Field} {f : Nat} {fd : Field} {sz : Nat} {e : Eff} {call : CallF} {T : Nat}
    (hop : o.op = .fieldAddr s x f) (hu : P.underlying s = some (.struct fs)) (hf : fs[f]? = some fd) (hsz : szOf P fd.type = some sz) (h0 : 0 < sz) (hx : cX x = some X')
    (h : evalOp call T (.fa X' f fd.offset) (σ.val gl) σ.get = some e) : Done P w0 O H0 N K B0 H σ a w o e := by
  have hX := X_ok G I hx
  have hrun : ∀ ad : Addr, a.eval x = .pointer (some ad) → (execOp a.eval o).run P w = .ok (.value (.pointer (some (ad.add fd.offset)))) w := by
    intro ad he
    simp only [execOp, hop, Instr.fieldAt, Sem.run_bind, run_underlying hu, Result.andThen_ok, hf, he, Instr.sureAddr, Sem.run_pure, fieldPlace, run_szOf hsz]
    rw [if_neg (by omega)]
    rfl
  simp only [evalOp, okEff] at h
  split at h
  · rename_i t o' p hval
    rw [hval] at hX
    obtain ⟨b, hB, he⟩ := hX.ptr_inv
    simp at h; subst h
    refine Done.val I hd (hrun _ he) ?_
    rw [addr_add]; exact .one rfl (.ptr hB)
  · rename_i t j s' o' p hval
    rw [hval] at hX
    obtain ⟨b, n, cap, hB, he⟩ := hX.eptr_inv
    simp at h; subst h
    refine Done.val I hd (hrun _ he) ?_
    rw [addr_add, Nat.add_assoc]; exact .one rfl (.eptr hB)
  · rename_i ds hval
    rw [hval] at hX
    split at h
    · rename_i y hy
      split at h
      · rename_i hs
        simp at h; subst h
        obtain ⟨ad, he, hr⟩ := fref_part hX hy
        rw [hs] at hr
        exact Done.val I hd (hrun _ he) hr
      · simp at h
    · simp at h
  · simp at h

/-- 'part': a field or an element of an aggregate. -/
theorem run_part_at {t : TypeId} {sz off : Nat} {ag : Bool} {cs : Array Value} {pre mid post : List Value} {u : V}
    (hsz : szOf P t = some sz) (hag : agOf P t = some ag) (hc : cs.toList = pre ++ (mid ++ post)) (hp : pre.length = off) (hu : RV H B u mid) (hus : u.size = sz) (hua : u.isAgg = ag) :
    ∃ v, (part t cs off).run P w = .ok v w ∧ RVv H B u v := by
  have hml : mid.length = sz := hu.size.trans hus
  cases ag with
  | true =>
    refine ⟨.agg mid.toArray, ?_, .agg hua hu⟩
    have : cs.extract off (off + sz) = mid.toArray := by
      apply Array.ext'
      rw [Array.toList_extract, hc, ← hp, ← hml]
      simp [List.extract]
    simp [part, run_agOf hag, run_szOf hsz, this]
  | false =>
    obtain ⟨v, rfl⟩ : ∃ v, mid = [v] := by
      cases hu with
      | d h1 => cases h1 <;> first | exact ⟨_, rfl⟩ | simp [V.isAgg, D.isAgg] at hua
      | agg _ => simp [V.isAgg] at hua
      | _ => exact ⟨_, rfl⟩
    refine ⟨v, ?_, .one hua hu⟩
    have : cs[off]? = some v := by rw [← Array.getElem?_toList, hc, ← hp]; simp
    simp [part, run_agOf hag, this]

theorem fld_ok (G : GlOk gl H0) (I : Inv w0 O H0 N K B0 H B σ a w) (hd : ∀ d, o.dst = some d → d < N) {s : TypeId} {x : Operand} {X' : X} {fs : Array Field} {f : Nat} {fd : Field} {sz : Nat} {ag : Bool} {e : Eff} {call : CallF} {T : Nat}
    (hop : o.op = .field s x f) (hu : P.underlying s = some (.struct fs)) (hf : fs[f]? = some fd) (hsz : szOf P fd.type = some sz) (hag : agOf P fd.type = some ag) (hx : cX x = some X')
    (h : evalOp call T (.fld X' f fd.offset sz ag) (σ.val gl) σ.get = some e) : Done P w0 O H0 N K B0 H σ a w o e := by
  have hX := X_ok G I hx
  simp only [evalOp, okEff] at h
  split at h
  · rename_i l hk
    split at h
    · rename_i u hu'
      split at h
      · rename_i hc
        simp at h; subst h
        obtain ⟨cs, he, hr⟩ := hX.agg_cells (kids_isAgg hk)
        obtain ⟨pre, mid, post, hcs, hp, hum, _⟩ := RVs_split (kids_RVs hk hr) hu'
        obtain ⟨v, hv, hrv⟩ := run_part_at (P := P) (w := w) hsz hag hcs (hp.trans hc.1) hum hc.2.1 hc.2.2
        exact Done.val I hd (v := v) (by simp [execOp, hop, Instr.field, run_underlying hu, hf, he, asAgg, hv]) hrv
      · simp at h
    · simp at h
  · simp at h

theorem ixA_ok (G : GlOk gl H0) (I : Inv w0 O H0 N K B0 H B σ a w) (hd : ∀ d, o.dst = some d → d < N) {t el : TypeId} {x y : Operand} {X' Y : X} {n sz : Nat} {ag : Bool} {e : Eff} {call : CallF} {T : Nat}
    (hop : o.op = .index t x y) (hu : P.underlying t = some (.array n el)) (hsz : szOf P el = some sz) (hag : agOf P el = some ag) (hx : cX x = some X') (hy : cX y = some Y)
    (h : evalOp call T (.ixA n sz ag X' Y) (σ.val gl) σ.get = some e) : Done P w0 O H0 N K B0 H σ a w o e := by
  have hX := X_ok G I hx
  have hY := X_ok G I hy
  simp only [evalOp, okEff] at h
  split at h
  · rename_i l k hk hi
    split at h
    · rename_i hkn
      split at h
      · rename_i u hu'
        split at h
        · rename_i hc
          simp at h; subst h
          obtain ⟨cs, he, hr⟩ := hX.agg_cells (kids_isAgg hk)
          obtain ⟨kk, hyv⟩ := asIdx_ok hi hY
          obtain ⟨pre, mid, post, hcs, hp, hum, _⟩ := RVs_split (kids_RVs hk hr) hu'
          obtain ⟨v, hv, hrv⟩ := run_part_at (P := P) (w := w) hsz hag hcs (hp.trans hc.1) hum hc.2.1 hc.2.2
          have hin : 0 ≤ k ∧ k < (n : Int) := by omega
          exact Done.val I hd (v := v) (by simp [execOp, hop, Instr.index, hyv, asIntOf, run_underlying hu, he, hin, run_szOf hsz, hv]) hrv
        · simp at h
      · simp at h
    · simp at h
  · simp at h

theorem ixS_ok (G : GlOk gl H0) (I : Inv w0 O H0 N K B0 H B σ a w) (hd : ∀ d, o.dst = some d → d < N) {t : TypeId} {x y : Operand} {X' Y : X} {e : Eff} {call : CallF} {T : Nat}
    (hop : o.op = .index t x y) (hu : P.underlying t = some .string) (hx : cX x = some X') (hy : cX y = some Y)
    (h : evalOp call T (.ixS X' Y) (σ.val gl) σ.get = some e) : Done P w0 O H0 N K B0 H σ a w o e := by
  have hX := X_ok G I hx
  have hY := X_ok G I hy
  simp only [evalOp, okEff] at h
  split at h
  · rename_i s n hval hi
    rw [hval] at hX
    split at h
    · rename_i h0
      split at h
      · rename_i b hb
        simp at h; subst h
        obtain ⟨kk, hyv⟩ := asIdx_ok hi hY
        have hb' : (⟨⟨s⟩⟩ : ByteArray)[n.toNat]? = some b := by
          obtain ⟨hlt, hb⟩ := List.getElem?_eq_some_iff.1 hb
          have hlt' : n.toNat < (⟨⟨s⟩⟩ : ByteArray).size := hlt
          rw [getElem?_pos (⟨⟨s⟩⟩ : ByteArray) n.toNat hlt']
          exact congrArg some hb
        exact Done.val I hd (v := .int .u8 b.toNat) (by simp [execOp, hop, Instr.index, hyv, asIntOf, run_underlying hu, hX.str_inv, h0, hb']) (.one rfl (.d (.int _ _)))
      · simp at h
    · simp at h
  · simp at h

theorem frz_of_view (I : Inv w0 O H0 N K B0 H B σ a w) {x : V} {v : Value} {s : List D} (hX : RVv H B x v) (hv : slView σ.get x = some (.frz s)) : RD H (.sl s) [v] := by
  unfold slView at hv
  split at hv
  · split at hv
    · simp at hv
    · rename_i tt s' hg
      simp at hv; subst hv
      obtain ⟨a', n, cap, hB, he⟩ := hX.own_inv
      have := I.cells _ _ hg
      rw [he, ← hB]; exact this
    · simp at hv
  · simp at hv; subst hv; exact hX.d_inv rfl
  · simp at hv
  · simp at hv

theorem own_of_view {x : V} {e : TypeId} {t sz : Nat} {s : List D} (hv : slView σ.get x = some (.own t e sz s)) : x = .own t ∧ σ.get t = some (.row e sz s) := by
  unfold slView at hv
  split at hv
  · split at hv
    · simp at hv; obtain ⟨rfl, rfl, rfl, rfl⟩ := hv; exact ⟨rfl, ‹_›⟩
    · simp at hv
    · simp at hv
  · simp at hv
  · simp at hv
  · simp at hv

theorem nil_of_view {x : V} (hv : slView σ.get x = some .nil) : x = .nils := by
  unfold slView at hv
  split at hv
  · split at hv <;> simp at hv
  · simp at hv
  · rfl
  · simp at hv

theorem RDs_get {l : List D} {cs : List Value} {i : Nat} {y : D} {sz : Nat} (h : RDs H l cs) (hy : l[i]? = some y) (hs : ∀ x ∈ l, x.size = sz) :
    ∃ pre mid post, cs = pre ++ (mid ++ post) ∧ pre.length = i * sz ∧ RD H y mid := by
  obtain ⟨pre, mid, post, rfl, hp, hu, _⟩ := RVs_split (H := H) (B := fun _ => undef) (RVs_of_RDs h) (i := i) (u := .d y) (by simp [hy])
  refine ⟨pre, mid, post, rfl, ?_, by cases hu with | d h => exact h⟩
  rw [hp]; exact sizes_map_take hs (Nat.le_of_lt (List.getElem?_eq_some_iff.1 hy).1)

theorem ia_ok (G : GlOk gl H0) (I : Inv w0 O H0 N K B0 H B σ a w) (hd : ∀ d, o.dst = some d → d < N) {t el : TypeId} {x y : Operand} {X' Y : X} {sz : Nat} {e : Eff} {call : CallF} {T : Nat}
    (hop : o.op = .indexAddr t x y) (hu : P.underlying t = some (.slice el)) (hsz : szOf P el = some sz) (hx : cX x = some X') (hy : cX y = some Y)
    (h : evalOp call T (.ia sz X' Y) (σ.val gl) σ.get = some e) : Done P w0 O H0 N K B0 H σ a w o e := by
  have hX := X_ok G I hx
  have hY := X_ok G I hy
  have hrun : ∀ {ad : Addr} {n cap : Nat} {k : Int} {kk : IntKind}, a.eval x = .slice (some ad) n cap → a.eval y = .int kk k → 0 ≤ k → k.toNat < n →
      (execOp a.eval o).run P w = .ok (.value (.pointer (some (ad.add (k.toNat * sz))))) w := by
    intro ad n cap k kk he hye h0 hlt
    have hin : 0 ≤ k ∧ k < (n : Int) := by omega
    simp [execOp, hop, Instr.indexAt, hye, asIntOf, run_underlying hu, he, hin, run_szOf hsz]
  simp only [evalOp, okEff] at h
  split at h
  · rename_i s n hv hi
    obtain ⟨kk, hyv⟩ := asIdx_ok hi hY
    split at h
    · rename_i h0
      split at h
      · rename_i y' hy'
        split at h
        · rename_i hs
          simp at h; subst h
          have hRD := frz_of_view I hX hv
          have hlt := (List.getElem?_eq_some_iff.1 hy').1
          generalize a.eval x = xv at hRD hrun
          cases hRD with
          | sl0 ad cap => simp at hy'
          | sl h1 h2 h3 h4 h5 h6 h7 =>
            rename_i c e fr pre cs post ad cap sz'
            have : sz' = sz := by rw [← hs]; exact (h6 _ (List.mem_of_getElem? hy')).symm
            subst this
            obtain ⟨p2, mid, q2, rfl, hp, hu⟩ := RDs_get h5 hy' h6
            have hoff := add_facts ad (n.toNat * sz') h2
            refine Done.val I hd (hrun rfl hyv h0 hlt) (.one rfl (.fref (pre := pre ++ p2) (cs := mid) (post := q2 ++ post) (by rw [hoff.2.1]; exact h1) hoff.2.2 (by rw [h3]; simp) (by rw [hoff.1, List.length_append, h4, hp]) hu))
        · simp at h
      · simp at h
    · simp at h
  · rename_i tt sz' l n hv hi
    obtain ⟨kk, hyv⟩ := asIdx_ok hi hY
    obtain ⟨hval, hg⟩ := own_of_view hv
    split at h
    · rename_i hc
      obtain ⟨h0, hlt, rfl⟩ := hc
      simp at h; subst h
      rw [hval] at hX
      obtain ⟨ad, m, cap, hB, he⟩ := hX.own_inv
      rcases I.cells _ _ hg with ⟨rfl, _⟩ | ⟨b, cap', c, cs, post, h3, h4, h5, h6, h7, h8, h9⟩
      · simp at hlt
      · rw [hB] at h3; cases h3
        refine Done.val I hd (hrun he hyv h0 hlt) ?_
        rw [addr_add, Nat.zero_add, ← Nat.add_zero (n.toNat * sz')]
        exact .one rfl (.eptr hB)
    · simp at h
  · rename_i k hv hi
    obtain ⟨kk, hyv⟩ := asIdx_ok hi hY
    split at h
    · rename_i tt n hval
      split at h
      · rename_i hc
        simp at h; subst h
        rw [hval] at hX
        obtain ⟨b, hB, he⟩ := hX.sptr_inv
        refine Done.val I hd (hrun he hyv hc.1 hc.2) ?_
        rw [addr_add, Nat.zero_add]
        exact .one rfl (.ptr hB)
      · simp at h
    · simp at h
  · simp at h

theorem iaA_ok (G : GlOk gl H0) (I : Inv w0 O H0 N K B0 H B σ a w) (hd : ∀ d, o.dst = some d → d < N) {t el : TypeId} {x y : Operand} {X' Y : X} {n sz : Nat} {e : Eff} {call : CallF} {T : Nat}
    (hop : o.op = .indexAddr t x y) (hu : P.underlying t = some (.array n el)) (hsz : szOf P el = some sz) (hx : cX x = some X') (hy : cX y = some Y)
    (h : evalOp call T (.iaA n sz X' Y) (σ.val gl) σ.get = some e) : Done P w0 O H0 N K B0 H σ a w o e := by
  have hX := X_ok G I hx
  have hY := X_ok G I hy
  have hrun : ∀ {ad : Addr} {k : Int} {kk : IntKind}, a.eval x = .pointer (some ad) → a.eval y = .int kk k → 0 ≤ k → k.toNat < n →
      (execOp a.eval o).run P w = .ok (.value (.pointer (some (ad.add (k.toNat * sz))))) w := by
    intro ad k kk he hye h0 hlt
    have hin : 0 ≤ k ∧ k < (n : Int) := by omega
    simp [execOp, hop, Instr.indexAt, hye, asIntOf, run_underlying hu, he, hin, run_szOf hsz, Instr.sureAddr]
  simp only [evalOp, okEff] at h
  split at h
  · rename_i tt o' p k hval hi
    obtain ⟨kk, hyv⟩ := asIdx_ok hi hY
    split at h
    · rename_i hc
      simp at h; subst h
      rw [hval] at hX
      obtain ⟨b, hB, he⟩ := hX.ptr_inv
      refine Done.val I hd (hrun he hyv hc.1 hc.2) ?_
      rw [addr_add]; exact .one rfl (.ptr hB)
    · simp at h
  · rename_i ds k hval hi
    obtain ⟨kk, hyv⟩ := asIdx_ok hi hY
    split at h
    · rename_i hc
      split at h
      · rename_i y' hy'
        split at h
        · rename_i hs
          simp at h; subst h
          rw [hval] at hX
          obtain ⟨ad, he, hr⟩ := fref_part hX hy'
          rw [hs] at hr
          exact Done.val I hd (hrun he hyv hc.1 hc.2) hr
        · simp at h
      · simp at h
    · simp at h
  · simp at h

theorem ext_ok (G : GlOk gl H0) (I : Inv w0 O H0 N K B0 H B σ a w) (hd : ∀ d, o.dst = some d → d < N) {x : Operand} {X' : X} {i : Nat} {e : Eff} {call : CallF} {T : Nat}
    (hop : o.op = .extract x i) (hx : cX x = some X') (h : evalOp call T (.ext X' i) (σ.val gl) σ.get = some e) : Done P w0 O H0 N K B0 H σ a w o e := by
  have hX := X_ok G I hx
  simp only [evalOp, okEff] at h
  split at h
  · rename_i l hval
    rw [hval] at hX
    split at h
    · rename_i v hv
      simp at h; subst h
      obtain ⟨vs, hvs, he⟩ := hX.tup_inv
      obtain ⟨u, hu, hr⟩ := hvs.get hv
      exact Done.val I hd (v := u) (by simp [execOp, hop, Instr.extract, he, hu]) hr
    · simp at h
  · simp at h

end Go.Ev
end
