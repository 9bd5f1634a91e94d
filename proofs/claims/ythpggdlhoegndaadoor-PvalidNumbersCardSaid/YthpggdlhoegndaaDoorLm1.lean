/-
  A LOGICAL MACHINE: a deterministic evaluator over pure values for the part of the language that this program uses.
  Definitions only: values, operations with their types resolved, the evaluator, and the compiler from the model's code.
  Its soundness against the model's calls is proved in the texts behind this one.
-/
import Derived.Calls
import Derived.KernelRfl
set_option linter.all false
namespace Go.Proofs.YthpggdlhoegndaaDoor.LM
open Go

/-- Logical values. A slice, and a pointer into what is never written any more, bear their content; what can be written lies behind a number. -/
inductive V where
  | bool (b : Bool) | int (k : IntKind) (n : Int) | float (k : FloatKind) (b : Nat)
  | str (s : List UInt8)
  | nilp | nilmap | nilfunc | nilif | undef
  | loc (t g off : Nat) | ref (i off : Nat) | rptr (i e idx off : Nat) | row (i e : Nat) | map (i : Nat)
  | cptr (cs : List V) (off : Nat)
  | slice (xs : List V) (full : Bool)
  | func (f : Nat) (caps : List V)
  | iface (t : Nat) (v : V)
  | agg (cs : List V) | tuple (vs : List V)
  deriving Inhabited

def V.cells : V → List V
  | .agg cs => cs
  | v => [v]

/-- one cell's value that needs nothing but itself -/
def V.pureCell : V → Bool
  | .bool _ | .int _ _ | .float _ _ | .str _ | .nilp | .nilmap | .nilfunc | .nilif | .cptr _ _ | .slice _ _ => true
  | _ => false
def V.pureIf : V → Bool
  | .func _ caps => caps.all V.pureCell
  | .iface _ (.agg cs) => cs.all V.pureCell
  | .iface _ v => v.pureCell
  | v => v.pureCell
def V.pure : V → Bool
  | .agg cs => cs.all V.pureIf
  | v => v.pureIf

/-- goes into one cell -/
def V.one : V → Bool
  | .agg _ | .tuple _ | .undef => false
  | _ => true

def V.isUndef : V → Bool
  | .undef => true
  | _ => false
/-- no number at or above c -/
def V.lowCell (c : Nat) : V → Bool
  | .loc .. | .undef => false
  | .ref i _ | .rptr i _ _ _ | .row i _ | .map i => decide (i < c)
  | .func _ caps => caps.all fun v => match v with | .ref i _ => decide (i < c) | v => v.pureCell
  | v => v.pureIf
def V.low (c : Nat) : V → Bool
  | .agg cs => cs.all (V.lowCell c)
  | v => v.lowCell c

inductive Ob where
  | cells (cs : List V) (fz : Bool)
  | row (xs : List V) (sz : Nat) (fz : Bool)
  | map (es : List (V × V))
  deriving Inhabited

structure HS where
  c : Nat
  os : List (Nat × Ob)
  deriving Inhabited

def lookup (i : Nat) : List (Nat × Ob) → Option Ob
  | [] => none
  | (j, o) :: r => bif Nat.beq i j then some o else lookup i r
def update (i : Nat) (o : Ob) : List (Nat × Ob) → List (Nat × Ob)
  | [] => []
  | (j, p) :: r => bif Nat.beq i j then (j, o) :: r else (j, p) :: update i o r
def HS.get (h : HS) (i : Nat) : Option Ob := lookup i h.os
def HS.set (h : HS) (i : Nat) (o : Ob) : HS := ⟨h.c, update i o h.os⟩
def HS.new (h : HS) (o : Ob) : HS := ⟨h.c + 1, (h.c, o) :: h.os⟩
def HS.none : HS := ⟨0, []⟩

/-- A row is looked at for the last time as something that can be written: it is a slice now. -/
def stillCell (h : HS) : V → Option (V × HS)
  | .row i e => match h.get i with
    | some (.row xs sz _) => bif Nat.beq xs.length e then some (.slice xs false, h.set i (.row xs sz true)) else Option.none
    | _ => Option.none
  | .slice xs _ => some (.slice xs false, h)
  | v => bif v.pureIf then some (v, h) else Option.none
def stillCells (h : HS) : List V → Option (List V × HS)
  | [] => some ([], h)
  | v :: r => match stillCell h v with
    | some (v', h') => match stillCells h' r with
      | some (r', h'') => some (v' :: r', h'')
      | Option.none => Option.none
    | Option.none => Option.none
def still (h : HS) : V → Option (V × HS)
  | .agg cs => match stillCells h cs with
    | some (cs', h') => some (.agg cs', h')
    | Option.none => Option.none
  | v => stillCell h v
def stills (h : HS) : List V → Option (List V × HS)
  | [] => some ([], h)
  | v :: r => match still h v with
    | some (v', h') => match stills h' r with
      | some (r', h'') => some (v' :: r', h'')
      | Option.none => Option.none
    | Option.none => Option.none
def V.hasRow : V → Bool
  | .row .. => true
  | .agg cs => cs.any fun v => match v with | .row .. => true | _ => false
  | _ => false
/-- the same where there is no row: nothing is looked at -/
def calmCell : V → Option V
  | .slice xs _ => some (.slice xs false)
  | v => bif v.pureIf then some v else Option.none
def mapO {α β : Type} (f : α → Option β) : List α → Option (List β)
  | [] => some []
  | a :: r => match f a with
    | some b => match mapO f r with
      | some s => some (b :: s)
      | Option.none => Option.none
    | Option.none => Option.none
def calm : V → Option V
  | .agg cs => match mapO calmCell cs with
    | some cs' => some (.agg cs')
    | Option.none => Option.none
  | v => calmCell v

/-- A variable that a closure captures is never written again: its content goes with the closure. -/
def freezeRef (h : HS) : V → Option (V × HS)
  | .ref i off => match h.get i with
    | some (.cells cs _) => (match stillCells h cs with
      | some (cs', h') => some (.cptr cs' off, h'.set i (.cells cs' true))
      | Option.none => Option.none)
    | _ => Option.none
  | .cptr cs off => some (.cptr cs off, h)
  | _ => Option.none
def freezeAll (h : HS) : List V → Option (List V × HS)
  | [] => some ([], h)
  | v :: r => match freezeRef h v with
    | some (v', h') => match freezeAll h' r with
      | some (r', h'') => some (v' :: r', h'')
      | Option.none => Option.none
    | Option.none => Option.none

inductive Out where
  | val (v : V) | skip | panic (v : V)
inductive Res where
  | ret (v : V) | panic (v : V)
  deriving Inhabited
inductive Ex where
  | normal | exit (id : Nat) | ret | panic (v : V)

inductive X where
  | t (n : Nat) | c (v : V)
  deriving Inhabited

inductive Conv where
  | int (k : IntKind) | str | bytes | text | same
  deriving Inhabited

/-- kinds of cells that are held against each other -/
inductive TK where
  | bool | int | str

inductive LOp where
  | mv | pick
  | alloc (z : List V) (esc : Bool) | box (esc : Bool)
  | build (z : List V) (ps : List (Nat × Nat)) | lit (n sz : Nat) (z : V) (ix : List Nat) (own : Bool)
  | load (ag : Bool) (sz : Nat) | store (sz : Nat)
  | nilck
  | bin (o : BinOp) | eqb (neg : Bool) | eqa (neg : Bool) (ks : List TK) | eqs (neg : Bool) | un (o : UnOp)
  | conv (k : Conv)
  | mki (t : Nat) | mkf (f : Nat) (fz : Bool) | mkmap | mkslice (z : V) (sz bytes : Nat)
  | sstr (lo hi : Bool) | sslc (lo hi : Bool) (sz : Nat)
  | fld (ag : Bool) (off sz : Nat) | fad (off : Nat)
  | iadA (n sz : Nat) | iadS (sz : Nat)
  | idxS | idxA (n sz : Nat) (ag : Bool)
  | look (z : V) (ok : Bool) (ks : TK) | mset (ks : TK)
  | ext (i : Nat)
  | call (f : Nat) | callv
  | app (sz bytes : Nat) | len (k : Nat) | minmax (mx : Bool)
  | panic
  deriving Inhabited

structure LOper where
  dst : Option Nat
  op : LOp
  xs : List X
  guard : Option (Nat × Bool)
  un : List Nat
  deriving Inhabited

inductive LCode where
  | skip
  | reg (ops : List LOper) (draw : Bool)
  | seq (a b : LCode)
  | cond (x : X) (a b : LCode)
  | block (id : Nat) (a : LCode)
  | loop (a : LCode)
  | exit (id : Nat)
  | ret
  | frz (t : Nat)
  deriving Inhabited

inductive RV where
  | tmp (t : Nat) | cell (t : Nat) (ag : Bool) (sz : Nat)
  deriving Inhabited

structure LFunc where
  nt : Nat
  res : List RV
  body : LCode
  deriving Inhabited

inductive LDef where
  | code (f : LFunc)
  | prim (g : List V → HS → Option (V × HS))

/-- imp: does a function touch what it was not given as a value? 0 no; 1 what its arguments lead to; 2 all -/
structure Cfg where
  fn : Nat → Option LDef
  imp : Nat → Nat

/-- temporaries: a tree by the digits of their numbers -/
inductive Tr where
  | e | n (v : V) (l r : Tr)
  deriving Inhabited
def Tr.get : Tr → Nat → V
  | .e, _ => .undef
  | .n v l r, i => bif Nat.beq i 0 then v else bif Nat.beq (Nat.mod i 2) 1 then l.get (Nat.div i 2) else r.get (Nat.div i 2 - 1)
def Tr.set : Nat → Tr → Nat → V → Tr
  | 0, t, _, _ => t
  | d + 1, .e, i, x => bif Nat.beq i 0 then .n x .e .e else bif Nat.beq (Nat.mod i 2) 1 then .n .undef (Tr.set d .e (Nat.div i 2) x) .e else .n .undef .e (Tr.set d .e (Nat.div i 2 - 1) x)
  | d + 1, .n v l r, i, x => bif Nat.beq i 0 then .n x l r else bif Nat.beq (Nat.mod i 2) 1 then .n v (Tr.set d l (Nat.div i 2) x) r else .n v l (Tr.set d r (Nat.div i 2 - 1) x)
def Tr.fill (t : Tr) (i : Nat) : List V → Tr
  | [] => t
  | v :: r => (Tr.set 12 t i v).fill (i + 1) r
structure Fr where
  n : Nat
  t : Tr
  deriving Inhabited
def Fr.get (f : Fr) (i : Nat) : V := bif Nat.blt i f.n then f.t.get i else .undef
def Fr.set (f : Fr) (i : Nat) (v : V) : Fr := bif Nat.blt i f.n then ⟨f.n, Tr.set 12 f.t i v⟩ else f
def Fr.of (nt : Nat) (args : List V) : Fr := ⟨args.length + (nt - args.length), Tr.fill .e 0 args⟩

structure St where
  fr : Fr
  lo : List (Nat × List V)
  hs : HS

/-! ## what the operations do -/

def bit (o : BinOp) (k : IntKind) (a b : Int) : Option V :=
  let x := BitVec.ofInt k.bits a
  let y := BitVec.ofInt k.bits b
  match o with
  | .and => some (.int k (k.wrap (x &&& y).toNat))
  | .or => some (.int k (k.wrap (x ||| y).toNat))
  | .xor => some (.int k (k.wrap (x ^^^ y).toNat))
  | .andNot => some (.int k (k.wrap (x &&& ~~~y).toNat))
  | _ => Option.none
def arith (o : BinOp) (k : IntKind) (a b : Int) : Option V :=
  match o with
  | .add => some (.int k (k.wrap (a + b)))
  | .sub => some (.int k (k.wrap (a - b)))
  | .mul => some (.int k (k.wrap (a * b)))
  | .quo => bif decide (b = 0) then Option.none else some (.int k (k.wrap (a.tdiv b)))
  | .rem => bif decide (b = 0) then Option.none else some (.int k (a.tmod b))
  | .eql => some (.bool (a == b))
  | .neq => some (.bool (a != b))
  | .lss => some (.bool (decide (a < b)))
  | .leq => some (.bool (decide (a ≤ b)))
  | .gtr => some (.bool (decide (a > b)))
  | .geq => some (.bool (decide (a ≥ b)))
  | o => bit o k a b
def shiftV (o : BinOp) (k : IntKind) (a b : Int) : Option V :=
  bif decide (b < 0) then Option.none else
  match o with
  | .shl => some (.int k (k.wrap (a * 2 ^ min b.toNat k.bits)))
  | .shr => some (.int k (a.fdiv (2 ^ min b.toNat k.bits)))
  | _ => Option.none
def strOp (o : BinOp) (a b : List UInt8) : Option V :=
  match o with
  | .add => bif decide (((a.length + b.length : Nat) : Int) > IntKind.i64.max) then Option.none else some (.str (a ++ b))
  | .eql => some (.bool (a == b))
  | .neq => some (.bool !(a == b))
  | .lss => some (.bool (Op.bytesLess a b))
  | .leq => some (.bool (Op.bytesLess a b || a == b))
  | .gtr => some (.bool !(Op.bytesLess a b || a == b))
  | .geq => some (.bool !(Op.bytesLess a b))
  | _ => Option.none
def eqCell : TK → V → V → Option Bool
  | .bool, .bool a, .bool b => some (a == b)
  | .int, .int k a, .int j b => bif decide (k = j) then some (a == b) else Option.none
  | .str, .str a, .str b => some (a == b)
  | _, _, _ => Option.none
def eqCells : List TK → List V → List V → Option Bool
  | [], [], [] => some true
  | t :: q, a :: r, b :: s => match eqCell t a b, eqCells q r s with
    | some x, some y => some (x && y)
    | _, _ => Option.none
  | _, _, _ => Option.none
def binV (o : BinOp) (x y : V) : Option V :=
  match x, y with
  | .int k a, .int j b => match o with
    | .shl | .shr => shiftV o k a b
    | _ => bif decide (k = j) then arith o k a b else Option.none
  | .str a, .str b => strOp o a b
  | _, _ => Option.none
def unV (o : UnOp) (x : V) : Option V :=
  match o, x with
  | .neg, .int k n => some (.int k (k.wrap (0 - n)))
  | .xor, .int k n => bit .xor k (if k.signed then -1 else k.max) n
  | .not, .bool b => some (.bool !b)
  | _, _ => Option.none
def byteOf : V → Option UInt8
  | .int .u8 n => some (UInt8.ofNat n.toNat)
  | _ => Option.none
def ofByte (b : UInt8) : V := .int .u8 b.toNat

/-- sz cells at off of some -/
def part (ag : Bool) (off sz : Nat) (cs : List V) : Option V :=
  bif ag then (bif Nat.ble (off + sz) cs.length then some (.agg ((cs.drop off).take sz)) else Option.none) else cs[off]?
def putCells (off : Nat) (vs cs : List V) : List V := cs.take off ++ vs ++ cs.drop (off + vs.length)
def fillCells (cs : List V) : List (Nat × Nat) → List V → Option (List V)
  | [], [] => some cs
  | (off, sz) :: ps, v :: vs =>
    bif Nat.beq v.cells.length sz && Nat.ble (off + sz) cs.length then fillCells (putCells off v.cells cs) ps vs else Option.none
  | _, _ => Option.none
def fillRow (sz : Nat) (xs : List V) : List Nat → List V → Option (List V)
  | [], [] => some xs
  | i :: ix, v :: vs => bif Nat.beq v.cells.length sz && Nat.blt i xs.length then fillRow sz (xs.set i v) ix vs else Option.none
  | _, _ => Option.none
/-- cells idx.off of a row -/
def partRow (ag : Bool) (idx off sz : Nat) (xs : List V) : Option V :=
  match xs[idx]? with
  | some x => part ag off sz x.cells
  | Option.none => Option.none
def isAggV : V → Bool
  | .agg _ => true
  | _ => false
def setRow (idx off : Nat) (v : V) (xs : List V) : Option (List V) :=
  match xs[idx]? with
  | some (.agg cs) => bif Nat.ble (off + v.cells.length) cs.length then some (xs.set idx (.agg (putCells off v.cells cs))) else Option.none
  | some _ => bif Nat.beq off 0 && !isAggV v then some (xs.set idx v) else Option.none
  | Option.none => Option.none

def eqKey : TK → V → V → Option Bool
  | .int, .int k a, .int j b => bif decide (k = j) then some (a == b) else Option.none
  | .str, .str a, .str b => some (a == b)
  | _, _, _ => Option.none
/-- an entry by its key: its place and its value -/
def findKey (t : TK) (k : V) : List (V × V) → Nat → Option (Option (Nat × V))
  | [], _ => some Option.none
  | (j, v) :: r, i => match eqKey t k j with
    | some true => some (some (i, v))
    | some false => findKey t k r (i + 1)
    | Option.none => Option.none
def keyV : TK → V → Bool
  | .int, .int _ _ | .str, .str _ => true
  | _, _ => false

/-- What an operation touches, once its operands are known. -/
inductive Act1 where
  | pure (r : Option Out)
  | locR (t : Nat) (f : Nat × List V → Option Out)
  | locW (t : Nat) (f : Nat × List V → Option (Out × (Nat × List V)))
  | obR (i : Nat) (f : Ob → Option Out)
  | obs (vs : List V) (f : HS → Option (Out × HS))
  | hpR (f : HS → Option Out)
  | hpW (f : HS → Option (Out × HS))

/-- the numbers in a value, and in what they lead to -/
def V.idCell : V → List Nat
  | .ref i _ | .rptr i _ _ _ | .row i _ | .map i => [i]
  | .func _ caps => caps.flatMap fun v => match v with | .ref i _ => [i] | _ => []
  | _ => []
def V.ids : V → List Nat
  | .agg cs => cs.flatMap V.idCell
  | v => v.idCell
def Ob.ids : Ob → List Nat
  | .cells cs _ => cs.flatMap V.idCell
  | _ => []
def reach (h : HS) : Nat → List Nat → List Nat
  | 0, l => l
  | n + 1, l => l ++ reach h n (l.flatMap fun i => match h.get i with | some o => o.ids | Option.none => [])
def idsOf (h : HS) (vs : List V) : List Nat := reach h 3 (vs.flatMap V.ids)
def memN (i : Nat) : List Nat → Bool
  | [] => false
  | j :: r => Nat.beq i j || memN i r
/-- only these objects -/
def HS.only (h : HS) (l : List Nat) : HS := ⟨h.c, h.os.filter fun (i, _) => memN i l⟩
/-- those objects as they are there -/
def merge (l : List Nat) (g : HS) : List (Nat × Ob) → List (Nat × Ob)
  | [] => []
  | (i, o) :: r => (i, bif memN i l then (match g.get i with | some p => p | Option.none => o) else o) :: merge l g r

inductive Acc where
  | none | locR (t : Nat) | locW (t : Nat) | obR (i : Nat) | obs (l : List Nat) | hpR | hpW
def Act1.acc (h : HS) : Act1 → Acc
  | .pure _ => .none
  | .locR t _ => .locR t
  | .locW t _ => .locW t
  | .obR i _ => .obR i
  | .obs vs _ => .obs (idsOf h vs)
  | .hpR _ => .hpR
  | .hpW _ => .hpW
def Acc.ok : Acc → Acc → Bool
  | .none, _ | _, .none => true
  | .locR _, .locR _ => true
  | .locR t, .locW u | .locW t, .locR u | .locW t, .locW u => !Nat.beq t u
  | .locR _, _ | .locW _, _ | _, .locR _ | _, .locW _ => true
  | .obR _, .obR _ | .obR _, .hpR | .hpR, .obR _ | .hpR, .hpR => true
  | .obR i, .obs l | .obs l, .obR i => !memN i l
  | _, _ => false

def ok1 (v : Option V) : Act1 := .pure (match v with | some v => some (.val v) | Option.none => Option.none)
def fail : Act1 := .pure Option.none

def loadV (ag : Bool) (sz : Nat) : V → Act1
  | .cptr cs off => ok1 (part ag off sz cs)
  | .loc t g off => .locR t fun (g', cs) => bif Nat.beq g g' then (match part ag off sz cs with | some v => some (.val v) | Option.none => Option.none) else Option.none
  | .ref i off => .obR i fun o => match o with
    | .cells cs _ => (match part ag off sz cs with | some v => some (.val v) | Option.none => Option.none)
    | _ => Option.none
  | .rptr i e idx off => .obR i fun o => match o with
    | .row xs _ _ => bif Nat.beq xs.length e then (match partRow ag idx off sz xs with | some v => some (.val v) | Option.none => Option.none) else Option.none
    | _ => Option.none
  | _ => fail
def storeV (sz : Nat) (x : V) : V → Act1
  | .loc t g off => .locW t fun (g', cs) =>
    bif Nat.beq g g' && Nat.beq x.cells.length sz && Nat.ble (off + sz) cs.length && x.cells.all V.one then some (.skip, (g', putCells off x.cells cs)) else Option.none
  | .ref i off => .hpW fun h => match h.get i with
    | some (.cells cs false) => bif Nat.beq x.cells.length sz && Nat.ble (off + sz) cs.length && x.low h.c && x.cells.all V.one then some (.skip, h.set i (.cells (putCells off x.cells cs) false)) else Option.none
    | _ => Option.none
  | .rptr i e idx off => .hpW fun h => match still h x with
    | some (y, h') => match h'.get i with
      | some (.row xs s false) => bif Nat.beq xs.length e && Nat.beq y.cells.length sz then
          (match setRow idx off y xs with | some xs' => some (.skip, h'.set i (.row xs' s false)) | Option.none => Option.none) else Option.none
      | _ => Option.none
    | Option.none => Option.none
  | _ => fail
def intArg : V → Option Int
  | .int _ n => some n
  | _ => Option.none
/-- the bounds of a slice expression, of so many: low and high -/
def cutAt (lo hi : Bool) (n : Nat) (vs : List V) : Option (Nat × Nat) :=
  match lo, hi, vs with
  | false, false, [] => some (0, n)
  | true, false, [.int _ l] => bif decide (0 ≤ l) && decide (l ≤ n) then some (l.toNat, n) else Option.none
  | false, true, [.int _ u] => bif decide (0 ≤ u) && decide (u ≤ n) then some (0, u.toNat) else Option.none
  | true, true, [.int _ l, .int _ u] => bif decide (0 ≤ l) && decide (l ≤ u) && decide (u ≤ n) then some (l.toNat, u.toNat) else Option.none
  | _, _, _ => Option.none
def headSz (sz : Nat) : List V → Bool
  | [] => true
  | x :: _ => Nat.beq x.cells.length sz
def cutV (lo hi : Bool) (xs : List V) (full : Bool) (r : List V) : Option V :=
  match cutAt lo hi xs.length r with
  | some (l, u) => some (.slice ((xs.drop l).take (u - l)) (full && Nat.beq u xs.length))
  | Option.none => Option.none
def rowOf (h : HS) : V → Option (List V)
  | .slice xs _ => some xs
  | .row i e => match h.get i with
    | some (.row xs _ _) => bif Nat.beq xs.length e then some xs else Option.none
    | _ => Option.none
  | .str s => some (s.map ofByte)
  | _ => Option.none
/-- more is put behind a row: in place, or in new memory -/
def appPut (sz bytes : Nat) (s : V) (ys : List V) (h : HS) : Option (Out × HS) :=
  match s with
  | .slice xs full =>
    match ys with
    | [] => some (.val (.slice xs full), h)
    | _ => bif full && Nat.ble ((xs.length + ys.length) * bytes) 1099511627776 && xs.all (fun y => Nat.beq y.cells.length sz && y.pure) then
        some (.val (.row h.c (xs.length + ys.length)), h.new (.row (xs ++ ys) sz false)) else Option.none
  | .row i e => match h.get i with
    | some (.row xs sz' false) => bif Nat.beq xs.length e && Nat.beq sz sz' && Nat.ble ((xs.length + ys.length) * bytes) 1099511627776 then
        some (.val (.row i (xs.length + ys.length)), h.set i (.row (xs ++ ys) sz false)) else Option.none
    | _ => Option.none
  | _ => Option.none
def appF (sz bytes : Nat) (s ys : V) (h : HS) : Option (Out × HS) :=
  match rowOf h ys with
  | Option.none => Option.none
  | some ys => bif ys.all fun y => Nat.beq y.cells.length sz && y.pure then appPut sz bytes s ys h else Option.none
def appV (sz bytes : Nat) (s ys : V) : Act1 :=
  match s, ys with
  | .slice xs full, .slice [] _ => ok1 (some (.slice xs full))
  | s, ys => .hpW (appF sz bytes s ys)

abbrev Ev := Nat → List V → HS → Option (Res × HS)

def retPure : Res → Option Out
  | .ret (.tuple vs) => bif vs.all V.pure then some (.val (.tuple vs)) else Option.none
  | .ret v => bif v.pure then some (.val v) else Option.none
  | .panic v => bif v.pureIf then some (.panic v) else Option.none
def callPure (ev : Ev) (f : Nat) (vs : List V) : Option Out :=
  match ev f vs HS.none with
  | some (r, _) => retPure r
  | Option.none => Option.none
/-- every number in it is one of those; and no local variable -/
def V.inCell (p : Nat → Bool) : V → Bool
  | .loc .. | .undef => false
  | .ref i _ | .rptr i _ _ _ | .row i _ | .map i => p i
  | .func _ caps => caps.all fun v => match v with | .ref i _ => p i | v => v.pureCell
  | v => v.pureIf
def V.inV (p : Nat → Bool) : V → Bool
  | .agg cs => cs.all (V.inCell p)
  | v => v.inCell p
def obIn (p : Nat → Bool) : Ob → Bool
  | .cells cs _ => cs.all (V.inCell p)
  | _ => true
def resIn (p : Nat → Bool) : Res → Bool
  | .ret (.tuple vs) => vs.all (V.inV p)
  | .ret v => v.inV p
  | .panic v => v.pureIf
def yes (_ : Nat) : Bool := true
def outOf : Res → Out
  | .ret v => .val v
  | .panic v => .panic v
def HS.has (h : HS) (i : Nat) : Bool := (h.get i).isSome
def HS.allIn (p : Nat → Bool) (h : HS) : Bool := h.os.all fun x => obIn p x.2
def HS.cut (c : Nat) (h : HS) : HS := ⟨c, h.os.filter fun x => Nat.blt x.1 c⟩
/-- what a call left that nobody can come to is forgotten -/
def tidy (c : Nat) (r : Res) (h : HS) : HS :=
  bif resIn (fun i => Nat.blt i c) r && (h.cut c).allIn (fun i => Nat.blt i c) then h.cut c else h
def callAll (ev : Ev) (f : Nat) (vs : List V) (h : HS) : Option (Out × HS) :=
  bif vs.all (V.inV yes) && h.allIn yes then
    match ev f vs h with
    | some (r, h') => bif resIn yes r && h'.allIn yes then some (outOf r, tidy h.c r h') else Option.none
    | Option.none => Option.none
  else Option.none
/-- a call that touches no more than its arguments lead to, and leaves nothing else -/
def callSome (ev : Ev) (f : Nat) (vs : List V) (h : HS) : Option (Out × HS) :=
  bif vs.all (V.inV yes) && h.allIn yes then
    match ev f vs h with
    | some (r, h') => bif resIn h.has r && h'.os.all (fun x => !h.has x.1 || obIn h.has x.2) && h.os.all (fun x => h'.has x.1) then some (outOf r, h') else Option.none
    | Option.none => Option.none
  else Option.none
def callV (cf : Cfg) (ev : Ev) (f : Nat) (vs : List V) : Act1 :=
  match cf.imp f with
  | 1 => .obs vs (callSome ev f vs)
  | 2 => .hpW (callAll ev f vs)
  | _ => bif vs.any V.hasRow then .hpW fun h => match stills h vs with
    | some (vs', h') => match callPure ev f vs' with
      | some o => some (o, h')
      | Option.none => Option.none
    | Option.none => Option.none
  else .pure (match mapO calm vs with
    | some vs' => callPure ev f vs'
    | Option.none => Option.none)

def maxI (mx : Bool) (a b : Int) : Int := if mx then (if a < b then b else a) else (if b < a then b else a)

def plan_mv (cf : Cfg) (ev : Ev) (dst : Option Nat) : List V → Act1
  | [x] => ok1 (some x)
  | _ => fail
def plan_pick (cf : Cfg) (ev : Ev) (dst : Option Nat) : List V → Act1
  | [.bool b, x, y] => ok1 (some (bif b then x else y))
  | _ => fail
def plan_alloc (cf : Cfg) (ev : Ev) (dst : Option Nat) : List V → Bool → List V → Act1
  | z, false, [] => match dst with
    | some d => .locW d fun (g, _) => some (.val (.loc d (g + 1) 0), (g + 1, z))
    | Option.none => fail
  | z, true, [] => .hpW fun h => some (.val (.ref h.c 0), h.new (.cells z false))
  | _, _, _ => fail
def plan_box (cf : Cfg) (ev : Ev) (dst : Option Nat) : Bool → List V → Act1
  | false, [x] => match dst with
    | some d => .locW d fun (g, _) => bif x.cells.all V.one then some (.val (.loc d (g + 1) 0), (g + 1, x.cells)) else Option.none
    | Option.none => fail
  | true, [x] => .hpW fun h => bif x.low h.c && x.cells.all V.one then some (.val (.ref h.c 0), h.new (.cells x.cells false)) else Option.none
  | _, _ => fail
def plan_build (cf : Cfg) (ev : Ev) (dst : Option Nat) : List V → List (Nat × Nat) → List V → Act1
  | z, ps, vs => ok1 (bif vs.any V.isUndef then Option.none else match fillCells z ps vs with | some cs => some (.agg cs) | Option.none => Option.none)
def plan_lit (cf : Cfg) (ev : Ev) (dst : Option Nat) : Nat → Nat → V → List Nat → Bool → List V → Act1
  | n, sz, z, ix, false, vs => bif vs.any V.hasRow then .hpW fun h => match stills h vs with
      | some (vs', h') => match fillRow sz (List.replicate n z) ix vs' with
        | some xs => some (.val (.slice xs true), h')
        | Option.none => Option.none
      | Option.none => Option.none
    else ok1 (match mapO calm vs with
      | some vs' => match fillRow sz (List.replicate n z) ix vs' with | some xs => some (.slice xs true) | Option.none => Option.none
      | Option.none => Option.none)
  | n, sz, z, ix, true, vs => .hpW fun h => match mapO calm vs with
    | some vs' => (match fillRow sz (List.replicate n z) ix vs' with
      | some xs => some (.val (.row h.c n), h.new (.row xs sz false))
      | Option.none => Option.none)
    | Option.none => Option.none
def plan_load (cf : Cfg) (ev : Ev) (dst : Option Nat) : Bool → Nat → List V → Act1
  | ag, sz, [a] => loadV ag sz a
  | _, _, _ => fail
def plan_store (cf : Cfg) (ev : Ev) (dst : Option Nat) : Nat → List V → Act1
  | sz, [a, x] => storeV sz x a
  | _, _ => fail
def plan_nilck (cf : Cfg) (ev : Ev) (dst : Option Nat) : List V → Act1
  | [.cptr cs off] => ok1 (some (.cptr cs off))
  | [.loc t g off] => ok1 (some (.loc t g off))
  | [.ref i off] => ok1 (some (.ref i off))
  | [.rptr i e idx off] => ok1 (some (.rptr i e idx off))
  | [.func f caps] => ok1 (some (.func f caps))
  | _ => fail
def plan_bin (cf : Cfg) (ev : Ev) (dst : Option Nat) : BinOp → List V → Act1
  | o, [x, y] => ok1 (binV o x y)
  | _, _ => fail
def plan_eqb (cf : Cfg) (ev : Ev) (dst : Option Nat) : Bool → List V → Act1
  | neg, [.bool a, .bool b] => ok1 (some (.bool (neg ^^ (a == b))))
  | _, _ => fail
def plan_eqa (cf : Cfg) (ev : Ev) (dst : Option Nat) : Bool → List TK → List V → Act1
  | neg, ks, [.agg a, .agg b] => ok1 (match eqCells ks a b with | some r => some (.bool (neg ^^ r)) | Option.none => Option.none)
  | _, _, _ => fail
/-- a list that is not empty is not nil -/
def plan_eqs (cf : Cfg) (ev : Ev) (dst : Option Nat) : Bool → List V → Act1
  | neg, [.slice (_ :: _) _, _] => ok1 (some (.bool neg))
  | _, _ => fail
def plan_un (cf : Cfg) (ev : Ev) (dst : Option Nat) : UnOp → List V → Act1
  | o, [x] => ok1 (unV o x)
  | _, _ => fail
def plan_conv (cf : Cfg) (ev : Ev) (dst : Option Nat) : Conv → List V → Act1
  | (.int k), [.int _ n] => ok1 (some (.int k (k.wrap n)))
  | .str, [.str s] => ok1 (some (.str s))
  | .bytes, [.str s] => ok1 (some (.slice (s.map ofByte) false))
  | .text, [.slice xs _] => ok1 (match mapO byteOf xs with | some s => some (.str s) | Option.none => Option.none)
  | .text, [.row i e] => .hpR fun h => match rowOf h (.row i e) with
    | some xs => (match mapO byteOf xs with | some s => some (.val (.str s)) | Option.none => Option.none)
    | Option.none => Option.none
  | .same, [.row i e] => bif Nat.beq e 0 then fail else .hpW fun h => match stillCell h (.row i e) with
    | some (v, h') => some (.val v, h')
    | Option.none => Option.none
  | _, _ => fail
def plan_mki (cf : Cfg) (ev : Ev) (dst : Option Nat) : Nat → List V → Act1
  | t, [x] => bif x.pure then ok1 (some (.iface t x)) else fail
  | _, _ => fail
def plan_mkf (cf : Cfg) (ev : Ev) (dst : Option Nat) : Nat → Bool → List V → Act1
  | f, false, caps => ok1 (some (.func f caps))
  | f, true, caps => .hpW fun h => match freezeAll h caps with
    | some (caps', h') => some (.val (.func f caps'), h')
    | Option.none => Option.none
def plan_mkmap (cf : Cfg) (ev : Ev) (dst : Option Nat) : List V → Act1
  | [] => .hpW fun h => some (.val (.map h.c), h.new (.map []))
  | _ => fail
def plan_mkslice (cf : Cfg) (ev : Ev) (dst : Option Nat) : V → Nat → Nat → List V → Act1
  | z, sz, bytes, [.int _ l, .int _ c] => .hpW fun h =>
    bif decide (0 ≤ l) && decide (l = c) && decide (l * bytes ≤ 1099511627776) && decide (l ≤ 9223372036854775807) && Nat.beq z.cells.length sz then
      some (.val (.row h.c l.toNat), h.new (.row (List.replicate l.toNat z) sz false)) else Option.none
  | _, _, _, _ => fail
def plan_sstr (cf : Cfg) (ev : Ev) (dst : Option Nat) : Bool → Bool → List V → Act1
  | lo, hi, .str s :: r => ok1 (match cutAt lo hi s.length r with | some (l, u) => some (.str ((s.drop l).take (u - l))) | Option.none => Option.none)
  | _, _, _ => fail
def plan_sslc (cf : Cfg) (ev : Ev) (dst : Option Nat) : Bool → Bool → Nat → List V → Act1
  | lo, hi, sz, .slice xs full :: r => ok1 (bif headSz sz xs then cutV lo hi xs full r else Option.none)
  | lo, hi, sz, .row i e :: r => .hpW fun h => match stillCell h (.row i e) with
    | some (.slice xs _, h') => bif headSz sz xs then (match cutV lo hi xs false r with
      | some v => some (.val v, h')
      | Option.none => Option.none) else Option.none
    | _ => Option.none
  | _, _, _, _ => fail
def plan_fld (cf : Cfg) (ev : Ev) (dst : Option Nat) : Bool → Nat → Nat → List V → Act1
  | ag, off, sz, [.agg cs] => ok1 (part ag off sz cs)
  | _, _, _, _ => fail
def plan_fad (cf : Cfg) (ev : Ev) (dst : Option Nat) : Nat → List V → Act1
  | off, [.cptr cs o] => ok1 (some (.cptr cs (o + off)))
  | off, [.loc t g o] => ok1 (some (.loc t g (o + off)))
  | off, [.ref i o] => ok1 (some (.ref i (o + off)))
  | off, [.rptr i e idx o] => ok1 (some (.rptr i e idx (o + off)))
  | _, _ => fail
def plan_iadA (cf : Cfg) (ev : Ev) (dst : Option Nat) : Nat → Nat → List V → Act1
  | n, sz, [a, .int _ i] => bif decide (0 ≤ i) && decide (i < n) then
      (match a with
      | .cptr cs o => ok1 (some (.cptr cs (o + i.toNat * sz)))
      | .loc t g o => ok1 (some (.loc t g (o + i.toNat * sz)))
      | .ref j o => ok1 (some (.ref j (o + i.toNat * sz)))
      | .rptr j e idx o => ok1 (some (.rptr j e idx (o + i.toNat * sz)))
      | _ => fail) else fail
  | _, _, _ => fail
def plan_iadS (cf : Cfg) (ev : Ev) (dst : Option Nat) : Nat → List V → Act1
  | sz, [.slice xs _, .int _ i] => bif decide (0 ≤ i) then (match xs[i.toNat]? with
      | some x => bif Nat.beq x.cells.length sz then ok1 (some (.cptr x.cells 0)) else fail
      | Option.none => fail) else fail
  | sz, [.row j e, .int _ i] => .hpR fun h => match h.get j with
    | some (.row xs s _) => bif Nat.beq s sz && Nat.beq xs.length e && decide (0 ≤ i) && decide (i < e) then some (.val (.rptr j e i.toNat 0)) else Option.none
    | _ => Option.none
  | _, _ => fail
def plan_idxS (cf : Cfg) (ev : Ev) (dst : Option Nat) : List V → Act1
  | [.str s, .int _ i] => bif decide (0 ≤ i) then (match s[i.toNat]? with | some b => ok1 (some (ofByte b)) | Option.none => fail) else fail
  | _ => fail
def plan_idxA (cf : Cfg) (ev : Ev) (dst : Option Nat) : Nat → Nat → Bool → List V → Act1
  | n, sz, ag, [.agg cs, .int _ i] => bif decide (0 ≤ i) && decide (i < n) then ok1 (part ag (i.toNat * sz) sz cs) else fail
  | _, _, _, _ => fail
def plan_look (cf : Cfg) (ev : Ev) (dst : Option Nat) : V → Bool → TK → List V → Act1
  | z, ok, _, [.nilmap, _] => ok1 (some (bif ok then .tuple [z, .bool false] else z))
  | z, ok, t, [.map i, k] => .hpR fun h => match h.get i with
    | some (.map es) => bif keyV t k then (match findKey t k es 0 with
      | some (some (_, v)) => some (.val (bif ok then .tuple [v, .bool true] else v))
      | some Option.none => some (.val (bif ok then .tuple [z, .bool false] else z))
      | Option.none => Option.none) else Option.none
    | _ => Option.none
  | _, _, _, _ => fail
def plan_mset (cf : Cfg) (ev : Ev) (dst : Option Nat) : TK → List V → Act1
  | t, [.map i, k, x] => .hpW fun h => match still h x with
    | some (y, h') => bif keyV t k then (match h'.get i with
      | some (.map es) => (match findKey t k es 0 with
        | some (some (j, _)) => some (.skip, h'.set i (.map (es.set j (k, y))))
        | some Option.none => some (.skip, h'.set i (.map (es ++ [(k, y)])))
        | Option.none => Option.none)
      | _ => Option.none) else Option.none
    | Option.none => Option.none
  | _, _ => fail
def plan_ext (cf : Cfg) (ev : Ev) (dst : Option Nat) : Nat → List V → Act1
  | i, [.tuple vs] => ok1 vs[i]?
  | _, _ => fail
def plan_call (cf : Cfg) (ev : Ev) (dst : Option Nat) : Nat → List V → Act1
  | f, vs => callV cf ev f vs
def plan_callv (cf : Cfg) (ev : Ev) (dst : Option Nat) : List V → Act1
  | .func f caps :: vs => callV cf ev f (vs ++ caps)
  | _ => fail
def plan_app (cf : Cfg) (ev : Ev) (dst : Option Nat) : Nat → Nat → List V → Act1
  | sz, bytes, [s, ys] => appV sz bytes s ys
  | _, _, _ => fail
def plan_len (cf : Cfg) (ev : Ev) (dst : Option Nat) : Nat → List V → Act1
  | 1, [.slice xs _] => ok1 (some (.int .i64 xs.length))
  | 1, [.row _ e] => ok1 (some (.int .i64 e))
  | 0, [.str s] => ok1 (some (.int .i64 s.length))
  | 2, [.nilmap] => ok1 (some (.int .i64 0))
  | 2, [.map i] => .hpR fun h => match h.get i with
    | some (.map es) => some (.val (.int .i64 es.length))
    | _ => Option.none
  | _, _ => fail
def plan_minmax (cf : Cfg) (ev : Ev) (dst : Option Nat) : Bool → List V → Act1
  | mx, [.int k a, .int j b] => bif decide (k = j) then ok1 (some (.int k (maxI mx a b))) else fail
  | _, _ => fail
def plan_panic (cf : Cfg) (ev : Ev) (dst : Option Nat) : List V → Act1
  | [.iface t v] => .pure (some (.panic (.iface t v)))
  | _ => fail
def plan (cf : Cfg) (ev : Ev) (dst : Option Nat) (op : LOp) (vs : List V) : Act1 :=
  match op with
  | .mv  => plan_mv cf ev dst  vs
  | .pick  => plan_pick cf ev dst  vs
  | .alloc a0 a1 => plan_alloc cf ev dst a0 a1 vs
  | .box a0 => plan_box cf ev dst a0 vs
  | .build a0 a1 => plan_build cf ev dst a0 a1 vs
  | .lit a0 a1 a2 a3 a4 => plan_lit cf ev dst a0 a1 a2 a3 a4 vs
  | .load a0 a1 => plan_load cf ev dst a0 a1 vs
  | .store a0 => plan_store cf ev dst a0 vs
  | .nilck  => plan_nilck cf ev dst  vs
  | .bin a0 => plan_bin cf ev dst a0 vs
  | .eqb a0 => plan_eqb cf ev dst a0 vs
  | .eqa a0 a1 => plan_eqa cf ev dst a0 a1 vs
  | .eqs a0 => plan_eqs cf ev dst a0 vs
  | .un a0 => plan_un cf ev dst a0 vs
  | .conv a0 => plan_conv cf ev dst a0 vs
  | .mki a0 => plan_mki cf ev dst a0 vs
  | .mkf a0 a1 => plan_mkf cf ev dst a0 a1 vs
  | .mkmap  => plan_mkmap cf ev dst  vs
  | .mkslice a0 a1 a2 => plan_mkslice cf ev dst a0 a1 a2 vs
  | .sstr a0 a1 => plan_sstr cf ev dst a0 a1 vs
  | .sslc a0 a1 a2 => plan_sslc cf ev dst a0 a1 a2 vs
  | .fld a0 a1 a2 => plan_fld cf ev dst a0 a1 a2 vs
  | .fad a0 => plan_fad cf ev dst a0 vs
  | .iadA a0 a1 => plan_iadA cf ev dst a0 a1 vs
  | .iadS a0 => plan_iadS cf ev dst a0 vs
  | .idxS  => plan_idxS cf ev dst  vs
  | .idxA a0 a1 a2 => plan_idxA cf ev dst a0 a1 a2 vs
  | .look a0 a1 a2 => plan_look cf ev dst a0 a1 a2 vs
  | .mset a0 => plan_mset cf ev dst a0 vs
  | .ext a0 => plan_ext cf ev dst a0 vs
  | .call a0 => plan_call cf ev dst a0 vs
  | .callv  => plan_callv cf ev dst  vs
  | .app a0 a1 => plan_app cf ev dst a0 a1 vs
  | .len a0 => plan_len cf ev dst a0 vs
  | .minmax a0 => plan_minmax cf ev dst a0 vs
  | .panic  => plan_panic cf ev dst  vs

/-! ## the evaluator -/

def X.eval (fr : Fr) : X → V
  | .t n => fr.get n
  | .c v => v
def wanted (fr : Fr) : Option (Nat × Bool) → Bool
  | Option.none => true
  | some (t, b) => match fr.get t with
    | .bool c => b == c
    | _ => false
def setD (fr : Fr) (d : Option Nat) (v : V) : Fr :=
  match d with
  | some d => fr.set d v
  | Option.none => fr
def exec1 (a : Act1) (s : St) : Option (Out × St) :=
  match a with
  | .pure r => match r with
    | some o => some (o, s)
    | Option.none => Option.none
  | .locR t f => match s.lo[t]? with
    | some l => match f l with
      | some o => some (o, s)
      | Option.none => Option.none
    | Option.none => Option.none
  | .locW t f => match s.lo[t]? with
    | some l => match f l with
      | some (o, l') => some (o, ⟨s.fr, s.lo.set t l', s.hs⟩)
      | Option.none => Option.none
    | Option.none => Option.none
  | .obR i f => match s.hs.get i with
    | some o => match f o with
      | some o => some (o, s)
      | Option.none => Option.none
    | Option.none => Option.none
  | .obs vs f => match f (s.hs.only (idsOf s.hs vs)) with
    | some (o, h) => some (o, ⟨s.fr, s.lo, ⟨s.hs.c, merge (idsOf s.hs vs) h s.hs.os⟩⟩)
    | Option.none => Option.none
  | .hpR f => match f s.hs with
    | some o => some (o, s)
    | Option.none => Option.none
  | .hpW f => match f s.hs with
    | some (o, h) => some (o, ⟨s.fr, s.lo, h⟩)
    | Option.none => Option.none
def putOut (d : Option Nat) (o : Out) (s : St) : Ex × St :=
  match o with
  | .val v => (.normal, ⟨setD s.fr d v, s.lo, s.hs⟩)
  | .skip => (.normal, ⟨setD s.fr d .undef, s.lo, s.hs⟩)
  | .panic v => (.panic v, s)
def oneOp (cf : Cfg) (ev : Ev) (o : LOper) (s : St) : Option (Ex × St) :=
  bif wanted s.fr o.guard then
    match exec1 (plan cf ev o.dst o.op (o.xs.map (X.eval s.fr))) s with
    | some (r, s') => some (putOut o.dst r s')
    | Option.none => Option.none
  else some (.normal, ⟨setD s.fr o.dst .undef, s.lo, s.hs⟩)
def runOps (cf : Cfg) (ev : Ev) : List LOper → St → Option (Ex × St)
  | [], s => some (.normal, s)
  | o :: r, s => match oneOp cf ev o s with
    | some (.normal, s') => runOps cf ev r s'
    | e => e
/-- of a region that draws its order: what unordered operations touch is apart, and nothing panics -/
def accOf (cf : Cfg) (ev : Ev) (o : LOper) (s : St) : Acc :=
  bif wanted s.fr o.guard then (plan cf ev o.dst o.op (o.xs.map (X.eval s.fr))).acc s.hs else .none
def runDraw (cf : Cfg) (ev : Ev) : List LOper → List Acc → St → Option (Ex × St)
  | [], _, s => some (.normal, s)
  | o :: r, as, s =>
    let a := accOf cf ev o s
    bif o.un.all fun i => Acc.ok (as.getD i .hpW) a then
      match oneOp cf ev o s with
      | some (.normal, s') => runDraw cf ev r (as ++ [a]) s'
      | _ => Option.none
    else Option.none

def iter (body : St → Option (Ex × St)) : Nat → St → Option (Ex × St)
  | 0, _ => Option.none
  | n + 1, s => match body s with
    | some (.normal, s') => iter body n s'
    | e => e

def evalCode (cf : Cfg) (ev : Ev) (n : Nat) : LCode → St → Option (Ex × St)
  | .skip, s => some (.normal, s)
  | .reg ops false, s => runOps cf ev ops s
  | .reg ops true, s => runDraw cf ev ops [] s
  | .seq a b, s => match evalCode cf ev n a s with
    | some (.normal, s') => evalCode cf ev n b s'
    | e => e
  | .cond x a b, s => match x.eval s.fr with
    | .bool true => evalCode cf ev n a s
    | .bool false => evalCode cf ev n b s
    | _ => Option.none
  | .block id a, s => match evalCode cf ev n a s with
    | some (.exit id', s') => bif Nat.beq id' id then some (.normal, s') else some (.exit id', s')
    | e => e
  | .loop a, s => iter (evalCode cf ev n a) n s
  | .exit id, s => some (.exit id, s)
  | .ret, s => some (.ret, s)
  | .frz t, s => match s.lo[t]? with
    | some (g, cs) => bif Nat.beq g 0 then some (.normal, s) else (match stillCells s.hs cs with
      | some (cs', h') => some (.normal, ⟨s.fr, s.lo.set t (g, cs'), h'⟩)
      | Option.none => Option.none)
    | Option.none => Option.none

def resV (s : St) : RV → Option V
  | .tmp t => some (s.fr.get t)
  | .cell t ag sz => match loadV ag sz (s.fr.get t) with
    | .pure (some (.val v)) => some v
    | .locR u f => match s.lo[u]? with
      | some l => match f l with
        | some (.val v) => some v
        | _ => Option.none
      | Option.none => Option.none
    | .obR i f => match s.hs.get i with
      | some o => match f o with
        | some (.val v) => some v
        | _ => Option.none
      | Option.none => Option.none
    | _ => Option.none
def packV : List V → V
  | [v] => v
  | vs => .tuple vs
/-- what is handed back: of a function that touches what it was not given, as it is; else stilled -/
def handBack (imp : Nat) (h : HS) (vs : List V) : Option (Res × HS) :=
  match imp with
  | 1 | 2 => some (.ret (packV vs), h)
  | _ => match stills h vs with
    | some (vs', h') => some (.ret (packV vs'), h')
    | Option.none => Option.none

def enterSt (nt : Nat) (args : List V) (h : HS) : St :=
  ⟨Fr.of nt args, List.replicate nt (0, []), h⟩

def evalCall (cf : Cfg) : Nat → Ev
  | 0 => fun _ _ _ => Option.none
  | n + 1 => fun f args h =>
    match cf.fn f with
    | some (.code lf) =>
      bif Nat.ble (args.length + (lf.nt - args.length)) 4095 then
      (match evalCode cf (evalCall cf n) n lf.body (enterSt lf.nt args h) with
      | some (.normal, s) | some (.ret, s) =>
        (match mapO (resV s) lf.res with
        | some vs => handBack (cf.imp f) s.hs vs
        | Option.none => Option.none)
      | some (.panic v, s) => some (.panic v, s.hs)
      | _ => Option.none) else Option.none
    | some (.prim g) => (match g args h with
      | some (v, h') => some (.ret v, h')
      | Option.none => Option.none)
    | Option.none => Option.none

end Go.Proofs.YthpggdlhoegndaaDoor.LM
