/-
  THE COMPILER from the model's code to the logical machine's: definitions only.
-/
import Derived.Test.YthpggdlhoegndaaDoorLm1
set_option linter.all false
namespace Go.Proofs.YthpggdlhoegndaaDoor.LM
open Go

def ofCell : Value → Option V
  | .bool b => some (.bool b)
  | .int k n => some (.int k n)
  | .float k b => some (.float k b)
  | .string s => some (.str s.data.toList)
  | .pointer none => some .nilp
  | .slice none 0 0 => some (.slice [] true)
  | .map none => some .nilmap
  | .nilFunc => some .nilfunc
  | .nilIface => some .nilif
  | _ => none
def ofVal : Value → Option V
  | .agg cs => match mapO ofCell cs.toList with
    | some l => some (.agg l)
    | none => none
  | v => ofCell v

section
variable (P : Program) (G : Nat → Option (List V)) (fz esc : Nat → Bool)

def ofX : Operand → Option X
  | .tmp t => some (.t t)
  | .const v => match ofVal v with | some v => some (.c v) | none => none
  | .global g => match G g with | some cs => some (.c (.cptr cs 0)) | none => none
  | .func f => some (.c (.func f []))
def ofXs (l : List Operand) : Option (List X) := mapO (ofX G) l

def aggT (t : TypeId) : Option Bool := match P.underlying t with
  | some (.struct _) | some (.array _ _) => some true
  | some _ => some false
  | none => none
def sizeT (t : TypeId) : Option Nat := match P.info? t with
  | some i => some i.size
  | none => none
def bytesT (t : TypeId) : Option Nat := match P.info? t with
  | some i => some i.bytes
  | none => none
def zeroT (t : TypeId) : Option V := match P.info? t with
  | some i => (match i.zero with | some v => ofVal v | none => none)
  | none => none
def fieldT (s : TypeId) (f : Nat) : Option Field := match P.underlying s with
  | some (.struct fs) => fs[f]?
  | _ => none
/-- the kinds of a flat type's cells -/
def fieldsK (kt : TypeId → Option (List TK)) : Nat → List Field → Option (List TK)
  | _, [] => some []
  | acc, f :: fs => bif f.name == "_" || !Nat.beq f.offset acc then none else
    match kt f.type, sizeT P f.type, aggT P f.type with
    | some ks, some sz, some _ => bif Nat.beq ks.length sz then (match fieldsK kt (acc + sz) fs with
      | some r => some (ks ++ r)
      | none => none) else none
    | _, _, _ => none
def kindsT : Nat → TypeId → Option (List TK)
  | 0, _ => none
  | n + 1, t => match P.underlying t with
    | some .bool => some [.bool]
    | some (.int _) => some [.int]
    | some .string => some [.str]
    | some (.array len e) => (match kindsT n e, sizeT P e, aggT P e with
      | some ks, some sz, some _ => bif Nat.beq ks.length sz then some (List.replicate len ks).flatten else none
      | _, _, _ => none)
    | some (.struct fs) => bif P.stoodInHeld t then none else fieldsK P (kindsT n) 0 fs.toList
    | _ => none
def keyT (t : TypeId) : Option TK := match P.underlying t with
  | some (.int _) => some .int
  | some .string => some .str
  | _ => none

def orNone (b : Bool) (x : Option LOp) : Option LOp := bif b then x else none

def placesT (t : TypeId) (parts : List Nat) : Option (List (Nat × Nat)) := match P.underlying t with
  | some (.struct fs) => match mapO (fun f => match sizeT P f.type with | some sz => some (f.offset, sz) | none => none) fs.toList with
    | some pl => mapO (fun i => pl[i]?) parts
    | none => none
  | some (.array _ e) => match sizeT P e with
    | some sz => some (parts.map fun i => (i * sz, sz))
    | none => none
  | _ => none

/-- lists that are converted into lists, in one region -/
def turned (ops : Array Oper) : List Nat := ops.toList.filterMap fun o => match o.op with
  | .convert src _ (.tmp t) => (match P.underlying src with | some (.slice _) => some t | _ => none)
  | _ => none
def memT (i : Nat) : List Nat → Bool
  | [] => false
  | j :: r => Nat.beq i j || memT i r

def isNilC : Operand → Bool
  | .const (.slice none 0 0) => true
  | _ => false
theorem isNilC_eq {y : Operand} (h : isNilC y = true) : y = .const (.slice none 0 0) := by
  unfold isNilC at h; split at h
  · rfl
  · cases h
def opOf (tl : List Nat) (o : Oper) : Option (LOp × List Operand) :=
  match o.op with
  | .move x | .assign x => some (.mv, [x])
  | .pick c a b => some (.pick, [c, a, b])
  | .alloc e => do let z ← zeroT P e; some (.alloc z.cells (o.dst.any esc), [])
  | .box _ v => some (.box (o.dst.any esc), [v])
  | .build t ps => do
    let z ← zeroT P t; let pl ← placesT P t (ps.toList.map (·.1))
    match z with | .agg z => some (.build z pl, ps.toList.map (·.2)) | _ => none
  | .buildSlice t n ps => match P.underlying t with
    | some (.slice e) => do
      let z ← zeroT P e; let sz ← sizeT P e
      bif Nat.beq z.cells.length sz && Nat.ble (n * sz) 16777216 then some (.lit n sz z (ps.toList.map (·.1)) (o.dst.any fun d => memT d tl), ps.toList.map (·.2)) else none
    | _ => none
  | .load t a => do let ag ← aggT P t; let sz ← sizeT P t; some (.load ag sz, [a])
  | .store t a x => do let sz ← sizeT P t; some (.store sz, [a, x])
  | .nilCheck x => some (.nilck, [x])
  | .binOp op t x y _ =>
    match op with
    | .eql | .neq => (match P.underlying t with
      | some .bool => some (.eqb (op matches .neq), [x, y])
      | some (.int _) | some .string => some (.bin op, [x, y])
      | some (.struct _) | some (.array _ _) => do
        let ks ← kindsT P 20 t
        bif P.eqGuardType P.depth t then none else some (.eqa (op matches .neq) ks, [x, y])
      | some (.slice _) => bif isNilC y then some (.eqs (op matches .neq), [x, y]) else none
      | _ => none)
    | _ => some (.bin op, [x, y])
  | .unOp op _ x => some (.un op, [x])
  | .convert src dst x => do
    let _ ← P.underlying src
    match P.underlying dst with
    | some (.int k) => some (.conv (.int k), [x])
    | some .string => (match P.underlying src with
      | some .string => some (.conv .str, [x])
      | some (.slice e) => (match P.underlying e with
        | some (.int .u8) => some (.conv .text, [x])
        | _ => none)
      | _ => none)
    | some (.slice e) => (match P.underlying src, P.underlying e, sizeT P e with
      | some .string, some (.int .u8), some 1 => some (.conv .bytes, [x])
      | some (.slice _), some (.int .u8), some 1 => bif src == dst then some (.conv .same, [x]) else none
      | _, _, _ => none)
    | _ => none
  | .makeInterface t x => match P.underlying t with
    | some (.interface _) | none => none
    | _ => some (.mki t, [x])
  | .makeFunc (.func f) first caps => bif first.isEmpty then some (.mkf f (fz f), caps.toList) else none
  | .makeMap _ none => some (.mkmap, [])
  | .makeSlice t l c => match P.underlying t with
    | some (.slice e) => do
      let z ← zeroT P e; let sz ← sizeT P e; let by_ ← bytesT P e
      bif Nat.beq z.cells.length sz then some (.mkslice z sz by_, [l, c]) else none
    | _ => none
  | .slice t x lo hi none => match P.underlying t with
    | some .string => some (.sstr lo.isSome hi.isSome, [x] ++ lo.toList ++ hi.toList)
    | some (.slice e) => do let sz ← sizeT P e; some (.sslc lo.isSome hi.isSome sz, [x] ++ lo.toList ++ hi.toList)
    | _ => none
  | .fieldAddr s x f => do
    let fd ← fieldT P s f; let sz ← sizeT P fd.type
    bif Nat.beq sz 0 then none else some (.fad fd.offset, [x])
  | .field s x f => do
    let fd ← fieldT P s f; let sz ← sizeT P fd.type; let ag ← aggT P fd.type
    some (.fld ag fd.offset sz, [x])
  | .indexAddr t x i => match P.underlying t with
    | some (.array n e) => do let sz ← sizeT P e; some (.iadA n sz, [x, i])
    | some (.slice e) => do let sz ← sizeT P e; bif Nat.beq sz 0 then none else some (.iadS sz, [x, i])
    | _ => none
  | .index t x i => match P.underlying t with
    | some .string => some (.idxS, [x, i])
    | some (.array n e) => do let sz ← sizeT P e; let ag ← aggT P e; some (.idxA n sz ag, [x, i])
    | _ => none
  | .lookup t m k ok => match P.underlying t with
    | some (.map kt e) => do let z ← zeroT P e; let ks ← keyT P kt; some (.look z ok ks, [m, k])
    | _ => none
  | .mapUpdate t m k x => match P.underlying t with
    | some (.map kt _) => do let ks ← keyT P kt; some (.mset ks, [m, k, x])
    | _ => none
  | .extract x i => some (.ext i, [x])
  | .call c => match c.callee with
    | .value (.func f) => some (.call f, c.args.toList)
    | .value x => some (.callv, x :: c.args.toList)
    | .builtin .append => match c.argTypes.toList with
      | [t, u] => (match P.underlying t, P.underlying u with
        | some (.slice e), some (.slice _) | some (.slice e), some .string => do
          let sz ← sizeT P e; let by_ ← bytesT P e
          let z ← zeroT P e
          bif Nat.beq sz 0 || !Nat.beq z.cells.length sz || Nat.beq by_ 0 then none else some (.app sz by_, c.args.toList)
        | _, _ => none)
      | _ => none
    | .builtin .len => match c.argTypes.toList with
      | [t] => (match P.underlying t with
        | some .string => some (.len 0, c.args.toList)
        | some (.slice _) => some (.len 1, c.args.toList)
        | some (.map _ _) => some (.len 2, c.args.toList)
        | _ => none)
      | _ => none
    | .builtin .max => some (.minmax true, c.args.toList)
    | .builtin .min => some (.minmax false, c.args.toList)
    | _ => none
  | .panic x => some (.panic, [x])
  | _ => none

/-- touches nothing but temporaries, whatever the operands are -/
def LOp.calm : LOp → Bool
  | .mv | .pick | .build .. | .nilck | .bin _ | .eqb _ | .eqa .. | .eqs _ | .un _ | .mki _ | .mkf _ false | .sstr .. | .fld .. | .fad _ | .iadA .. | .idxS | .idxA .. | .ext _ | .minmax _ => true
  | .conv (.int _) | .conv .str | .conv .bytes => true
  | _ => false

def X.tmp? : X → Option Nat
  | .t n => some n
  | .c _ => none
def LOper.reads (o : LOper) : List Nat := (match o.guard with | some (t, _) => [t] | none => []) ++ o.xs.filterMap X.tmp?
def apartTmps (a b : LOper) : Bool :=
  (match a.dst with
  | some d => !(b.reads.contains d) && !(b.dst == some d)
  | none => true) &&
  (match b.dst with
  | some d => !(a.reads.contains d)
  | none => true)

def operOf (ops : Array Oper) (o : Oper) : Option LOper := do
  let (op, xs) ← opOf P fz esc (turned P ops) o
  let xs ← ofXs G xs
  let g ← match o.guard with
    | none => some none
    | some (j, w) => (match (ops[j]?).bind (·.dst) with
      | some d => some (some (d, w))
      | none => none)
  some { dst := o.dst, op := op, xs := xs, guard := g, un := [] }

/-- those ahead of j that may stand behind it -/
def loose (b : Array Nat) (j : Nat) : List Nat := (List.range j).filter fun i => !(b.getD j 0).testBit i
def drawn (ops : Array Oper) (ls : List LOper) : Option (List LOper) :=
  let b := Region.before ops
  mapO (fun (o, j) =>
    let l := loose b j
    bif l.all (fun i => match ls[i]? with | some p => apartTmps p o | none => false) then
      some { o with un := bif o.op.calm then [] else l.filter fun i => match ls[i]? with | some p => !p.op.calm | none => true }
    else none) ls.zipIdx
def regOf (ops : Array Oper) (draw : Bool) : Option LCode := do
  let ls ← mapO (operOf P G fz esc ops) ops.toList
  bif draw then (bif P.follows .mixedOrders && ops.toList.zipIdx.all (fun (o, i) => o.after.all fun e => !Region.binds .any e || Nat.blt e.on i) then
      do let ds ← drawn ops ls; some (.reg ds true) else none)
  else some (.reg ls false)

/-- behind a block: rows in those local variables are written no more (nothing is done there by the machine) -/
def wrapF : List Nat → LCode → LCode
  | [], c => c
  | t :: r, c => wrapF r (.seq c (.frz t))
variable (gh : Nat → List Nat)
def codeOf : Code → Option LCode
  | .skip => some .skip
  | .region _ ops draw => regOf P G fz esc ops draw
  | .seq a b => match codeOf a, codeOf b with
    | some a, some b => some (.seq a b)
    | _, _ => none
  | .cond x a b => match ofX G x, codeOf a, codeOf b with
    | some x, some a, some b => some (.cond x a b)
    | _, _, _ => none
  | .block id a => match codeOf a with | some a => some (wrapF (gh id) (.block id a)) | none => none
  | .loop a => match codeOf a with | some a => some (.loop a) | none => none
  | .exit id => some (.exit id)
  | .ret => some .ret
  | _ => none
def resOf : ResultVar → Option RV
  | .tmp t => some (.tmp t)
  | .cell a t => match aggT P t, sizeT P t with
    | some ag, some sz => some (.cell a ag sz)
    | _, _ => none
def funcOf (f : Func) : Option LFunc :=
  match f.body with
  | some b => (match codeOf P G fz esc gh b, mapO (resOf P) f.results.toList with
    | some b, some r => some ⟨f.ntmps, r, b⟩
    | _, _ => none)
  | none => none
end
end Go.Proofs.YthpggdlhoegndaaDoor.LM
