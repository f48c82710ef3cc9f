/- From the loaded code to the abstract code. -/
import Derived.Test.YtonjnpefnbnohaaMxC
namespace Go.Mx
open Go.RowKit

def constC : Value → V
  | .int k n => .p (.int k n)
  | .bool b => .p (.bool b)
  | .string s => .p (.str s)
  | .slice none 0 0 => .p (.sl 0 [] true)
  | _ => .und
def constV : Value → V
  | .agg cs => .agg (cs.toList.map constC)
  | v => constC v

def cO : Operand → Opd
  | .tmp t => .t t
  | .const v => .c (constV v)
  | .func f => .c (.clo f [])
  | .global _ => .c .und

def isAggD : TypeDesc → Bool
  | .struct _ => true
  | .array _ _ => true
  | _ => false

def sz? (P : Program) (t : TypeId) : Option Nat := (P.info? t).map (·.size)
def agg? (P : Program) (t : TypeId) : Option Bool := (P.underlying t).map isAggD
def zero? (P : Program) (t : TypeId) : Option (List V) := ((P.info? t).bind (·.zero)).map fun z => z.cells.toList.map constC

def eqOffs (P : Program) : Nat → TypeId → Nat → Option (List (Bool × Nat))
  | 0, _, _ => none
  | d + 1, t, off =>
    match P.underlying t, sz? P t with
    | some (.int _), some _ => some [(true, off)]
    | some .bool, some _ => some [(false, off)]
    | some (.struct fields), some nt => if P.stoodInHeld t then none else
        fields.toList.foldr (fun f acc => match acc, sz? P f.type, (if f.name = "_" then none else eqOffs P d f.type (off + f.offset)) with
          | some r, some n, some l => if 0 < n ∧ f.offset + n ≤ nt then some (l ++ r) else none
          | _, _, _ => none) (some [])
    | some (.array len elem), some nt => match sz? P elem with
      | some n => if 0 < n ∧ len * n ≤ nt then (List.range len).foldr (fun i acc => match acc, eqOffs P d elem (off + i * n) with | some r, some l => some (l ++ r) | _, _ => none) (some []) else none
      | none => none
    | _, _ => none

def places (P : Program) (fields : Array Field) : Option (List (Nat × Nat)) := fields.toList.mapM fun f => (sz? P f.type).map fun n => (f.offset, n)

def partOf (ps : List (Nat × Nat)) (p : Nat × Operand) : Option (Nat × Nat × Opd) := match ps[p.1]? with
  | some q => some (q.1, q.2, cO p.2)
  | none => none

def callable (P : Program) (f : FuncId) : Bool :=
  match P.funcs[f]? with
  | some fn => fn.body.isSome && !(fn.name == "runtime.NumGoroutine")
  | none => false

def sameOpd : Operand → Operand → Bool
  | .tmp a, .tmp b => a == b
  | .const (.int k a), .const (.int k' b) => k == k' && a == b
  | _, _ => false

def badOp : AOp := .ld1 (.c (.p (.bool false)))

def cOp (P : Program) (s : Nat) (own : Bool) (o : Oper) : Option AOp :=
  match o.op with
  | .move x | .assign x => some (.mv (cO x))
  | .pick c a b => some (.pick (cO c) (cO a) (cO b))
  | .nilCheck x => some (.chk (cO x))
  | .alloc e => (zero? P e).map (.newz s ·)
  | .box _ x => some (.box s (cO x))
  | .build t parts => match zero? P t, P.underlying t with
    | some z, some (.struct fields) => match places P fields with
      | some ps => (parts.toList.mapM (partOf ps)).map (.build z ·)
      | none => none
    | some z, some (.array _ e) => match sz? P e with
      | some n => some (.build z (parts.toList.map fun p => (p.1 * n, n, cO p.2)))
      | none => none
    | _, _ => none
  | .buildSlice t n parts => match P.underlying t with
    | some (.slice e) => match sz? P e, zero? P e with
      | some k, some z => if n * k ≤ 16777216 ∧ 0 < k ∧ z.length = k then some (.bsl own s k n (List.replicate n z).flatten (parts.toList.map fun p => (p.1 * k, k, cO p.2))) else none
      | _, _ => none
    | _ => none
  | .load t x => match agg? P t, sz? P t with
    | some true, some n => some (.ldn n (cO x))
    | some false, some _ => some (.ld1 (cO x))
    | _, _ => none
  | .store t x v => (sz? P t).map fun n => .st n (cO x) (cO v)
  | .binOp op t x y _ => match op, P.underlying t with
    | .eql, some (.int _) | .neq, some (.int _) => some (.bin op (cO x) (cO y))
    | .eql, some .bool => some (.eqb false (cO x) (cO y))
    | .neq, some .bool => some (.eqb true (cO x) (cO y))
    | .eql, some _ => if P.eqGuardType P.depth t then none else match eqOffs P 8 t 0, sz? P t with
      | some l, some n => some (.eqa false n l (cO x) (cO y))
      | _, _ => none
    | .neq, some _ => if P.eqGuardType P.depth t then none else match eqOffs P 8 t 0, sz? P t with
      | some l, some n => some (.eqa true n l (cO x) (cO y))
      | _, _ => none
    | .shl, _ | .shr, _ => none
    | _, _ => some (.bin op (cO x) (cO y))
  | .unOp .not _ x => some (.unot (cO x))
  | .unOp .neg _ x => some (.uneg (cO x))
  | .convert src dst x => match P.underlying src, P.underlying dst with
    | some (.int _), some (.int k) => some (.conv k (cO x))
    | _, _ => none
  | .fieldAddr t x f => match P.underlying t with
    | some (.struct fields) => match fields[f]? with
      | some fl => match sz? P fl.type with
        | some (_ + 1) => some (.fa fl.offset (cO x))
        | _ => none
      | none => none
    | _ => none
  | .indexAddr t x i => match P.underlying t with
    | some (.slice e) => (sz? P e).map fun k => .ia k (cO x) (cO i)
    | some (.array len e) => (sz? P e).map fun k => .iaa k len (cO x) (cO i)
    | _ => none
  | .field t x f => match P.underlying t with
    | some (.struct fields) => match fields[f]? with
      | some fl => match agg? P fl.type, sz? P fl.type with
        | some true, some n => some (.prt fl.offset (some n) (cO x))
        | some false, some _ => some (.prt fl.offset none (cO x))
        | _, _ => none
      | none => none
    | _ => none
  | .index t x i => match P.underlying t with
    | some (.array len e) => match agg? P e, sz? P e with
      | some b, some k => some (.idx k len b (cO x) (cO i))
      | _, _ => none
    | _ => none
  | .extract x i => some (.ext i (cO x))
  | .slice t x lo hi none => match P.underlying t with
    | some (.slice e) => (sz? P e).map fun k => .sl k (cO x) (lo.map cO) (hi.map cO)
    | some (.array n e) => (sz? P e).map fun k => .sla k n (cO x) (lo.map cO) (hi.map cO)
    | _ => none
  | .makeSlice t l c => match P.underlying t with
    | some (.slice e) => match P.info? e, zero? P e with
      | some i, some z => if 0 < i.size ∧ z.length = i.size ∧ sameOpd l c = true then some (.mk s i.size i.bytes z (cO l)) else none
      | _, _ => none
    | _ => none
  | .makeFunc (.func f) first caps => if first.size = 0 then some (.clo f (caps.toList.map cO)) else none
  | .call c => match c.callee with
    | .builtin .len => match c.argTypes[0]?, c.args.toList with
      | some t, [x] => match P.underlying t with
        | some .string => some (.len true (cO x))
        | some (.slice _) => some (.len false (cO x))
        | some (.array n _) => some (.mv (.c (.p (.int .i64 n))))
        | _ => none
      | _, _ => none
    | .builtin .min => match c.args.toList with
      | [x, y] => some (.mm false (cO x) (cO y))
      | _ => none
    | .builtin .max => match c.args.toList with
      | [x, y] => some (.mm true (cO x) (cO y))
      | _ => none
    | .builtin .append => match c.argTypes.toList, c.args.toList with
      | [t, t'], [x, y] => match P.underlying t, P.underlying t' with
        | some (.slice e), some (.slice _) => match P.info? e, zero? P e with
          | some i, some z => if t' = t ∧ 0 < i.size ∧ 0 < i.bytes ∧ z.length = i.size then some (.app s i.size i.bytes (cO x) (cO y)) else none
          | _, _ => none
        | _, _ => none
      | _, _ => none
    | _ => some badOp
  | _ => some badOp

inductive AI where
  | op (o : AOp)
  | call (s : Nat) (f : FuncId) (args : List Opd)
  | callv (s : Nat) (x : Opd) (args : List Opd)

structure AIns where
  dst : Option Nat
  guard : Option (Option Nat × Bool)
  op : AI

inductive ACode where
  | skip
  | reg (ops : List AIns)
  | regd (ops : List AIns) (pairs : List (Nat × Nat))
  | seq (x y : ACode)
  | cond (c : Opd) (x y : ACode)
  | block (id : Nat) (x : ACode)
  | loop (x : ACode)
  | exit (id : Nat)
  | ret

def siteOf (o : Oper) : List Nat :=
  match o.op, o.dst with
  | .alloc _, some d | .box _ _, some d | .buildSlice .., some d | .makeSlice .., some d => [d]
  | .call c, some d => match c.callee with
    | .builtin .append => [d]
    | .builtin _ => []
    | _ => [d]
  | _, _ => []
def sitesOf : Code → List Nat
  | .region _ ops _ => ops.toList.flatMap siteOf
  | .seq a b => sitesOf a ++ sitesOf b
  | .cond _ a b => sitesOf a ++ sitesOf b
  | .block _ a => sitesOf a
  | .loop a => sitesOf a
  | .rangeFunc _ _ a b => sitesOf a ++ sitesOf b
  | .scope a => sitesOf a
  | _ => []

def appendsTo (ops : Array Oper) (d : Option Nat) : Bool :=
  match d with
  | none => false
  | some d => ops.any fun o => match o.op with
    | .call { callee := .builtin .append, args, .. } => (match (args[0]? : Option Operand) with | some (.tmp t) => t == d | _ => false)
    | _ => false

def cAI (P : Program) (s : Nat) (own : Bool) (o : Oper) : Option AI :=
  match o.op with
  | .call c => match c.callee with
    | .value (.func f) => if callable P f then some (.call s f (c.args.toList.map cO)) else none
    | .value x => some (.callv s (cO x) (c.args.toList.map cO))
    | _ => (cOp P s own o).map .op
  | _ => (cOp P s own o).map .op

def cIns (P : Program) (sites : List Nat) (ops : Array Oper) (o : Oper) : Option AIns :=
  match cAI P (match o.dst with | some d => sites.idxOf d | none => 0) (appendsTo ops o.dst) o with
  | some op => some { dst := o.dst, guard := o.guard.map fun g => ((ops[g.1]?).bind (·.dst), g.2), op }
  | none => none
end Go.Mx
