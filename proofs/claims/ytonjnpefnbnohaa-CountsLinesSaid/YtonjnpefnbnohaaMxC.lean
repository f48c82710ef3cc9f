/- Abstract operations, and what each of them does. -/
import Derived.Test.YtonjnpefnbnohaaMxB
namespace Go.Mx
open Go.RowKit

inductive Opd where
  | t (n : Nat)
  | c (v : V)

inductive AOp where
  | mv (x : Opd)
  | pick (c x y : Opd)
  | newz (s : Nat) (cs : List V)
  | box (s : Nat) (x : Opd)
  | build (z : List V) (parts : List (Nat × Nat × Opd))
  | bsl (own : Bool) (s k n : Nat) (z : List V) (parts : List (Nat × Nat × Opd))
  | ld1 (x : Opd)
  | ldn (n : Nat) (x : Opd)
  | st (n : Nat) (x v : Opd)
  | bin (op : BinOp) (x y : Opd)
  | eqa (neg : Bool) (n : Nat) (offs : List (Bool × Nat)) (x y : Opd)
  | eqb (neg : Bool) (x y : Opd)
  | unot (x : Opd)
  | uneg (x : Opd)
  | conv (k : IntKind) (x : Opd)
  | fa (off : Nat) (x : Opd)
  | ia (k : Nat) (x i : Opd)
  | iaa (k len : Nat) (x i : Opd)
  | prt (off : Nat) (n : Option Nat) (x : Opd)
  | idx (k len : Nat) (agg : Bool) (x i : Opd)
  | ext (i : Nat) (x : Opd)
  | len (str : Bool) (x : Opd)
  | mm (mx : Bool) (x y : Opd)
  | sl (k : Nat) (x : Opd) (lo hi : Option Opd)
  | sla (k n : Nat) (x : Opd) (lo hi : Option Opd)
  | mk (s k bytes : Nat) (z : List V) (len : Opd)
  | app (s k bytes : Nat) (x y : Opd)
  | clo (f : FuncId) (caps : List Opd)
  | chk (x : Opd)

def cellsV : V → Option (List V)
  | .agg cs => some cs
  | .tup _ | .opt _ _ | .und | .no => none
  | v => some [v]

def okCell : V → Bool
  | .agg _ | .tup _ | .opt _ _ | .und | .no => false
  | _ => true

def unw (c : Bool) : V → V
  | .opt c' v => if c' = c then v else .und
  | v => v

def pickV (b : Bool) (x y : V) : V :=
  match unw b x, unw (!b) y with
  | .p (.bool q), .p (.bool q') => .p (.bool (bif b then q else q'))
  | x', y' => bif b then x' else y'
theorem m_pick_t {x y : V} : pickV true x y = unw true x := by
  unfold pickV; split
  · rename_i h _; rw [h]; rfl
  · rfl
theorem m_pick_f {x y : V} : pickV false x y = unw true y := by
  unfold pickV; split
  · rename_i _ h; exact h.symm
  · rfl

def fillV : List V → List (Nat × Nat × V) → Option (List V)
  | cs, [] => some cs
  | cs, (o, n, v) :: r =>
    match cellsV v with
    | some vs => if vs.length = n ∧ o + n ≤ cs.length then fillV (wr cs o vs) r else none
    | none => none

def allP : List V → Option (List Pv)
  | [] => some []
  | .p x :: r => (allP r).map (x :: ·)
  | _ :: _ => none

def chunk {α : Type} (k : Nat) : Nat → List α → List (List α)
  | 0, _ => []
  | n + 1, l => l.take k :: chunk k n (l.drop k)

def BSt.ok : BSt → Bool
  | .dead => false
  | _ => true
def BSt.isLive : BSt → Bool
  | .live => true
  | _ => false

def behind (hp : List Blk) : V → Option (List V)
  | .ptr t ver o => match hp[t]? with
    | some b => if b.ver = ver ∧ b.st.ok = true ∧ o ≤ b.cs.length then some (b.cs.drop o) else none
    | none => none
  | .ipt cs => some (cs.map .p)
  | _ => none

def eqCell : Bool → V → V → Option Bool
  | true, .p (.int k a), .p (.int k' b) => if k = k' then some (a == b) else none
  | false, .p (.bool a), .p (.bool b) => some (a == b)
  | _, _, _ => none
def eqCells (xs ys : List V) : List (Bool × Nat) → Option Bool
  | [] => some true
  | (i, o) :: r => match xs[o]?, ys[o]? with
    | some x, some y => match eqCell i x y, eqCells xs ys r with
      | some a, some b => some (a && b)
      | _, _ => none
    | _, _ => none

def binI (op : BinOp) (k : IntKind) (a b : Int) : Option Pv :=
  match op with
  | .add => some (.int k (k.wrap (a + b)))
  | .sub => some (.int k (k.wrap (a - b)))
  | .mul => some (.int k (k.wrap (a * b)))
  | .quo => if b = 0 then none else some (.int k (k.wrap (a.tdiv b)))
  | .rem => if b = 0 then none else some (.int k (a.tmod b))
  | .eql => some (.bool (a == b))
  | .neq => some (.bool (a != b))
  | .lss => some (.bool (a < b))
  | .leq => some (.bool (a ≤ b))
  | .gtr => some (.bool (a > b))
  | .geq => some (.bool (a ≥ b))
  | _ => none

def sliceP (hp : List Blk) (k : Nat) : V → Option (List (List Pv))
  | .p (.sl _ [] _) => some []
  | .p (.sl k' es _) => if k' = k then some es else none
  | .ref t ver o n k' => match hp[t]? with
    | some b => if b.ver = ver ∧ b.st.ok = true ∧ k' = k ∧ o + n * k ≤ b.cs.length then (allP ((b.cs.drop o).take (n * k))).map (chunk k n) else none
    | none => none
  | _ => none

def part? (cs : List V) (off : Nat) : Option Nat → Option V
  | none => cs[off]?
  | some n => if off + n ≤ cs.length then some (.agg ((cs.drop off).take n)) else none

def bound (g : Opd → V) (d : Int) : Option Opd → Option Int
  | none => some d
  | some x => match g x with
    | .p (.int _ n) => some n
    | _ => none

def astep (hp : List Blk) (g : Opd → V) : AOp → Option (V × List Blk)
  | .mv x => some (g x, hp)
  | .pick c x y => match g c with
    | .p (.bool b) => some (pickV b (g x) (g y), hp)
    | _ => none
  | .newz s cs => match hp[s]? with
    | some b => some (.ptr s (b.ver + 1) 0, hp.set s ⟨b.ver + 1, .live, cs⟩)
    | none => none
  | .box s x => match hp[s]?, cellsV (g x) with
    | some b, some cs => some (.ptr s (b.ver + 1) 0, hp.set s ⟨b.ver + 1, .live, cs⟩)
    | _, _ => none
  | .build z parts => match fillV z (parts.map fun p => (p.1, p.2.1, g p.2.2)) with
    | some cs => some (.agg cs, hp)
    | none => none
  | .bsl own s k n z parts => match fillV z (parts.map fun p => (p.1, p.2.1, g p.2.2)) with
    | some cs => if own then
        match hp[s]? with
        | some b => some (.ref s (b.ver + 1) 0 n k, hp.set s ⟨b.ver + 1, .live, cs⟩)
        | none => none
      else match allP cs with
        | some ps => some (.p (.sl k (chunk k n ps) true), hp)
        | none => none
    | none => none
  | .ld1 x => match behind hp (g x) with
    | some cs => (cs[0]?).map (·, hp)
    | none => none
  | .ldn n x => match behind hp (g x) with
    | some cs => if n ≤ cs.length then some (.agg (cs.take n), hp) else none
    | none => none
  | .st n x v => match g x, cellsV (g v) with
    | .ptr t ver o, some vs => match hp[t]? with
      | some b => if b.ver = ver ∧ b.st.isLive = true ∧ vs.length = n ∧ o + n ≤ b.cs.length ∧ vs.all okCell = true then some (.und, hp.set t ⟨ver, .live, wr b.cs o vs⟩) else none
      | none => none
    | _, _ => none
  | .bin op x y => match g x, g y with
    | .p (.int k a), .p (.int k' b) => if k = k' then (binI op k a b).map (.p ·, hp) else none
    | _, _ => none
  | .eqa neg n offs x y => match g x, g y with
    | .agg xs, .agg ys => if xs.length = n ∧ ys.length = n then (eqCells xs ys offs).map fun b => (.p (.bool (if neg then !b else b)), hp) else none
    | _, _ => none
  | .eqb neg x y => match g x, g y with
    | .p (.bool a), .p (.bool b) => some (.p (.bool (if neg then !(a == b) else a == b)), hp)
    | _, _ => none
  | .unot x => match g x with
    | .p (.bool b) => some (.p (.bool !b), hp)
    | _ => none
  | .uneg x => match g x with
    | .p (.int k n) => some (.p (.int k (k.wrap (0 - n))), hp)
    | _ => none
  | .conv k x => match g x with
    | .p (.int _ n) => some (.p (.int k (k.wrap n)), hp)
    | _ => none
  | .fa off x => match g x with
    | .ptr t ver o => some (.ptr t ver (o + off), hp)
    | .ipt cs => some (.ipt (cs.drop off), hp)
    | _ => none
  | .ia k x i => match g x, g i with
    | .p (.sl k' es _), .p (.int _ n) => if 0 ≤ n ∧ n < es.length ∧ k' = k then some (.ipt (es.getD n.toNat []), hp) else none
    | .ref t ver o len k', .p (.int _ n) => if 0 ≤ n ∧ n < len ∧ k' = k then some (.ptr t ver (o + n.toNat * k), hp) else none
    | _, _ => none
  | .iaa k len x i => match g x, g i with
    | .ptr t ver o, .p (.int _ n) => if 0 ≤ n ∧ n < len then some (.ptr t ver (o + n.toNat * k), hp) else none
    | .ipt cs, .p (.int _ n) => if 0 ≤ n ∧ n < len then some (.ipt (cs.drop (n.toNat * k)), hp) else none
    | _, _ => none
  | .prt off n x => match g x with
    | .agg cs => (part? cs off n).map (·, hp)
    | _ => none
  | .idx k len agg x i => match g x, g i with
    | .agg cs, .p (.int _ n) => if 0 ≤ n ∧ n < len then (part? cs (n.toNat * k) (if agg then some k else none)).map (·, hp) else none
    | _, _ => none
  | .ext i x => match g x with
    | .tup vs => (vs[i]?).map (·, hp)
    | _ => none
  | .len false x => match g x with
    | .p (.sl _ es _) => some (.p (.int .i64 es.length), hp)
    | .ref _ _ _ n _ => some (.p (.int .i64 n), hp)
    | _ => none
  | .len true x => match g x with
    | .p (.str s) => some (.p (.int .i64 s.size), hp)
    | _ => none
  | .mm mx x y => match g x, g y with
    | .p (.int k a), .p (.int _ b) => some (.p (.int k (if mx then (if b > a then b else a) else (if b < a then b else a))), hp)
    | _, _ => none
  | .sl k x lo hi => match g x with
    | .p (.sl k' es full) => match bound g 0 lo, bound g es.length hi with
      | some l, some h => if 0 ≤ l ∧ l ≤ h ∧ h ≤ es.length ∧ (k' = k ∨ es.length = 0) then some (.p (.sl k' ((es.drop l.toNat).take (h.toNat - l.toNat)) (full && decide (h = es.length))), hp) else none
      | _, _ => none
    | .ref t ver o n k' => match bound g 0 lo, bound g n hi with
      | some l, some h => if 0 ≤ l ∧ l < h ∧ h ≤ n ∧ k' = k then some (.ref t ver (o + l.toNat * k) (h.toNat - l.toNat) k, hp) else none
      | _, _ => none
    | _ => none
  | .sla k n x lo hi => match g x with
    | .ptr t ver o => match bound g 0 lo, bound g n hi, hp[t]? with
      | some l, some h, some b => if b.ver = ver ∧ b.st.ok = true ∧ o + n * k ≤ b.cs.length ∧ 0 ≤ l ∧ l < h ∧ h ≤ n then some (.ref t ver (o + l.toNat * k) (h.toNat - l.toNat) k, hp) else none
      | _, _, _ => none
    | _ => none
  | .mk s k bytes z len => match hp[s]?, g len with
    | some b, .p (.int .i64 n) => if 0 ≤ n ∧ bytes * n ≤ 281474976710656 ∧ n ≤ 9223372036854775807 then some (.ref s (b.ver + 1) 0 n.toNat k, hp.set s ⟨b.ver + 1, .live, (List.replicate n.toNat z).flatten⟩) else none
    | _, _ => none
  | .app s k bytes x y => match sliceP hp k (g y) with
    | none => none
    | some new => match g x with
      | .p (.sl _ [] true) => match hp[s]? with
        | some b => if new.length * bytes ≤ 140737488355328 then some (.ref s (b.ver + 1) 0 new.length k, hp.set s ⟨b.ver + 1, .live, new.flatten.map .p⟩) else none
        | none => none
      | .ref t ver 0 n k' => match hp[t]? with
        | some b => if b.ver = ver ∧ b.st.isLive = true ∧ k' = k ∧ b.cs.length = n * k ∧ (n + new.length) * bytes ≤ 140737488355328 then
            some (.ref t (ver + 1) 0 (n + new.length) k, hp.set t ⟨ver + 1, .live, b.cs ++ (new.flatten.map .p)⟩) else none
        | none => none
      | _ => none
  | .clo f caps => some (.clo f (caps.map g), hp)
  | .chk x => match g x with
    | .ptr t ver o => some (.ptr t ver o, hp)
    | .ipt cs => some (.ipt cs, hp)
    | _ => none

def St.get (st : St) : Opd → V
  | .t n => (st.ts[n]?).getD .und
  | .c v => v
end Go.Mx
