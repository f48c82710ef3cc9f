/- The arguments at which a law's witness is laid: all zero. -/
import Derived.Test.YtonjnpefnbnohaaTxO
namespace Go.Mx
def Sh.zero : Sh → Value
  | .int k => .int k 0
  | .bool => .bool false
  | .str => .string ByteArray.empty
  | .sl _ => .slice none 0 0
def zeroArg : Bool × List Sh → Value
  | (true, l) => .agg (l.map Sh.zero).toArray
  | (false, l) => ((l.map Sh.zero).head?).getD (.bool false)
def zeroArgs (ps : List PSh) : Array Value := (ps.map fun p => zeroArg (shP p)).toArray
def fnOf (P : Program) (f : FuncId) : Func := (P.funcs[f]?).getD default
theorem law_of {P : Program} {f : FuncId} {c : Con} (h : ConOk P f c) (ht : ∀ x, okPs c.ps x → (∀ p ∈ c.pre x, p) ∧ valR c.rs (c.fn x) = .p (.bool true)) : ∀ us, ArgsV (c.ps.map shP) us → Ret P f us (.p (.bool true)) :=
  law_args c.ps fun x hx => (ht x hx).2 ▸ h.2 x (ht x hx).1
end Go.Mx
