/- Layers of the walk: abstract values, operations, calls, loops, and what they do. No condition. -/
import Derived.Test.YtepdfhjmngbhhaaGreatDoorMxW
namespace Go.Mx
variable [Laid]
open Go.RowKit
section
variable {P:Program} {m:Nat} {st:St} {r:List AIns} {K:St→Prop} {d:Option Nat}
end
end Go.Mx
