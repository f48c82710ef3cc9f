/- Layers of the walk: abstract values, operations, calls, loops, and what they do. No condition. -/
import Derived.Test.YtcdbaepeabefnaaMxS
namespace Go.Mx
variable [Laid]
open Go.RowKit
section
variable {P:Program} {l:Nat} {vs:List (List V)} {tr:Option Nat} {st:St} {r:List AIns} {K:Option Nat→St→Prop} {d:Option Nat}

end
end Go.Mx
