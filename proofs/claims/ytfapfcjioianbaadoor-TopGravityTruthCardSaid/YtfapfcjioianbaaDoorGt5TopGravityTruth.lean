/- The package variables whose contents the row tells: the weights of a second difference. -/
import Derived.Test.YtfapfcjioianbaaDoorLayB
namespace Go.Proofs.YtfapfcjioianbaaDoor
open Go Go.Mx
instance laidG:Laid := ⟨fun | 0 => some [.int .i64 1,.int .i64 (-2),.int .i64 1] | _ => none⟩
end Go.Proofs.YtfapfcjioianbaaDoor
