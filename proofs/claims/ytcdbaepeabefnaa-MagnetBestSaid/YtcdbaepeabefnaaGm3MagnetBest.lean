/- No package variable is read: none is known. -/
import Derived.Test.YtcdbaepeabefnaaLayB
namespace Go.Proofs.Ytcdbaepeabefnaa
open Go Go.Mx
instance laidG:Laid := ⟨fun _ => none⟩
end Go.Proofs.Ytcdbaepeabefnaa
