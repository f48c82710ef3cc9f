/- No package variable is read: none is known. -/
import Derived.Test.YtehblgccaiiikaaLayB
namespace Go.Proofs.Ytehblgccaiiikaa
open Go Go.Mx
instance laidG:Laid := ⟨fun _ => none⟩
end Go.Proofs.Ytehblgccaiiikaa
