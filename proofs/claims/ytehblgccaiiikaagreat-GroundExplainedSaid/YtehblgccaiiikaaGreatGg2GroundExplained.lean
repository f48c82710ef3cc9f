/- No package variable is read: none is known. -/
import Derived.Test.YtehblgccaiiikaaGreatLayB
namespace Go.Proofs.YtehblgccaiiikaaGreat
open Go Go.Mx
instance laidG:Laid := ⟨fun _ => none⟩
end Go.Proofs.YtehblgccaiiikaaGreat
