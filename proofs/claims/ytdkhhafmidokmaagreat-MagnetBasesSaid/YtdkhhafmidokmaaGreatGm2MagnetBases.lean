/- No package variable is read: none is known. -/
import Derived.Test.YtdkhhafmidokmaaGreatLayB
namespace Go.Proofs.YtdkhhafmidokmaaGreat
open Go Go.Mx
instance laidG:Laid := ⟨fun _ => none⟩
end Go.Proofs.YtdkhhafmidokmaaGreat
