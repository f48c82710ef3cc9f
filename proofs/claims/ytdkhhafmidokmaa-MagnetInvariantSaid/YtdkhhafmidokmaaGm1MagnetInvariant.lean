/- No package variable is read: none is known. -/
import Derived.Test.YtdkhhafmidokmaaLayB
namespace Go.Proofs.Ytdkhhafmidokmaa
open Go Go.Mx
instance laidG:Laid := ⟨fun _ => none⟩
end Go.Proofs.Ytdkhhafmidokmaa
