/- What slices.Repeat makes of one bool. No condition. -/
import Derived.Test.YtepdfhjmngbhhaaGreatDoorRmBGravityStrings
import Derived.Test.YtepdfhjmngbhhaaGreatDoorMxX2
import Derived.Test.YtepdfhjmngbhhaaGreatDoorLayB
import Derived.KernelRfl
namespace Go.Proofs.YtepdfhjmngbhhaaGreatDoor
open Go Go.Mx
set_option maxRecDepth 100000
end Go.Proofs.YtepdfhjmngbhhaaGreatDoor
