import Derived.Test.YtepdfhjmngbhhaaGreatDoorLayB
import Derived.Test.YtepdfhjmngbhhaaGreatDoorAwBGravityStrings
import Derived.KernelRfl
namespace Go.Proofs.YtepdfhjmngbhhaaGreatDoor
open Go Go.Mx
set_option maxRecDepth 100000
/- mathbits_Mul32 -/
/- mathbits_Mul64 -/
/- mathbits_Mul -/
end Go.Proofs.YtepdfhjmngbhhaaGreatDoor
