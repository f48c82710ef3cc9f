/- The package variables whose contents a row of gravity tells: the weights of a second difference, and those of the library. -/
import Derived.Test.YtepdfhjmngbhhaaGreatDoorLayC
namespace Go.Proofs.YtepdfhjmngbhhaaGreatDoor
open Go Go.Mx
instance laidG:Laid := { G := fun | 0 => some [.int .i64 1,.int .i64 (-2),.int .i64 1] | _ => none,Q := fun | 1 => some intQ | 2 => some ifcQ | 3 => some ifcQ | 4 => some (tabQ .u64 Lib.pow10Tab) | _ => none }
end Go.Proofs.YtepdfhjmngbhhaaGreatDoor
