/- What the printed texts use, at this seat's program. -/
import Derived.Test.YtlefdgplobifiaaGreatDoorKit0
import Derived.Test.YtlefdgplobifiaaGreatDoorProg
namespace Go.Proofs.YtlefdgplobifiaaGreatDoor
theorem Tryz.mixed : Tryz.prog.follows .mixedOrders = true := by kernel_rfl
end Go.Proofs.YtlefdgplobifiaaGreatDoor
