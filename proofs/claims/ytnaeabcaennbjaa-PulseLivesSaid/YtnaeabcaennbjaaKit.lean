/- What the printed texts use, at this seat's program. -/
import Derived.Test.YtnaeabcaennbjaaKit0
import Derived.Test.YtnaeabcaennbjaaProg
namespace Go.Proofs.Ytnaeabcaennbjaa
theorem Try.mixed : Try.prog.follows .mixedOrders = true := by kernel_rfl
end Go.Proofs.Ytnaeabcaennbjaa
