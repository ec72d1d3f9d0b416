/- The tolerance seat's small words. Conditions: none. -/
import Derived.Test.YtjdakdjgkpfjkaaChecked
import Derived.Test.YtjdakdjgkpfjkaaA30
import Derived.KernelRfl
import Derived.IntWalk
open Go
namespace Go.Proofs.Ytjdakdjgkpfjkaa
set_option linter.unusedVariables false
set_option linter.unusedSimpArgs false
theorem mix : Try.prog.follows .mixedOrders = true := Try.checked.mixed
end Go.Proofs.Ytjdakdjgkpfjkaa
