/- The crane seat's small words. Conditions: none. -/
import Derived.Test.YtgmppoappaolkaaChecked
import Derived.Test.YtgmppoappaolkaaA30
import Derived.KernelRfl
import Derived.IntWalk
open Go
namespace Go.Proofs.Ytgmppoappaolkaa
theorem mix : Try.prog.follows .mixedOrders = true := Try.checked.mixed
def bx (a b c d e f : Int) : AV := AV.agg [.int .i64 a, .int .i64 b, .int .i64 c, .int .i64 d, .int .i64 e, .int .i64 f]
def pt (a b : Int) : AV := AV.agg [.int .i64 a, .int .i64 b]
def vc (a b c : Int) : AV := AV.agg [.int .i64 a, .int .i64 b, .int .i64 c]
@[simp] theorem low_bx (lo : Nat) (a b c d e f : Int) : Low lo (bx a b c d e f) = True := by unfold bx; simp
@[simp] theorem low_pt (lo : Nat) (a b : Int) : Low lo (pt a b) = True := by unfold pt; simp
@[simp] theorem low_vc (lo : Nat) (a b c : Int) : Low lo (vc a b c) = True := by unfold vc; simp
end Go.Proofs.Ytgmppoappaolkaa
