/- The examples of the chapter hold. Conditions: none. -/
import Derived.Test.YtjdakdjgkpfjkaaD15
open Go
namespace Go.Proofs.Ytjdakdjgkpfjkaa
theorem r11t (h : AHeap) : Ret Try.prog 11 ([]) h (.bool true) h := r11 h
end Go.Proofs.Ytjdakdjgkpfjkaa
