/- CraneMasses: what the law computes is true. Conditions: none. -/
import Derived.Test.YtgmppoappaolkaaD7
open Go
namespace Go.Proofs.Ytgmppoappaolkaa
theorem r3_true (a b c d e f n x y : Int) : r3.v a b c d e f n x y = true := by
  have e17 : r17.v = r37.v := rfl
  have e42 : r42.v = r39.v := rfl
  have e16 : r16.v = r40.v := rfl
  unfold r3.v r15.v
  rw [r14_eq, e17, e42, e16]
  unfold r13.v0 r13.v1 r12.v0 r12.v1
  cases hb : r36.v a b c d e f == 0 with
  | true =>
    cases hn : r37.v n with
    | true =>
      rw [refMass (box_ok hb) hn]
      cases r39.v x <;> cases r39.v y <;> simp
    | false => cases r39.v x <;> cases r39.v y <;> simp
  | false => cases r39.v x <;> cases r39.v y <;> simp_all
end Go.Proofs.Ytgmppoappaolkaa
