/- Plain laws: a product of 128 bits, and its quotient by a million. Conditions: bounds. -/
import Derived.Test.YtgmppoappaolkaaD3
import Derived.Laws.MathBits
import Derived.Laws.BitsAllLaws
open Go
namespace Go.Proofs.Ytgmppoappaolkaa

theorem and32 (z : Int) (h0 : 0 ≤ z) (h1 : z < 18446744073709551616) : IntKind.u64.wrap (↑(BitVec.ofInt 64 z &&& BitVec.ofInt 64 4294967295).toNat : Int) = z % 4294967296 := and_low32 z h0 h1

theorem r59_v0 (x y : Int) (hx0 : 0 ≤ x) (hx : x < 18446744073709551616) (hy0 : 0 ≤ y) (hy : y < 18446744073709551616) : r59.v0 x y = x * y / 18446744073709551616 := by
  unfold r59.v0
  have w (n : Int) : 0 ≤ IntKind.u64.wrap n ∧ IntKind.u64.wrap n < 18446744073709551616 := by rw [IntKind.wrap_u64]; omega
  rw [and32 x hx0 hx, and32 y hy0 hy, and32 _ (w _).1 (w _).2]
  simp only [Int.fdiv_eq_ediv_of_nonneg _ (show (0 : Int) ≤ 4294967296 by decide), IntKind.wrap_u64]
  exact mul64_arith x y hx0 hx hy0 hy

theorem un32 (x l : Int) (hx0 : 0 ≤ x) (hx : x < 1000000) (hl0 : 0 ≤ l) (hl : l < 18446744073709551616) :
    IntKind.u64.wrap (↑(BitVec.ofInt 64 (IntKind.u64.wrap (x * 17592186044416)) ||| BitVec.ofInt 64 (l.fdiv 1048576)).toNat : Int) = x * 17592186044416 + l / 1048576 := by
  rw [IntWalk.u64_in (x * 17592186044416) (by omega), Int.fdiv_eq_ediv_of_nonneg _ (by decide)]
  have h := u64_or (x * 17592186044416) (l / 1048576) (by omega) (by omega) (by omega) (by omega)
  have h2 : IntKind.u64.wrap (↑(BitVec.ofInt 64 (x * 17592186044416) ||| BitVec.ofInt 64 (l / 1048576)).toNat : Int) = bits .or .u64 (x * 17592186044416) (l / 1048576) := rfl
  rw [h2, h]
  have e1 : (x * 17592186044416).toNat = 2 ^ 44 * x.toNat := by omega
  rw [e1, ← Nat.two_pow_add_eq_or_of_lt (by omega)]
  omega

theorem div_arith (x l : Int) (hx0 : 0 ≤ x) (hx : x < 1000000) (hl0 : 0 ≤ l) (hl : l < 18446744073709551616) :
    let u := x * 17592186044416 + l / 1048576
    let un1 := (l * 17592186044416 % 18446744073709551616) / 4294967296
    u / 4096000000 < 4294967296 ∧ ((u * 4294967296 % 18446744073709551616 + un1) % 18446744073709551616 - u / 4096000000 * 17592186044416000000 % 18446744073709551616) % 18446744073709551616 = u % 4096000000 * 4294967296 + un1 ∧
    (u % 4096000000 * 4294967296 + un1) / 4096000000 < 4294967296 ∧ u / 4096000000 * 4294967296 + (u % 4096000000 * 4294967296 + un1) / 4096000000 = (x * 18446744073709551616 + l) / 1000000 := by
  intro u un1
  have e1 : un1 = l % 1048576 * 4096 := by omega
  refine ⟨by omega, ?_, by omega, ?_⟩
  · rw [e1]; omega
  · rw [e1]; omega

theorem r60_div (x l : Int) (hx0 : 0 ≤ x) (hx : x < 1000000) (hl0 : 0 ≤ l) (hl : l < 18446744073709551616) : r60.v0 x l = (x * 18446744073709551616 + l) / 1000000 := by
  have ⟨a1, a2, a3, a4⟩ := div_arith x l hx0 hx hl0 hl
  unfold r60.v0
  rw [un32 x l hx0 hx hl0 hl, Int.fdiv_eq_ediv_of_nonneg _ (by decide), Int.tdiv_eq_ediv_of_nonneg (by omega)]
  rw [IntWalk.u64_in ((x * 17592186044416 + l / 1048576) / 4096000000) (by omega)]
  simp only [IntKind.wrap_u64]
  rw [a2, Int.tdiv_eq_ediv_of_nonneg (by omega)]
  omega

def r60r (x l : Int) : Int := if x = 0 then r60z.v1 l else r60.v1 x l
theorem r60_ret (x l : Int) (hx0 : 0 ≤ x) (hx : x < 1000000) (hl0 : 0 ≤ l) (hl : l < 18446744073709551616) (h : AHeap) :
    Ret Try.prog 60 [AV.int IntKind.u64 x, AV.int IntKind.u64 l, AV.int IntKind.u64 1000000] h (AV.tup [(AV.int IntKind.u64 ((x * 18446744073709551616 + l) / 1000000)), (AV.int IntKind.u64 (r60r x l))]) h := by
  have ⟨a1, a2, a3, a4⟩ := div_arith x l hx0 hx hl0 hl
  have w (n : Int) : 0 ≤ IntKind.u64.wrap n := by rw [IntKind.wrap_u64]; omega
  have eu := un32 x l hx0 hx hl0 hl
  by_cases hz : x = 0
  · subst hz
    have h1 := r60z l h
    have e : r60z.v0 l = (0 * 18446744073709551616 + l) / 1000000 := by
      unfold r60z.v0
      rw [Int.tdiv_eq_ediv_of_nonneg (by omega), IntWalk.u64_in _ (by omega)]
      omega
    rw [e] at h1
    rw [show r60r 0 l = r60z.v1 l from if_pos rfl]
    exact h1
  have eq1 : IntKind.u64.wrap ((x * 17592186044416 + l / 1048576).tdiv 4096000000) = (x * 17592186044416 + l / 1048576) / 4096000000 := by
    rw [Int.tdiv_eq_ediv_of_nonneg (by omega), IntWalk.u64_in _ (by omega)]
  have h1 := r60 x l (by simp [hz]) (by simp; omega)
    (by rw [eu, eq1]; exact decide_eq_false (by omega))
    (by rw [Int.mul_zero]; exact decide_eq_false (by rw [show IntKind.u64.wrap 0 = 0 by decide]; exact Int.not_lt.2 (w _)))
    (by
      rw [eu, eq1]
      simp only [IntKind.wrap_u64, Int.fdiv_eq_ediv_of_nonneg _ (show (0 : Int) ≤ 4294967296 by decide)]
      rw [a2, Int.tdiv_eq_ediv_of_nonneg (by omega)]
      have a5 : 0 ≤ ((x * 17592186044416 + l / 1048576) % 4096000000 * 4294967296 + l * 17592186044416 % 18446744073709551616 / 4294967296) / 4096000000 := Int.ediv_nonneg (by omega) (by decide)
      rw [Int.emod_eq_of_lt a5 (Int.lt_trans a3 (by decide))]
      exact decide_eq_false (Int.not_le.2 a3))
    (by rw [Int.mul_zero]; exact decide_eq_false (by rw [show IntKind.u64.wrap 0 = 0 by decide]; exact Int.not_lt.2 (w _))) h
  rw [r60_div x l hx0 hx hl0 hl] at h1
  rw [show r60r x l = r60.v1 x l from if_neg hz]
  exact h1
end Go.Proofs.Ytgmppoappaolkaa
