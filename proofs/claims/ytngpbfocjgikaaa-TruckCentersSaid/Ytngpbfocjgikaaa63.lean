/- TruckCenters: whatever the input, the law hands back true. Conditions: none. -/
import Derived.Test.Ytngpbfocjgikaaa62

open Go

namespace Go.Proofs.Ytngpbfocjgikaaa

set_option linter.unusedSimpArgs false

set_option linter.unusedVariables false

set_option maxHeartbeats 0

set_option maxRecDepth 100000

noncomputable def r64.v0 (a : Int) (nn : Bool) (d : Int) : Int := (bif decide (a / gc d a ≥ 1000000000000000000) then 0 else (bif decide (d / gc d a ≥ 1000000000000000000) then 0 else (bif nn then IntKind.i64.wrap (0 - IntKind.i64.wrap (a / gc d a)) else IntKind.i64.wrap (a / gc d a))))

noncomputable def r64.v1 (a : Int) (d : Int) : Int := (bif decide (a / gc d a ≥ 1000000000000000000) then 0 else (bif decide (d / gc d a ≥ 1000000000000000000) then 0 else IntKind.i64.wrap (d / gc d a)))

noncomputable def r64.v2 (a : Int) (d : Int) : Int := (bif decide (a / gc d a ≥ 1000000000000000000) then 6 else (bif decide (d / gc d a ≥ 1000000000000000000) then 6 else 0))

noncomputable abbrev r64.h0 (a : Int) (nn : Bool) (d : Int) : AHeap := ([AObj.var (AV.agg [AV.int IntKind.u64 0, AV.int IntKind.u64 a, AV.bool nn]), AObj.var (AV.agg [AV.int IntKind.u64 0, AV.int IntKind.u64 d, AV.bool false]), AObj.var (AV.agg [AV.int IntKind.i64 0, AV.int IntKind.i64 0])])

noncomputable abbrev r64.h1 (a : Int) (nn : Bool) (d : Int) : AHeap := ([AObj.var (AV.agg [AV.int IntKind.u64 0, AV.int IntKind.u64 a, AV.bool nn]), AObj.var (AV.agg [AV.int IntKind.u64 0, AV.int IntKind.u64 d, AV.bool false]), AObj.var (AV.agg [AV.int IntKind.i64 0, AV.int IntKind.i64 0]), AObj.var (AV.agg [AV.int IntKind.u64 0, AV.int IntKind.u64 (gc d a), AV.bool false])])

noncomputable abbrev r64.h2 (a : Int) (nn : Bool) (d : Int) : AHeap := ([AObj.var (AV.agg [AV.int IntKind.u64 0, AV.int IntKind.u64 a, AV.bool nn]), AObj.var (AV.agg [AV.int IntKind.u64 0, AV.int IntKind.u64 d, AV.bool false]), AObj.var (AV.agg [AV.int IntKind.i64 0, AV.int IntKind.i64 0]), AObj.var (AV.agg [AV.int IntKind.u64 0, AV.int IntKind.u64 (gc d a), AV.bool false]), AObj.var (AV.agg [AV.int IntKind.u64 0, AV.int IntKind.u64 (a / gc d a), AV.bool false]), AObj.var (AV.agg [AV.int IntKind.u64 0, AV.int IntKind.u64 (a % gc d a), AV.bool false])])

theorem r64 (a : Int) (nn : Bool) (d : Int) (h0 : 0 ≤ a) (h1 : a ≤ 9223372036854775808) (h2 : 0 < d) (h3 : d ≤ 9223372036854775808) (h : AHeap) : Ret Try.prog 64 ([AV.agg [AV.int IntKind.u64 0, AV.int IntKind.u64 a, AV.bool nn], AV.agg [AV.int IntKind.u64 0, AV.int IntKind.u64 d, AV.bool false]]) h (AV.tup [(AV.agg ((AV.int IntKind.i64 (r64.v0 a nn d)) :: ((AV.int IntKind.i64 (r64.v1 a d)) :: []))), (AV.int IntKind.i64 (r64.v2 a d))]) h := by
  have o0 : (0 : Int) ≤ d := by first | assumption | omega | (simp_all; done)
  have o1 : d ≤ (18446744073709551615 : Int) := by first | assumption | omega | (simp_all; done)
  have o2 : (0 : Int) ≤ a := by first | assumption | omega | (simp_all; done)
  have o3 : a ≤ (9223372036854775808 : Int) := by first | assumption | omega | (simp_all; done)
  have o4 : a ≤ (18446744073709551615 : Int) := by first | assumption | omega | (simp_all; done)
  have o5 : (0 : Int) < gc d a := by first | assumption | omega | (apply gc_pos <;> first | assumption | omega) | (simp_all; done)
  have o6 : gc d a ≤ (9223372036854775808 : Int) := by first | assumption | omega | (apply gc_le <;> first | assumption | omega) | (simp_all; done)
  cases h1 : decide (a / gc d a ≥ 1000000000000000000) with
  | true =>
    have h1p := of_decide_eq_true h1
    exact Ret.of_run1 mix [(AV.agg ((AV.int IntKind.i64 (r64.v0 a nn d)) :: ((AV.int IntKind.i64 (r64.v1 a d)) :: []))), (AV.int IntKind.i64 (r64.v2 a d))] Try.func64 rfl [.ret (AV.agg [AV.int IntKind.u64 0, AV.int IntKind.u64 (gc d a), AV.bool false]) (r64.h0 a nn d), .ret (AV.tup [AV.agg [AV.int IntKind.u64 0, AV.int IntKind.u64 (a / gc d a), AV.bool false], AV.agg [AV.int IntKind.u64 0, AV.int IntKind.u64 (a % gc d a), AV.bool false]]) (r64.h1 a nn d), .ret (AV.tup [AV.agg [AV.int IntKind.u64 0, AV.int IntKind.u64 (d / gc d a), AV.bool false], AV.agg [AV.int IntKind.u64 0, AV.int IntKind.u64 (d % gc d a), AV.bool false]]) (r64.h2 a nn d), .b false, .b false, .b false, .b false, .b true, .b true, .b true, .b true, .b true, .b true, .b true, .b true, .b true] (by simp) (by simp) (kmp (by kernel_rfl) (And.intro (c80 (d) (a) o0 o1 o2 o3 (r64.h0 a nn d)) (And.intro (c81 (a) (nn) (gc d a) (false) o2 o4 o5 o6 (r64.h1 a nn d)) (And.intro (c81 (d) (false) (gc d a) (false) o0 o1 o5 o6 (r64.h2 a nn d)) (And.intro (rfl : false = false) (And.intro (rfl : false = false) (And.intro (rfl : false = false) (And.intro (rfl : false = false) (And.intro h1 (And.intro h1 (And.intro h1 (And.intro h1 (And.intro (rfl : true = true) (And.intro (rfl : true = true) (And.intro (rfl : true = true) (And.intro (rfl : true = true) (And.intro (rfl : true = true) (And.intro (And.intro trivial (show (AV.agg [AV.int IntKind.i64 0, AV.int IntKind.i64 0]) = ((AV.agg ((AV.int IntKind.i64 (r64.v0 a nn d)) :: ((AV.int IntKind.i64 (r64.v1 a d)) :: [])))) by first | (simp only [r64.v0, r64.v1, r64.v2, h1, cond_true, cond_false]; done) | (try unfold r64.v0; try unfold r64.v1; try unfold r64.v2; try simp only [h1, cond_true, cond_false]; try rfl; done) | rfl)) (And.intro (show (AV.int IntKind.i64 6) = ((AV.int IntKind.i64 (r64.v2 a d))) by first | (simp only [r64.v0, r64.v1, r64.v2, h1, cond_true, cond_false]; done) | (try unfold r64.v0; try unfold r64.v1; try unfold r64.v2; try simp only [h1, cond_true, cond_false]; try rfl; done) | rfl) trivial))))))))))))))))))) h
  | false =>
    have h1p := of_decide_eq_false h1
    cases h2 : decide (d / gc d a ≥ 1000000000000000000) with
    | true =>
      have h2p := of_decide_eq_true h2
      exact Ret.of_run1 mix [(AV.agg ((AV.int IntKind.i64 (r64.v0 a nn d)) :: ((AV.int IntKind.i64 (r64.v1 a d)) :: []))), (AV.int IntKind.i64 (r64.v2 a d))] Try.func64 rfl [.ret (AV.agg [AV.int IntKind.u64 0, AV.int IntKind.u64 (gc d a), AV.bool false]) (r64.h0 a nn d), .ret (AV.tup [AV.agg [AV.int IntKind.u64 0, AV.int IntKind.u64 (a / gc d a), AV.bool false], AV.agg [AV.int IntKind.u64 0, AV.int IntKind.u64 (a % gc d a), AV.bool false]]) (r64.h1 a nn d), .ret (AV.tup [AV.agg [AV.int IntKind.u64 0, AV.int IntKind.u64 (d / gc d a), AV.bool false], AV.agg [AV.int IntKind.u64 0, AV.int IntKind.u64 (d % gc d a), AV.bool false]]) (r64.h2 a nn d), .b false, .b false, .b false, .b false, .b false, .b false, .b false, .b false, .b false, .b false, .b false, .b false, .b true] (by simp) (by simp) (kmp (by kernel_rfl) (And.intro (c80 (d) (a) o0 o1 o2 o3 (r64.h0 a nn d)) (And.intro (c81 (a) (nn) (gc d a) (false) o2 o4 o5 o6 (r64.h1 a nn d)) (And.intro (c81 (d) (false) (gc d a) (false) o0 o1 o5 o6 (r64.h2 a nn d)) (And.intro (rfl : false = false) (And.intro (rfl : false = false) (And.intro (rfl : false = false) (And.intro (rfl : false = false) (And.intro h1 (And.intro h1 (And.intro h1 (And.intro h1 (And.intro (rfl : false = false) (And.intro (rfl : false = false) (And.intro (rfl : false = false) (And.intro (rfl : false = false) (And.intro h2 (And.intro (And.intro trivial (show (AV.agg [AV.int IntKind.i64 0, AV.int IntKind.i64 0]) = ((AV.agg ((AV.int IntKind.i64 (r64.v0 a nn d)) :: ((AV.int IntKind.i64 (r64.v1 a d)) :: [])))) by first | (simp only [r64.v0, r64.v1, r64.v2, h1, h2, cond_true, cond_false]; done) | (try unfold r64.v0; try unfold r64.v1; try unfold r64.v2; try simp only [h1, cond_true, cond_false]; try simp only [h2, cond_true, cond_false]; try rfl; done) | rfl)) (And.intro (show (AV.int IntKind.i64 6) = ((AV.int IntKind.i64 (r64.v2 a d))) by first | (simp only [r64.v0, r64.v1, r64.v2, h1, h2, cond_true, cond_false]; done) | (try unfold r64.v0; try unfold r64.v1; try unfold r64.v2; try simp only [h1, cond_true, cond_false]; try simp only [h2, cond_true, cond_false]; try rfl; done) | rfl) trivial))))))))))))))))))) h
    | false =>
      have h2p := of_decide_eq_false h2
      cases boolIs nn with
      | true h3 =>
        exact Ret.of_run1 mix [(AV.agg ((AV.int IntKind.i64 (r64.v0 a nn d)) :: ((AV.int IntKind.i64 (r64.v1 a d)) :: []))), (AV.int IntKind.i64 (r64.v2 a d))] Try.func64 rfl [.ret (AV.agg [AV.int IntKind.u64 0, AV.int IntKind.u64 (gc d a), AV.bool false]) (r64.h0 a nn d), .ret (AV.tup [AV.agg [AV.int IntKind.u64 0, AV.int IntKind.u64 (a / gc d a), AV.bool false], AV.agg [AV.int IntKind.u64 0, AV.int IntKind.u64 (a % gc d a), AV.bool false]]) (r64.h1 a nn d), .ret (AV.tup [AV.agg [AV.int IntKind.u64 0, AV.int IntKind.u64 (d / gc d a), AV.bool false], AV.agg [AV.int IntKind.u64 0, AV.int IntKind.u64 (d % gc d a), AV.bool false]]) (r64.h2 a nn d), .b false, .b false, .b false, .b false, .b false, .b false, .b false, .b false, .b false, .b false, .b false, .b false, .b false, .b true] (by simp) (by simp) (kmp (by kernel_rfl) (And.intro (c80 (d) (a) o0 o1 o2 o3 (r64.h0 a nn d)) (And.intro (c81 (a) (nn) (gc d a) (false) o2 o4 o5 o6 (r64.h1 a nn d)) (And.intro (c81 (d) (false) (gc d a) (false) o0 o1 o5 o6 (r64.h2 a nn d)) (And.intro (rfl : false = false) (And.intro (rfl : false = false) (And.intro (rfl : false = false) (And.intro (rfl : false = false) (And.intro h1 (And.intro h1 (And.intro h1 (And.intro h1 (And.intro (rfl : false = false) (And.intro (rfl : false = false) (And.intro (rfl : false = false) (And.intro (rfl : false = false) (And.intro h2 (And.intro h3 (And.intro (And.intro trivial (show (AV.agg [AV.int IntKind.i64 (IntKind.i64.wrap (0 - IntKind.i64.wrap (a / gc d a))), AV.int IntKind.i64 (IntKind.i64.wrap (d / gc d a))]) = ((AV.agg ((AV.int IntKind.i64 (r64.v0 a nn d)) :: ((AV.int IntKind.i64 (r64.v1 a d)) :: [])))) by first | (simp only [r64.v0, r64.v1, r64.v2, h1, h2, h3, cond_true, cond_false]; done) | (try unfold r64.v0; try unfold r64.v1; try unfold r64.v2; try simp only [h1, cond_true, cond_false]; try simp only [h2, cond_true, cond_false]; try simp only [h3, cond_true, cond_false]; try rfl; done) | rfl)) (And.intro (show (AV.int IntKind.i64 0) = ((AV.int IntKind.i64 (r64.v2 a d))) by first | (simp only [r64.v0, r64.v1, r64.v2, h1, h2, h3, cond_true, cond_false]; done) | (try unfold r64.v0; try unfold r64.v1; try unfold r64.v2; try simp only [h1, cond_true, cond_false]; try simp only [h2, cond_true, cond_false]; try simp only [h3, cond_true, cond_false]; try rfl; done) | rfl) trivial)))))))))))))))))))) h
      | false h3 =>
        exact Ret.of_run1 mix [(AV.agg ((AV.int IntKind.i64 (r64.v0 a nn d)) :: ((AV.int IntKind.i64 (r64.v1 a d)) :: []))), (AV.int IntKind.i64 (r64.v2 a d))] Try.func64 rfl [.ret (AV.agg [AV.int IntKind.u64 0, AV.int IntKind.u64 (gc d a), AV.bool false]) (r64.h0 a nn d), .ret (AV.tup [AV.agg [AV.int IntKind.u64 0, AV.int IntKind.u64 (a / gc d a), AV.bool false], AV.agg [AV.int IntKind.u64 0, AV.int IntKind.u64 (a % gc d a), AV.bool false]]) (r64.h1 a nn d), .ret (AV.tup [AV.agg [AV.int IntKind.u64 0, AV.int IntKind.u64 (d / gc d a), AV.bool false], AV.agg [AV.int IntKind.u64 0, AV.int IntKind.u64 (d % gc d a), AV.bool false]]) (r64.h2 a nn d), .b false, .b false, .b false, .b false, .b false, .b false, .b false, .b false, .b false, .b false, .b false, .b false, .b false, .b false] (by simp) (by simp) (kmp (by kernel_rfl) (And.intro (c80 (d) (a) o0 o1 o2 o3 (r64.h0 a nn d)) (And.intro (c81 (a) (nn) (gc d a) (false) o2 o4 o5 o6 (r64.h1 a nn d)) (And.intro (c81 (d) (false) (gc d a) (false) o0 o1 o5 o6 (r64.h2 a nn d)) (And.intro (rfl : false = false) (And.intro (rfl : false = false) (And.intro (rfl : false = false) (And.intro (rfl : false = false) (And.intro h1 (And.intro h1 (And.intro h1 (And.intro h1 (And.intro (rfl : false = false) (And.intro (rfl : false = false) (And.intro (rfl : false = false) (And.intro (rfl : false = false) (And.intro h2 (And.intro h3 (And.intro (And.intro trivial (show (AV.agg [AV.int IntKind.i64 (IntKind.i64.wrap (a / gc d a)), AV.int IntKind.i64 (IntKind.i64.wrap (d / gc d a))]) = ((AV.agg ((AV.int IntKind.i64 (r64.v0 a nn d)) :: ((AV.int IntKind.i64 (r64.v1 a d)) :: [])))) by first | (simp only [r64.v0, r64.v1, r64.v2, h1, h2, h3, cond_true, cond_false]; done) | (try unfold r64.v0; try unfold r64.v1; try unfold r64.v2; try simp only [h1, cond_true, cond_false]; try simp only [h2, cond_true, cond_false]; try simp only [h3, cond_true, cond_false]; try rfl; done) | rfl)) (And.intro (show (AV.int IntKind.i64 0) = ((AV.int IntKind.i64 (r64.v2 a d))) by first | (simp only [r64.v0, r64.v1, r64.v2, h1, h2, h3, cond_true, cond_false]; done) | (try unfold r64.v0; try unfold r64.v1; try unfold r64.v2; try simp only [h1, cond_true, cond_false]; try simp only [h2, cond_true, cond_false]; try simp only [h3, cond_true, cond_false]; try rfl; done) | rfl) trivial)))))))))))))))))))) h

noncomputable def r40.v0 (a : Int) (b : Int) : Int := (bif b == 0 then 0 else r64.v0 (↑a.natAbs : Int) (bnot (decide (a < 0) == decide (b < 0))) (↑b.natAbs : Int))

noncomputable def r40.v1 (a : Int) (b : Int) : Int := (bif b == 0 then 0 else r64.v1 (↑a.natAbs : Int) (↑b.natAbs : Int))

noncomputable def r40.v2 (a : Int) (b : Int) : Int := (bif b == 0 then 1 else r64.v2 (↑a.natAbs : Int) (↑b.natAbs : Int))

noncomputable abbrev r40.h0 (a : Int) (b : Int) : AHeap := ([AObj.var (AV.agg [AV.int IntKind.i64 0, AV.int IntKind.i64 0])])

theorem r40 (a : Int) (b : Int) (ha : -9223372036854775808 ≤ a ∧ a ≤ 9223372036854775807) (hb : -9223372036854775808 ≤ b ∧ b ≤ 9223372036854775807) (h : AHeap) : Ret Try.prog 40 ([AV.int IntKind.i64 a, AV.int IntKind.i64 b]) h (AV.tup [(AV.agg ((AV.int IntKind.i64 (r40.v0 a b)) :: ((AV.int IntKind.i64 (r40.v1 a b)) :: []))), (AV.int IntKind.i64 (r40.v2 a b))]) h := by
  cases h1 : b == 0 with
  | true =>
    have h1p := eq_of_beq h1
    exact Ret.of_run1 mix [(AV.agg ((AV.int IntKind.i64 (r40.v0 a b)) :: ((AV.int IntKind.i64 (r40.v1 a b)) :: []))), (AV.int IntKind.i64 (r40.v2 a b))] Try.func40 rfl [.b true] (by simp) (by simp) (kmp (by kernel_rfl) (And.intro h1 (And.intro (And.intro trivial (show (AV.agg [AV.int IntKind.i64 0, AV.int IntKind.i64 0]) = ((AV.agg ((AV.int IntKind.i64 (r40.v0 a b)) :: ((AV.int IntKind.i64 (r40.v1 a b)) :: [])))) by first | (simp only [r40.v0, r40.v1, r40.v2, h1, cond_true, cond_false]; done) | (try unfold r40.v0; try unfold r40.v1; try unfold r40.v2; try simp only [h1, cond_true, cond_false]; try rfl; done) | rfl)) (And.intro (show (AV.int IntKind.i64 1) = ((AV.int IntKind.i64 (r40.v2 a b))) by first | (simp only [r40.v0, r40.v1, r40.v2, h1, cond_true, cond_false]; done) | (try unfold r40.v0; try unfold r40.v1; try unfold r40.v2; try simp only [h1, cond_true, cond_false]; try rfl; done) | rfl) trivial)))) h
  | false =>
    have h1p := ne_of_beq_false h1
    have o0 : (-9223372036854775808 : Int) ≤ a := by first | assumption | omega | (simp_all; done)
    have o1 : a ≤ (9223372036854775807 : Int) := by first | assumption | omega | (simp_all; done)
    have o2 : (-9223372036854775808 : Int) ≤ b := by first | assumption | omega | (simp_all; done)
    have o3 : b ≤ (9223372036854775807 : Int) := by first | assumption | omega | (simp_all; done)
    have o4 : (0 : Int) ≤ (↑a.natAbs : Int) := by first | assumption | omega | (apply na_0 <;> first | assumption | omega) | (simp_all; done)
    have o5 : (↑a.natAbs : Int) ≤ (9223372036854775808 : Int) := by first | assumption | omega | (apply na_le <;> first | assumption | omega) | (simp_all; done)
    have o6 : (0 : Int) < (↑b.natAbs : Int) := by first | assumption | omega | (apply na_pos <;> first | assumption | omega) | (simp_all; done)
    have o7 : (↑b.natAbs : Int) ≤ (9223372036854775808 : Int) := by first | assumption | omega | (apply na_le <;> first | assumption | omega) | (simp_all; done)
    exact Ret.of_run1 mix [(AV.agg ((AV.int IntKind.i64 (r40.v0 a b)) :: ((AV.int IntKind.i64 (r40.v1 a b)) :: []))), (AV.int IntKind.i64 (r40.v2 a b))] Try.func40 rfl [.b false, .ret (AV.agg [AV.int IntKind.u64 0, AV.int IntKind.u64 (↑a.natAbs : Int), AV.bool (decide (a < 0))]) (r40.h0 a b), .ret (AV.agg [AV.int IntKind.u64 0, AV.int IntKind.u64 (↑b.natAbs : Int), AV.bool (decide (b < 0))]) (r40.h0 a b), .ret (AV.tup [AV.agg [AV.int IntKind.i64 (r64.v0 (↑a.natAbs : Int) (bnot (decide (a < 0) == decide (b < 0))) (↑b.natAbs : Int)), AV.int IntKind.i64 (r64.v1 (↑a.natAbs : Int) (↑b.natAbs : Int))], AV.int IntKind.i64 (r64.v2 (↑a.natAbs : Int) (↑b.natAbs : Int))]) ([AObj.var (AV.agg [AV.int IntKind.i64 0, AV.int IntKind.i64 0]), AObj.var (AV.agg [AV.int IntKind.u64 0, AV.int IntKind.u64 (↑a.natAbs : Int), AV.bool (bnot (decide (a < 0) == decide (b < 0)))]), AObj.var (AV.agg [AV.int IntKind.u64 0, AV.int IntKind.u64 (↑b.natAbs : Int), AV.bool false])])] (by simp) (by simp) (kmp (by kernel_rfl) (And.intro h1 (And.intro (c63 (a) (And.intro o0 o1) (r40.h0 a b)) (And.intro (c63 (b) (And.intro o2 o3) (r40.h0 a b)) (And.intro (r64 ((↑a.natAbs : Int)) (bnot (decide (a < 0) == decide (b < 0))) ((↑b.natAbs : Int)) o4 o5 o6 o7 ([AObj.var (AV.agg [AV.int IntKind.i64 0, AV.int IntKind.i64 0]), AObj.var (AV.agg [AV.int IntKind.u64 0, AV.int IntKind.u64 (↑a.natAbs : Int), AV.bool (bnot (decide (a < 0) == decide (b < 0)))]), AObj.var (AV.agg [AV.int IntKind.u64 0, AV.int IntKind.u64 (↑b.natAbs : Int), AV.bool false])])) (And.intro (And.intro trivial (show (AV.agg [AV.int IntKind.i64 (r64.v0 (↑a.natAbs : Int) (bnot (decide (a < 0) == decide (b < 0))) (↑b.natAbs : Int)), AV.int IntKind.i64 (r64.v1 (↑a.natAbs : Int) (↑b.natAbs : Int))]) = ((AV.agg ((AV.int IntKind.i64 (r40.v0 a b)) :: ((AV.int IntKind.i64 (r40.v1 a b)) :: [])))) by first | (simp only [r40.v0, r40.v1, r40.v2, h1, cond_true, cond_false]; done) | (try unfold r40.v0; try unfold r40.v1; try unfold r40.v2; try simp only [h1, cond_true, cond_false]; try rfl; done) | rfl)) (And.intro (show (AV.int IntKind.i64 (r64.v2 (↑a.natAbs : Int) (↑b.natAbs : Int))) = ((AV.int IntKind.i64 (r40.v2 a b))) by first | (simp only [r40.v0, r40.v1, r40.v2, h1, cond_true, cond_false]; done) | (try unfold r40.v0; try unfold r40.v1; try unfold r40.v2; try simp only [h1, cond_true, cond_false]; try rfl; done) | rfl) trivial))))))) h

end Go.Proofs.Ytngpbfocjgikaaa

open Go

namespace Go.Proofs.Ytngpbfocjgikaaa

set_option maxHeartbeats 0

set_option maxRecDepth 100000

set_option linter.unusedVariables false

set_option linter.unusedSimpArgs false

variable {n : Nat} {g : Nat → LD} {t : TD}

/-- Mass and moment of one more load. -/
noncomputable def addL (fr : Int) (a : Int × Int) (s : LD) : Int × Int :=
  (IntKind.i64.wrap (a.1 + s.ms), IntKind.i64.wrap (a.2 + IntKind.i64.wrap (s.ms * IntKind.i64.wrap (IntKind.i64.wrap (IntKind.i64.wrap (2 * s.lo) + s.ln) - IntKind.i64.wrap (2 * fr)))))

noncomputable def sm (g : Nat → LD) (fr : Int) : Nat → Int × Int
  | 0 => (0, 0)
  | i + 1 => addL fr (sm g fr i) (g i)

theorem L33_N (hn : n ≤ 9223372036854775807) (fr : Int) : ∀ (m i : Nat), i ≤ n → n - i < m → L33a.N n g fr m (sm g fr i).1 (sm g fr i).2 (i : Int) = .e0 (sm g fr n).1 (sm g fr n).2 := by
  intro m
  induction m with
  | zero => intro i _ h; omega
  | succ m ih =>
    intro i hi hm
    simp only [L33a.N, Int.toNat_natCast]
    rcases Nat.lt_or_ge i n with h | h
    · rw [decide_eq_true (show (i : Int) < (n : Int) by omega), cond_true, wrap_succ hn h]
      exact ih (i + 1) h (by omega)
    · rw [decide_eq_false (show ¬ (i : Int) < (n : Int) by omega), cond_false, show i = n by omega]

theorem r33_sm (hn : n ≤ 9223372036854775807) (fr : Int) : r33.v0 n g fr = (sm g fr n).1 ∧ r33.v1 n g fr = (sm g fr n).2 := by
  have e : L33a.run n g fr 0 0 0 = .e0 (sm g fr n).1 (sm g fr n).2 := by
    unfold L33a.run
    rw [show ((n : Int) - 0).toNat + 1 = n + 1 by omega]
    exact L33_N hn fr (n + 1) 0 (Nat.zero_le _) (by omega)
  unfold r33.v0 r33.v1
  rw [e]
  exact ⟨rfl, rfl⟩

theorem mulb {m x A B : Int} (h1 : 0 ≤ m) (h2 : m ≤ A) (h3 : -B ≤ x) (h4 : x ≤ B) : -(A * B) ≤ m * x ∧ m * x ≤ A * B := by
  have hB : 0 ≤ B := by omega
  rcases Int.le_total 0 x with h | h
  · have e1 := Int.mul_nonneg h1 h
    have e2 := Int.mul_le_mul_of_nonneg_right h2 h
    have e3 := Int.mul_le_mul_of_nonneg_left h4 (show 0 ≤ A by omega)
    omega
  · have h' : 0 ≤ -x := by omega
    have e1 := Int.mul_nonneg h1 h'
    have e2 := Int.mul_le_mul_of_nonneg_right h2 h'
    have e3 := Int.mul_le_mul_of_nonneg_left (show -x ≤ B by omega) (show 0 ≤ A by omega)
    rw [Int.mul_neg] at e1 e2
    omega

theorem arm_eq {lo ln fr : Int} (h1 : 0 ≤ lo ∧ lo ≤ 50000) (h2 : 1 ≤ ln ∧ ln ≤ 50000) (h3 : -50000 ≤ fr ∧ fr ≤ 50000) :
    IntKind.i64.wrap (IntKind.i64.wrap (IntKind.i64.wrap (2 * lo) + ln) - IntKind.i64.wrap (2 * fr)) = 2 * lo + ln - 2 * fr := by
  rw [i64_small (x := 2 * lo) (by omega), i64_small (x := 2 * fr) (by omega), i64_small (x := 2 * lo + ln) (by omega), i64_small (by omega)]

theorem addL_eq {fr : Int} {a : Int × Int} {s : LD} (hs : LOk s) (hf : -50000 ≤ fr ∧ fr ≤ 50000) (h1 : 0 ≤ a.1 ∧ a.1 ≤ 2000000000) (h2 : -500000000000000 ≤ a.2 ∧ a.2 ≤ 500000000000000) :
    addL fr a s = (a.1 + s.ms, a.2 + s.ms * (2 * s.lo + s.ln - 2 * fr)) ∧ -25000000000000 ≤ s.ms * (2 * s.lo + s.ln - 2 * fr) ∧ s.ms * (2 * s.lo + s.ln - 2 * fr) ≤ 25000000000000 := by
  obtain ⟨s1, s2, s3⟩ := hs
  unfold addL
  rw [arm_eq s1 s2 hf]
  have := mulb (m := s.ms) (x := 2 * s.lo + s.ln - 2 * fr) (A := 100000000) (B := 250000) (by omega) s3.2 (by omega) (by omega)
  generalize hp : s.ms * (2 * s.lo + s.ln - 2 * fr) = p at *
  rw [i64_small (x := p) (by omega), i64_small (x := a.2 + p) (by omega), i64_small (by omega)]
  exact ⟨rfl, by omega, by omega⟩

theorem sm_bd {fr : Int} (hf : -50000 ≤ fr ∧ fr ≤ 50000) : ∀ i : Nat, i ≤ 12 → (∀ j, j < i → LOk (g j)) →
    (0 ≤ (sm g fr i).1 ∧ (sm g fr i).1 ≤ i * 100000000) ∧ (-(i * 25000000000000) ≤ (sm g fr i).2 ∧ (sm g fr i).2 ≤ i * 25000000000000) := by
  intro i
  induction i with
  | zero => intro _ _; exact ⟨⟨Int.le_refl _, Int.le_refl _⟩, ⟨Int.le_refl _, Int.le_refl _⟩⟩
  | succ i ih =>
    intro hi h
    obtain ⟨⟨a1, a2⟩, a3, a4⟩ := ih (by omega) fun j hj => h j (by omega)
    obtain ⟨e1, e2, e3⟩ := addL_eq (h i (by omega)) hf (a := sm g fr i) (by omega) (by omega)
    have hm := (h i (by omega)).2.2
    show (0 ≤ (addL fr (sm g fr i) (g i)).1 ∧ (addL fr (sm g fr i) (g i)).1 ≤ ((i + 1 : Nat) : Int) * 100000000) ∧ (-(((i + 1 : Nat) : Int) * 25000000000000) ≤ (addL fr (sm g fr i) (g i)).2 ∧ (addL fr (sm g fr i) (g i)).2 ≤ ((i + 1 : Nat) : Int) * 25000000000000)
    rw [e1]
    refine ⟨⟨?_, ?_⟩, ?_, ?_⟩ <;> simp only <;> omega

end Go.Proofs.Ytngpbfocjgikaaa

open Go

namespace Go.Proofs.Ytngpbfocjgikaaa

set_option maxHeartbeats 0

set_option maxRecDepth 100000

set_option linter.unusedVariables false

set_option linter.unusedSimpArgs false

variable {n : Nat} {g : Nat → LD} {t : TD}

theorem L41_N (hn : n ≤ 9223372036854775807) (fr : Int) : ∀ (m i : Nat), i ≤ n → n - i < m → L41a.N n g fr m (sm g fr i).2 (i : Int) = .e0 (sm g fr n).2 := by
  intro m
  induction m with
  | zero => intro i _ h; omega
  | succ m ih =>
    intro i hi hm
    simp only [L41a.N, Int.toNat_natCast]
    rcases Nat.lt_or_ge i n with h | h
    · rw [decide_eq_true (show (i : Int) < (n : Int) by omega), cond_true, wrap_succ hn h]
      exact ih (i + 1) h (by omega)
    · rw [decide_eq_false (show ¬ (i : Int) < (n : Int) by omega), cond_false, show i = n by omega]

theorem r41_sm (hn : n ≤ 9223372036854775807) (fr : Int) : r41.v n g fr = (sm g fr n).2 := by
  have e : L41a.run n g fr 0 0 = .e0 (sm g fr n).2 := by
    unfold L41a.run
    rw [show ((n : Int) - 0).toNat + 1 = n + 1 by omega]
    exact L41_N hn fr (n + 1) 0 (Nat.zero_le _) (by omega)
  unfold r41.v
  rw [e]

theorem L20_N (hn : n ≤ 9223372036854775807) (fr : Int) : ∀ (m i : Nat), i ≤ n → n - i < m → L20a.N n g m (sm g fr i).1 (i : Int) = .e0 (sm g fr n).1 := by
  intro m
  induction m with
  | zero => intro i _ h; omega
  | succ m ih =>
    intro i hi hm
    simp only [L20a.N, Int.toNat_natCast]
    rcases Nat.lt_or_ge i n with h | h
    · rw [decide_eq_true (show (i : Int) < (n : Int) by omega), cond_true, wrap_succ hn h]
      exact ih (i + 1) h (by omega)
    · rw [decide_eq_false (show ¬ (i : Int) < (n : Int) by omega), cond_false, show i = n by omega]

theorem r20_sm (hn : n ≤ 9223372036854775807) (fr : Int) : r20.v n g = (sm g fr n).1 := by
  have e : L20a.run n g 0 0 = .e0 (sm g fr n).1 := by
    unfold L20a.run
    rw [show ((n : Int) - 0).toNat + 1 = n + 1 by omega]
    exact L20_N hn fr (n + 1) 0 (Nat.zero_le _) (by omega)
  unfold r20.v
  rw [e]

theorem sm_rng (fr : Int) : ∀ i, (-9223372036854775808 ≤ (sm g fr i).1 ∧ (sm g fr i).1 ≤ 9223372036854775807) ∧ (-9223372036854775808 ≤ (sm g fr i).2 ∧ (sm g fr i).2 ≤ 9223372036854775807) := by
  intro i
  cases i with
  | zero => exact (show ((-9223372036854775808 : Int) ≤ 0 ∧ (0 : Int) ≤ 9223372036854775807) ∧ ((-9223372036854775808 : Int) ≤ 0 ∧ (0 : Int) ≤ 9223372036854775807) by decide)
  | succ i => exact ⟨wr_rng _, wr_rng _⟩

theorem mo_lo {fr : Int} (hn : n ≤ 9223372036854775807) : -9223372036854775808 ≤ r33.v1 n g fr := by rw [(r33_sm hn fr).2]; exact (sm_rng fr n).2.1

theorem mo_hi {fr : Int} (hn : n ≤ 9223372036854775807) : r33.v1 n g fr ≤ 9223372036854775807 := by rw [(r33_sm hn fr).2]; exact (sm_rng fr n).2.2

theorem mr_lo {fr : Int} (hn : n ≤ 9223372036854775807) : -9223372036854775808 ≤ r41.v n g fr := by rw [r41_sm hn fr]; exact (sm_rng fr n).2.1

theorem mr_hi {fr : Int} (hn : n ≤ 9223372036854775807) : r41.v n g fr ≤ 9223372036854775807 := by rw [r41_sm hn fr]; exact (sm_rng fr n).2.2

/-- Both make the same fraction. -/
theorem new_eq {a b : Int} (ha : -9223372036854775808 ≤ a ∧ a ≤ 9223372036854775807) (hb : -9223372036854775808 ≤ b ∧ b ≤ 9223372036854775807) :
    r39.v0 a b = r40.v0 a b ∧ r39.v1 a b = r40.v1 a b ∧ r39.v2 a b = r40.v2 a b := by
  unfold r39.v0 r39.v1 r39.v2 r40.v0 r40.v1 r40.v2
  by_cases h0 : b = 0
  · subst h0; exact ⟨rfl, rfl, rfl⟩
  · have e0 : (b == 0) = false := by simpa using h0
    rw [e0, cond_false, cond_false, cond_false, cond_false, cond_false, cond_false, size_v ha, size_v hb, gcd_v]
    have eg : gc (b.natAbs : Int) (a.natAbs : Int) = ((Nat.gcd a.natAbs b.natAbs : Nat) : Int) := by
      unfold gc
      rw [Int.toNat_natCast, Int.toNat_natCast, Nat.gcd_comm]
    have hp : 0 < Nat.gcd a.natAbs b.natAbs := Nat.gcd_pos_of_pos_right _ (by omega)
    have q1 : ∀ x : Nat, (x : Int) ≤ 9223372036854775808 → IntKind.u64.wrap ((x : Int).tdiv ((Nat.gcd a.natAbs b.natAbs : Nat) : Int)) = (x : Int) / ((Nat.gcd a.natAbs b.natAbs : Nat) : Int) := by
      intro x hx
      have h1 : 0 ≤ (x : Int) / ((Nat.gcd a.natAbs b.natAbs : Nat) : Int) := Int.ediv_nonneg (by omega) (by omega)
      have h2 : (x : Int) / ((Nat.gcd a.natAbs b.natAbs : Nat) : Int) ≤ x := Int.ediv_le_self _ (by omega)
      rw [Int.tdiv_eq_ediv_of_nonneg (by omega), IntWalk.u64_in _ (by omega)]
    rw [q1 _ (na_le ha), q1 _ (na_le hb)]
    unfold r64.v0 r64.v1 r64.v2 r62.v0 r62.v1 r62.v2
    rw [eg]
    exact ⟨rfl, rfl, rfl⟩

/-- Of small numbers there is a fraction. -/
theorem new_ok {a b : Int} (ha : -900000000000000000 ≤ a ∧ a ≤ 900000000000000000) (hb : 0 < b ∧ b ≤ 900000000000000000) : r39.v2 a b = 0 := by
  rw [(new_eq (a := a) (b := b) (by omega) (by omega)).2.2]
  unfold r40.v2
  rw [show (b == 0) = false by simp; omega, cond_false]
  unfold r64.v2
  have hp := gc_pos (a := (b.natAbs : Int)) (b := (a.natAbs : Int)) (by omega)
  have h1 : (a.natAbs : Int) / gc (b.natAbs : Int) (a.natAbs : Int) ≤ a.natAbs := Int.ediv_le_self _ (by omega)
  have h2 : (b.natAbs : Int) / gc (b.natAbs : Int) (a.natAbs : Int) ≤ b.natAbs := Int.ediv_le_self _ (by omega)
  rw [decide_eq_false (by omega), decide_eq_false (by omega)]
  rfl

end Go.Proofs.Ytngpbfocjgikaaa

open Go

namespace Go.Proofs.Ytngpbfocjgikaaa

set_option linter.unusedSimpArgs false

set_option linter.unusedVariables false

set_option maxHeartbeats 0

set_option maxRecDepth 100000

noncomputable def r22.v0 (n : Nat) (g : Nat → LD) : Int := (bif r35.v n g 100000 == 0 then (bif (↑n : Int) == 0 then 0 else r39.v0 (r33.v1 n g 0) (IntKind.i64.wrap (2 * r33.v0 n g 0))) else 0)

noncomputable def r22.v1 (n : Nat) (g : Nat → LD) : Int := (bif r35.v n g 100000 == 0 then (bif (↑n : Int) == 0 then 0 else r39.v1 (r33.v1 n g 0) (IntKind.i64.wrap (2 * r33.v0 n g 0))) else 0)

noncomputable def r22.v2 (n : Nat) (g : Nat → LD) : Int := (bif r35.v n g 100000 == 0 then (bif (↑n : Int) == 0 then 9 else r39.v2 (r33.v1 n g 0) (IntKind.i64.wrap (2 * r33.v0 n g 0))) else r35.v n g 100000)

noncomputable abbrev r22.h0 (n : Nat) (g : Nat → LD) : AHeap := ([AObj.var (AV.agg [AV.int IntKind.i64 0, AV.int IntKind.i64 0])])

theorem r22 (n : Nat) (hn : n ≤ 12) (g : Nat → LD) (hg : ∀ (i : Nat), (g i).nm.size ≤ 9223372036854775807) (h : AHeap) : Ret Try.prog 22 ([lds n g]) h (AV.tup [(AV.agg ((AV.int IntKind.i64 (r22.v0 n g)) :: ((AV.int IntKind.i64 (r22.v1 n g)) :: []))), (AV.int IntKind.i64 (r22.v2 n g))]) h := by
  have o0 : n ≤ (12 : Nat) := by first | assumption | omega | (exact hg _) | (exact hg _ (by omega)) | (simp_all; done)
  have o1 : ∀ (i : Nat), (g i).nm.size ≤ (9223372036854775807 : Nat) := by first | assumption | omega | (exact hg _) | (exact hg _ (by omega)) | (simp_all; done)
  cases h1 : r35.v n g 100000 == 0 with
  | true =>
    have h1p := eq_of_beq h1
    cases h2 : (↑n : Int) == 0 with
    | true =>
      have h2p := eq_of_beq h2
      exact Ret.of_run1 mix [(AV.agg ((AV.int IntKind.i64 (r22.v0 n g)) :: ((AV.int IntKind.i64 (r22.v1 n g)) :: []))), (AV.int IntKind.i64 (r22.v2 n g))] Try.func22 rfl [.ret (AV.int IntKind.i64 (r35.v n g 100000)) (r22.h0 n g), .b false, .b true] (by simp) (by simp) (kmp (by kernel_rfl) (And.intro (r35 (n) o0 (g) o1 (100000) (r22.h0 n g)) (And.intro (show (bnot (r35.v n g 100000 == 0)) = false by rw [h1]; try rfl) (And.intro h2 (And.intro (And.intro trivial (show (AV.agg [AV.int IntKind.i64 0, AV.int IntKind.i64 0]) = ((AV.agg ((AV.int IntKind.i64 (r22.v0 n g)) :: ((AV.int IntKind.i64 (r22.v1 n g)) :: [])))) by first | (simp only [r22.v0, r22.v1, r22.v2, h1, h2, cond_true, cond_false]; done) | (try unfold r22.v0; try unfold r22.v1; try unfold r22.v2; try simp only [h1, cond_true, cond_false]; try simp only [h2, cond_true, cond_false]; try rfl; done) | rfl)) (And.intro (show (AV.int IntKind.i64 9) = ((AV.int IntKind.i64 (r22.v2 n g))) by first | (simp only [r22.v0, r22.v1, r22.v2, h1, h2, cond_true, cond_false]; done) | (try unfold r22.v0; try unfold r22.v1; try unfold r22.v2; try simp only [h1, cond_true, cond_false]; try simp only [h2, cond_true, cond_false]; try rfl; done) | rfl) trivial)))))) h
    | false =>
      have h2p := ne_of_beq_false h2
      have o2 : n ≤ (9223372036854775807 : Nat) := by first | assumption | omega | (exact hg _) | (exact hg _ (by omega)) | (simp_all; done)
      have o3 : (-9223372036854775808 : Int) ≤ r33.v1 n g (0 : Int) := by first | assumption | omega | (apply mo_lo <;> first | assumption | omega) | (exact hg _) | (exact hg _ (by omega)) | (simp_all; done)
      have o4 : r33.v1 n g (0 : Int) ≤ (9223372036854775807 : Int) := by first | assumption | omega | (apply mo_hi <;> first | assumption | omega) | (exact hg _) | (exact hg _ (by omega)) | (simp_all; done)
      try have := IntWalk.i64_in (2 * r33.v0 n g 0) (by omega)
      have o5 : (-9223372036854775808 : Int) ≤ IntKind.i64.wrap ((2 : Int) * r33.v0 n g (0 : Int)) := by first | assumption | omega | (apply wr_lo <;> first | assumption | omega) | (exact hg _) | (exact hg _ (by omega)) | (simp_all; done)
      have o6 : IntKind.i64.wrap ((2 : Int) * r33.v0 n g (0 : Int)) ≤ (9223372036854775807 : Int) := by first | assumption | omega | (apply wr_hi <;> first | assumption | omega) | (exact hg _) | (exact hg _ (by omega)) | (simp_all; done)
      exact Ret.of_run1 mix [(AV.agg ((AV.int IntKind.i64 (r22.v0 n g)) :: ((AV.int IntKind.i64 (r22.v1 n g)) :: []))), (AV.int IntKind.i64 (r22.v2 n g))] Try.func22 rfl [.ret (AV.int IntKind.i64 (r35.v n g 100000)) (r22.h0 n g), .b false, .b false, .ret (AV.tup [AV.int IntKind.i64 (r33.v0 n g 0), AV.int IntKind.i64 (r33.v1 n g 0)]) (r22.h0 n g), .ret (AV.tup [AV.agg [AV.int IntKind.i64 (r39.v0 (r33.v1 n g 0) (IntKind.i64.wrap (2 * r33.v0 n g 0))), AV.int IntKind.i64 (r39.v1 (r33.v1 n g 0) (IntKind.i64.wrap (2 * r33.v0 n g 0)))], AV.int IntKind.i64 (r39.v2 (r33.v1 n g 0) (IntKind.i64.wrap (2 * r33.v0 n g 0)))]) (r22.h0 n g)] (by simp) (by simp) (kmp (by kernel_rfl) (And.intro (r35 (n) o0 (g) o1 (100000) (r22.h0 n g)) (And.intro (show (bnot (r35.v n g 100000 == 0)) = false by rw [h1]; try rfl) (And.intro h2 (And.intro (r33 (n) (g) o2 (0) (r22.h0 n g)) (And.intro (r39 (r33.v1 n g 0) (IntKind.i64.wrap (2 * r33.v0 n g 0)) (And.intro o3 o4) (And.intro o5 o6) (r22.h0 n g)) (And.intro (And.intro trivial (show (AV.agg [AV.int IntKind.i64 (r39.v0 (r33.v1 n g 0) (IntKind.i64.wrap (2 * r33.v0 n g 0))), AV.int IntKind.i64 (r39.v1 (r33.v1 n g 0) (IntKind.i64.wrap (2 * r33.v0 n g 0)))]) = ((AV.agg ((AV.int IntKind.i64 (r22.v0 n g)) :: ((AV.int IntKind.i64 (r22.v1 n g)) :: [])))) by first | (simp only [r22.v0, r22.v1, r22.v2, h1, h2, cond_true, cond_false]; done) | (try unfold r22.v0; try unfold r22.v1; try unfold r22.v2; try simp only [h1, cond_true, cond_false]; try simp only [h2, cond_true, cond_false]; try rfl; done) | rfl)) (And.intro (show (AV.int IntKind.i64 (r39.v2 (r33.v1 n g 0) (IntKind.i64.wrap (2 * r33.v0 n g 0)))) = ((AV.int IntKind.i64 (r22.v2 n g))) by first | (simp only [r22.v0, r22.v1, r22.v2, h1, h2, cond_true, cond_false]; done) | (try unfold r22.v0; try unfold r22.v1; try unfold r22.v2; try simp only [h1, cond_true, cond_false]; try simp only [h2, cond_true, cond_false]; try rfl; done) | rfl) trivial)))))))) h
  | false =>
    have h1p := ne_of_beq_false h1
    exact Ret.of_run1 mix [(AV.agg ((AV.int IntKind.i64 (r22.v0 n g)) :: ((AV.int IntKind.i64 (r22.v1 n g)) :: []))), (AV.int IntKind.i64 (r22.v2 n g))] Try.func22 rfl [.ret (AV.int IntKind.i64 (r35.v n g 100000)) (r22.h0 n g), .b true] (by simp) (by simp) (kmp (by kernel_rfl) (And.intro (r35 (n) o0 (g) o1 (100000) (r22.h0 n g)) (And.intro (show (bnot (r35.v n g 100000 == 0)) = true by rw [h1]; try rfl) (And.intro (And.intro trivial (show (AV.agg [AV.int IntKind.i64 0, AV.int IntKind.i64 0]) = ((AV.agg ((AV.int IntKind.i64 (r22.v0 n g)) :: ((AV.int IntKind.i64 (r22.v1 n g)) :: [])))) by first | (simp only [r22.v0, r22.v1, r22.v2, h1, cond_true, cond_false]; done) | (try unfold r22.v0; try unfold r22.v1; try unfold r22.v2; try simp only [h1, cond_true, cond_false]; try rfl; done) | rfl)) (And.intro (show (AV.int IntKind.i64 (r35.v n g 100000)) = ((AV.int IntKind.i64 (r22.v2 n g))) by first | (simp only [r22.v0, r22.v1, r22.v2, h1, cond_true, cond_false]; done) | (try unfold r22.v0; try unfold r22.v1; try unfold r22.v2; try simp only [h1, cond_true, cond_false]; try rfl; done) | rfl) trivial))))) h

theorem r22m (n : Nat) (hn : n ≤ 9223372036854775807) (hq : decide ((↑n : Int) > 64) = true) (g : Nat → LD) (hg : ∀ (i : Nat), (g i).nm.size ≤ 9223372036854775807) (h : AHeap) : Ret Try.prog 22 ([lds n g]) h (AV.tup [(AV.agg ((AV.int IntKind.i64 0) :: ((AV.int IntKind.i64 0) :: []))), (AV.int IntKind.i64 7)]) h := by
  have o0 : n ≤ (9223372036854775807 : Nat) := by first | assumption | omega | (exact hg _) | (exact hg _ (by omega)) | (simp_all; done)
  have o1 : decide ((↑n : Int) > (64 : Int)) = true := by first | assumption | omega | (exact hg _) | (exact hg _ (by omega)) | (simp_all; done)
  exact Ret.of_run1 mix [(AV.agg ((AV.int IntKind.i64 0) :: ((AV.int IntKind.i64 0) :: []))), (AV.int IntKind.i64 7)] Try.func22 rfl [.ret (AV.int IntKind.i64 7) ([AObj.var (AV.agg [AV.int IntKind.i64 0, AV.int IntKind.i64 0])]), .b true] (by simp) (by simp) (kmp (by kernel_rfl) (And.intro (r35m (n) o0 o1 (g) (100000) ([AObj.var (AV.agg [AV.int IntKind.i64 0, AV.int IntKind.i64 0])])) (And.intro (rfl : true = true) (And.intro (And.intro trivial (show (AV.agg [AV.int IntKind.i64 0, AV.int IntKind.i64 0]) = ((AV.agg ((AV.int IntKind.i64 0) :: ((AV.int IntKind.i64 0) :: [])))) by first | (simp only [cond_true, cond_false]; done) | (try rfl; done) | rfl)) (And.intro (show (AV.int IntKind.i64 7) = ((AV.int IntKind.i64 7)) by first | (simp only [cond_true, cond_false]; done) | (try rfl; done) | rfl) trivial))))) h

noncomputable def r23.v0 (n : Nat) (g : Nat → LD) : Int := r40.v0 (r41.v n g 0) (IntKind.i64.wrap (2 * r20.v n g))

noncomputable def r23.v1 (n : Nat) (g : Nat → LD) : Int := r40.v1 (r41.v n g 0) (IntKind.i64.wrap (2 * r20.v n g))

noncomputable abbrev r23.h0 (n : Nat) (g : Nat → LD) : AHeap := ([AObj.var (AV.agg [AV.int IntKind.i64 0, AV.int IntKind.i64 0])])

theorem r23 (n : Nat) (hn : n ≤ 9223372036854775807) (g : Nat → LD) (hg : ∀ (i : Nat), (g i).nm.size ≤ 9223372036854775807) (h : AHeap) : Ret Try.prog 23 ([lds n g]) h (AV.agg ((AV.int IntKind.i64 (r23.v0 n g)) :: ((AV.int IntKind.i64 (r23.v1 n g)) :: []))) h := by
  have o0 : n ≤ (9223372036854775807 : Nat) := by first | assumption | omega | (exact hg _) | (exact hg _ (by omega)) | (simp_all; done)
  have o1 : (-9223372036854775808 : Int) ≤ r41.v n g (0 : Int) := by first | assumption | omega | (apply mr_lo <;> first | assumption | omega) | (exact hg _) | (exact hg _ (by omega)) | (simp_all; done)
  have o2 : r41.v n g (0 : Int) ≤ (9223372036854775807 : Int) := by first | assumption | omega | (apply mr_hi <;> first | assumption | omega) | (exact hg _) | (exact hg _ (by omega)) | (simp_all; done)
  try have := IntWalk.i64_in (2 * r20.v n g) (by omega)
  have o3 : (-9223372036854775808 : Int) ≤ IntKind.i64.wrap ((2 : Int) * r20.v n g) := by first | assumption | omega | (apply wr_lo <;> first | assumption | omega) | (exact hg _) | (exact hg _ (by omega)) | (simp_all; done)
  have o4 : IntKind.i64.wrap ((2 : Int) * r20.v n g) ≤ (9223372036854775807 : Int) := by first | assumption | omega | (apply wr_hi <;> first | assumption | omega) | (exact hg _) | (exact hg _ (by omega)) | (simp_all; done)
  exact Ret.of_run1 mix [(AV.agg ((AV.int IntKind.i64 (r23.v0 n g)) :: ((AV.int IntKind.i64 (r23.v1 n g)) :: [])))] Try.func23 rfl [.ret (AV.int IntKind.i64 (r41.v n g 0)) (r23.h0 n g), .ret (AV.int IntKind.i64 (r20.v n g)) (r23.h0 n g), .ret (AV.tup [AV.agg [AV.int IntKind.i64 (r40.v0 (r41.v n g 0) (IntKind.i64.wrap (2 * r20.v n g))), AV.int IntKind.i64 (r40.v1 (r41.v n g 0) (IntKind.i64.wrap (2 * r20.v n g)))], AV.int IntKind.i64 (r40.v2 (r41.v n g 0) (IntKind.i64.wrap (2 * r20.v n g)))]) (r23.h0 n g)] (by simp) (by simp) (kmp (by kernel_rfl) (And.intro (r41 (n) (g) o0 (0) (r23.h0 n g)) (And.intro (r20 (n) (g) o0 (r23.h0 n g)) (And.intro (r40 (r41.v n g 0) (IntKind.i64.wrap (2 * r20.v n g)) (And.intro o1 o2) (And.intro o3 o4) (r23.h0 n g)) (And.intro (And.intro trivial (show (AV.agg [AV.int IntKind.i64 (r40.v0 (r41.v n g 0) (IntKind.i64.wrap (2 * r20.v n g))), AV.int IntKind.i64 (r40.v1 (r41.v n g 0) (IntKind.i64.wrap (2 * r20.v n g)))]) = ((AV.agg ((AV.int IntKind.i64 (r23.v0 n g)) :: ((AV.int IntKind.i64 (r23.v1 n g)) :: [])))) by first | (simp only [r23.v0, r23.v1, cond_true, cond_false]; done) | (try unfold r23.v0; try unfold r23.v1; try rfl; done) | rfl)) trivial))))) h

noncomputable def r6a.v (n : Nat) (g : Nat → LD) : Bool := (bif r15.v n g (-1) == 0 then (bif (↑n : Int) == 0 then (bif r22.v2 n g == 9 then r22.v0 n g == 0 && (fun (q : Bool) => r22.v1 n g == 0 && q) true else false) else (bif r22.v2 n g == 0 then r22.v0 n g == r23.v0 n g && (fun (q : Bool) => r22.v1 n g == r23.v1 n g && q) true else false)) else (bif r22.v2 n g == r15.v n g (-1) then r22.v0 n g == 0 && (fun (q : Bool) => r22.v1 n g == 0 && q) true else false))

noncomputable abbrev r6a.h0 (n : Nat) (g : Nat → LD) : AHeap := ([AObj.var (AV.agg [AV.int IntKind.i64 (r22.v0 n g), AV.int IntKind.i64 (r22.v1 n g)])])

theorem r6a (ha : r10.v = true) (n : Nat) (hn : n ≤ 12) (g : Nat → LD) (hg : ∀ (i : Nat), (g i).nm.size ≤ 9223372036854775807) (hf : r11.v (TD.mk (ByteArray.mk #[]) 0 0 0 0 0 0 0) n g = true) (h : AHeap) : Ret Try.prog 6 ([lds n g]) h (AV.bool (r6a.v n g)) h := by
  have o0 : n ≤ (9223372036854775807 : Nat) := by first | assumption | omega | (exact hg _) | (exact hg _ (by omega)) | (simp_all; done)
  have o1 : n ≤ (12 : Nat) := by first | assumption | omega | (exact hg _) | (exact hg _ (by omega)) | (simp_all; done)
  have o2 : ∀ (i : Nat), (g i).nm.size ≤ (9223372036854775807 : Nat) := by first | assumption | omega | (exact hg _) | (exact hg _ (by omega)) | (simp_all; done)
  cases h1 : r15.v n g (-1) == 0 with
  | true =>
    have h1p := eq_of_beq h1
    cases h2 : (↑n : Int) == 0 with
    | true =>
      have h2p := eq_of_beq h2
      cases h3 : r22.v2 n g == 9 with
      | true =>
        have h3p := eq_of_beq h3
        exact Ret.of_run1 mix [(AV.bool (r6a.v n g))] Try.func6 rfl [.ret (AV.bool r10.v) ([]), .b false, .ret (AV.bool (r11.v (TD.mk (ByteArray.mk #[]) 0 0 0 0 0 0 0) n g)) ([]), .b false, .ret (AV.tup [AV.agg [AV.int IntKind.i64 (r22.v0 n g), AV.int IntKind.i64 (r22.v1 n g)], AV.int IntKind.i64 (r22.v2 n g)]) ([]), .ret (AV.int IntKind.i64 (r15.v n g (-1))) (r6a.h0 n g), .b true, .b true, .b true, .b true, .b true, .b true, .b true, .b true, .b true, .b true] (by simp) (by simp) (kmp (by kernel_rfl) (And.intro (r10 ([])) (And.intro (rfl : false = false) (And.intro (r11 (TD.mk (ByteArray.mk #[]) 0 0 0 0 0 0 0) (n) (g) o0 ([])) (And.intro (show (bnot (r11.v (TD.mk (ByteArray.mk #[]) 0 0 0 0 0 0 0) n g)) = false by rw [hf]; try rfl) (And.intro (r22 (n) o1 (g) o2 ([])) (And.intro (r15 (n) (g) o0 o2 (-1) (r6a.h0 n g)) (And.intro h1 (And.intro h1 (And.intro h1 (And.intro h1 (And.intro h2 (And.intro (rfl : true = true) (And.intro h3 (And.intro h3 (And.intro h3 (And.intro h3 (And.intro (show (AV.bool (r22.v0 n g == 0 && (fun (q : Bool) => r22.v1 n g == 0 && q) true)) = ((AV.bool (r6a.v n g))) by first | (simp only [r6a.v, hf, h1, h2, h3, cond_true, cond_false]; done) | (try unfold r6a.v; try simp only [hf, cond_true, cond_false]; try simp only [h1, cond_true, cond_false]; try simp only [h2, cond_true, cond_false]; try simp only [h3, cond_true, cond_false]; try rfl; done) | rfl) trivial)))))))))))))))))) h
      | false =>
        have h3p := ne_of_beq_false h3
        exact Ret.of_run1 mix [(AV.bool (r6a.v n g))] Try.func6 rfl [.ret (AV.bool r10.v) ([]), .b false, .ret (AV.bool (r11.v (TD.mk (ByteArray.mk #[]) 0 0 0 0 0 0 0) n g)) ([]), .b false, .ret (AV.tup [AV.agg [AV.int IntKind.i64 (r22.v0 n g), AV.int IntKind.i64 (r22.v1 n g)], AV.int IntKind.i64 (r22.v2 n g)]) ([]), .ret (AV.int IntKind.i64 (r15.v n g (-1))) (r6a.h0 n g), .b true, .b true, .b true, .b true, .b true, .b true, .b false, .b false, .b false, .b false] (by simp) (by simp) (kmp (by kernel_rfl) (And.intro (r10 ([])) (And.intro (rfl : false = false) (And.intro (r11 (TD.mk (ByteArray.mk #[]) 0 0 0 0 0 0 0) (n) (g) o0 ([])) (And.intro (show (bnot (r11.v (TD.mk (ByteArray.mk #[]) 0 0 0 0 0 0 0) n g)) = false by rw [hf]; try rfl) (And.intro (r22 (n) o1 (g) o2 ([])) (And.intro (r15 (n) (g) o0 o2 (-1) (r6a.h0 n g)) (And.intro h1 (And.intro h1 (And.intro h1 (And.intro h1 (And.intro h2 (And.intro (rfl : true = true) (And.intro h3 (And.intro h3 (And.intro h3 (And.intro h3 (And.intro (show (AV.bool false) = ((AV.bool (r6a.v n g))) by first | (simp only [r6a.v, hf, h1, h2, h3, cond_true, cond_false]; done) | (try unfold r6a.v; try simp only [hf, cond_true, cond_false]; try simp only [h1, cond_true, cond_false]; try simp only [h2, cond_true, cond_false]; try simp only [h3, cond_true, cond_false]; try rfl; done) | rfl) trivial)))))))))))))))))) h
    | false =>
      have h2p := ne_of_beq_false h2
      cases h3 : r22.v2 n g == 0 with
      | true =>
        have h3p := eq_of_beq h3
        exact Ret.of_run1 mix [(AV.bool (r6a.v n g))] Try.func6 rfl [.ret (AV.bool r10.v) ([]), .b false, .ret (AV.bool (r11.v (TD.mk (ByteArray.mk #[]) 0 0 0 0 0 0 0) n g)) ([]), .b false, .ret (AV.tup [AV.agg [AV.int IntKind.i64 (r22.v0 n g), AV.int IntKind.i64 (r22.v1 n g)], AV.int IntKind.i64 (r22.v2 n g)]) ([]), .ret (AV.int IntKind.i64 (r15.v n g (-1))) (r6a.h0 n g), .b true, .b true, .b true, .b true, .b false, .b false, .b true, .b true, .b true, .ret (AV.agg [AV.int IntKind.i64 (r23.v0 n g), AV.int IntKind.i64 (r23.v1 n g)]) (r6a.h0 n g), .b true, .b true] (by simp) (by simp) (kmp (by kernel_rfl) (And.intro (r10 ([])) (And.intro (rfl : false = false) (And.intro (r11 (TD.mk (ByteArray.mk #[]) 0 0 0 0 0 0 0) (n) (g) o0 ([])) (And.intro (show (bnot (r11.v (TD.mk (ByteArray.mk #[]) 0 0 0 0 0 0 0) n g)) = false by rw [hf]; try rfl) (And.intro (r22 (n) o1 (g) o2 ([])) (And.intro (r15 (n) (g) o0 o2 (-1) (r6a.h0 n g)) (And.intro h1 (And.intro h1 (And.intro h1 (And.intro h1 (And.intro h2 (And.intro (show (bnot (r15.v n g (-1) == 0)) = false by rw [h1]; try rfl) (And.intro h3 (And.intro h3 (And.intro h3 (And.intro (r23 (n) o0 (g) o2 (r6a.h0 n g)) (And.intro h3 (And.intro h3 (And.intro (show (AV.bool (r22.v0 n g == r23.v0 n g && (fun (q : Bool) => r22.v1 n g == r23.v1 n g && q) true)) = ((AV.bool (r6a.v n g))) by first | (simp only [r6a.v, hf, h1, h2, h3, cond_true, cond_false]; done) | (try unfold r6a.v; try simp only [hf, cond_true, cond_false]; try simp only [h1, cond_true, cond_false]; try simp only [h2, cond_true, cond_false]; try simp only [h3, cond_true, cond_false]; try rfl; done) | rfl) trivial)))))))))))))))))))) h
      | false =>
        have h3p := ne_of_beq_false h3
        exact Ret.of_run1 mix [(AV.bool (r6a.v n g))] Try.func6 rfl [.ret (AV.bool r10.v) ([]), .b false, .ret (AV.bool (r11.v (TD.mk (ByteArray.mk #[]) 0 0 0 0 0 0 0) n g)) ([]), .b false, .ret (AV.tup [AV.agg [AV.int IntKind.i64 (r22.v0 n g), AV.int IntKind.i64 (r22.v1 n g)], AV.int IntKind.i64 (r22.v2 n g)]) ([]), .ret (AV.int IntKind.i64 (r15.v n g (-1))) (r6a.h0 n g), .b true, .b true, .b true, .b true, .b false, .b false, .b false, .b false, .b false, .b false, .b false] (by simp) (by simp) (kmp (by kernel_rfl) (And.intro (r10 ([])) (And.intro (rfl : false = false) (And.intro (r11 (TD.mk (ByteArray.mk #[]) 0 0 0 0 0 0 0) (n) (g) o0 ([])) (And.intro (show (bnot (r11.v (TD.mk (ByteArray.mk #[]) 0 0 0 0 0 0 0) n g)) = false by rw [hf]; try rfl) (And.intro (r22 (n) o1 (g) o2 ([])) (And.intro (r15 (n) (g) o0 o2 (-1) (r6a.h0 n g)) (And.intro h1 (And.intro h1 (And.intro h1 (And.intro h1 (And.intro h2 (And.intro (show (bnot (r15.v n g (-1) == 0)) = false by rw [h1]; try rfl) (And.intro h3 (And.intro h3 (And.intro h3 (And.intro h3 (And.intro h3 (And.intro (show (AV.bool false) = ((AV.bool (r6a.v n g))) by first | (simp only [r6a.v, hf, h1, h2, h3, cond_true, cond_false]; done) | (try unfold r6a.v; try simp only [hf, cond_true, cond_false]; try simp only [h1, cond_true, cond_false]; try simp only [h2, cond_true, cond_false]; try simp only [h3, cond_true, cond_false]; try rfl; done) | rfl) trivial))))))))))))))))))) h
  | false =>
    have h1p := ne_of_beq_false h1
    cases h2 : r22.v2 n g == r15.v n g (-1) with
    | true =>
      have h2p := eq_of_beq h2
      exact Ret.of_run1 mix [(AV.bool (r6a.v n g))] Try.func6 rfl [.ret (AV.bool r10.v) ([]), .b false, .ret (AV.bool (r11.v (TD.mk (ByteArray.mk #[]) 0 0 0 0 0 0 0) n g)) ([]), .b false, .ret (AV.tup [AV.agg [AV.int IntKind.i64 (r22.v0 n g), AV.int IntKind.i64 (r22.v1 n g)], AV.int IntKind.i64 (r22.v2 n g)]) ([]), .ret (AV.int IntKind.i64 (r15.v n g (-1))) (r6a.h0 n g), .b false, .b false, .b false, .b false, .b false, .b true, .b true, .b true, .b true, .b true] (by simp) (by simp) (kmp (by kernel_rfl) (And.intro (r10 ([])) (And.intro (rfl : false = false) (And.intro (r11 (TD.mk (ByteArray.mk #[]) 0 0 0 0 0 0 0) (n) (g) o0 ([])) (And.intro (show (bnot (r11.v (TD.mk (ByteArray.mk #[]) 0 0 0 0 0 0 0) n g)) = false by rw [hf]; try rfl) (And.intro (r22 (n) o1 (g) o2 ([])) (And.intro (r15 (n) (g) o0 o2 (-1) (r6a.h0 n g)) (And.intro h1 (And.intro h1 (And.intro h1 (And.intro h1 (And.intro (rfl : false = false) (And.intro (show (bnot (r15.v n g (-1) == 0)) = true by rw [h1]; try rfl) (And.intro h2 (And.intro h2 (And.intro h2 (And.intro h2 (And.intro (show (AV.bool (r22.v0 n g == 0 && (fun (q : Bool) => r22.v1 n g == 0 && q) true)) = ((AV.bool (r6a.v n g))) by first | (simp only [r6a.v, hf, h1, h2, cond_true, cond_false]; done) | (try unfold r6a.v; try simp only [hf, cond_true, cond_false]; try simp only [h1, cond_true, cond_false]; try simp only [h2, cond_true, cond_false]; try rfl; done) | rfl) trivial)))))))))))))))))) h
    | false =>
      have h2p := ne_of_beq_false h2
      exact Ret.of_run1 mix [(AV.bool (r6a.v n g))] Try.func6 rfl [.ret (AV.bool r10.v) ([]), .b false, .ret (AV.bool (r11.v (TD.mk (ByteArray.mk #[]) 0 0 0 0 0 0 0) n g)) ([]), .b false, .ret (AV.tup [AV.agg [AV.int IntKind.i64 (r22.v0 n g), AV.int IntKind.i64 (r22.v1 n g)], AV.int IntKind.i64 (r22.v2 n g)]) ([]), .ret (AV.int IntKind.i64 (r15.v n g (-1))) (r6a.h0 n g), .b false, .b false, .b false, .b false, .b false, .b true, .b false, .b false, .b false, .b false] (by simp) (by simp) (kmp (by kernel_rfl) (And.intro (r10 ([])) (And.intro (rfl : false = false) (And.intro (r11 (TD.mk (ByteArray.mk #[]) 0 0 0 0 0 0 0) (n) (g) o0 ([])) (And.intro (show (bnot (r11.v (TD.mk (ByteArray.mk #[]) 0 0 0 0 0 0 0) n g)) = false by rw [hf]; try rfl) (And.intro (r22 (n) o1 (g) o2 ([])) (And.intro (r15 (n) (g) o0 o2 (-1) (r6a.h0 n g)) (And.intro h1 (And.intro h1 (And.intro h1 (And.intro h1 (And.intro (rfl : false = false) (And.intro (show (bnot (r15.v n g (-1) == 0)) = true by rw [h1]; try rfl) (And.intro h2 (And.intro h2 (And.intro h2 (And.intro h2 (And.intro (show (AV.bool false) = ((AV.bool (r6a.v n g))) by first | (simp only [r6a.v, hf, h1, h2, cond_true, cond_false]; done) | (try unfold r6a.v; try simp only [hf, cond_true, cond_false]; try simp only [h1, cond_true, cond_false]; try simp only [h2, cond_true, cond_false]; try rfl; done) | rfl) trivial)))))))))))))))))) h

noncomputable def r6b.v (n : Nat) (g : Nat → LD) : Bool := (bif r15.v n g (-1) == 0 then false else (bif 7 == r15.v n g (-1) then 0 == 0 && (fun (q : Bool) => 0 == 0 && q) true else false))

noncomputable abbrev r6b.h0 (n : Nat) (g : Nat → LD) : AHeap := ([AObj.var (AV.agg [AV.int IntKind.i64 0, AV.int IntKind.i64 0])])

theorem r6b (ha : r10.v = true) (n : Nat) (hn : n ≤ 9223372036854775807) (hq : decide ((↑n : Int) > 64) = true) (g : Nat → LD) (hg : ∀ (i : Nat), (g i).nm.size ≤ 9223372036854775807) (hf : r11.v (TD.mk (ByteArray.mk #[]) 0 0 0 0 0 0 0) n g = true) (h : AHeap) : Ret Try.prog 6 ([lds n g]) h (AV.bool (r6b.v n g)) h := by
  have o0 : n ≤ (9223372036854775807 : Nat) := by first | assumption | omega | (exact hg _) | (exact hg _ (by omega)) | (simp_all; done)
  have o1 : decide ((↑n : Int) > (64 : Int)) = true := by first | assumption | omega | (exact hg _) | (exact hg _ (by omega)) | (simp_all; done)
  have o2 : ∀ (i : Nat), (g i).nm.size ≤ (9223372036854775807 : Nat) := by first | assumption | omega | (exact hg _) | (exact hg _ (by omega)) | (simp_all; done)
  cases h1 : r15.v n g (-1) == 0 with
  | true =>
    have h1p := eq_of_beq h1
    cases h2 : (↑n : Int) == 0 with
    | true =>
      have h2p := eq_of_beq h2
      exact Ret.of_run1 mix [(AV.bool (r6b.v n g))] Try.func6 rfl [.ret (AV.bool r10.v) ([]), .b false, .ret (AV.bool (r11.v (TD.mk (ByteArray.mk #[]) 0 0 0 0 0 0 0) n g)) ([]), .b false, .ret (AV.tup [AV.agg [AV.int IntKind.i64 0, AV.int IntKind.i64 0], AV.int IntKind.i64 7]) ([]), .ret (AV.int IntKind.i64 (r15.v n g (-1))) (r6b.h0 n g), .b true, .b true, .b true, .b true, .b true, .b true, .b false, .b false, .b false, .b false] (by simp) (by simp) (kmp (by kernel_rfl) (And.intro (r10 ([])) (And.intro (rfl : false = false) (And.intro (r11 (TD.mk (ByteArray.mk #[]) 0 0 0 0 0 0 0) (n) (g) o0 ([])) (And.intro (show (bnot (r11.v (TD.mk (ByteArray.mk #[]) 0 0 0 0 0 0 0) n g)) = false by rw [hf]; try rfl) (And.intro (r22m (n) o0 o1 (g) o2 ([])) (And.intro (r15 (n) (g) o0 o2 (-1) (r6b.h0 n g)) (And.intro h1 (And.intro h1 (And.intro h1 (And.intro h1 (And.intro h2 (And.intro (rfl : true = true) (And.intro (rfl : false = false) (And.intro (rfl : false = false) (And.intro (rfl : false = false) (And.intro (rfl : false = false) (And.intro (show (AV.bool false) = ((AV.bool (r6b.v n g))) by first | (simp only [r6b.v, hf, h1, h2, cond_true, cond_false]; done) | (try unfold r6b.v; try simp only [hf, cond_true, cond_false]; try simp only [h1, cond_true, cond_false]; try simp only [h2, cond_true, cond_false]; try rfl; done) | rfl) trivial)))))))))))))))))) h
    | false =>
      have h2p := ne_of_beq_false h2
      exact Ret.of_run1 mix [(AV.bool (r6b.v n g))] Try.func6 rfl [.ret (AV.bool r10.v) ([]), .b false, .ret (AV.bool (r11.v (TD.mk (ByteArray.mk #[]) 0 0 0 0 0 0 0) n g)) ([]), .b false, .ret (AV.tup [AV.agg [AV.int IntKind.i64 0, AV.int IntKind.i64 0], AV.int IntKind.i64 7]) ([]), .ret (AV.int IntKind.i64 (r15.v n g (-1))) (r6b.h0 n g), .b true, .b true, .b true, .b true, .b false, .b false, .b false, .b false, .b false, .b false, .b false] (by simp) (by simp) (kmp (by kernel_rfl) (And.intro (r10 ([])) (And.intro (rfl : false = false) (And.intro (r11 (TD.mk (ByteArray.mk #[]) 0 0 0 0 0 0 0) (n) (g) o0 ([])) (And.intro (show (bnot (r11.v (TD.mk (ByteArray.mk #[]) 0 0 0 0 0 0 0) n g)) = false by rw [hf]; try rfl) (And.intro (r22m (n) o0 o1 (g) o2 ([])) (And.intro (r15 (n) (g) o0 o2 (-1) (r6b.h0 n g)) (And.intro h1 (And.intro h1 (And.intro h1 (And.intro h1 (And.intro h2 (And.intro (show (bnot (r15.v n g (-1) == 0)) = false by rw [h1]; try rfl) (And.intro (rfl : false = false) (And.intro (rfl : false = false) (And.intro (rfl : false = false) (And.intro (rfl : false = false) (And.intro (rfl : false = false) (And.intro (show (AV.bool false) = ((AV.bool (r6b.v n g))) by first | (simp only [r6b.v, hf, h1, h2, cond_true, cond_false]; done) | (try unfold r6b.v; try simp only [hf, cond_true, cond_false]; try simp only [h1, cond_true, cond_false]; try simp only [h2, cond_true, cond_false]; try rfl; done) | rfl) trivial))))))))))))))))))) h
  | false =>
    have h1p := ne_of_beq_false h1
    cases h2 : 7 == r15.v n g (-1) with
    | true =>
      have h2p := eq_of_beq h2
      exact Ret.of_run1 mix [(AV.bool (r6b.v n g))] Try.func6 rfl [.ret (AV.bool r10.v) ([]), .b false, .ret (AV.bool (r11.v (TD.mk (ByteArray.mk #[]) 0 0 0 0 0 0 0) n g)) ([]), .b false, .ret (AV.tup [AV.agg [AV.int IntKind.i64 0, AV.int IntKind.i64 0], AV.int IntKind.i64 7]) ([]), .ret (AV.int IntKind.i64 (r15.v n g (-1))) (r6b.h0 n g), .b false, .b false, .b false, .b false, .b false, .b true, .b true, .b true, .b true, .b true] (by simp) (by simp) (kmp (by kernel_rfl) (And.intro (r10 ([])) (And.intro (rfl : false = false) (And.intro (r11 (TD.mk (ByteArray.mk #[]) 0 0 0 0 0 0 0) (n) (g) o0 ([])) (And.intro (show (bnot (r11.v (TD.mk (ByteArray.mk #[]) 0 0 0 0 0 0 0) n g)) = false by rw [hf]; try rfl) (And.intro (r22m (n) o0 o1 (g) o2 ([])) (And.intro (r15 (n) (g) o0 o2 (-1) (r6b.h0 n g)) (And.intro h1 (And.intro h1 (And.intro h1 (And.intro h1 (And.intro (rfl : false = false) (And.intro (show (bnot (r15.v n g (-1) == 0)) = true by rw [h1]; try rfl) (And.intro h2 (And.intro h2 (And.intro h2 (And.intro h2 (And.intro (show (AV.bool (0 == 0 && (fun (q : Bool) => 0 == 0 && q) true)) = ((AV.bool (r6b.v n g))) by first | (simp only [r6b.v, hf, h1, h2, cond_true, cond_false]; done) | (try unfold r6b.v; try simp only [hf, cond_true, cond_false]; try simp only [h1, cond_true, cond_false]; try simp only [h2, cond_true, cond_false]; try rfl; done) | rfl) trivial)))))))))))))))))) h
    | false =>
      have h2p := ne_of_beq_false h2
      exact Ret.of_run1 mix [(AV.bool (r6b.v n g))] Try.func6 rfl [.ret (AV.bool r10.v) ([]), .b false, .ret (AV.bool (r11.v (TD.mk (ByteArray.mk #[]) 0 0 0 0 0 0 0) n g)) ([]), .b false, .ret (AV.tup [AV.agg [AV.int IntKind.i64 0, AV.int IntKind.i64 0], AV.int IntKind.i64 7]) ([]), .ret (AV.int IntKind.i64 (r15.v n g (-1))) (r6b.h0 n g), .b false, .b false, .b false, .b false, .b false, .b true, .b false, .b false, .b false, .b false] (by simp) (by simp) (kmp (by kernel_rfl) (And.intro (r10 ([])) (And.intro (rfl : false = false) (And.intro (r11 (TD.mk (ByteArray.mk #[]) 0 0 0 0 0 0 0) (n) (g) o0 ([])) (And.intro (show (bnot (r11.v (TD.mk (ByteArray.mk #[]) 0 0 0 0 0 0 0) n g)) = false by rw [hf]; try rfl) (And.intro (r22m (n) o0 o1 (g) o2 ([])) (And.intro (r15 (n) (g) o0 o2 (-1) (r6b.h0 n g)) (And.intro h1 (And.intro h1 (And.intro h1 (And.intro h1 (And.intro (rfl : false = false) (And.intro (show (bnot (r15.v n g (-1) == 0)) = true by rw [h1]; try rfl) (And.intro h2 (And.intro h2 (And.intro h2 (And.intro h2 (And.intro (show (AV.bool false) = ((AV.bool (r6b.v n g))) by first | (simp only [r6b.v, hf, h1, h2, cond_true, cond_false]; done) | (try unfold r6b.v; try simp only [hf, cond_true, cond_false]; try simp only [h1, cond_true, cond_false]; try simp only [h2, cond_true, cond_false]; try rfl; done) | rfl) trivial)))))))))))))))))) h

theorem r6c (ha : r10.v = true) (n : Nat) (hn : n ≤ 9223372036854775807) (g : Nat → LD) (hg : ∀ (i : Nat), (g i).nm.size ≤ 9223372036854775807) (hf : r11.v (TD.mk (ByteArray.mk #[]) 0 0 0 0 0 0 0) n g = false) (h : AHeap) : Ret Try.prog 6 ([lds n g]) h (AV.bool true) h := by
  have o0 : n ≤ (9223372036854775807 : Nat) := by first | assumption | omega | (exact hg _) | (exact hg _ (by omega)) | (simp_all; done)
  exact Ret.of_run1 mix [(AV.bool true)] Try.func6 rfl [.ret (AV.bool r10.v) ([]), .b false, .ret (AV.bool (r11.v (TD.mk (ByteArray.mk #[]) 0 0 0 0 0 0 0) n g)) ([]), .b true] (by simp) (by simp) (kmp (by kernel_rfl) (And.intro (r10 ([])) (And.intro (rfl : false = false) (And.intro (r11 (TD.mk (ByteArray.mk #[]) 0 0 0 0 0 0 0) (n) (g) o0 ([])) (And.intro (show (bnot (r11.v (TD.mk (ByteArray.mk #[]) 0 0 0 0 0 0 0) n g)) = true by rw [hf]; try rfl) (And.intro (show (AV.bool true) = ((AV.bool true)) by first | (simp only [hf, cond_true, cond_false]; done) | (try simp only [hf, cond_true, cond_false]; try rfl; done) | rfl) trivial)))))) h

end Go.Proofs.Ytngpbfocjgikaaa

open Go

namespace Go.Proofs.Ytngpbfocjgikaaa

set_option linter.unusedSimpArgs false

set_option linter.unusedVariables false

set_option maxHeartbeats 0

set_option maxRecDepth 100000

end Go.Proofs.Ytngpbfocjgikaaa

open Go

namespace Go.Proofs.Ytngpbfocjgikaaa

set_option maxHeartbeats 0

set_option maxRecDepth 100000

set_option linter.unusedVariables false

set_option linter.unusedSimpArgs false

variable {n : Nat} {g : Nat → LD} {t : TD}

theorem r35_0 (hn : n ≤ 9223372036854775807) {bed : Int} (h : r35.v n g bed = 0) : (∀ i, i < n → LOk (g i)) ∧ ∀ i, i < n → r50.v bed (g i) = false := by
  unfold r35.v at h
  rw [r46a_v hn, r46b_v hn, r46c_v hn] at h
  have st : ∀ {b : Bool} {x y : Int}, (bif b then x else y) = 0 → x ≠ 0 → b = false ∧ y = 0 := by
    intro b x y h hx; cases b
    · exact ⟨rfl, h⟩
    · exact absurd h hx
  obtain ⟨_, h⟩ := st h (by decide)
  obtain ⟨_, h⟩ := st h (by decide)
  obtain ⟨h1, h⟩ := st h (by decide)
  refine ⟨fun i hi => ok49.1 (anyN_false.1 h1 i hi), ?_⟩
  split at h
  · cases h
  · obtain ⟨h2, _⟩ := st h (by decide)
    exact anyN_false.1 h2

end Go.Proofs.Ytngpbfocjgikaaa

open Go

namespace Go.Proofs.Ytngpbfocjgikaaa

set_option maxHeartbeats 0

set_option maxRecDepth 100000

set_option linter.unusedVariables false

set_option linter.unusedSimpArgs false

variable {n : Nat} {g : Nat → LD} {t : TD}

theorem sm_pos {fr : Int} (hf : -50000 ≤ fr ∧ fr ≤ 50000) : ∀ i : Nat, i ≤ 12 → (∀ j, j < i → LOk (g j)) → (i : Int) ≤ (sm g fr i).1 := by
  intro i
  induction i with
  | zero => intro _ _; exact Int.le_refl _
  | succ i ih =>
    intro hi h
    have h0 := ih (by omega) fun j hj => h j (by omega)
    obtain ⟨⟨a1, a2⟩, a3, a4⟩ := sm_bd hf i (by omega) fun j hj => h j (by omega)
    obtain ⟨e1, e2, e3⟩ := addL_eq (h i (by omega)) hf (a := sm g fr i) (by omega) (by omega)
    have hm := (h i (by omega)).2.2
    show ((i + 1 : Nat) : Int) ≤ (addL fr (sm g fr i) (g i)).1
    rw [e1]
    show ((i + 1 : Nat) : Int) ≤ (sm g fr i).1 + (g i).ms
    omega

theorem r22_v (hn : n ≤ 12) (hg : ∀ i, (g i).nm.size ≤ 9223372036854775807) (h : r15.v n g (-1) = 0) (h0 : n ≠ 0) : r22.v2 n g = 0 ∧ r22.v0 n g = r23.v0 n g ∧ r22.v1 n g = r23.v1 n g := by
  have h35 : r35.v n g 100000 = 0 := (loads_any (by omega) hg).trans h
  obtain ⟨b1, _⟩ := r35_0 (by omega) h35
  obtain ⟨⟨a1, a2⟩, a3, a4⟩ := sm_bd (g := g) (fr := 0) (by decide) n hn b1
  have a5 := sm_pos (g := g) (fr := 0) (by decide) n hn b1
  obtain ⟨s0, s1⟩ := r33_sm (n := n) (g := g) (by omega) 0
  have e : ((n : Int) == 0) = false := by simp; exact h0
  unfold r22.v0 r22.v1 r22.v2 r23.v0 r23.v1
  rw [h35, e, s0, s1, r41_sm (by omega) 0, r20_sm (by omega) 0]
  have hw : IntKind.i64.wrap (2 * (sm g 0 n).1) = 2 * (sm g 0 n).1 := i64_small (by omega)
  rw [hw]
  obtain ⟨q1, q2, q3⟩ := new_eq (a := (sm g 0 n).2) (b := 2 * (sm g 0 n).1) (by omega) (by omega)
  exact ⟨new_ok (by omega) (by omega), q1, q2⟩

theorem r6a_true (hn : n ≤ 12) (hg : ∀ i, (g i).nm.size ≤ 9223372036854775807) : r6a.v n g = true := by
  unfold r6a.v
  by_cases h : r15.v n g (-1) = 0
  · rw [h]
    by_cases h0 : n = 0
    · subst h0
      have h35 : r35.v 0 g 100000 = 0 := (loads_any (by omega) hg).trans h
      unfold r22.v0 r22.v1 r22.v2
      rw [h35]
      rfl
    · obtain ⟨q1, q2, q3⟩ := r22_v hn hg h h0
      rw [q1, q2, q3, show ((n : Int) == 0) = false by simp; exact h0]
      simp
  · have h35 : r35.v n g 100000 = r15.v n g (-1) := loads_any (by omega) hg
    have e : (r15.v n g (-1) == 0) = false := by simpa using h
    unfold r22.v0 r22.v1 r22.v2
    rw [h35, e]
    simp

theorem r6b_true (hq : decide ((n : Int) > 64) = true) : r6b.v n g = true := by
  unfold r6b.v
  rw [many_eq hq]
  rfl

end Go.Proofs.Ytngpbfocjgikaaa

open Go

namespace Go.Proofs.Ytngpbfocjgikaaa

open Go.ChangeShapes Go.WideShapes Go.ChangeAt Go.RowKit

set_option maxRecDepth 100000 in
theorem law6 (xs : List AV) (h : FitsA Try.prog 5 [25] xs) : Ret Try.prog 6 xs [] (.bool true) [] := by
  obtain ⟨x0, rfl, h0⟩ := fitsA1 h
  obtain ⟨n, g, hn, hg, i1⟩ := arg_loads h0
  have key : Ret Try.prog 6 [lds n g] [] (.bool true) [] := by
    cases hf : r11.v (TD.mk (ByteArray.mk #[]) 0 0 0 0 0 0 0) n g with
    | false => exact r6c awake_true n hn g hg hf []
    | true =>
      rcases few_n hf with hs | hq
      · have := r6a awake_true n (by omega) g hg hf []
        rw [r6a_true (by omega) hg] at this
        exact this
      · have := r6b awake_true n hn hq g hg hf []
        rw [r6b_true hq] at this
        exact this
  exact key.imp (.cons i1 .nil)

set_option maxRecDepth 100000 in
theorem truckCenters_lifted (os : Os) (started : os.Started) (H : Type) (enc : TypeId × Value → H) :
    ReturnsInHanded {} Try.checked os 6 .any (Rows.truckCentersSpec.pre6 enc Try.prog Try.f6 Rows.truckCentersRow.domain false) (Rows.truckCentersSpec.post enc Try.prog Try.f6 false true false false) :=
  lifted (C := Try.checked) 5 own started (by kernel_rfl) Try.func6
    (ChangeSpec.witness6 (enc := enc) (C := Try.checked) false ⟨#[], #[.slice none 0 0], []⟩ 8 (by kernel_rfl) (by kernel_rfl) (by kernel_rfl) (by kernel_rfl))
    rfl (fun ds hd => by
      match ds, hd with
      | [_], _ => rfl) (rt := 4) (by kernel_rfl) (by kernel_rfl) laidOut (by kernel_rfl) law6

theorem truckCenters_holds : Rows.TruckCentersSaid :=
  OpenClaim.holds_of_wide 6 Try.f6 rfl rfl rfl rfl rfl rfl rfl ⟨rfl, rfl, rfl, rfl, rfl⟩ rfl rfl rfl rfl rfl (by kernel_rfl) Try.func6 (by kernel_rfl)
    (of_decide_eq_true (by kernel_rfl)) (by unfold Func.isWrapper; first | (rw [if_pos (by decide +kernel)]; kernel_rfl) | (rw [if_neg (by decide +kernel)]; exact ⟨rfl, rfl⟩))
    (fun os started H enc _ => truckCenters_lifted os started H enc)

end Go.Proofs.Ytngpbfocjgikaaa
