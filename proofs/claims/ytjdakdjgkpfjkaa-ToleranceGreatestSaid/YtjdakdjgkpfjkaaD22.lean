/- the law of the greatest, walked. -/
import Derived.Test.YtjdakdjgkpfjkaaD14
import Derived.Test.YtjdakdjgkpfjkaaD21
open Go
namespace Go.Proofs.Ytjdakdjgkpfjkaa
set_option linter.unusedSimpArgs false
set_option linter.unusedVariables false
set_option maxHeartbeats 0
set_option maxRecDepth 100000
noncomputable def r6.v (m : Nat) (f : Nat → Int) (j1 : Int) (j2 : Int) (k : Nat) (p : Nat → PD) : Bool := (bif decide ((↑m : Int) > 30) then true else (bif decide ((↑k : Int) > 30) then true else (bif r27.v0 m f j1 j2 k p == r29.v0 m f j1 j2 k p then r27.v1 m f j1 j2 k p == r29.v1 m f j1 j2 k p else false)))
noncomputable abbrev r6.h0 (m : Nat) (f : Nat → Int) (j1 : Int) (j2 : Int) (k : Nat) (p : Nat → PD) : AHeap := ([AObj.var (AV.agg [AV.int IntKind.i64 j1, AV.int IntKind.i64 j2])])
theorem r6 (m : Nat) (f : Nat → Int) (j1 : Int) (j2 : Int) (k : Nat) (p : Nat → PD) (h : AHeap) : Ret Try.prog 6 ([ivs' m f, AV.agg [AV.int IntKind.i64 j1, AV.int IntKind.i64 j2], prs k p]) h (AV.bool (r6.v m f j1 j2 k p)) h := by
  cases h1 : decide ((↑m : Int) > 30) with
  | true =>
    have h1p := of_decide_eq_true h1
    exact Ret.of_run1 mix [(AV.bool (r6.v m f j1 j2 k p))] Try.func6 rfl [.ret (AV.bool true) (r6.h0 m f j1 j2 k p), .b false, .b true, .b true, .b true, .b true, .b true] (by simp) (by simp) (kmp (by kernel_rfl) (And.intro (r11t (r6.h0 m f j1 j2 k p)) (And.intro (rfl : false = false) (And.intro h1 (And.intro h1 (And.intro h1 (And.intro h1 (And.intro (rfl : true = true) (And.intro (show (AV.bool true) = ((AV.bool (r6.v m f j1 j2 k p))) by first | (simp only [r6.v, h1, cond_true, cond_false]; done) | (try unfold r6.v; try simp only [h1, cond_true, cond_false]; try rfl; done) | rfl) trivial))))))))) h
  | false =>
    have h1p := of_decide_eq_false h1
    cases h2 : decide ((↑k : Int) > 30) with
    | true =>
      have h2p := of_decide_eq_true h2
      exact Ret.of_run1 mix [(AV.bool (r6.v m f j1 j2 k p))] Try.func6 rfl [.ret (AV.bool true) (r6.h0 m f j1 j2 k p), .b false, .b false, .b false, .b false, .b false, .b true] (by simp) (by simp) (kmp (by kernel_rfl) (And.intro (r11t (r6.h0 m f j1 j2 k p)) (And.intro (rfl : false = false) (And.intro h1 (And.intro h1 (And.intro h1 (And.intro h1 (And.intro h2 (And.intro (show (AV.bool true) = ((AV.bool (r6.v m f j1 j2 k p))) by first | (simp only [r6.v, h1, h2, cond_true, cond_false]; done) | (try unfold r6.v; try simp only [h1, cond_true, cond_false]; try simp only [h2, cond_true, cond_false]; try rfl; done) | rfl) trivial))))))))) h
    | false =>
      have h2p := of_decide_eq_false h2
      have o0 : k ≤ (30 : Nat) := by first | assumption | omega | (simp_all; done)
      have o1 : m ≤ (30 : Nat) := by first | assumption | omega | (simp_all; done)
      have o2 : m ≤ (512 : Nat) := by first | assumption | omega | (simp_all; done)
      cases h3 : r27.v0 m f j1 j2 k p == r29.v0 m f j1 j2 k p with
      | true =>
        have h3p := eq_of_beq h3
        exact Ret.of_run1 mix [(AV.bool (r6.v m f j1 j2 k p))] Try.func6 rfl [.ret (AV.bool true) (r6.h0 m f j1 j2 k p), .b false, .b false, .b false, .b false, .b false, .b false, .ret (AV.sl 2 k fun (i : Nat) => AV.agg [AV.int IntKind.i64 (p i).lo, AV.int IntKind.i64 (p i).hi]) (r6.h0 m f j1 j2 k p), .ret (AV.tup [AV.int IntKind.i64 (r27.v0 m f j1 j2 k p), AV.int IntKind.i64 (r27.v1 m f j1 j2 k p)]) (r6.h0 m f j1 j2 k p), .ret (AV.tup [AV.int IntKind.i64 (r29.v0 m f j1 j2 k p), AV.int IntKind.i64 (r29.v1 m f j1 j2 k p)]) (r6.h0 m f j1 j2 k p), .b true, .b true, .b true, .b true] (by simp) (by simp) (kmp (by kernel_rfl) (And.intro (r11t (r6.h0 m f j1 j2 k p)) (And.intro (rfl : false = false) (And.intro h1 (And.intro h1 (And.intro h1 (And.intro h1 (And.intro h2 (And.intro (c28 (k) (p) o0 (r6.h0 m f j1 j2 k p)) (And.intro (r27 (m) (f) o1 (j1) (j2) (k) (p) o0 (r6.h0 m f j1 j2 k p)) (And.intro (r29 (m) (f) o2 (j1) (j2) (k) (p) o0 (r6.h0 m f j1 j2 k p)) (And.intro h3 (And.intro h3 (And.intro h3 (And.intro h3 (And.intro (show (AV.bool (r27.v1 m f j1 j2 k p == r29.v1 m f j1 j2 k p)) = ((AV.bool (r6.v m f j1 j2 k p))) by first | (simp only [r6.v, h1, h2, h3, cond_true, cond_false]; done) | (try unfold r6.v; try simp only [h1, cond_true, cond_false]; try simp only [h2, cond_true, cond_false]; try simp only [h3, cond_true, cond_false]; try rfl; done) | rfl) trivial)))))))))))))))) h
      | false =>
        have h3p := ne_of_beq_false h3
        exact Ret.of_run1 mix [(AV.bool (r6.v m f j1 j2 k p))] Try.func6 rfl [.ret (AV.bool true) (r6.h0 m f j1 j2 k p), .b false, .b false, .b false, .b false, .b false, .b false, .ret (AV.sl 2 k fun (i : Nat) => AV.agg [AV.int IntKind.i64 (p i).lo, AV.int IntKind.i64 (p i).hi]) (r6.h0 m f j1 j2 k p), .ret (AV.tup [AV.int IntKind.i64 (r27.v0 m f j1 j2 k p), AV.int IntKind.i64 (r27.v1 m f j1 j2 k p)]) (r6.h0 m f j1 j2 k p), .ret (AV.tup [AV.int IntKind.i64 (r29.v0 m f j1 j2 k p), AV.int IntKind.i64 (r29.v1 m f j1 j2 k p)]) (r6.h0 m f j1 j2 k p), .b false, .b false, .b false, .b false] (by simp) (by simp) (kmp (by kernel_rfl) (And.intro (r11t (r6.h0 m f j1 j2 k p)) (And.intro (rfl : false = false) (And.intro h1 (And.intro h1 (And.intro h1 (And.intro h1 (And.intro h2 (And.intro (c28 (k) (p) o0 (r6.h0 m f j1 j2 k p)) (And.intro (r27 (m) (f) o1 (j1) (j2) (k) (p) o0 (r6.h0 m f j1 j2 k p)) (And.intro (r29 (m) (f) o2 (j1) (j2) (k) (p) o0 (r6.h0 m f j1 j2 k p)) (And.intro h3 (And.intro h3 (And.intro h3 (And.intro h3 (And.intro (show (AV.bool false) = ((AV.bool (r6.v m f j1 j2 k p))) by first | (simp only [r6.v, h1, h2, h3, cond_true, cond_false]; done) | (try unfold r6.v; try simp only [h1, cond_true, cond_false]; try simp only [h2, cond_true, cond_false]; try simp only [h3, cond_true, cond_false]; try rfl; done) | rfl) trivial)))))))))))))))) h

end Go.Proofs.Ytjdakdjgkpfjkaa
