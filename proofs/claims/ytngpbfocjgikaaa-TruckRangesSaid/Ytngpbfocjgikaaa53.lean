/- Contracts of the functions and plain laws, part 3. Conditions: none. -/
import Derived.Test.Ytngpbfocjgikaaa52
import Derived.Laws.Externs
import Derived.Laws.BitsAllLaws
import Derived.Laws.MathBits

open Go

namespace Go.Proofs.Ytngpbfocjgikaaa

set_option linter.unusedSimpArgs false

set_option linter.unusedVariables false

set_option maxHeartbeats 0

set_option maxRecDepth 100000

noncomputable def r39.v0 (a : Int) (b : Int) : Int := (bif b == 0 then 0 else r62.v0 (bnot (decide (a < 0) == decide (b < 0))) (IntKind.u64.wrap ((r60.v a).tdiv (r61.v (r60.v a) (r60.v b)))) (IntKind.u64.wrap ((r60.v b).tdiv (r61.v (r60.v a) (r60.v b)))))

noncomputable def r39.v1 (a : Int) (b : Int) : Int := (bif b == 0 then 0 else r62.v1 (IntKind.u64.wrap ((r60.v a).tdiv (r61.v (r60.v a) (r60.v b)))) (IntKind.u64.wrap ((r60.v b).tdiv (r61.v (r60.v a) (r60.v b)))))

noncomputable def r39.v2 (a : Int) (b : Int) : Int := (bif b == 0 then 1 else r62.v2 (IntKind.u64.wrap ((r60.v a).tdiv (r61.v (r60.v a) (r60.v b)))) (IntKind.u64.wrap ((r60.v b).tdiv (r61.v (r60.v a) (r60.v b)))))

noncomputable abbrev r39.h0 (a : Int) (b : Int) : AHeap := ([AObj.var (AV.agg [AV.int IntKind.i64 0, AV.int IntKind.i64 0])])

theorem r39 (a : Int) (b : Int) (ha : -9223372036854775808 ≤ a ∧ a ≤ 9223372036854775807) (hb : -9223372036854775808 ≤ b ∧ b ≤ 9223372036854775807) (h : AHeap) : Ret Try.prog 39 ([AV.int IntKind.i64 a, AV.int IntKind.i64 b]) h (AV.tup [(AV.agg ((AV.int IntKind.i64 (r39.v0 a b)) :: ((AV.int IntKind.i64 (r39.v1 a b)) :: []))), (AV.int IntKind.i64 (r39.v2 a b))]) h := by
  cases h1 : b == 0 with
  | true =>
    have h1p := eq_of_beq h1
    exact Ret.of_run1 mix [(AV.agg ((AV.int IntKind.i64 (r39.v0 a b)) :: ((AV.int IntKind.i64 (r39.v1 a b)) :: []))), (AV.int IntKind.i64 (r39.v2 a b))] Try.func39 rfl [.b true] (by simp) (by simp) (kmp (by kernel_rfl) (And.intro h1 (And.intro (And.intro trivial (show (AV.agg [AV.int IntKind.i64 0, AV.int IntKind.i64 0]) = ((AV.agg ((AV.int IntKind.i64 (r39.v0 a b)) :: ((AV.int IntKind.i64 (r39.v1 a b)) :: [])))) by first | (simp only [r39.v0, r39.v1, r39.v2, h1, cond_true, cond_false]; done) | (try unfold r39.v0; try unfold r39.v1; try unfold r39.v2; try simp only [h1, cond_true, cond_false]; try rfl; done) | rfl)) (And.intro (show (AV.int IntKind.i64 1) = ((AV.int IntKind.i64 (r39.v2 a b))) by first | (simp only [r39.v0, r39.v1, r39.v2, h1, cond_true, cond_false]; done) | (try unfold r39.v0; try unfold r39.v1; try unfold r39.v2; try simp only [h1, cond_true, cond_false]; try rfl; done) | rfl) trivial)))) h
  | false =>
    have h1p := ne_of_beq_false h1
    have o0 : (0 : Int) ≤ r60.v a := by first | assumption | omega | (apply size_0 <;> first | assumption | omega) | (simp_all; done)
    have o1 : (0 : Int) ≤ r60.v b := by first | assumption | omega | (apply size_0 <;> first | assumption | omega) | (simp_all; done)
    have o2 : r61.v (r60.v a) (r60.v b) = (0 : Int) → False := by first | assumption | omega | (apply size_z <;> first | assumption | omega) | (simp_all; done)
    exact Ret.of_run1 mix [(AV.agg ((AV.int IntKind.i64 (r39.v0 a b)) :: ((AV.int IntKind.i64 (r39.v1 a b)) :: []))), (AV.int IntKind.i64 (r39.v2 a b))] Try.func39 rfl [.b false, .ret (AV.int IntKind.u64 (r60.v a)) (r39.h0 a b), .ret (AV.int IntKind.u64 (r60.v b)) (r39.h0 a b), .ret (AV.int IntKind.u64 (r61.v (r60.v a) (r60.v b))) (r39.h0 a b), .ret (AV.tup [AV.agg [AV.int IntKind.i64 (r62.v0 (bnot (decide (a < 0) == decide (b < 0))) (IntKind.u64.wrap ((r60.v a).tdiv (r61.v (r60.v a) (r60.v b)))) (IntKind.u64.wrap ((r60.v b).tdiv (r61.v (r60.v a) (r60.v b))))), AV.int IntKind.i64 (r62.v1 (IntKind.u64.wrap ((r60.v a).tdiv (r61.v (r60.v a) (r60.v b)))) (IntKind.u64.wrap ((r60.v b).tdiv (r61.v (r60.v a) (r60.v b)))))], AV.int IntKind.i64 (r62.v2 (IntKind.u64.wrap ((r60.v a).tdiv (r61.v (r60.v a) (r60.v b)))) (IntKind.u64.wrap ((r60.v b).tdiv (r61.v (r60.v a) (r60.v b)))))]) (r39.h0 a b)] (by simp) (by simp) (kmp (by kernel_rfl) (And.intro h1 (And.intro (r60 (a) (r39.h0 a b)) (And.intro (r60 (b) (r39.h0 a b)) (And.intro (r61 (r60.v a) (r60.v b) o0 o1 (r39.h0 a b)) (And.intro o2 (And.intro o2 (And.intro (r62 (bnot (decide (a < 0) == decide (b < 0))) (IntKind.u64.wrap ((r60.v a).tdiv (r61.v (r60.v a) (r60.v b)))) (IntKind.u64.wrap ((r60.v b).tdiv (r61.v (r60.v a) (r60.v b)))) (r39.h0 a b)) (And.intro (And.intro trivial (show (AV.agg [AV.int IntKind.i64 (r62.v0 (bnot (decide (a < 0) == decide (b < 0))) (IntKind.u64.wrap ((r60.v a).tdiv (r61.v (r60.v a) (r60.v b)))) (IntKind.u64.wrap ((r60.v b).tdiv (r61.v (r60.v a) (r60.v b))))), AV.int IntKind.i64 (r62.v1 (IntKind.u64.wrap ((r60.v a).tdiv (r61.v (r60.v a) (r60.v b)))) (IntKind.u64.wrap ((r60.v b).tdiv (r61.v (r60.v a) (r60.v b)))))]) = ((AV.agg ((AV.int IntKind.i64 (r39.v0 a b)) :: ((AV.int IntKind.i64 (r39.v1 a b)) :: [])))) by first | (simp only [r39.v0, r39.v1, r39.v2, h1, cond_true, cond_false]; done) | (try unfold r39.v0; try unfold r39.v1; try unfold r39.v2; try simp only [h1, cond_true, cond_false]; try rfl; done) | rfl)) (And.intro (show (AV.int IntKind.i64 (r62.v2 (IntKind.u64.wrap ((r60.v a).tdiv (r61.v (r60.v a) (r60.v b)))) (IntKind.u64.wrap ((r60.v b).tdiv (r61.v (r60.v a) (r60.v b)))))) = ((AV.int IntKind.i64 (r39.v2 a b))) by first | (simp only [r39.v0, r39.v1, r39.v2, h1, cond_true, cond_false]; done) | (try unfold r39.v0; try unfold r39.v1; try unfold r39.v2; try simp only [h1, cond_true, cond_false]; try rfl; done) | rfl) trivial)))))))))) h

noncomputable def r24.v0 (t : TD) (n : Nat) (g : Nat → LD) : Int := (bif r18.v t n g == 0 then (bif r39.v2 (IntKind.i64.wrap (IntKind.i64.wrap (t.e1 * r42.v t) + r33.v1 n g t.fr)) (r42.v t) == 0 then (bif r39.v2 (IntKind.i64.wrap (IntKind.i64.wrap (IntKind.i64.wrap (t.e0 + r33.v0 n g t.fr) * r42.v t) - r33.v1 n g t.fr)) (r42.v t) == 0 then r39.v0 (IntKind.i64.wrap (IntKind.i64.wrap (IntKind.i64.wrap (t.e0 + r33.v0 n g t.fr) * r42.v t) - r33.v1 n g t.fr)) (r42.v t) else 0) else 0) else 0)

noncomputable def r24.v1 (t : TD) (n : Nat) (g : Nat → LD) : Int := (bif r18.v t n g == 0 then (bif r39.v2 (IntKind.i64.wrap (IntKind.i64.wrap (t.e1 * r42.v t) + r33.v1 n g t.fr)) (r42.v t) == 0 then (bif r39.v2 (IntKind.i64.wrap (IntKind.i64.wrap (IntKind.i64.wrap (t.e0 + r33.v0 n g t.fr) * r42.v t) - r33.v1 n g t.fr)) (r42.v t) == 0 then r39.v1 (IntKind.i64.wrap (IntKind.i64.wrap (IntKind.i64.wrap (t.e0 + r33.v0 n g t.fr) * r42.v t) - r33.v1 n g t.fr)) (r42.v t) else 0) else 0) else 0)

noncomputable def r24.v2 (t : TD) (n : Nat) (g : Nat → LD) : Int := (bif r18.v t n g == 0 then (bif r39.v2 (IntKind.i64.wrap (IntKind.i64.wrap (t.e1 * r42.v t) + r33.v1 n g t.fr)) (r42.v t) == 0 then (bif r39.v2 (IntKind.i64.wrap (IntKind.i64.wrap (IntKind.i64.wrap (t.e0 + r33.v0 n g t.fr) * r42.v t) - r33.v1 n g t.fr)) (r42.v t) == 0 then r39.v0 (IntKind.i64.wrap (IntKind.i64.wrap (t.e1 * r42.v t) + r33.v1 n g t.fr)) (r42.v t) else 0) else 0) else 0)

noncomputable def r24.v3 (t : TD) (n : Nat) (g : Nat → LD) : Int := (bif r18.v t n g == 0 then (bif r39.v2 (IntKind.i64.wrap (IntKind.i64.wrap (t.e1 * r42.v t) + r33.v1 n g t.fr)) (r42.v t) == 0 then (bif r39.v2 (IntKind.i64.wrap (IntKind.i64.wrap (IntKind.i64.wrap (t.e0 + r33.v0 n g t.fr) * r42.v t) - r33.v1 n g t.fr)) (r42.v t) == 0 then r39.v1 (IntKind.i64.wrap (IntKind.i64.wrap (t.e1 * r42.v t) + r33.v1 n g t.fr)) (r42.v t) else 0) else 0) else 0)

noncomputable def r24.v4 (t : TD) (n : Nat) (g : Nat → LD) : Int := (bif r18.v t n g == 0 then (bif r39.v2 (IntKind.i64.wrap (IntKind.i64.wrap (t.e1 * r42.v t) + r33.v1 n g t.fr)) (r42.v t) == 0 then (bif r39.v2 (IntKind.i64.wrap (IntKind.i64.wrap (IntKind.i64.wrap (t.e0 + r33.v0 n g t.fr) * r42.v t) - r33.v1 n g t.fr)) (r42.v t) == 0 then 0 else r39.v2 (IntKind.i64.wrap (IntKind.i64.wrap (IntKind.i64.wrap (t.e0 + r33.v0 n g t.fr) * r42.v t) - r33.v1 n g t.fr)) (r42.v t)) else r39.v2 (IntKind.i64.wrap (IntKind.i64.wrap (t.e1 * r42.v t) + r33.v1 n g t.fr)) (r42.v t)) else r18.v t n g)

noncomputable abbrev r24.h0 (t : TD) (n : Nat) (g : Nat → LD) : AHeap := ([AObj.var (AV.agg [AV.str t.nm, AV.int IntKind.i64 t.tl, AV.int IntKind.i64 t.fr, AV.int IntKind.i64 t.re, AV.int IntKind.i64 t.l0, AV.int IntKind.i64 t.l1, AV.int IntKind.i64 t.e0, AV.int IntKind.i64 t.e1]), AObj.var (AV.agg [AV.int IntKind.i64 0, AV.int IntKind.i64 0, AV.int IntKind.i64 0, AV.int IntKind.i64 0])])

noncomputable abbrev r24.h1 (t : TD) (n : Nat) (g : Nat → LD) : AHeap := ([AObj.var (AV.agg [AV.str t.nm, AV.int IntKind.i64 t.tl, AV.int IntKind.i64 t.fr, AV.int IntKind.i64 t.re, AV.int IntKind.i64 t.l0, AV.int IntKind.i64 t.l1, AV.int IntKind.i64 t.e0, AV.int IntKind.i64 t.e1]), AObj.var (AV.agg [AV.int IntKind.i64 0, AV.int IntKind.i64 0, AV.int IntKind.i64 0, AV.int IntKind.i64 0]), AObj.var (AV.agg [AV.int IntKind.i64 (r39.v0 (IntKind.i64.wrap (IntKind.i64.wrap (t.e1 * r42.v t) + r33.v1 n g t.fr)) (r42.v t)), AV.int IntKind.i64 (r39.v1 (IntKind.i64.wrap (IntKind.i64.wrap (t.e1 * r42.v t) + r33.v1 n g t.fr)) (r42.v t))])])

theorem r24 (t : TD) (hnm : t.nm.size ≤ 9223372036854775807) (n : Nat) (hn : n ≤ 12) (g : Nat → LD) (hg : ∀ (i : Nat), (g i).nm.size ≤ 9223372036854775807) (h : AHeap) : Ret Try.prog 24 ([t.av, lds n g]) h (AV.tup [(AV.agg ((AV.int IntKind.i64 (r24.v0 t n g)) :: ((AV.int IntKind.i64 (r24.v1 t n g)) :: ((AV.int IntKind.i64 (r24.v2 t n g)) :: ((AV.int IntKind.i64 (r24.v3 t n g)) :: []))))), (AV.int IntKind.i64 (r24.v4 t n g))]) h := by
  have o0 : t.nm.size ≤ (9223372036854775807 : Nat) := by first | assumption | omega | (exact hg _) | (exact hg _ (by omega)) | (simp_all; done)
  have o1 : n ≤ (12 : Nat) := by first | assumption | omega | (exact hg _) | (exact hg _ (by omega)) | (simp_all; done)
  have o2 : ∀ (i : Nat), (g i).nm.size ≤ (9223372036854775807 : Nat) := by first | assumption | omega | (exact hg _) | (exact hg _ (by omega)) | (simp_all; done)
  cases h1 : r18.v t n g == 0 with
  | true =>
    have h1p := eq_of_beq h1
    have o3 : n ≤ (9223372036854775807 : Nat) := by first | assumption | omega | (exact hg _) | (exact hg _ (by omega)) | (simp_all; done)
    try have := IntWalk.i64_in (t.e1 * r42.v t) (by omega)
    try have := IntWalk.i64_in (IntKind.i64.wrap (t.e1 * r42.v t) + r33.v1 n g t.fr) (by omega)
    have o4 : (-9223372036854775808 : Int) ≤ IntKind.i64.wrap (IntKind.i64.wrap (t.e1 * r42.v t) + r33.v1 n g t.fr) := by first | assumption | omega | (apply wr_lo <;> first | assumption | omega) | (exact hg _) | (exact hg _ (by omega)) | (simp_all; done)
    have o5 : IntKind.i64.wrap (IntKind.i64.wrap (t.e1 * r42.v t) + r33.v1 n g t.fr) ≤ (9223372036854775807 : Int) := by first | assumption | omega | (apply wr_hi <;> first | assumption | omega) | (exact hg _) | (exact hg _ (by omega)) | (simp_all; done)
    have o6 : (-9223372036854775808 : Int) ≤ r42.v t := by first | assumption | omega | (apply sp_lo <;> first | assumption | omega) | (exact hg _) | (exact hg _ (by omega)) | (simp_all; done)
    have o7 : r42.v t ≤ (9223372036854775807 : Int) := by first | assumption | omega | (apply sp_hi <;> first | assumption | omega) | (exact hg _) | (exact hg _ (by omega)) | (simp_all; done)
    cases h2 : r39.v2 (IntKind.i64.wrap (IntKind.i64.wrap (t.e1 * r42.v t) + r33.v1 n g t.fr)) (r42.v t) == 0 with
    | true =>
      have h2p := eq_of_beq h2
      try have := IntWalk.i64_in (t.e0 + r33.v0 n g t.fr) (by omega)
      try have := IntWalk.i64_in (IntKind.i64.wrap (t.e0 + r33.v0 n g t.fr) * r42.v t) (by omega)
      try have := IntWalk.i64_in (IntKind.i64.wrap (IntKind.i64.wrap (t.e0 + r33.v0 n g t.fr) * r42.v t) - r33.v1 n g t.fr) (by omega)
      have o8 : (-9223372036854775808 : Int) ≤ IntKind.i64.wrap (IntKind.i64.wrap (IntKind.i64.wrap (t.e0 + r33.v0 n g t.fr) * r42.v t) - r33.v1 n g t.fr) := by first | assumption | omega | (apply wr_lo <;> first | assumption | omega) | (exact hg _) | (exact hg _ (by omega)) | (simp_all; done)
      have o9 : IntKind.i64.wrap (IntKind.i64.wrap (IntKind.i64.wrap (t.e0 + r33.v0 n g t.fr) * r42.v t) - r33.v1 n g t.fr) ≤ (9223372036854775807 : Int) := by first | assumption | omega | (apply wr_hi <;> first | assumption | omega) | (exact hg _) | (exact hg _ (by omega)) | (simp_all; done)
      cases h3 : r39.v2 (IntKind.i64.wrap (IntKind.i64.wrap (IntKind.i64.wrap (t.e0 + r33.v0 n g t.fr) * r42.v t) - r33.v1 n g t.fr)) (r42.v t) == 0 with
      | true =>
        have h3p := eq_of_beq h3
        exact Ret.of_run1 mix [(AV.agg ((AV.int IntKind.i64 (r24.v0 t n g)) :: ((AV.int IntKind.i64 (r24.v1 t n g)) :: ((AV.int IntKind.i64 (r24.v2 t n g)) :: ((AV.int IntKind.i64 (r24.v3 t n g)) :: []))))), (AV.int IntKind.i64 (r24.v4 t n g))] Try.func24 rfl [.ret (AV.int IntKind.i64 (r18.v t n g)) (r24.h0 t n g), .b false, .ret (AV.tup [AV.int IntKind.i64 (r33.v0 n g t.fr), AV.int IntKind.i64 (r33.v1 n g t.fr)]) (r24.h0 t n g), .ret (AV.int IntKind.i64 (r42.v t)) (r24.h0 t n g), .ret (AV.int IntKind.i64 (r42.v t)) (r24.h0 t n g), .ret (AV.tup [AV.agg [AV.int IntKind.i64 (r39.v0 (IntKind.i64.wrap (IntKind.i64.wrap (t.e1 * r42.v t) + r33.v1 n g t.fr)) (r42.v t)), AV.int IntKind.i64 (r39.v1 (IntKind.i64.wrap (IntKind.i64.wrap (t.e1 * r42.v t) + r33.v1 n g t.fr)) (r42.v t))], AV.int IntKind.i64 (r39.v2 (IntKind.i64.wrap (IntKind.i64.wrap (t.e1 * r42.v t) + r33.v1 n g t.fr)) (r42.v t))]) (r24.h0 t n g), .b false, .ret (AV.int IntKind.i64 (r42.v t)) (r24.h1 t n g), .ret (AV.int IntKind.i64 (r42.v t)) (r24.h1 t n g), .ret (AV.tup [AV.agg [AV.int IntKind.i64 (r39.v0 (IntKind.i64.wrap (IntKind.i64.wrap (IntKind.i64.wrap (t.e0 + r33.v0 n g t.fr) * r42.v t) - r33.v1 n g t.fr)) (r42.v t)), AV.int IntKind.i64 (r39.v1 (IntKind.i64.wrap (IntKind.i64.wrap (IntKind.i64.wrap (t.e0 + r33.v0 n g t.fr) * r42.v t) - r33.v1 n g t.fr)) (r42.v t))], AV.int IntKind.i64 (r39.v2 (IntKind.i64.wrap (IntKind.i64.wrap (IntKind.i64.wrap (t.e0 + r33.v0 n g t.fr) * r42.v t) - r33.v1 n g t.fr)) (r42.v t))]) (r24.h1 t n g), .b false] (by simp) (by simp) (kmp (by kernel_rfl) (And.intro (r18 (t) o0 (n) o1 (g) o2 (r24.h0 t n g)) (And.intro (show (bnot (r18.v t n g == 0)) = false by rw [h1]; try rfl) (And.intro (r33 (n) (g) o3 (t.fr) (r24.h0 t n g)) (And.intro (And.intro (show (0 : Int) ≤ (1 : Int) by first | decide | exact Int.NonNeg.mk _) (show (1 : Int) < (2 : Int) by first | decide | exact Int.NonNeg.mk _)) (And.intro (r42 (t) (r24.h0 t n g)) (And.intro (PRet.mk (r42 (t) ([])) (by simp)) (And.intro (r42 (t) (r24.h0 t n g)) (And.intro (PRet.mk (r42 (t) ([])) (by simp)) (And.intro (r39 (IntKind.i64.wrap (IntKind.i64.wrap (t.e1 * r42.v t) + r33.v1 n g t.fr)) (r42.v t) (And.intro o4 o5) (And.intro o6 o7) (r24.h0 t n g)) (And.intro (PRet.mk (r39 (IntKind.i64.wrap (IntKind.i64.wrap (t.e1 * r42.v t) + r33.v1 n g t.fr)) (r42.v t) (And.intro o4 o5) (And.intro o6 o7) ([])) (by simp)) (And.intro (show (bnot (r39.v2 (IntKind.i64.wrap (IntKind.i64.wrap (t.e1 * r42.v t) + r33.v1 n g t.fr)) (r42.v t) == 0)) = false by rw [h2]; try rfl) (And.intro (And.intro (show (0 : Int) ≤ (0 : Int) by first | decide | exact Int.NonNeg.mk _) (show (0 : Int) < (2 : Int) by first | decide | exact Int.NonNeg.mk _)) (And.intro (r42 (t) (r24.h1 t n g)) (And.intro (PRet.mk (r42 (t) ([])) (by simp)) (And.intro (r42 (t) (r24.h1 t n g)) (And.intro (PRet.mk (r42 (t) ([])) (by simp)) (And.intro (r39 (IntKind.i64.wrap (IntKind.i64.wrap (IntKind.i64.wrap (t.e0 + r33.v0 n g t.fr) * r42.v t) - r33.v1 n g t.fr)) (r42.v t) (And.intro o8 o9) (And.intro o6 o7) (r24.h1 t n g)) (And.intro (PRet.mk (r39 (IntKind.i64.wrap (IntKind.i64.wrap (IntKind.i64.wrap (t.e0 + r33.v0 n g t.fr) * r42.v t) - r33.v1 n g t.fr)) (r42.v t) (And.intro o8 o9) (And.intro o6 o7) ([])) (by simp)) (And.intro (show (bnot (r39.v2 (IntKind.i64.wrap (IntKind.i64.wrap (IntKind.i64.wrap (t.e0 + r33.v0 n g t.fr) * r42.v t) - r33.v1 n g t.fr)) (r42.v t) == 0)) = false by rw [h3]; try rfl) (And.intro (And.intro trivial (show (AV.agg [AV.int IntKind.i64 (r39.v0 (IntKind.i64.wrap (IntKind.i64.wrap (IntKind.i64.wrap (t.e0 + r33.v0 n g t.fr) * r42.v t) - r33.v1 n g t.fr)) (r42.v t)), AV.int IntKind.i64 (r39.v1 (IntKind.i64.wrap (IntKind.i64.wrap (IntKind.i64.wrap (t.e0 + r33.v0 n g t.fr) * r42.v t) - r33.v1 n g t.fr)) (r42.v t)), AV.int IntKind.i64 (r39.v0 (IntKind.i64.wrap (IntKind.i64.wrap (t.e1 * r42.v t) + r33.v1 n g t.fr)) (r42.v t)), AV.int IntKind.i64 (r39.v1 (IntKind.i64.wrap (IntKind.i64.wrap (t.e1 * r42.v t) + r33.v1 n g t.fr)) (r42.v t))]) = ((AV.agg ((AV.int IntKind.i64 (r24.v0 t n g)) :: ((AV.int IntKind.i64 (r24.v1 t n g)) :: ((AV.int IntKind.i64 (r24.v2 t n g)) :: ((AV.int IntKind.i64 (r24.v3 t n g)) :: [])))))) by first | (simp only [r24.v0, r24.v1, r24.v2, r24.v3, r24.v4, h1, h2, h3, cond_true, cond_false]; done) | (try unfold r24.v0; try unfold r24.v1; try unfold r24.v2; try unfold r24.v3; try unfold r24.v4; try simp only [h1, cond_true, cond_false]; try simp only [h2, cond_true, cond_false]; try simp only [h3, cond_true, cond_false]; try rfl; done) | rfl)) (And.intro (show (AV.int IntKind.i64 0) = ((AV.int IntKind.i64 (r24.v4 t n g))) by first | (simp only [r24.v0, r24.v1, r24.v2, r24.v3, r24.v4, h1, h2, h3, cond_true, cond_false]; done) | (try unfold r24.v0; try unfold r24.v1; try unfold r24.v2; try unfold r24.v3; try unfold r24.v4; try simp only [h1, cond_true, cond_false]; try simp only [h2, cond_true, cond_false]; try simp only [h3, cond_true, cond_false]; try rfl; done) | rfl) trivial)))))))))))))))))))))) h
      | false =>
        have h3p := ne_of_beq_false h3
        exact Ret.of_run1 mix [(AV.agg ((AV.int IntKind.i64 (r24.v0 t n g)) :: ((AV.int IntKind.i64 (r24.v1 t n g)) :: ((AV.int IntKind.i64 (r24.v2 t n g)) :: ((AV.int IntKind.i64 (r24.v3 t n g)) :: []))))), (AV.int IntKind.i64 (r24.v4 t n g))] Try.func24 rfl [.ret (AV.int IntKind.i64 (r18.v t n g)) (r24.h0 t n g), .b false, .ret (AV.tup [AV.int IntKind.i64 (r33.v0 n g t.fr), AV.int IntKind.i64 (r33.v1 n g t.fr)]) (r24.h0 t n g), .ret (AV.int IntKind.i64 (r42.v t)) (r24.h0 t n g), .ret (AV.int IntKind.i64 (r42.v t)) (r24.h0 t n g), .ret (AV.tup [AV.agg [AV.int IntKind.i64 (r39.v0 (IntKind.i64.wrap (IntKind.i64.wrap (t.e1 * r42.v t) + r33.v1 n g t.fr)) (r42.v t)), AV.int IntKind.i64 (r39.v1 (IntKind.i64.wrap (IntKind.i64.wrap (t.e1 * r42.v t) + r33.v1 n g t.fr)) (r42.v t))], AV.int IntKind.i64 (r39.v2 (IntKind.i64.wrap (IntKind.i64.wrap (t.e1 * r42.v t) + r33.v1 n g t.fr)) (r42.v t))]) (r24.h0 t n g), .b false, .ret (AV.int IntKind.i64 (r42.v t)) (r24.h1 t n g), .ret (AV.int IntKind.i64 (r42.v t)) (r24.h1 t n g), .ret (AV.tup [AV.agg [AV.int IntKind.i64 (r39.v0 (IntKind.i64.wrap (IntKind.i64.wrap (IntKind.i64.wrap (t.e0 + r33.v0 n g t.fr) * r42.v t) - r33.v1 n g t.fr)) (r42.v t)), AV.int IntKind.i64 (r39.v1 (IntKind.i64.wrap (IntKind.i64.wrap (IntKind.i64.wrap (t.e0 + r33.v0 n g t.fr) * r42.v t) - r33.v1 n g t.fr)) (r42.v t))], AV.int IntKind.i64 (r39.v2 (IntKind.i64.wrap (IntKind.i64.wrap (IntKind.i64.wrap (t.e0 + r33.v0 n g t.fr) * r42.v t) - r33.v1 n g t.fr)) (r42.v t))]) (r24.h1 t n g), .b true] (by simp) (by simp) (kmp (by kernel_rfl) (And.intro (r18 (t) o0 (n) o1 (g) o2 (r24.h0 t n g)) (And.intro (show (bnot (r18.v t n g == 0)) = false by rw [h1]; try rfl) (And.intro (r33 (n) (g) o3 (t.fr) (r24.h0 t n g)) (And.intro (And.intro (show (0 : Int) ≤ (1 : Int) by first | decide | exact Int.NonNeg.mk _) (show (1 : Int) < (2 : Int) by first | decide | exact Int.NonNeg.mk _)) (And.intro (r42 (t) (r24.h0 t n g)) (And.intro (PRet.mk (r42 (t) ([])) (by simp)) (And.intro (r42 (t) (r24.h0 t n g)) (And.intro (PRet.mk (r42 (t) ([])) (by simp)) (And.intro (r39 (IntKind.i64.wrap (IntKind.i64.wrap (t.e1 * r42.v t) + r33.v1 n g t.fr)) (r42.v t) (And.intro o4 o5) (And.intro o6 o7) (r24.h0 t n g)) (And.intro (PRet.mk (r39 (IntKind.i64.wrap (IntKind.i64.wrap (t.e1 * r42.v t) + r33.v1 n g t.fr)) (r42.v t) (And.intro o4 o5) (And.intro o6 o7) ([])) (by simp)) (And.intro (show (bnot (r39.v2 (IntKind.i64.wrap (IntKind.i64.wrap (t.e1 * r42.v t) + r33.v1 n g t.fr)) (r42.v t) == 0)) = false by rw [h2]; try rfl) (And.intro (And.intro (show (0 : Int) ≤ (0 : Int) by first | decide | exact Int.NonNeg.mk _) (show (0 : Int) < (2 : Int) by first | decide | exact Int.NonNeg.mk _)) (And.intro (r42 (t) (r24.h1 t n g)) (And.intro (PRet.mk (r42 (t) ([])) (by simp)) (And.intro (r42 (t) (r24.h1 t n g)) (And.intro (PRet.mk (r42 (t) ([])) (by simp)) (And.intro (r39 (IntKind.i64.wrap (IntKind.i64.wrap (IntKind.i64.wrap (t.e0 + r33.v0 n g t.fr) * r42.v t) - r33.v1 n g t.fr)) (r42.v t) (And.intro o8 o9) (And.intro o6 o7) (r24.h1 t n g)) (And.intro (PRet.mk (r39 (IntKind.i64.wrap (IntKind.i64.wrap (IntKind.i64.wrap (t.e0 + r33.v0 n g t.fr) * r42.v t) - r33.v1 n g t.fr)) (r42.v t) (And.intro o8 o9) (And.intro o6 o7) ([])) (by simp)) (And.intro (show (bnot (r39.v2 (IntKind.i64.wrap (IntKind.i64.wrap (IntKind.i64.wrap (t.e0 + r33.v0 n g t.fr) * r42.v t) - r33.v1 n g t.fr)) (r42.v t) == 0)) = true by rw [h3]; try rfl) (And.intro (And.intro trivial (show (AV.agg [AV.int IntKind.i64 0, AV.int IntKind.i64 0, AV.int IntKind.i64 0, AV.int IntKind.i64 0]) = ((AV.agg ((AV.int IntKind.i64 (r24.v0 t n g)) :: ((AV.int IntKind.i64 (r24.v1 t n g)) :: ((AV.int IntKind.i64 (r24.v2 t n g)) :: ((AV.int IntKind.i64 (r24.v3 t n g)) :: [])))))) by first | (simp only [r24.v0, r24.v1, r24.v2, r24.v3, r24.v4, h1, h2, h3, cond_true, cond_false]; done) | (try unfold r24.v0; try unfold r24.v1; try unfold r24.v2; try unfold r24.v3; try unfold r24.v4; try simp only [h1, cond_true, cond_false]; try simp only [h2, cond_true, cond_false]; try simp only [h3, cond_true, cond_false]; try rfl; done) | rfl)) (And.intro (show (AV.int IntKind.i64 (r39.v2 (IntKind.i64.wrap (IntKind.i64.wrap (IntKind.i64.wrap (t.e0 + r33.v0 n g t.fr) * r42.v t) - r33.v1 n g t.fr)) (r42.v t))) = ((AV.int IntKind.i64 (r24.v4 t n g))) by first | (simp only [r24.v0, r24.v1, r24.v2, r24.v3, r24.v4, h1, h2, h3, cond_true, cond_false]; done) | (try unfold r24.v0; try unfold r24.v1; try unfold r24.v2; try unfold r24.v3; try unfold r24.v4; try simp only [h1, cond_true, cond_false]; try simp only [h2, cond_true, cond_false]; try simp only [h3, cond_true, cond_false]; try rfl; done) | rfl) trivial)))))))))))))))))))))) h
    | false =>
      have h2p := ne_of_beq_false h2
      exact Ret.of_run1 mix [(AV.agg ((AV.int IntKind.i64 (r24.v0 t n g)) :: ((AV.int IntKind.i64 (r24.v1 t n g)) :: ((AV.int IntKind.i64 (r24.v2 t n g)) :: ((AV.int IntKind.i64 (r24.v3 t n g)) :: []))))), (AV.int IntKind.i64 (r24.v4 t n g))] Try.func24 rfl [.ret (AV.int IntKind.i64 (r18.v t n g)) (r24.h0 t n g), .b false, .ret (AV.tup [AV.int IntKind.i64 (r33.v0 n g t.fr), AV.int IntKind.i64 (r33.v1 n g t.fr)]) (r24.h0 t n g), .ret (AV.int IntKind.i64 (r42.v t)) (r24.h0 t n g), .ret (AV.int IntKind.i64 (r42.v t)) (r24.h0 t n g), .ret (AV.tup [AV.agg [AV.int IntKind.i64 (r39.v0 (IntKind.i64.wrap (IntKind.i64.wrap (t.e1 * r42.v t) + r33.v1 n g t.fr)) (r42.v t)), AV.int IntKind.i64 (r39.v1 (IntKind.i64.wrap (IntKind.i64.wrap (t.e1 * r42.v t) + r33.v1 n g t.fr)) (r42.v t))], AV.int IntKind.i64 (r39.v2 (IntKind.i64.wrap (IntKind.i64.wrap (t.e1 * r42.v t) + r33.v1 n g t.fr)) (r42.v t))]) (r24.h0 t n g), .b true] (by simp) (by simp) (kmp (by kernel_rfl) (And.intro (r18 (t) o0 (n) o1 (g) o2 (r24.h0 t n g)) (And.intro (show (bnot (r18.v t n g == 0)) = false by rw [h1]; try rfl) (And.intro (r33 (n) (g) o3 (t.fr) (r24.h0 t n g)) (And.intro (And.intro (show (0 : Int) ≤ (1 : Int) by first | decide | exact Int.NonNeg.mk _) (show (1 : Int) < (2 : Int) by first | decide | exact Int.NonNeg.mk _)) (And.intro (r42 (t) (r24.h0 t n g)) (And.intro (PRet.mk (r42 (t) ([])) (by simp)) (And.intro (r42 (t) (r24.h0 t n g)) (And.intro (PRet.mk (r42 (t) ([])) (by simp)) (And.intro (r39 (IntKind.i64.wrap (IntKind.i64.wrap (t.e1 * r42.v t) + r33.v1 n g t.fr)) (r42.v t) (And.intro o4 o5) (And.intro o6 o7) (r24.h0 t n g)) (And.intro (PRet.mk (r39 (IntKind.i64.wrap (IntKind.i64.wrap (t.e1 * r42.v t) + r33.v1 n g t.fr)) (r42.v t) (And.intro o4 o5) (And.intro o6 o7) ([])) (by simp)) (And.intro (show (bnot (r39.v2 (IntKind.i64.wrap (IntKind.i64.wrap (t.e1 * r42.v t) + r33.v1 n g t.fr)) (r42.v t) == 0)) = true by rw [h2]; try rfl) (And.intro (And.intro trivial (show (AV.agg [AV.int IntKind.i64 0, AV.int IntKind.i64 0, AV.int IntKind.i64 0, AV.int IntKind.i64 0]) = ((AV.agg ((AV.int IntKind.i64 (r24.v0 t n g)) :: ((AV.int IntKind.i64 (r24.v1 t n g)) :: ((AV.int IntKind.i64 (r24.v2 t n g)) :: ((AV.int IntKind.i64 (r24.v3 t n g)) :: [])))))) by first | (simp only [r24.v0, r24.v1, r24.v2, r24.v3, r24.v4, h1, h2, cond_true, cond_false]; done) | (try unfold r24.v0; try unfold r24.v1; try unfold r24.v2; try unfold r24.v3; try unfold r24.v4; try simp only [h1, cond_true, cond_false]; try simp only [h2, cond_true, cond_false]; try rfl; done) | rfl)) (And.intro (show (AV.int IntKind.i64 (r39.v2 (IntKind.i64.wrap (IntKind.i64.wrap (t.e1 * r42.v t) + r33.v1 n g t.fr)) (r42.v t))) = ((AV.int IntKind.i64 (r24.v4 t n g))) by first | (simp only [r24.v0, r24.v1, r24.v2, r24.v3, r24.v4, h1, h2, cond_true, cond_false]; done) | (try unfold r24.v0; try unfold r24.v1; try unfold r24.v2; try unfold r24.v3; try unfold r24.v4; try simp only [h1, cond_true, cond_false]; try simp only [h2, cond_true, cond_false]; try rfl; done) | rfl) trivial)))))))))))))) h
  | false =>
    have h1p := ne_of_beq_false h1
    exact Ret.of_run1 mix [(AV.agg ((AV.int IntKind.i64 (r24.v0 t n g)) :: ((AV.int IntKind.i64 (r24.v1 t n g)) :: ((AV.int IntKind.i64 (r24.v2 t n g)) :: ((AV.int IntKind.i64 (r24.v3 t n g)) :: []))))), (AV.int IntKind.i64 (r24.v4 t n g))] Try.func24 rfl [.ret (AV.int IntKind.i64 (r18.v t n g)) (r24.h0 t n g), .b true] (by simp) (by simp) (kmp (by kernel_rfl) (And.intro (r18 (t) o0 (n) o1 (g) o2 (r24.h0 t n g)) (And.intro (show (bnot (r18.v t n g == 0)) = true by rw [h1]; try rfl) (And.intro (And.intro trivial (show (AV.agg [AV.int IntKind.i64 0, AV.int IntKind.i64 0, AV.int IntKind.i64 0, AV.int IntKind.i64 0]) = ((AV.agg ((AV.int IntKind.i64 (r24.v0 t n g)) :: ((AV.int IntKind.i64 (r24.v1 t n g)) :: ((AV.int IntKind.i64 (r24.v2 t n g)) :: ((AV.int IntKind.i64 (r24.v3 t n g)) :: [])))))) by first | (simp only [r24.v0, r24.v1, r24.v2, r24.v3, r24.v4, h1, cond_true, cond_false]; done) | (try unfold r24.v0; try unfold r24.v1; try unfold r24.v2; try unfold r24.v3; try unfold r24.v4; try simp only [h1, cond_true, cond_false]; try rfl; done) | rfl)) (And.intro (show (AV.int IntKind.i64 (r18.v t n g)) = ((AV.int IntKind.i64 (r24.v4 t n g))) by first | (simp only [r24.v0, r24.v1, r24.v2, r24.v3, r24.v4, h1, cond_true, cond_false]; done) | (try unfold r24.v0; try unfold r24.v1; try unfold r24.v2; try unfold r24.v3; try unfold r24.v4; try simp only [h1, cond_true, cond_false]; try rfl; done) | rfl) trivial))))) h

end Go.Proofs.Ytngpbfocjgikaaa

open Go

namespace Go.Proofs.Ytngpbfocjgikaaa

set_option maxHeartbeats 0

set_option maxRecDepth 100000

theorem bd_in {x a b : Int} (h : r32.v x a b = true) : a ≤ x ∧ x ≤ b := by
  unfold r32.v at h
  by_cases h1 : x ≥ a
  · rw [decide_eq_true h1, cond_true] at h
    exact ⟨h1, of_decide_eq_true h⟩
  · rw [decide_eq_false h1, cond_false] at h; cases h

/-- The bounds of a truck that is accepted. -/
structure TOk (t : TD) : Prop where
  tl : 1 ≤ t.tl ∧ t.tl ≤ 50000
  fr : -50000 ≤ t.fr ∧ t.fr ≤ 50000
  re : -50000 ≤ t.re ∧ t.re ≤ 50000
  l0 : 1 ≤ t.l0 ∧ t.l0 ≤ 1000000000
  e0 : 0 ≤ t.e0 ∧ t.e0 ≤ 1000000000
  l1 : 1 ≤ t.l1 ∧ t.l1 ≤ 1000000000
  e1 : 0 ≤ t.e1 ∧ t.e1 ≤ 1000000000
  lt : t.fr < t.re

theorem tok {t : TD} (h : r16.v t = 0) : TOk t := by
  unfold r16.v at h
  have st : ∀ {b : Bool} {x y : Int}, (bif b then x else y) = 0 → y ≠ 0 → b = true ∧ x = 0 := by
    intro b x y h hy; cases b
    · exact absurd h hy
    · exact ⟨rfl, h⟩
  obtain ⟨_, h⟩ := st h (by decide)
  obtain ⟨h1, h⟩ := st h (by decide)
  obtain ⟨h2, h⟩ := st h (by decide)
  obtain ⟨h3, h⟩ := st h (by decide)
  obtain ⟨h4, h⟩ := st h (by decide)
  obtain ⟨h5, h⟩ := st h (by decide)
  obtain ⟨h6, h⟩ := st h (by decide)
  obtain ⟨h7, h⟩ := st h (by decide)
  refine ⟨bd_in h1, bd_in h2, bd_in h3, bd_in h4, bd_in h5, bd_in h6, bd_in h7, ?_⟩
  by_cases q : t.fr ≥ t.re
  · rw [decide_eq_true q, cond_true] at h; cases h
  · omega

theorem r18_0 {t : TD} {n : Nat} {g : Nat → LD} (h : r18.v t n g = 0) : r16.v t = 0 ∧ r35.v n g t.tl = 0 := by
  unfold r18.v at h
  by_cases q : r16.v t = 0
  · rw [q] at h; exact ⟨q, h⟩
  · rw [show (r16.v t == 0) = false by simpa using q, cond_false] at h; exact absurd h q

theorem bd_ln {x : Int} (h : r32.v x 1 50000 = true) : 1 ≤ x ∧ x ≤ 50000 := bd_in h

theorem bd_tl {t : TD} {n : Nat} {g : Nat → LD} (h : r18.v t n g = 0) : 1 ≤ t.tl ∧ t.tl ≤ 50000 := (tok (r18_0 h).1).tl

theorem w_tl {t : TD} {n : Nat} {g : Nat → LD} {ln : Int} (h : r18.v t n g = 0) (h2 : r32.v ln 1 50000 = true) : IntKind.i64.wrap (t.tl - ln) ≤ 50000 := by
  have := bd_tl h
  have := bd_ln h2
  rw [i64_small (by omega)]
  omega

theorem w_tlm {t : TD} {ln : Int} (h : r18m.v t = 0) (_h2 : r32.v ln 1 50000 = true) : IntKind.i64.wrap (t.tl - ln) ≤ 50000 := by
  unfold r18m.v at h
  by_cases q : r16.v t = 0
  · rw [q] at h; cases h
  · rw [show (r16.v t == 0) = false by simpa using q, cond_false] at h; exact absurd h q

theorem awk_g (i : Nat) : ([LD.mk (ByteArray.mk #[97]) 2000 1000 8000].getD i default).nm.size ≤ 9223372036854775807 := by
  cases i with
  | zero => decide
  | succ i => exact (show (ByteArray.empty : ByteArray).size ≤ 9223372036854775807 by decide)

end Go.Proofs.Ytngpbfocjgikaaa

open Go

namespace Go.Proofs.Ytngpbfocjgikaaa

set_option linter.unusedSimpArgs false

set_option linter.unusedVariables false

set_option maxHeartbeats 0

set_option maxRecDepth 100000

inductive L12a.O where
  | e0 (a0 : Bool) (a1 : Int) (a2 : Int)

noncomputable def L12a.T (t : TD) (n : Nat) (g : Nat → LD) (ln : Int) (ms : Int) (a13 : Bool) (a15 : Int) (ao2_0 : Int) (ao2_1 : Int) : List AV := mkT 75 [(2, AV.int IntKind.i64 ln), (3, AV.int IntKind.i64 ms), (4, AV.ptr 0 1 8 0 0), (8, AV.ptr 1 1 2 0 0), (11, AV.int IntKind.i64 (r33.v0 n g t.fr)), (12, AV.int IntKind.i64 (r33.v1 n g t.fr)), (13, AV.bool a13), (14, AV.ptr 2 1 2 0 0), (15, AV.int IntKind.i64 a15)]

noncomputable def L12a.H (t : TD) (n : Nat) (g : Nat → LD) (ln : Int) (ms : Int) (a13 : Bool) (a15 : Int) (ao2_0 : Int) (ao2_1 : Int) : AHeap := [AObj.var (AV.agg [AV.str t.nm, AV.int IntKind.i64 t.tl, AV.int IntKind.i64 t.fr, AV.int IntKind.i64 t.re, AV.int IntKind.i64 t.l0, AV.int IntKind.i64 t.l1, AV.int IntKind.i64 t.e0, AV.int IntKind.i64 t.e1]), AObj.var (AV.agg [AV.int IntKind.i64 0, AV.int IntKind.i64 0]), AObj.var (AV.agg [AV.int IntKind.i64 ao2_0, AV.int IntKind.i64 ao2_1])]

def L12a.inv (t : TD) (n : Nat) (g : Nat → LD) (ln : Int) (ms : Int) (a13 : Bool) (a15 : Int) (ao2_0 : Int) (ao2_1 : Int) : Prop := 0 ≤ a15 ∧ a15 ≤ 50001

noncomputable def L12a.mu (t : TD) (n : Nat) (g : Nat → LD) (ln : Int) (ms : Int) (a13 : Bool) (a15 : Int) (ao2_0 : Int) (ao2_1 : Int) : Nat := (50001 - a15).toNat

noncomputable def L12a.E : L12a.O → Exit
  | .e0 a0 a1 a2 => Exit.exit 0

noncomputable def L12a.X (t : TD) (n : Nat) (g : Nat → LD) (ln : Int) (ms : Int) : L12a.O → List AV
  | .e0 a0 a1 a2 => mkT 75 [(8, (AV.ptr 1 1 2 0 0)), (13, (AV.bool a0)), (14, (AV.ptr 2 1 2 0 0))]

noncomputable def L12a.XH (t : TD) (n : Nat) (g : Nat → LD) (ln : Int) (ms : Int) : L12a.O → AHeap
  | .e0 a0 a1 a2 => ((AObj.var (AV.agg [AV.str t.nm, AV.int IntKind.i64 t.tl, AV.int IntKind.i64 t.fr, AV.int IntKind.i64 t.re, AV.int IntKind.i64 t.l0, AV.int IntKind.i64 t.l1, AV.int IntKind.i64 t.e0, AV.int IntKind.i64 t.e1])) :: ((AObj.var (AV.agg [AV.int IntKind.i64 0, AV.int IntKind.i64 0])) :: ((AObj.var (AV.agg ((AV.int IntKind.i64 a1) :: ((AV.int IntKind.i64 a2) :: ([]))))) :: ([]))))

noncomputable def L12a.N (t : TD) (n : Nat) (g : Nat → LD) (ln : Int) (ms : Int) : Nat → Bool → Int → Int → Int → L12a.O
  | 0, a13, _, ao2_0, ao2_1 => .e0 a13 ao2_0 ao2_1
  | k_ + 1, a13, a15, ao2_0, ao2_1 => (bif decide (a15 ≤ IntKind.i64.wrap (t.tl - ln)) then (bif r34.v t (IntKind.i64.wrap (r33.v0 n g t.fr + ms)) (IntKind.i64.wrap (r33.v1 n g t.fr + IntKind.i64.wrap (ms * IntKind.i64.wrap (IntKind.i64.wrap (IntKind.i64.wrap (2 * a15) + ln) - IntKind.i64.wrap (2 * t.fr))))) then (bif a13 then (L12a.N t n g ln ms k_ (a13) (IntKind.i64.wrap (a15 + 1)) (ao2_0) (a15)) else (L12a.N t n g ln ms k_ (true) (IntKind.i64.wrap (a15 + 1)) (a15) (a15))) else (L12a.N t n g ln ms k_ (a13) (IntKind.i64.wrap (a15 + 1)) (ao2_0) (ao2_1))) else (.e0 (a13) (ao2_0) (ao2_1)))

noncomputable def L12a.run (t : TD) (n : Nat) (g : Nat → LD) (ln : Int) (ms : Int) (a13 : Bool) (a15 : Int) (ao2_0 : Int) (ao2_1 : Int) : L12a.O := L12a.N t n g ln ms (((50001 - a15).toNat) + 1) a13 a15 ao2_0 ao2_1

theorem L12a.nx (t : TD) (n : Nat) (g : Nat → LD) (ln : Int) (ms : Int) {k_ : Nat} {z_ : Bool × Int × Int × Int} {h_ : AHeap} (s_ : Bool × Int × Int × Int) (h1 : L12a.inv t n g ln ms s_.1 s_.2.1 s_.2.2.1 s_.2.2.2) (h2 : L12a.mu t n g ln ms s_.1 s_.2.1 s_.2.2.1 s_.2.2.2 < L12a.mu t n g ln ms z_.1 z_.2.1 z_.2.2.1 z_.2.2.2) (h3 : L12a.N t n g ln ms k_ s_.1 s_.2.1 s_.2.2.1 s_.2.2.2 = L12a.N t n g ln ms (k_ + 1) z_.1 z_.2.1 z_.2.2.1 z_.2.2.2) (h4 : PopOk (L12a.H t n g ln ms z_.1 z_.2.1 z_.2.2.1 z_.2.2.2) h_ (L12a.T t n g ln ms s_.1 s_.2.1 s_.2.2.1 s_.2.2.2) (L12a.H t n g ln ms s_.1 s_.2.1 s_.2.2.1 s_.2.2.2)) : LNextP (fun (z_ : Bool × Int × Int × Int) => L12a.T t n g ln ms z_.1 z_.2.1 z_.2.2.1 z_.2.2.2) (fun (z_ : Bool × Int × Int × Int) => L12a.H t n g ln ms z_.1 z_.2.1 z_.2.2.1 z_.2.2.2) (fun (z_ : Bool × Int × Int × Int) => L12a.inv t n g ln ms z_.1 z_.2.1 z_.2.2.1 z_.2.2.2) (fun (z_ : Bool × Int × Int × Int) => L12a.mu t n g ln ms z_.1 z_.2.1 z_.2.2.1 z_.2.2.2) (fun (k_ : Nat) (z_ : Bool × Int × Int × Int) => L12a.N t n g ln ms k_ z_.1 z_.2.1 z_.2.2.1 z_.2.2.2) k_ z_ (L12a.T t n g ln ms s_.1 s_.2.1 s_.2.2.1 s_.2.2.2) h_ := LNextP.mk (Tm := (fun (z_ : Bool × Int × Int × Int) => L12a.T t n g ln ms z_.1 z_.2.1 z_.2.2.1 z_.2.2.2)) (Hp := (fun (z_ : Bool × Int × Int × Int) => L12a.H t n g ln ms z_.1 z_.2.1 z_.2.2.1 z_.2.2.2)) (inv := (fun (z_ : Bool × Int × Int × Int) => L12a.inv t n g ln ms z_.1 z_.2.1 z_.2.2.1 z_.2.2.2)) (mu := (fun (z_ : Bool × Int × Int × Int) => L12a.mu t n g ln ms z_.1 z_.2.1 z_.2.2.1 z_.2.2.2)) (l := (fun (k_ : Nat) (z_ : Bool × Int × Int × Int) => L12a.N t n g ln ms k_ z_.1 z_.2.1 z_.2.2.1 z_.2.2.2)) s_ h1 h2 h3 h4

theorem L12a.en (t : TD) (n : Nat) (g : Nat → LD) (ln : Int) (ms : Int) {k_ : Nat} {z_ : Bool × Int × Int × Int} {h_ : AHeap} (o_ : L12a.O) (h3 : L12a.N t n g ln ms (k_ + 1) z_.1 z_.2.1 z_.2.2.1 z_.2.2.2 = o_) (h4 : PopOk (L12a.H t n g ln ms z_.1 z_.2.1 z_.2.2.1 z_.2.2.2) h_ (L12a.X t n g ln ms o_) (L12a.XH t n g ln ms o_)) : LEndP (fun (z_ : Bool × Int × Int × Int) => L12a.H t n g ln ms z_.1 z_.2.1 z_.2.2.1 z_.2.2.2) (fun (k_ : Nat) (z_ : Bool × Int × Int × Int) => L12a.N t n g ln ms k_ z_.1 z_.2.1 z_.2.2.1 z_.2.2.2) L12a.E (L12a.X t n g ln ms) (L12a.XH t n g ln ms) k_ z_ (L12a.E o_) (L12a.X t n g ln ms o_) h_ := LEndP.mk (Hp := (fun (z_ : Bool × Int × Int × Int) => L12a.H t n g ln ms z_.1 z_.2.1 z_.2.2.1 z_.2.2.2)) (l := (fun (k_ : Nat) (z_ : Bool × Int × Int × Int) => L12a.N t n g ln ms k_ z_.1 z_.2.1 z_.2.2.1 z_.2.2.2)) (oE := L12a.E) (oT := L12a.X t n g ln ms) (oH := L12a.XH t n g ln ms) o_ h3 h4

noncomputable abbrev L12a.h0 (t : TD) (n : Nat) (g : Nat → LD) (ln : Int) (ms : Int) (a13 : Bool) (a15 : Int) (ao2_0 : Int) (ao2_1 : Int) : AHeap := ([AObj.var (AV.agg [AV.str t.nm, AV.int IntKind.i64 t.tl, AV.int IntKind.i64 t.fr, AV.int IntKind.i64 t.re, AV.int IntKind.i64 t.l0, AV.int IntKind.i64 t.l1, AV.int IntKind.i64 t.e0, AV.int IntKind.i64 t.e1]), AObj.var (AV.agg [AV.int IntKind.i64 0, AV.int IntKind.i64 0]), AObj.var (AV.agg [AV.int IntKind.i64 ao2_0, AV.int IntKind.i64 ao2_1])])

theorem L12a.spec (t : TD) (n : Nat) (g : Nat → LD) (ln : Int) (ms : Int) (hw : IntKind.i64.wrap (t.tl - ln) ≤ 50000) (k_ : Nat) (z_ : Bool × Int × Int × Int) (hi_ : L12a.inv t n g ln ms z_.1 z_.2.1 z_.2.2.1 z_.2.2.2) (hm_ : L12a.mu t n g ln ms z_.1 z_.2.1 z_.2.2.1 z_.2.2.2 < k_) : LoopTo Try.prog (loopN Try.f12 0) (L12a.T t n g ln ms z_.1 z_.2.1 z_.2.2.1 z_.2.2.2) (L12a.H t n g ln ms z_.1 z_.2.1 z_.2.2.1 z_.2.2.2) (L12a.E (L12a.N t n g ln ms k_ z_.1 z_.2.1 z_.2.2.1 z_.2.2.2)) (L12a.X t n g ln ms (L12a.N t n g ln ms k_ z_.1 z_.2.1 z_.2.2.1 z_.2.2.2)) (L12a.XH t n g ln ms (L12a.N t n g ln ms k_ z_.1 z_.2.1 z_.2.2.1 z_.2.2.2)) := by
  refine LoopTo.fuelP mix (fun (z_ : Bool × Int × Int × Int) => L12a.T t n g ln ms z_.1 z_.2.1 z_.2.2.1 z_.2.2.2) (fun (z_ : Bool × Int × Int × Int) => L12a.H t n g ln ms z_.1 z_.2.1 z_.2.2.1 z_.2.2.2) (fun (z_ : Bool × Int × Int × Int) => L12a.inv t n g ln ms z_.1 z_.2.1 z_.2.2.1 z_.2.2.2) (fun (z_ : Bool × Int × Int × Int) => L12a.mu t n g ln ms z_.1 z_.2.1 z_.2.2.1 z_.2.2.2) (fun (k_ : Nat) (z_ : Bool × Int × Int × Int) => L12a.N t n g ln ms k_ z_.1 z_.2.1 z_.2.2.1 z_.2.2.2) L12a.E (L12a.X t n g ln ms) (L12a.XH t n g ln ms) (others 75 [2, 3, 4, 8, 11, 12, 13, 14, 15]) (others 75 [8, 9]) (others 75 [8, 13, 14]) ?_ k_ z_ hi_ hm_
  clear hm_ hi_ z_ k_
  intro k_ z_ hinv hmu
  obtain ⟨a13, a15, ao2_0, ao2_1⟩ := z_
  have hinv : 0 ≤ a15 ∧ a15 ≤ 50001 := hinv
  have hmu : ((50001 - a15).toNat) < k_ + 1 := hmu
  cases h1 : decide (a15 ≤ IntKind.i64.wrap (t.tl - ln)) with
  | true =>
    have h1p := of_decide_eq_true h1
    cases h2 : r34.v t (IntKind.i64.wrap (r33.v0 n g t.fr + ms)) (IntKind.i64.wrap (r33.v1 n g t.fr + IntKind.i64.wrap (ms * IntKind.i64.wrap (IntKind.i64.wrap (IntKind.i64.wrap (2 * a15) + ln) - IntKind.i64.wrap (2 * t.fr))))) with
    | true =>
      cases boolIs a13 with
      | true h3 =>
        try have := IntWalk.i64_in (a15 + 1) (by omega)
        have o0 : (0 : Int) ≤ IntKind.i64.wrap (a15 + (1 : Int)) := by first | assumption | omega | (simp_all; done)
        have o1 : IntKind.i64.wrap (a15 + (1 : Int)) ≤ (50001 : Int) := by first | assumption | omega | (simp_all; done)
        have o2 : ((50001 : Int) - IntKind.i64.wrap (a15 + (1 : Int))).toNat < ((50001 : Int) - a15).toNat := by first | assumption | omega | (simp_all; done)
        exact ⟨[.b true, .ret (AV.bool (r34.v t (IntKind.i64.wrap (r33.v0 n g t.fr + ms)) (IntKind.i64.wrap (r33.v1 n g t.fr + IntKind.i64.wrap (ms * IntKind.i64.wrap (IntKind.i64.wrap (IntKind.i64.wrap (2 * a15) + ln) - IntKind.i64.wrap (2 * t.fr))))))) (L12a.h0 t n g ln ms a13 a15 ao2_0 ao2_1), .b false, .b false], kmp (by kernel_rfl) (And.intro h1 (And.intro (r34 (t) (IntKind.i64.wrap (r33.v0 n g t.fr + ms)) (IntKind.i64.wrap (r33.v1 n g t.fr + IntKind.i64.wrap (ms * IntKind.i64.wrap (IntKind.i64.wrap (IntKind.i64.wrap (2 * a15) + ln) - IntKind.i64.wrap (2 * t.fr))))) (L12a.h0 t n g ln ms a13 a15 ao2_0 ao2_1)) (And.intro (show (bnot (r34.v t (IntKind.i64.wrap (r33.v0 n g t.fr + ms)) (IntKind.i64.wrap (r33.v1 n g t.fr + IntKind.i64.wrap (ms * IntKind.i64.wrap (IntKind.i64.wrap (IntKind.i64.wrap (2 * a15) + ln) - IntKind.i64.wrap (2 * t.fr))))))) = false by rw [h2]; try rfl) (And.intro (show (bnot a13) = false by rw [h3]; try rfl) (L12a.nx t n g ln ms (k_ := k_) (z_ := (a13, a15, ao2_0, ao2_1)) ((a13, IntKind.i64.wrap (a15 + 1), ao2_0, a15)) (And.intro o0 o1) o2 (by first | (simp only [L12a.N, h1, h2, h3, cond_true, cond_false]; done) | (try unfold L12a.N; try simp only [h1, cond_true, cond_false]; try simp only [h2, cond_true, cond_false]; try simp only [h3, cond_true, cond_false]; try rfl; done)) PopOk.same)))))⟩
      | false h3 =>
        try have := IntWalk.i64_in (a15 + 1) (by omega)
        have o0 : (0 : Int) ≤ IntKind.i64.wrap (a15 + (1 : Int)) := by first | assumption | omega | (simp_all; done)
        have o1 : IntKind.i64.wrap (a15 + (1 : Int)) ≤ (50001 : Int) := by first | assumption | omega | (simp_all; done)
        have o2 : ((50001 : Int) - IntKind.i64.wrap (a15 + (1 : Int))).toNat < ((50001 : Int) - a15).toNat := by first | assumption | omega | (simp_all; done)
        exact ⟨[.b true, .ret (AV.bool (r34.v t (IntKind.i64.wrap (r33.v0 n g t.fr + ms)) (IntKind.i64.wrap (r33.v1 n g t.fr + IntKind.i64.wrap (ms * IntKind.i64.wrap (IntKind.i64.wrap (IntKind.i64.wrap (2 * a15) + ln) - IntKind.i64.wrap (2 * t.fr))))))) (L12a.h0 t n g ln ms a13 a15 ao2_0 ao2_1), .b false, .b true], kmp (by kernel_rfl) (And.intro h1 (And.intro (r34 (t) (IntKind.i64.wrap (r33.v0 n g t.fr + ms)) (IntKind.i64.wrap (r33.v1 n g t.fr + IntKind.i64.wrap (ms * IntKind.i64.wrap (IntKind.i64.wrap (IntKind.i64.wrap (2 * a15) + ln) - IntKind.i64.wrap (2 * t.fr))))) (L12a.h0 t n g ln ms a13 a15 ao2_0 ao2_1)) (And.intro (show (bnot (r34.v t (IntKind.i64.wrap (r33.v0 n g t.fr + ms)) (IntKind.i64.wrap (r33.v1 n g t.fr + IntKind.i64.wrap (ms * IntKind.i64.wrap (IntKind.i64.wrap (IntKind.i64.wrap (2 * a15) + ln) - IntKind.i64.wrap (2 * t.fr))))))) = false by rw [h2]; try rfl) (And.intro (show (bnot a13) = true by rw [h3]; try rfl) (L12a.nx t n g ln ms (k_ := k_) (z_ := (a13, a15, ao2_0, ao2_1)) ((true, IntKind.i64.wrap (a15 + 1), a15, a15)) (And.intro o0 o1) o2 (by first | (simp only [L12a.N, h1, h2, h3, cond_true, cond_false]; done) | (try unfold L12a.N; try simp only [h1, cond_true, cond_false]; try simp only [h2, cond_true, cond_false]; try simp only [h3, cond_true, cond_false]; try rfl; done)) PopOk.same)))))⟩
    | false =>
      try have := IntWalk.i64_in (a15 + 1) (by omega)
      have o0 : (0 : Int) ≤ IntKind.i64.wrap (a15 + (1 : Int)) := by first | assumption | omega | (simp_all; done)
      have o1 : IntKind.i64.wrap (a15 + (1 : Int)) ≤ (50001 : Int) := by first | assumption | omega | (simp_all; done)
      have o2 : ((50001 : Int) - IntKind.i64.wrap (a15 + (1 : Int))).toNat < ((50001 : Int) - a15).toNat := by first | assumption | omega | (simp_all; done)
      exact ⟨[.b true, .ret (AV.bool (r34.v t (IntKind.i64.wrap (r33.v0 n g t.fr + ms)) (IntKind.i64.wrap (r33.v1 n g t.fr + IntKind.i64.wrap (ms * IntKind.i64.wrap (IntKind.i64.wrap (IntKind.i64.wrap (2 * a15) + ln) - IntKind.i64.wrap (2 * t.fr))))))) (L12a.h0 t n g ln ms a13 a15 ao2_0 ao2_1), .b true], kmp (by kernel_rfl) (And.intro h1 (And.intro (r34 (t) (IntKind.i64.wrap (r33.v0 n g t.fr + ms)) (IntKind.i64.wrap (r33.v1 n g t.fr + IntKind.i64.wrap (ms * IntKind.i64.wrap (IntKind.i64.wrap (IntKind.i64.wrap (2 * a15) + ln) - IntKind.i64.wrap (2 * t.fr))))) (L12a.h0 t n g ln ms a13 a15 ao2_0 ao2_1)) (And.intro (show (bnot (r34.v t (IntKind.i64.wrap (r33.v0 n g t.fr + ms)) (IntKind.i64.wrap (r33.v1 n g t.fr + IntKind.i64.wrap (ms * IntKind.i64.wrap (IntKind.i64.wrap (IntKind.i64.wrap (2 * a15) + ln) - IntKind.i64.wrap (2 * t.fr))))))) = true by rw [h2]; try rfl) (L12a.nx t n g ln ms (k_ := k_) (z_ := (a13, a15, ao2_0, ao2_1)) ((a13, IntKind.i64.wrap (a15 + 1), ao2_0, ao2_1)) (And.intro o0 o1) o2 (by first | (simp only [L12a.N, h1, h2, cond_true, cond_false]; done) | (try unfold L12a.N; try simp only [h1, cond_true, cond_false]; try simp only [h2, cond_true, cond_false]; try rfl; done)) PopOk.same))))⟩
  | false =>
    have h1p := of_decide_eq_false h1
    exact ⟨[.b false], kmp (by kernel_rfl) (And.intro h1 (L12a.en t n g ln ms (k_ := k_) (z_ := (a13, a15, ao2_0, ao2_1)) (.e0 (a13) (ao2_0) (ao2_1) : L12a.O) (by first | (simp only [L12a.N, h1, cond_true, cond_false]; done) | (try unfold L12a.N; try simp only [h1, cond_true, cond_false]; try rfl; done)) PopOk.same))⟩

theorem L12a.e0 (t : TD) (n : Nat) (g : Nat → LD) (ln : Int) (ms : Int) (hw : IntKind.i64.wrap (t.tl - ln) ≤ 50000) (a13 : Bool) (a15 : Int) (ao2_0 : Int) (ao2_1 : Int) (hinv : L12a.inv t n g ln ms a13 a15 ao2_0 ao2_1) (a0 : Bool) (a1 : Int) (a2 : Int) (hN : L12a.run t n g ln ms a13 a15 ao2_0 ao2_1 = (.e0 a0 a1 a2 : L12a.O)) : LoopTo Try.prog (loopN Try.f12 0) (L12a.T t n g ln ms a13 a15 ao2_0 ao2_1) (L12a.H t n g ln ms a13 a15 ao2_0 ao2_1) (Exit.exit 0) (L12a.X t n g ln ms (.e0 a0 a1 a2 : L12a.O)) (L12a.XH t n g ln ms (.e0 a0 a1 a2 : L12a.O)) := by
  have h_ := L12a.spec t n g ln ms hw (((50001 - a15).toNat) + 1) (a13, a15, ao2_0, ao2_1) hinv (Nat.lt_succ_self _)
  unfold L12a.run at hN
  simp only [hN] at h_
  exact h_

noncomputable def r12.v0 (t : TD) (n : Nat) (g : Nat → LD) (ln : Int) (ms : Int) : Int := (bif r18.v t n g == 0 then (bif r32.v ln 1 50000 then (bif r32.v ms 1 100000000 then (match L12a.run t n g ln ms false 0 0 0 with | .e0 h4d0 h4d1 h4d2 => (bif h4d0 then h4d1 else 0) ) else 0) else 0) else 0)

noncomputable def r12.v1 (t : TD) (n : Nat) (g : Nat → LD) (ln : Int) (ms : Int) : Int := (bif r18.v t n g == 0 then (bif r32.v ln 1 50000 then (bif r32.v ms 1 100000000 then (match L12a.run t n g ln ms false 0 0 0 with | .e0 h4d0 h4d1 h4d2 => (bif h4d0 then h4d2 else 0) ) else 0) else 0) else 0)

noncomputable def r12.v2 (t : TD) (n : Nat) (g : Nat → LD) (ln : Int) (ms : Int) : Int := (bif r18.v t n g == 0 then (bif r32.v ln 1 50000 then (bif r32.v ms 1 100000000 then (match L12a.run t n g ln ms false 0 0 0 with | .e0 h4d0 h4d1 h4d2 => (bif h4d0 then 0 else 9) ) else 6) else 6) else r18.v t n g)

noncomputable abbrev r12.h0 (t : TD) (n : Nat) (g : Nat → LD) (ln : Int) (ms : Int) : AHeap := ([AObj.var (AV.agg [AV.str t.nm, AV.int IntKind.i64 t.tl, AV.int IntKind.i64 t.fr, AV.int IntKind.i64 t.re, AV.int IntKind.i64 t.l0, AV.int IntKind.i64 t.l1, AV.int IntKind.i64 t.e0, AV.int IntKind.i64 t.e1]), AObj.var (AV.agg [AV.int IntKind.i64 0, AV.int IntKind.i64 0])])

theorem r12 (t : TD) (hnm : t.nm.size ≤ 9223372036854775807) (n : Nat) (hn : n ≤ 12) (g : Nat → LD) (hg : ∀ (i : Nat), (g i).nm.size ≤ 9223372036854775807) (ln : Int) (ms : Int) (h : AHeap) : Ret Try.prog 12 ([t.av, lds n g, AV.int IntKind.i64 ln, AV.int IntKind.i64 ms]) h (AV.tup [(AV.agg ((AV.int IntKind.i64 (r12.v0 t n g ln ms)) :: ((AV.int IntKind.i64 (r12.v1 t n g ln ms)) :: []))), (AV.int IntKind.i64 (r12.v2 t n g ln ms))]) h := by
  have o0 : t.nm.size ≤ (9223372036854775807 : Nat) := by first | assumption | omega | (exact hg _) | (exact hg _ (by omega)) | (simp_all; done)
  have o1 : n ≤ (12 : Nat) := by first | assumption | omega | (exact hg _) | (exact hg _ (by omega)) | (simp_all; done)
  have o2 : ∀ (i : Nat), (g i).nm.size ≤ (9223372036854775807 : Nat) := by first | assumption | omega | (exact hg _) | (exact hg _ (by omega)) | (simp_all; done)
  cases h1 : r18.v t n g == 0 with
  | true =>
    have h1p := eq_of_beq h1
    cases h2 : r32.v ln 1 50000 with
    | true =>
      cases h3 : r32.v ms 1 100000000 with
      | true =>
        have o3 : n ≤ (9223372036854775807 : Nat) := by first | assumption | omega | (exact hg _) | (exact hg _ (by omega)) | (simp_all; done)
        try have := IntWalk.i64_in (t.tl - ln) (by omega)
        have o4 : IntKind.i64.wrap (t.tl - ln) ≤ (50000 : Int) := by first | assumption | omega | (apply w_tl <;> first | assumption | omega) | (apply w_tlm <;> first | assumption | omega) | (exact hg _) | (exact hg _ (by omega)) | (simp_all; done)
        cases h4 : L12a.run t n g ln ms false 0 0 0 with
        | e0 h4d0 h4d1 h4d2 =>
          cases boolIs h4d0 with
          | true h5 =>
            exact Ret.of_run1 mix [(AV.agg ((AV.int IntKind.i64 (r12.v0 t n g ln ms)) :: ((AV.int IntKind.i64 (r12.v1 t n g ln ms)) :: []))), (AV.int IntKind.i64 (r12.v2 t n g ln ms))] Try.func12 rfl [.ret (AV.int IntKind.i64 (r18.v t n g)) (r12.h0 t n g ln ms), .b false, .ret (AV.bool (r32.v ln 1 50000)) (r12.h0 t n g ln ms), .b false, .b false, .ret (AV.bool (r32.v ms 1 100000000)) (r12.h0 t n g ln ms), .b false, .b false, .b false, .ret (AV.tup [AV.int IntKind.i64 (r33.v0 n g t.fr), AV.int IntKind.i64 (r33.v1 n g t.fr)]) (r12.h0 t n g ln ms), .loop (others 75 [2, 3, 4, 8, 11, 12, 13, 14, 15]) (Exit.exit 0) (L12a.X t n g ln ms (L12a.O.e0 h4d0 h4d1 h4d2)) (L12a.XH t n g ln ms (L12a.O.e0 h4d0 h4d1 h4d2)), .b false] (by simp) (by simp) (kmp (by kernel_rfl) (And.intro (r18 (t) o0 (n) o1 (g) o2 (r12.h0 t n g ln ms)) (And.intro (show (bnot (r18.v t n g == 0)) = false by rw [h1]; try rfl) (And.intro (r32 (ln) (1) (50000) (r12.h0 t n g ln ms)) (And.intro (show (bnot (r32.v ln 1 50000)) = false by rw [h2]; try rfl) (And.intro (show (bnot (r32.v ln 1 50000)) = false by rw [h2]; try rfl) (And.intro (r32 (ms) (1) (100000000) (r12.h0 t n g ln ms)) (And.intro (show (bnot (r32.v ln 1 50000)) = false by rw [h2]; try rfl) (And.intro (show (bnot (r32.v ln 1 50000)) = false by rw [h2]; try rfl) (And.intro (show (bnot (r32.v ms 1 100000000)) = false by rw [h3]; try rfl) (And.intro (r33 (n) (g) o3 (t.fr) (r12.h0 t n g ln ms)) (And.intro (L12a.e0 (t) (n) (g) (ln) (ms) o4 (false) (0) (0) (0) (And.intro (show (0 : Int) ≤ (0 : Int) by first | decide | exact Int.NonNeg.mk _) (show (0 : Int) ≤ (50001 : Int) by first | decide | exact Int.NonNeg.mk _)) h4d0 h4d1 h4d2 h4) (And.intro (show (bnot h4d0) = false by rw [h5]; try rfl) (And.intro (And.intro trivial (show (AV.agg [AV.int IntKind.i64 h4d1, AV.int IntKind.i64 h4d2]) = ((AV.agg ((AV.int IntKind.i64 (r12.v0 t n g ln ms)) :: ((AV.int IntKind.i64 (r12.v1 t n g ln ms)) :: [])))) by first | (simp only [r12.v0, r12.v1, r12.v2, h1, h2, h3, h5, h4, cond_true, cond_false]; done) | (try unfold r12.v0; try unfold r12.v1; try unfold r12.v2; try simp only [h1, cond_true, cond_false]; try simp only [h2, cond_true, cond_false]; try simp only [h3, cond_true, cond_false]; try simp only [h5, cond_true, cond_false]; try simp only [h4, cond_true, cond_false]; try rfl; done) | rfl)) (And.intro (show (AV.int IntKind.i64 0) = ((AV.int IntKind.i64 (r12.v2 t n g ln ms))) by first | (simp only [r12.v0, r12.v1, r12.v2, h1, h2, h3, h5, h4, cond_true, cond_false]; done) | (try unfold r12.v0; try unfold r12.v1; try unfold r12.v2; try simp only [h1, cond_true, cond_false]; try simp only [h2, cond_true, cond_false]; try simp only [h3, cond_true, cond_false]; try simp only [h5, cond_true, cond_false]; try simp only [h4, cond_true, cond_false]; try rfl; done) | rfl) trivial))))))))))))))) h
          | false h5 =>
            exact Ret.of_run1 mix [(AV.agg ((AV.int IntKind.i64 (r12.v0 t n g ln ms)) :: ((AV.int IntKind.i64 (r12.v1 t n g ln ms)) :: []))), (AV.int IntKind.i64 (r12.v2 t n g ln ms))] Try.func12 rfl [.ret (AV.int IntKind.i64 (r18.v t n g)) (r12.h0 t n g ln ms), .b false, .ret (AV.bool (r32.v ln 1 50000)) (r12.h0 t n g ln ms), .b false, .b false, .ret (AV.bool (r32.v ms 1 100000000)) (r12.h0 t n g ln ms), .b false, .b false, .b false, .ret (AV.tup [AV.int IntKind.i64 (r33.v0 n g t.fr), AV.int IntKind.i64 (r33.v1 n g t.fr)]) (r12.h0 t n g ln ms), .loop (others 75 [2, 3, 4, 8, 11, 12, 13, 14, 15]) (Exit.exit 0) (L12a.X t n g ln ms (L12a.O.e0 h4d0 h4d1 h4d2)) (L12a.XH t n g ln ms (L12a.O.e0 h4d0 h4d1 h4d2)), .b true] (by simp) (by simp) (kmp (by kernel_rfl) (And.intro (r18 (t) o0 (n) o1 (g) o2 (r12.h0 t n g ln ms)) (And.intro (show (bnot (r18.v t n g == 0)) = false by rw [h1]; try rfl) (And.intro (r32 (ln) (1) (50000) (r12.h0 t n g ln ms)) (And.intro (show (bnot (r32.v ln 1 50000)) = false by rw [h2]; try rfl) (And.intro (show (bnot (r32.v ln 1 50000)) = false by rw [h2]; try rfl) (And.intro (r32 (ms) (1) (100000000) (r12.h0 t n g ln ms)) (And.intro (show (bnot (r32.v ln 1 50000)) = false by rw [h2]; try rfl) (And.intro (show (bnot (r32.v ln 1 50000)) = false by rw [h2]; try rfl) (And.intro (show (bnot (r32.v ms 1 100000000)) = false by rw [h3]; try rfl) (And.intro (r33 (n) (g) o3 (t.fr) (r12.h0 t n g ln ms)) (And.intro (L12a.e0 (t) (n) (g) (ln) (ms) o4 (false) (0) (0) (0) (And.intro (show (0 : Int) ≤ (0 : Int) by first | decide | exact Int.NonNeg.mk _) (show (0 : Int) ≤ (50001 : Int) by first | decide | exact Int.NonNeg.mk _)) h4d0 h4d1 h4d2 h4) (And.intro (show (bnot h4d0) = true by rw [h5]; try rfl) (And.intro (And.intro trivial (show (AV.agg [AV.int IntKind.i64 0, AV.int IntKind.i64 0]) = ((AV.agg ((AV.int IntKind.i64 (r12.v0 t n g ln ms)) :: ((AV.int IntKind.i64 (r12.v1 t n g ln ms)) :: [])))) by first | (simp only [r12.v0, r12.v1, r12.v2, h1, h2, h3, h5, h4, cond_true, cond_false]; done) | (try unfold r12.v0; try unfold r12.v1; try unfold r12.v2; try simp only [h1, cond_true, cond_false]; try simp only [h2, cond_true, cond_false]; try simp only [h3, cond_true, cond_false]; try simp only [h5, cond_true, cond_false]; try simp only [h4, cond_true, cond_false]; try rfl; done) | rfl)) (And.intro (show (AV.int IntKind.i64 9) = ((AV.int IntKind.i64 (r12.v2 t n g ln ms))) by first | (simp only [r12.v0, r12.v1, r12.v2, h1, h2, h3, h5, h4, cond_true, cond_false]; done) | (try unfold r12.v0; try unfold r12.v1; try unfold r12.v2; try simp only [h1, cond_true, cond_false]; try simp only [h2, cond_true, cond_false]; try simp only [h3, cond_true, cond_false]; try simp only [h5, cond_true, cond_false]; try simp only [h4, cond_true, cond_false]; try rfl; done) | rfl) trivial))))))))))))))) h
      | false =>
        exact Ret.of_run1 mix [(AV.agg ((AV.int IntKind.i64 (r12.v0 t n g ln ms)) :: ((AV.int IntKind.i64 (r12.v1 t n g ln ms)) :: []))), (AV.int IntKind.i64 (r12.v2 t n g ln ms))] Try.func12 rfl [.ret (AV.int IntKind.i64 (r18.v t n g)) (r12.h0 t n g ln ms), .b false, .ret (AV.bool (r32.v ln 1 50000)) (r12.h0 t n g ln ms), .b false, .b false, .ret (AV.bool (r32.v ms 1 100000000)) (r12.h0 t n g ln ms), .b false, .b false, .b true] (by simp) (by simp) (kmp (by kernel_rfl) (And.intro (r18 (t) o0 (n) o1 (g) o2 (r12.h0 t n g ln ms)) (And.intro (show (bnot (r18.v t n g == 0)) = false by rw [h1]; try rfl) (And.intro (r32 (ln) (1) (50000) (r12.h0 t n g ln ms)) (And.intro (show (bnot (r32.v ln 1 50000)) = false by rw [h2]; try rfl) (And.intro (show (bnot (r32.v ln 1 50000)) = false by rw [h2]; try rfl) (And.intro (r32 (ms) (1) (100000000) (r12.h0 t n g ln ms)) (And.intro (show (bnot (r32.v ln 1 50000)) = false by rw [h2]; try rfl) (And.intro (show (bnot (r32.v ln 1 50000)) = false by rw [h2]; try rfl) (And.intro (show (bnot (r32.v ms 1 100000000)) = true by rw [h3]; try rfl) (And.intro (And.intro trivial (show (AV.agg [AV.int IntKind.i64 0, AV.int IntKind.i64 0]) = ((AV.agg ((AV.int IntKind.i64 (r12.v0 t n g ln ms)) :: ((AV.int IntKind.i64 (r12.v1 t n g ln ms)) :: [])))) by first | (simp only [r12.v0, r12.v1, r12.v2, h1, h2, h3, cond_true, cond_false]; done) | (try unfold r12.v0; try unfold r12.v1; try unfold r12.v2; try simp only [h1, cond_true, cond_false]; try simp only [h2, cond_true, cond_false]; try simp only [h3, cond_true, cond_false]; try rfl; done) | rfl)) (And.intro (show (AV.int IntKind.i64 6) = ((AV.int IntKind.i64 (r12.v2 t n g ln ms))) by first | (simp only [r12.v0, r12.v1, r12.v2, h1, h2, h3, cond_true, cond_false]; done) | (try unfold r12.v0; try unfold r12.v1; try unfold r12.v2; try simp only [h1, cond_true, cond_false]; try simp only [h2, cond_true, cond_false]; try simp only [h3, cond_true, cond_false]; try rfl; done) | rfl) trivial)))))))))))) h
    | false =>
      exact Ret.of_run1 mix [(AV.agg ((AV.int IntKind.i64 (r12.v0 t n g ln ms)) :: ((AV.int IntKind.i64 (r12.v1 t n g ln ms)) :: []))), (AV.int IntKind.i64 (r12.v2 t n g ln ms))] Try.func12 rfl [.ret (AV.int IntKind.i64 (r18.v t n g)) (r12.h0 t n g ln ms), .b false, .ret (AV.bool (r32.v ln 1 50000)) (r12.h0 t n g ln ms), .b true, .b true, .b true, .b true, .b true] (by simp) (by simp) (kmp (by kernel_rfl) (And.intro (r18 (t) o0 (n) o1 (g) o2 (r12.h0 t n g ln ms)) (And.intro (show (bnot (r18.v t n g == 0)) = false by rw [h1]; try rfl) (And.intro (r32 (ln) (1) (50000) (r12.h0 t n g ln ms)) (And.intro (show (bnot (r32.v ln 1 50000)) = true by rw [h2]; try rfl) (And.intro (show (bnot (r32.v ln 1 50000)) = true by rw [h2]; try rfl) (And.intro (show (bnot (r32.v ln 1 50000)) = true by rw [h2]; try rfl) (And.intro (show (bnot (r32.v ln 1 50000)) = true by rw [h2]; try rfl) (And.intro (rfl : true = true) (And.intro (And.intro trivial (show (AV.agg [AV.int IntKind.i64 0, AV.int IntKind.i64 0]) = ((AV.agg ((AV.int IntKind.i64 (r12.v0 t n g ln ms)) :: ((AV.int IntKind.i64 (r12.v1 t n g ln ms)) :: [])))) by first | (simp only [r12.v0, r12.v1, r12.v2, h1, h2, cond_true, cond_false]; done) | (try unfold r12.v0; try unfold r12.v1; try unfold r12.v2; try simp only [h1, cond_true, cond_false]; try simp only [h2, cond_true, cond_false]; try rfl; done) | rfl)) (And.intro (show (AV.int IntKind.i64 6) = ((AV.int IntKind.i64 (r12.v2 t n g ln ms))) by first | (simp only [r12.v0, r12.v1, r12.v2, h1, h2, cond_true, cond_false]; done) | (try unfold r12.v0; try unfold r12.v1; try unfold r12.v2; try simp only [h1, cond_true, cond_false]; try simp only [h2, cond_true, cond_false]; try rfl; done) | rfl) trivial))))))))))) h
  | false =>
    have h1p := ne_of_beq_false h1
    exact Ret.of_run1 mix [(AV.agg ((AV.int IntKind.i64 (r12.v0 t n g ln ms)) :: ((AV.int IntKind.i64 (r12.v1 t n g ln ms)) :: []))), (AV.int IntKind.i64 (r12.v2 t n g ln ms))] Try.func12 rfl [.ret (AV.int IntKind.i64 (r18.v t n g)) (r12.h0 t n g ln ms), .b true] (by simp) (by simp) (kmp (by kernel_rfl) (And.intro (r18 (t) o0 (n) o1 (g) o2 (r12.h0 t n g ln ms)) (And.intro (show (bnot (r18.v t n g == 0)) = true by rw [h1]; try rfl) (And.intro (And.intro trivial (show (AV.agg [AV.int IntKind.i64 0, AV.int IntKind.i64 0]) = ((AV.agg ((AV.int IntKind.i64 (r12.v0 t n g ln ms)) :: ((AV.int IntKind.i64 (r12.v1 t n g ln ms)) :: [])))) by first | (simp only [r12.v0, r12.v1, r12.v2, h1, cond_true, cond_false]; done) | (try unfold r12.v0; try unfold r12.v1; try unfold r12.v2; try simp only [h1, cond_true, cond_false]; try rfl; done) | rfl)) (And.intro (show (AV.int IntKind.i64 (r18.v t n g)) = ((AV.int IntKind.i64 (r12.v2 t n g ln ms))) by first | (simp only [r12.v0, r12.v1, r12.v2, h1, cond_true, cond_false]; done) | (try unfold r12.v0; try unfold r12.v1; try unfold r12.v2; try simp only [h1, cond_true, cond_false]; try rfl; done) | rfl) trivial))))) h

noncomputable def r12m.v0 (t : TD) (n : Nat) (g : Nat → LD) (ln : Int) (ms : Int) : Int := (bif r18m.v t == 0 then (bif r32.v ln 1 50000 then (bif r32.v ms 1 100000000 then (match L12a.run t n g ln ms false 0 0 0 with | .e0 h4d0 h4d1 h4d2 => (bif h4d0 then h4d1 else 0) ) else 0) else 0) else 0)

noncomputable def r12m.v1 (t : TD) (n : Nat) (g : Nat → LD) (ln : Int) (ms : Int) : Int := (bif r18m.v t == 0 then (bif r32.v ln 1 50000 then (bif r32.v ms 1 100000000 then (match L12a.run t n g ln ms false 0 0 0 with | .e0 h4d0 h4d1 h4d2 => (bif h4d0 then h4d2 else 0) ) else 0) else 0) else 0)

noncomputable def r12m.v2 (t : TD) (n : Nat) (g : Nat → LD) (ln : Int) (ms : Int) : Int := (bif r18m.v t == 0 then (bif r32.v ln 1 50000 then (bif r32.v ms 1 100000000 then (match L12a.run t n g ln ms false 0 0 0 with | .e0 h4d0 h4d1 h4d2 => (bif h4d0 then 0 else 9) ) else 6) else 6) else r18m.v t)

noncomputable abbrev r12m.h0 (t : TD) (n : Nat) (g : Nat → LD) (ln : Int) (ms : Int) : AHeap := ([AObj.var (AV.agg [AV.str t.nm, AV.int IntKind.i64 t.tl, AV.int IntKind.i64 t.fr, AV.int IntKind.i64 t.re, AV.int IntKind.i64 t.l0, AV.int IntKind.i64 t.l1, AV.int IntKind.i64 t.e0, AV.int IntKind.i64 t.e1]), AObj.var (AV.agg [AV.int IntKind.i64 0, AV.int IntKind.i64 0])])

theorem r12m (t : TD) (hnm : t.nm.size ≤ 9223372036854775807) (n : Nat) (hn : n ≤ 9223372036854775807) (hq : decide ((↑n : Int) > 64) = true) (g : Nat → LD) (ln : Int) (ms : Int) (h : AHeap) : Ret Try.prog 12 ([t.av, lds n g, AV.int IntKind.i64 ln, AV.int IntKind.i64 ms]) h (AV.tup [(AV.agg ((AV.int IntKind.i64 (r12m.v0 t n g ln ms)) :: ((AV.int IntKind.i64 (r12m.v1 t n g ln ms)) :: []))), (AV.int IntKind.i64 (r12m.v2 t n g ln ms))]) h := by
  have o0 : t.nm.size ≤ (9223372036854775807 : Nat) := by first | assumption | omega | (simp_all; done)
  have o1 : n ≤ (9223372036854775807 : Nat) := by first | assumption | omega | (simp_all; done)
  have o2 : decide ((↑n : Int) > (64 : Int)) = true := by first | assumption | omega | (simp_all; done)
  cases h1 : r18m.v t == 0 with
  | true =>
    have h1p := eq_of_beq h1
    cases h2 : r32.v ln 1 50000 with
    | true =>
      cases h3 : r32.v ms 1 100000000 with
      | true =>
        try have := IntWalk.i64_in (t.tl - ln) (by omega)
        have o3 : IntKind.i64.wrap (t.tl - ln) ≤ (50000 : Int) := by first | assumption | omega | (apply w_tl <;> first | assumption | omega) | (apply w_tlm <;> first | assumption | omega) | (simp_all; done)
        cases h4 : L12a.run t n g ln ms false 0 0 0 with
        | e0 h4d0 h4d1 h4d2 =>
          cases boolIs h4d0 with
          | true h5 =>
            exact Ret.of_run1 mix [(AV.agg ((AV.int IntKind.i64 (r12m.v0 t n g ln ms)) :: ((AV.int IntKind.i64 (r12m.v1 t n g ln ms)) :: []))), (AV.int IntKind.i64 (r12m.v2 t n g ln ms))] Try.func12 rfl [.ret (AV.int IntKind.i64 (r18m.v t)) (r12m.h0 t n g ln ms), .b false, .ret (AV.bool (r32.v ln 1 50000)) (r12m.h0 t n g ln ms), .b false, .b false, .ret (AV.bool (r32.v ms 1 100000000)) (r12m.h0 t n g ln ms), .b false, .b false, .b false, .ret (AV.tup [AV.int IntKind.i64 (r33.v0 n g t.fr), AV.int IntKind.i64 (r33.v1 n g t.fr)]) (r12m.h0 t n g ln ms), .loop (others 75 [2, 3, 4, 8, 11, 12, 13, 14, 15]) (Exit.exit 0) (L12a.X t n g ln ms (L12a.O.e0 h4d0 h4d1 h4d2)) (L12a.XH t n g ln ms (L12a.O.e0 h4d0 h4d1 h4d2)), .b false] (by simp) (by simp) (kmp (by kernel_rfl) (And.intro (r18m (t) o0 (n) o1 o2 (g) (r12m.h0 t n g ln ms)) (And.intro (show (bnot (r18m.v t == 0)) = false by rw [h1]; try rfl) (And.intro (r32 (ln) (1) (50000) (r12m.h0 t n g ln ms)) (And.intro (show (bnot (r32.v ln 1 50000)) = false by rw [h2]; try rfl) (And.intro (show (bnot (r32.v ln 1 50000)) = false by rw [h2]; try rfl) (And.intro (r32 (ms) (1) (100000000) (r12m.h0 t n g ln ms)) (And.intro (show (bnot (r32.v ln 1 50000)) = false by rw [h2]; try rfl) (And.intro (show (bnot (r32.v ln 1 50000)) = false by rw [h2]; try rfl) (And.intro (show (bnot (r32.v ms 1 100000000)) = false by rw [h3]; try rfl) (And.intro (r33 (n) (g) o1 (t.fr) (r12m.h0 t n g ln ms)) (And.intro (L12a.e0 (t) (n) (g) (ln) (ms) o3 (false) (0) (0) (0) (And.intro (show (0 : Int) ≤ (0 : Int) by first | decide | exact Int.NonNeg.mk _) (show (0 : Int) ≤ (50001 : Int) by first | decide | exact Int.NonNeg.mk _)) h4d0 h4d1 h4d2 h4) (And.intro (show (bnot h4d0) = false by rw [h5]; try rfl) (And.intro (And.intro trivial (show (AV.agg [AV.int IntKind.i64 h4d1, AV.int IntKind.i64 h4d2]) = ((AV.agg ((AV.int IntKind.i64 (r12m.v0 t n g ln ms)) :: ((AV.int IntKind.i64 (r12m.v1 t n g ln ms)) :: [])))) by first | (simp only [r12m.v0, r12m.v1, r12m.v2, h1, h2, h3, h5, h4, cond_true, cond_false]; done) | (try unfold r12m.v0; try unfold r12m.v1; try unfold r12m.v2; try simp only [h1, cond_true, cond_false]; try simp only [h2, cond_true, cond_false]; try simp only [h3, cond_true, cond_false]; try simp only [h5, cond_true, cond_false]; try simp only [h4, cond_true, cond_false]; try rfl; done) | rfl)) (And.intro (show (AV.int IntKind.i64 0) = ((AV.int IntKind.i64 (r12m.v2 t n g ln ms))) by first | (simp only [r12m.v0, r12m.v1, r12m.v2, h1, h2, h3, h5, h4, cond_true, cond_false]; done) | (try unfold r12m.v0; try unfold r12m.v1; try unfold r12m.v2; try simp only [h1, cond_true, cond_false]; try simp only [h2, cond_true, cond_false]; try simp only [h3, cond_true, cond_false]; try simp only [h5, cond_true, cond_false]; try simp only [h4, cond_true, cond_false]; try rfl; done) | rfl) trivial))))))))))))))) h
          | false h5 =>
            exact Ret.of_run1 mix [(AV.agg ((AV.int IntKind.i64 (r12m.v0 t n g ln ms)) :: ((AV.int IntKind.i64 (r12m.v1 t n g ln ms)) :: []))), (AV.int IntKind.i64 (r12m.v2 t n g ln ms))] Try.func12 rfl [.ret (AV.int IntKind.i64 (r18m.v t)) (r12m.h0 t n g ln ms), .b false, .ret (AV.bool (r32.v ln 1 50000)) (r12m.h0 t n g ln ms), .b false, .b false, .ret (AV.bool (r32.v ms 1 100000000)) (r12m.h0 t n g ln ms), .b false, .b false, .b false, .ret (AV.tup [AV.int IntKind.i64 (r33.v0 n g t.fr), AV.int IntKind.i64 (r33.v1 n g t.fr)]) (r12m.h0 t n g ln ms), .loop (others 75 [2, 3, 4, 8, 11, 12, 13, 14, 15]) (Exit.exit 0) (L12a.X t n g ln ms (L12a.O.e0 h4d0 h4d1 h4d2)) (L12a.XH t n g ln ms (L12a.O.e0 h4d0 h4d1 h4d2)), .b true] (by simp) (by simp) (kmp (by kernel_rfl) (And.intro (r18m (t) o0 (n) o1 o2 (g) (r12m.h0 t n g ln ms)) (And.intro (show (bnot (r18m.v t == 0)) = false by rw [h1]; try rfl) (And.intro (r32 (ln) (1) (50000) (r12m.h0 t n g ln ms)) (And.intro (show (bnot (r32.v ln 1 50000)) = false by rw [h2]; try rfl) (And.intro (show (bnot (r32.v ln 1 50000)) = false by rw [h2]; try rfl) (And.intro (r32 (ms) (1) (100000000) (r12m.h0 t n g ln ms)) (And.intro (show (bnot (r32.v ln 1 50000)) = false by rw [h2]; try rfl) (And.intro (show (bnot (r32.v ln 1 50000)) = false by rw [h2]; try rfl) (And.intro (show (bnot (r32.v ms 1 100000000)) = false by rw [h3]; try rfl) (And.intro (r33 (n) (g) o1 (t.fr) (r12m.h0 t n g ln ms)) (And.intro (L12a.e0 (t) (n) (g) (ln) (ms) o3 (false) (0) (0) (0) (And.intro (show (0 : Int) ≤ (0 : Int) by first | decide | exact Int.NonNeg.mk _) (show (0 : Int) ≤ (50001 : Int) by first | decide | exact Int.NonNeg.mk _)) h4d0 h4d1 h4d2 h4) (And.intro (show (bnot h4d0) = true by rw [h5]; try rfl) (And.intro (And.intro trivial (show (AV.agg [AV.int IntKind.i64 0, AV.int IntKind.i64 0]) = ((AV.agg ((AV.int IntKind.i64 (r12m.v0 t n g ln ms)) :: ((AV.int IntKind.i64 (r12m.v1 t n g ln ms)) :: [])))) by first | (simp only [r12m.v0, r12m.v1, r12m.v2, h1, h2, h3, h5, h4, cond_true, cond_false]; done) | (try unfold r12m.v0; try unfold r12m.v1; try unfold r12m.v2; try simp only [h1, cond_true, cond_false]; try simp only [h2, cond_true, cond_false]; try simp only [h3, cond_true, cond_false]; try simp only [h5, cond_true, cond_false]; try simp only [h4, cond_true, cond_false]; try rfl; done) | rfl)) (And.intro (show (AV.int IntKind.i64 9) = ((AV.int IntKind.i64 (r12m.v2 t n g ln ms))) by first | (simp only [r12m.v0, r12m.v1, r12m.v2, h1, h2, h3, h5, h4, cond_true, cond_false]; done) | (try unfold r12m.v0; try unfold r12m.v1; try unfold r12m.v2; try simp only [h1, cond_true, cond_false]; try simp only [h2, cond_true, cond_false]; try simp only [h3, cond_true, cond_false]; try simp only [h5, cond_true, cond_false]; try simp only [h4, cond_true, cond_false]; try rfl; done) | rfl) trivial))))))))))))))) h
      | false =>
        exact Ret.of_run1 mix [(AV.agg ((AV.int IntKind.i64 (r12m.v0 t n g ln ms)) :: ((AV.int IntKind.i64 (r12m.v1 t n g ln ms)) :: []))), (AV.int IntKind.i64 (r12m.v2 t n g ln ms))] Try.func12 rfl [.ret (AV.int IntKind.i64 (r18m.v t)) (r12m.h0 t n g ln ms), .b false, .ret (AV.bool (r32.v ln 1 50000)) (r12m.h0 t n g ln ms), .b false, .b false, .ret (AV.bool (r32.v ms 1 100000000)) (r12m.h0 t n g ln ms), .b false, .b false, .b true] (by simp) (by simp) (kmp (by kernel_rfl) (And.intro (r18m (t) o0 (n) o1 o2 (g) (r12m.h0 t n g ln ms)) (And.intro (show (bnot (r18m.v t == 0)) = false by rw [h1]; try rfl) (And.intro (r32 (ln) (1) (50000) (r12m.h0 t n g ln ms)) (And.intro (show (bnot (r32.v ln 1 50000)) = false by rw [h2]; try rfl) (And.intro (show (bnot (r32.v ln 1 50000)) = false by rw [h2]; try rfl) (And.intro (r32 (ms) (1) (100000000) (r12m.h0 t n g ln ms)) (And.intro (show (bnot (r32.v ln 1 50000)) = false by rw [h2]; try rfl) (And.intro (show (bnot (r32.v ln 1 50000)) = false by rw [h2]; try rfl) (And.intro (show (bnot (r32.v ms 1 100000000)) = true by rw [h3]; try rfl) (And.intro (And.intro trivial (show (AV.agg [AV.int IntKind.i64 0, AV.int IntKind.i64 0]) = ((AV.agg ((AV.int IntKind.i64 (r12m.v0 t n g ln ms)) :: ((AV.int IntKind.i64 (r12m.v1 t n g ln ms)) :: [])))) by first | (simp only [r12m.v0, r12m.v1, r12m.v2, h1, h2, h3, cond_true, cond_false]; done) | (try unfold r12m.v0; try unfold r12m.v1; try unfold r12m.v2; try simp only [h1, cond_true, cond_false]; try simp only [h2, cond_true, cond_false]; try simp only [h3, cond_true, cond_false]; try rfl; done) | rfl)) (And.intro (show (AV.int IntKind.i64 6) = ((AV.int IntKind.i64 (r12m.v2 t n g ln ms))) by first | (simp only [r12m.v0, r12m.v1, r12m.v2, h1, h2, h3, cond_true, cond_false]; done) | (try unfold r12m.v0; try unfold r12m.v1; try unfold r12m.v2; try simp only [h1, cond_true, cond_false]; try simp only [h2, cond_true, cond_false]; try simp only [h3, cond_true, cond_false]; try rfl; done) | rfl) trivial)))))))))))) h
    | false =>
      exact Ret.of_run1 mix [(AV.agg ((AV.int IntKind.i64 (r12m.v0 t n g ln ms)) :: ((AV.int IntKind.i64 (r12m.v1 t n g ln ms)) :: []))), (AV.int IntKind.i64 (r12m.v2 t n g ln ms))] Try.func12 rfl [.ret (AV.int IntKind.i64 (r18m.v t)) (r12m.h0 t n g ln ms), .b false, .ret (AV.bool (r32.v ln 1 50000)) (r12m.h0 t n g ln ms), .b true, .b true, .b true, .b true, .b true] (by simp) (by simp) (kmp (by kernel_rfl) (And.intro (r18m (t) o0 (n) o1 o2 (g) (r12m.h0 t n g ln ms)) (And.intro (show (bnot (r18m.v t == 0)) = false by rw [h1]; try rfl) (And.intro (r32 (ln) (1) (50000) (r12m.h0 t n g ln ms)) (And.intro (show (bnot (r32.v ln 1 50000)) = true by rw [h2]; try rfl) (And.intro (show (bnot (r32.v ln 1 50000)) = true by rw [h2]; try rfl) (And.intro (show (bnot (r32.v ln 1 50000)) = true by rw [h2]; try rfl) (And.intro (show (bnot (r32.v ln 1 50000)) = true by rw [h2]; try rfl) (And.intro (rfl : true = true) (And.intro (And.intro trivial (show (AV.agg [AV.int IntKind.i64 0, AV.int IntKind.i64 0]) = ((AV.agg ((AV.int IntKind.i64 (r12m.v0 t n g ln ms)) :: ((AV.int IntKind.i64 (r12m.v1 t n g ln ms)) :: [])))) by first | (simp only [r12m.v0, r12m.v1, r12m.v2, h1, h2, cond_true, cond_false]; done) | (try unfold r12m.v0; try unfold r12m.v1; try unfold r12m.v2; try simp only [h1, cond_true, cond_false]; try simp only [h2, cond_true, cond_false]; try rfl; done) | rfl)) (And.intro (show (AV.int IntKind.i64 6) = ((AV.int IntKind.i64 (r12m.v2 t n g ln ms))) by first | (simp only [r12m.v0, r12m.v1, r12m.v2, h1, h2, cond_true, cond_false]; done) | (try unfold r12m.v0; try unfold r12m.v1; try unfold r12m.v2; try simp only [h1, cond_true, cond_false]; try simp only [h2, cond_true, cond_false]; try rfl; done) | rfl) trivial))))))))))) h
  | false =>
    have h1p := ne_of_beq_false h1
    exact Ret.of_run1 mix [(AV.agg ((AV.int IntKind.i64 (r12m.v0 t n g ln ms)) :: ((AV.int IntKind.i64 (r12m.v1 t n g ln ms)) :: []))), (AV.int IntKind.i64 (r12m.v2 t n g ln ms))] Try.func12 rfl [.ret (AV.int IntKind.i64 (r18m.v t)) (r12m.h0 t n g ln ms), .b true] (by simp) (by simp) (kmp (by kernel_rfl) (And.intro (r18m (t) o0 (n) o1 o2 (g) (r12m.h0 t n g ln ms)) (And.intro (show (bnot (r18m.v t == 0)) = true by rw [h1]; try rfl) (And.intro (And.intro trivial (show (AV.agg [AV.int IntKind.i64 0, AV.int IntKind.i64 0]) = ((AV.agg ((AV.int IntKind.i64 (r12m.v0 t n g ln ms)) :: ((AV.int IntKind.i64 (r12m.v1 t n g ln ms)) :: [])))) by first | (simp only [r12m.v0, r12m.v1, r12m.v2, h1, cond_true, cond_false]; done) | (try unfold r12m.v0; try unfold r12m.v1; try unfold r12m.v2; try simp only [h1, cond_true, cond_false]; try rfl; done) | rfl)) (And.intro (show (AV.int IntKind.i64 (r18m.v t)) = ((AV.int IntKind.i64 (r12m.v2 t n g ln ms))) by first | (simp only [r12m.v0, r12m.v1, r12m.v2, h1, cond_true, cond_false]; done) | (try unfold r12m.v0; try unfold r12m.v1; try unfold r12m.v2; try simp only [h1, cond_true, cond_false]; try rfl; done) | rfl) trivial))))) h

noncomputable def r31.v0 : ByteArray := ByteArray.mk #[116]

theorem r31 (h : AHeap) : Ret Try.prog 31 ([]) h (AV.agg ((AV.str r31.v0) :: ((AV.int IntKind.i64 6000) :: ((AV.int IntKind.i64 0) :: ((AV.int IntKind.i64 5000) :: ((AV.int IntKind.i64 10000) :: ((AV.int IntKind.i64 15000) :: ((AV.int IntKind.i64 2000) :: ((AV.int IntKind.i64 1000) :: []))))))))) h := by
  exact Ret.of_run1 mix [(AV.agg ((AV.str r31.v0) :: ((AV.int IntKind.i64 6000) :: ((AV.int IntKind.i64 0) :: ((AV.int IntKind.i64 5000) :: ((AV.int IntKind.i64 10000) :: ((AV.int IntKind.i64 15000) :: ((AV.int IntKind.i64 2000) :: ((AV.int IntKind.i64 1000) :: [])))))))))] Try.func31 rfl [] (by simp) (by simp) (kmp (by kernel_rfl) (And.intro (And.intro trivial (show (AV.agg [AV.str (ByteArray.mk #[116]), AV.int IntKind.i64 6000, AV.int IntKind.i64 0, AV.int IntKind.i64 5000, AV.int IntKind.i64 10000, AV.int IntKind.i64 15000, AV.int IntKind.i64 2000, AV.int IntKind.i64 1000]) = ((AV.agg ((AV.str r31.v0) :: ((AV.int IntKind.i64 6000) :: ((AV.int IntKind.i64 0) :: ((AV.int IntKind.i64 5000) :: ((AV.int IntKind.i64 10000) :: ((AV.int IntKind.i64 15000) :: ((AV.int IntKind.i64 2000) :: ((AV.int IntKind.i64 1000) :: [])))))))))) by first | (simp only [r31.v0, cond_true, cond_false]; done) | (try unfold r31.v0; try rfl; done) | rfl)) trivial)) h

noncomputable def r10.v : Bool := r13.v0 (TD.mk r31.v0 6000 0 5000 10000 15000 2000 1000) 1 fun (i : Nat) => [LD.mk (ByteArray.mk #[97]) 2000 1000 8000].getD i default

noncomputable abbrev r10.h0 : AHeap := ([AObj.var (AV.agg [AV.int IntKind.i64 6000, AV.int IntKind.i64 1, AV.int IntKind.i64 5000, AV.int IntKind.i64 1])])

noncomputable abbrev r10.h1 : AHeap := ([AObj.var (AV.agg [AV.int IntKind.i64 6000, AV.int IntKind.i64 1, AV.int IntKind.i64 5000, AV.int IntKind.i64 1]), AObj.var (AV.agg [AV.int IntKind.i64 2500, AV.int IntKind.i64 4500])])

theorem r10 (h : AHeap) : Ret Try.prog 10 ([]) h (AV.bool r10.v) h := by
  have o0 : ∀ (i : Nat), ([LD.mk (ByteArray.mk #[(97 : UInt8)]) (2000 : Int) (1000 : Int) (8000 : Int)].getD i default).nm.size ≤ (9223372036854775807 : Nat) := by first | assumption | omega | (apply awk_g <;> first | assumption | omega) | (simp_all; done)
  exact Ret.of_run1 mix [(AV.bool r10.v)] Try.func10 rfl [.ret (AV.agg [AV.str r31.v0, AV.int IntKind.i64 6000, AV.int IntKind.i64 0, AV.int IntKind.i64 5000, AV.int IntKind.i64 10000, AV.int IntKind.i64 15000, AV.int IntKind.i64 2000, AV.int IntKind.i64 1000]) ([]), .fret ([AV.agg [AV.str r31.v0, AV.int IntKind.i64 6000, AV.int IntKind.i64 0, AV.int IntKind.i64 5000, AV.int IntKind.i64 10000, AV.int IntKind.i64 15000, AV.int IntKind.i64 2000, AV.int IntKind.i64 1000], AV.sl 4 1 fun (i : Nat) => ([LD.mk (ByteArray.mk #[97]) 2000 1000 8000].getD i default).av]) ([]) (AV.tup [AV.agg [AV.int IntKind.i64 6000, AV.int IntKind.i64 1, AV.int IntKind.i64 5000, AV.int IntKind.i64 1], AV.int IntKind.i64 0]) ([]), .ret (AV.agg [AV.str r31.v0, AV.int IntKind.i64 6000, AV.int IntKind.i64 0, AV.int IntKind.i64 5000, AV.int IntKind.i64 10000, AV.int IntKind.i64 15000, AV.int IntKind.i64 2000, AV.int IntKind.i64 1000]) (r10.h0), .fret ([AV.agg [AV.str r31.v0, AV.int IntKind.i64 6000, AV.int IntKind.i64 0, AV.int IntKind.i64 5000, AV.int IntKind.i64 10000, AV.int IntKind.i64 15000, AV.int IntKind.i64 2000, AV.int IntKind.i64 1000], AV.sl 4 1 fun (i : Nat) => ([LD.mk (ByteArray.mk #[97]) 2000 1000 8000].getD i default).av, AV.int IntKind.i64 1000, AV.int IntKind.i64 10000]) (r10.h0) (AV.tup [AV.agg [AV.int IntKind.i64 2500, AV.int IntKind.i64 4500], AV.int IntKind.i64 0]) (r10.h0), .ret (AV.agg [AV.str r31.v0, AV.int IntKind.i64 6000, AV.int IntKind.i64 0, AV.int IntKind.i64 5000, AV.int IntKind.i64 10000, AV.int IntKind.i64 15000, AV.int IntKind.i64 2000, AV.int IntKind.i64 1000]) (r10.h1), .fret ([AV.agg [AV.str r31.v0, AV.int IntKind.i64 6000, AV.int IntKind.i64 0, AV.int IntKind.i64 5000, AV.int IntKind.i64 10000, AV.int IntKind.i64 15000, AV.int IntKind.i64 2000, AV.int IntKind.i64 1000], AV.sl 4 1 fun (i : Nat) => ([LD.mk (ByteArray.mk #[97]) 2000 1000 8000].getD i default).av]) (r10.h1) (AV.tup [AV.bool (r13.v0 (TD.mk r31.v0 6000 0 5000 10000 15000 2000 1000) 1 fun (i : Nat) => [LD.mk (ByteArray.mk #[97]) 2000 1000 8000].getD i default), AV.int IntKind.i64 0]) (r10.h1), .b true, .b true, .b true, .b true, .b true, .b true, .b true, .b true, .b true, .b true, .b true, .b true, .b true, .b true, .b true, .b true, .b true, .b true] (by simp) (by simp) (kmp (by kernel_rfl) (And.intro (r31 ([])) (And.intro (show Weak 0 ([AV.agg [AV.str r31.v0, AV.int IntKind.i64 6000, AV.int IntKind.i64 0, AV.int IntKind.i64 5000, AV.int IntKind.i64 10000, AV.int IntKind.i64 15000, AV.int IntKind.i64 2000, AV.int IntKind.i64 1000], AV.sl 4 1 fun (a : Nat) => (Col.ofList [AV.agg [AV.str (ByteArray.mk #[97]), AV.int IntKind.i64 2000, AV.int IntKind.i64 1000, AV.int IntKind.i64 8000]]).get a]) ([]) ([AV.agg [AV.str r31.v0, AV.int IntKind.i64 6000, AV.int IntKind.i64 0, AV.int IntKind.i64 5000, AV.int IntKind.i64 10000, AV.int IntKind.i64 15000, AV.int IntKind.i64 2000, AV.int IntKind.i64 1000], AV.sl 4 1 fun (i : Nat) => ([LD.mk (ByteArray.mk #[97]) 2000 1000 8000].getD i default).av]) ([]) from Weak.same (And.intro (Or.inl rfl) (And.intro (same_recs (av := LD.av) [LD.mk (ByteArray.mk #[97]) 2000 1000 8000] rfl (fun i hi => by rcases i with _ | _ | _ | _ | _ | _ | _ | _ | i <;> first | rfl | (exact absurd hi (by omega)))) trivial))) (And.intro (r24 (TD.mk r31.v0 6000 0 5000 10000 15000 2000 1000) (show (1 : Nat) ≤ (9223372036854775807 : Nat) by first | decide | exact Int.NonNeg.mk _) (1) (show (1 : Nat) ≤ (12 : Nat) by first | decide | exact Int.NonNeg.mk _) (fun (i : Nat) => [LD.mk (ByteArray.mk #[97]) 2000 1000 8000].getD i default) o0 ([])) (And.intro (r31 (r10.h0)) (And.intro (show Weak 1 ([AV.agg [AV.str r31.v0, AV.int IntKind.i64 6000, AV.int IntKind.i64 0, AV.int IntKind.i64 5000, AV.int IntKind.i64 10000, AV.int IntKind.i64 15000, AV.int IntKind.i64 2000, AV.int IntKind.i64 1000], AV.sl 4 1 fun (a : Nat) => (Col.ofList [AV.agg [AV.str (ByteArray.mk #[97]), AV.int IntKind.i64 2000, AV.int IntKind.i64 1000, AV.int IntKind.i64 8000]]).get a, AV.int IntKind.i64 1000, AV.int IntKind.i64 10000]) (r10.h0) ([AV.agg [AV.str r31.v0, AV.int IntKind.i64 6000, AV.int IntKind.i64 0, AV.int IntKind.i64 5000, AV.int IntKind.i64 10000, AV.int IntKind.i64 15000, AV.int IntKind.i64 2000, AV.int IntKind.i64 1000], AV.sl 4 1 fun (i : Nat) => ([LD.mk (ByteArray.mk #[97]) 2000 1000 8000].getD i default).av, AV.int IntKind.i64 1000, AV.int IntKind.i64 10000]) (r10.h0) from Weak.same (And.intro (Or.inl rfl) (And.intro (same_recs (av := LD.av) [LD.mk (ByteArray.mk #[97]) 2000 1000 8000] rfl (fun i hi => by rcases i with _ | _ | _ | _ | _ | _ | _ | _ | i <;> first | rfl | (exact absurd hi (by omega)))) (And.intro (Or.inl rfl) (And.intro (Or.inl rfl) trivial))))) (And.intro (r12 (TD.mk r31.v0 6000 0 5000 10000 15000 2000 1000) (show (1 : Nat) ≤ (9223372036854775807 : Nat) by first | decide | exact Int.NonNeg.mk _) (1) (show (1 : Nat) ≤ (12 : Nat) by first | decide | exact Int.NonNeg.mk _) (fun (i : Nat) => [LD.mk (ByteArray.mk #[97]) 2000 1000 8000].getD i default) o0 (1000) (10000) (r10.h0)) (And.intro (r31 (r10.h1)) (And.intro (show Weak 2 ([AV.agg [AV.str r31.v0, AV.int IntKind.i64 6000, AV.int IntKind.i64 0, AV.int IntKind.i64 5000, AV.int IntKind.i64 10000, AV.int IntKind.i64 15000, AV.int IntKind.i64 2000, AV.int IntKind.i64 1000], AV.sl 4 1 fun (a : Nat) => (Col.ofList [AV.agg [AV.str (ByteArray.mk #[97]), AV.int IntKind.i64 2000, AV.int IntKind.i64 1000, AV.int IntKind.i64 8000]]).get a]) (r10.h1) ([AV.agg [AV.str r31.v0, AV.int IntKind.i64 6000, AV.int IntKind.i64 0, AV.int IntKind.i64 5000, AV.int IntKind.i64 10000, AV.int IntKind.i64 15000, AV.int IntKind.i64 2000, AV.int IntKind.i64 1000], AV.sl 4 1 fun (i : Nat) => ([LD.mk (ByteArray.mk #[97]) 2000 1000 8000].getD i default).av]) (r10.h1) from Weak.same (And.intro (Or.inl rfl) (And.intro (same_recs (av := LD.av) [LD.mk (ByteArray.mk #[97]) 2000 1000 8000] rfl (fun i hi => by rcases i with _ | _ | _ | _ | _ | _ | _ | _ | i <;> first | rfl | (exact absurd hi (by omega)))) trivial))) (And.intro (r13 (TD.mk r31.v0 6000 0 5000 10000 15000 2000 1000) (show (1 : Nat) ≤ (9223372036854775807 : Nat) by first | decide | exact Int.NonNeg.mk _) (1) (show (1 : Nat) ≤ (12 : Nat) by first | decide | exact Int.NonNeg.mk _) (fun (i : Nat) => [LD.mk (ByteArray.mk #[97]) 2000 1000 8000].getD i default) o0 (r10.h1)) (And.intro (rfl : true = true) (And.intro (rfl : true = true) (And.intro (rfl : true = true) (And.intro (rfl : true = true) (And.intro (rfl : true = true) (And.intro (rfl : true = true) (And.intro (rfl : true = true) (And.intro (rfl : true = true) (And.intro (rfl : true = true) (And.intro (rfl : true = true) (And.intro (rfl : true = true) (And.intro (rfl : true = true) (And.intro (rfl : true = true) (And.intro (rfl : true = true) (And.intro (rfl : true = true) (And.intro (rfl : true = true) (And.intro (rfl : true = true) (And.intro (rfl : true = true) (And.intro (show (AV.bool (r13.v0 (TD.mk r31.v0 6000 0 5000 10000 15000 2000 1000) 1 fun (i : Nat) => [LD.mk (ByteArray.mk #[97]) 2000 1000 8000].getD i default)) = ((AV.bool r10.v)) by first | (simp only [r10.v, cond_true, cond_false]; done) | (try unfold r10.v; try rfl; done) | rfl) trivial))))))))))))))))))))))))))))) h

end Go.Proofs.Ytngpbfocjgikaaa

open Go

namespace Go.Proofs.Ytngpbfocjgikaaa

set_option linter.unusedSimpArgs false

set_option linter.unusedVariables false

set_option maxHeartbeats 0

set_option maxRecDepth 100000

noncomputable def r19.v (t : TD) (n : Nat) (g : Nat → LD) : Int := (bif r17.v t == 0 then r15.v n g t.tl else r17.v t)

noncomputable abbrev r19.h0 (t : TD) (n : Nat) (g : Nat → LD) : AHeap := ([AObj.var (AV.agg [AV.str t.nm, AV.int IntKind.i64 t.tl, AV.int IntKind.i64 t.fr, AV.int IntKind.i64 t.re, AV.int IntKind.i64 t.l0, AV.int IntKind.i64 t.l1, AV.int IntKind.i64 t.e0, AV.int IntKind.i64 t.e1])])

theorem r19 (t : TD) (hnm : t.nm.size ≤ 9223372036854775807) (n : Nat) (hn : n ≤ 9223372036854775807) (g : Nat → LD) (hg : ∀ (i : Nat), (g i).nm.size ≤ 9223372036854775807) (h : AHeap) : Ret Try.prog 19 ([t.av, lds n g]) h (AV.int IntKind.i64 (r19.v t n g)) h := by
  have o0 : t.nm.size ≤ (9223372036854775807 : Nat) := by first | assumption | omega | (exact hg _) | (exact hg _ (by omega)) | (simp_all; done)
  cases h1 : r17.v t == 0 with
  | true =>
    have h1p := eq_of_beq h1
    have o1 : n ≤ (9223372036854775807 : Nat) := by first | assumption | omega | (exact hg _) | (exact hg _ (by omega)) | (simp_all; done)
    have o2 : ∀ (i : Nat), (g i).nm.size ≤ (9223372036854775807 : Nat) := by first | assumption | omega | (exact hg _) | (exact hg _ (by omega)) | (simp_all; done)
    exact Ret.of_run1 mix [(AV.int IntKind.i64 (r19.v t n g))] Try.func19 rfl [.ret (AV.int IntKind.i64 (r17.v t)) (r19.h0 t n g), .b false, .ret (AV.int IntKind.i64 (r15.v n g t.tl)) (r19.h0 t n g)] (by simp) (by simp) (kmp (by kernel_rfl) (And.intro (r17 (t) o0 (r19.h0 t n g)) (And.intro (show (bnot (r17.v t == 0)) = false by rw [h1]; try rfl) (And.intro (r15 (n) (g) o1 o2 (t.tl) (r19.h0 t n g)) (And.intro (show (AV.int IntKind.i64 (r15.v n g t.tl)) = ((AV.int IntKind.i64 (r19.v t n g))) by first | (simp only [r19.v, h1, cond_true, cond_false]; done) | (try unfold r19.v; try simp only [h1, cond_true, cond_false]; try rfl; done) | rfl) trivial))))) h
  | false =>
    have h1p := ne_of_beq_false h1
    exact Ret.of_run1 mix [(AV.int IntKind.i64 (r19.v t n g))] Try.func19 rfl [.ret (AV.int IntKind.i64 (r17.v t)) (r19.h0 t n g), .b true] (by simp) (by simp) (kmp (by kernel_rfl) (And.intro (r17 (t) o0 (r19.h0 t n g)) (And.intro (show (bnot (r17.v t == 0)) = true by rw [h1]; try rfl) (And.intro (show (AV.int IntKind.i64 (r17.v t)) = ((AV.int IntKind.i64 (r19.v t n g))) by first | (simp only [r19.v, h1, cond_true, cond_false]; done) | (try unfold r19.v; try simp only [h1, cond_true, cond_false]; try rfl; done) | rfl) trivial)))) h

end Go.Proofs.Ytngpbfocjgikaaa

open Go

namespace Go.Proofs.Ytngpbfocjgikaaa

set_option maxHeartbeats 0

set_option maxRecDepth 100000

set_option linter.unusedVariables false

set_option linter.unusedSimpArgs false

noncomputable def okR (i : Nat) (c : Int) : Bool := r55.v c && !(decide (c ≥ 65) && decide (c ≤ 90)) && (decide (0 < i) || r56.v c)

theorem L36_run {s : ByteArray} (hs : s.size ≤ 9223372036854775807) : L36.run s 0 = srch (fun i => !okR i (sbyte s i)) (fun _ => L36.O.e0) .e1 0 s.size := by
  have := search_eq (n := s.size) (fun i => !okR i (sbyte s i)) (fun _ => L36.O.e0) .e1 (N := L36.N s) (fun k i h => by
    simp only [L36.N, wrap_succ hs h, Int.toNat_natCast]; rw [decide_eq_true (by omega)]
    unfold okR
    have e : ((i : Int) == 0) = !decide (0 < i) := by
      rcases Nat.eq_zero_or_pos i with q | q
      · subst q; rfl
      · rw [decide_eq_true q]; simp; omega
    rw [e]
    cases r55.v (sbyte s i) <;> cases decide (sbyte s i ≥ 65) <;> cases decide (sbyte s i ≤ 90) <;> cases decide (0 < i) <;> cases r56.v (sbyte s i) <;> rfl) (fun k => by simp [L36.N]) (s.size + 1) 0 (Nat.zero_le _) (by omega)
  simpa [L36.run, L36.mu] using this

theorem L57_run {s : ByteArray} (hs : s.size ≤ 9223372036854775807) : L57.run s 0 = srch (fun i => !r58.v (sbyte s i)) (fun i => L57.O.e0 i) (.e0 s.size) 0 s.size := by
  have := search_eq (n := s.size) (fun i => !r58.v (sbyte s i)) (fun i => L57.O.e0 i) (.e0 s.size) (N := L57.N s) (fun k i h => by
    simp only [L57.N, wrap_succ hs h, Int.toNat_natCast]; rw [decide_eq_true (by omega)]
    cases r58.v (sbyte s i) <;> rfl) (fun k => by simp [L57.N]) (s.size + 1) 0 (Nat.zero_le _) (by omega)
  simpa [L57.run, L57.mu] using this

theorem r58_all : ((List.range 256).all fun c => (r58.v (c : Int) == okR 1 (c : Int)) && ((decide ((c : Int) ≥ 97) && decide ((c : Int) ≤ 122)) == okR 0 (c : Int))) = true := by kernel_rfl

theorem r58_ok {c : Int} (h0 : 0 ≤ c) (h1 : c ≤ 255) : r58.v c = okR 1 c ∧ (decide (c ≥ 97) && decide (c ≤ 122)) = okR 0 c := by
  have := List.all_eq_true.1 r58_all c.toNat (List.mem_range.2 (by omega))
  have e : ((c.toNat : Nat) : Int) = c := Int.toNat_of_nonneg h0
  rw [e, Bool.and_eq_true] at this
  exact ⟨eq_of_beq this.1, eq_of_beq this.2⟩

theorem okR_pos {i : Nat} (h : 0 < i) (c : Int) : okR i c = okR 1 c := by
  unfold okR; rw [decide_eq_true h]; rfl

theorem okR_01 {c : Int} (h : okR 0 c = true) : okR 1 c = true := by
  unfold okR at h ⊢
  revert h
  cases r55.v c <;> cases decide (c ≥ 65) <;> cases decide (c ≤ 90) <;> simp

theorem name_eq {s : ByteArray} (hs : s.size ≤ 9223372036854775807) : r38.v s = r36.v s := by
  unfold r38.v r36.v r57.v
  rw [L36_run hs, L57_run hs, srch_any]
  have h1 : (s.toList == (ByteArray.mk #[]).toList) = decide ((s.size : Int) < 1) := by
    cases h : (s.toList == (ByteArray.mk #[]).toList) with
    | true => rw [str_eq h]; rfl
    | false => have := str_pos h; exact (decide_eq_false (by omega)).symm
  rw [h1]
  have hc := sbyte_bd s
  rcases Nat.lt_or_ge 0 s.size with q | q
  · rw [decide_eq_false (show ¬ (s.size : Int) < 1 by omega), cond_false, decide_eq_true (show (s.size : Int) ≥ 1 by omega), cond_true]
    have hb : ∀ i, i < s.size → (okR i (sbyte s i) = true ↔ r58.v (sbyte s i) = true ∧ (i = 0 → sbyte s 0 ≥ 97 ∧ sbyte s 0 ≤ 122)) := by
      intro i hi
      obtain ⟨a1, a2⟩ := r58_ok (hc i).1 (hc i).2
      rcases Nat.eq_zero_or_pos i with e | e
      · subst e
        rw [a1]
        constructor
        · intro h
          refine ⟨okR_01 h, fun _ => ?_⟩
          rw [← a2, Bool.and_eq_true] at h
          exact ⟨of_decide_eq_true h.1, of_decide_eq_true h.2⟩
        · intro ⟨_, h⟩
          rw [← a2, decide_eq_true (h rfl).1, decide_eq_true (h rfl).2]; rfl
      · rw [okR_pos e, a1]
        exact ⟨fun h => ⟨h, fun h => by omega⟩, fun h => h.1⟩
    by_cases hsz : (s.size : Int) > 24
    · rw [decide_eq_true hsz, cond_true, decide_eq_false (show ¬ (s.size : Int) ≤ 24 by omega)]
      cases anyN s.size _ <;> rfl
    · rw [decide_eq_false hsz, cond_false, decide_eq_true (show (s.size : Int) ≤ 24 by omega)]
      cases hA : anyN s.size (fun i => !okR i (sbyte s i)) with
      | true =>
        obtain ⟨i, hi, hp⟩ := anyN_true.1 hA
        have hno : ¬ (okR i (sbyte s i) = true) := by simpa using hp
        rw [hb i hi] at hno
        rw [cond_true]
        show _ = false
        by_cases k1 : sbyte s 0 < 97
        · rw [decide_eq_true k1]; rfl
        rw [decide_eq_false k1, cond_false]
        by_cases k2 : sbyte s 0 > 122
        · rw [decide_eq_true k2]; rfl
        rw [decide_eq_false k2, cond_false]
        rcases srch_cases (fun i => !r58.v (sbyte s i)) (fun i => L57.O.e0 i) (.e0 s.size) s.size 0 with ⟨a1, a2⟩ | ⟨j, a1, a2, a3, a4, a5⟩
        · exfalso
          have := a1 i (Nat.zero_le _) (by omega)
          exact hno ⟨by simpa using this, fun _ => by omega⟩
        · rw [a5]
          show ((j : Int) == (s.size : Int)) = false
          rw [beq_eq_false_iff_ne]; omega
      | false =>
        have hall := anyN_false.1 hA
        have h0 := (hb 0 q).1 (by simpa using hall 0 q)
        have k1 := (h0.2 rfl).1
        have k2 := (h0.2 rfl).2
        rw [cond_false, decide_eq_false (show ¬ sbyte s 0 < 97 by omega), cond_false, decide_eq_false (show ¬ sbyte s 0 > 122 by omega), cond_false]
        rcases srch_cases (fun i => !r58.v (sbyte s i)) (fun i => L57.O.e0 i) (.e0 s.size) s.size 0 with ⟨a1, a2⟩ | ⟨j, a1, a2, a3, a4, a5⟩
        · rw [a2]; simp
        · exfalso
          have := (hb j (by omega)).1 (by simpa using hall j (by omega))
          rw [this.1] at a3; cases a3
  · rw [decide_eq_true (show (s.size : Int) < 1 by omega), cond_true, decide_eq_false (show ¬ (s.size : Int) ≥ 1 by omega), cond_false]
    cases anyN s.size _ <;> rfl

theorem truck_eq {t : TD} (h : t.nm.size ≤ 9223372036854775807) : r16.v t = r17.v t := by
  unfold r16.v r17.v
  rw [name_eq h]
  rfl

end Go.Proofs.Ytngpbfocjgikaaa

open Go

namespace Go.Proofs.Ytngpbfocjgikaaa

set_option maxHeartbeats 0

set_option maxRecDepth 100000

set_option linter.unusedVariables false

set_option linter.unusedSimpArgs false

def Sorted (i : Nat) (F : Nat → LD) : Prop := ∀ a b, a < b → b < i → (F a).lo ≤ (F b).lo

/-- G is F in another order. -/
def Pm (n : Nat) (F G : Nat → LD) : Prop := ∃ p q : Nat → Nat, ∀ i, i < n → p i < n ∧ q i < n ∧ p (q i) = i ∧ q (p i) = i ∧ G i = F (p i)

theorem Pm.refl (n : Nat) (F : Nat → LD) : Pm n F F := ⟨id, id, fun i h => ⟨h, h, rfl, rfl, rfl⟩⟩

theorem Pm.trans {n : Nat} {F G H : Nat → LD} (h1 : Pm n F G) (h2 : Pm n G H) : Pm n F H := by
  obtain ⟨p1, q1, h1⟩ := h1
  obtain ⟨p2, q2, h2⟩ := h2
  refine ⟨fun i => p1 (p2 i), fun i => q2 (q1 i), fun i hi => ?_⟩
  obtain ⟨a1, a2, a3, a4, a5⟩ := h2 i hi
  obtain ⟨b1, b2, b3, b4, b5⟩ := h1 i hi
  obtain ⟨c1, c2, c3, c4, c5⟩ := h1 (p2 i) a1
  obtain ⟨d1, d2, d3, d4, d5⟩ := h2 (q1 i) b2
  refine ⟨c1, d2, ?_, ?_, ?_⟩
  · show p1 (p2 (q2 (q1 i))) = i
    rw [d3, b3]
  · show q2 (q1 (p1 (p2 i))) = i
    rw [c4, a4]
  · rw [a5, c5]

def swp (F : Nat → LD) (j : Nat) : Nat → LD := fun q => if q = j - 1 then F j else if q = j then F (j - 1) else F q

theorem Pm_swp {n j : Nat} (F : Nat → LD) (h0 : 0 < j) (hj : j < n) : Pm n F (swp F j) := by
  refine ⟨fun q => if q = j - 1 then j else if q = j then j - 1 else q, fun q => if q = j - 1 then j else if q = j then j - 1 else q, fun i hi => ?_⟩
  have e : ∀ i, (fun q => if q = j - 1 then j else if q = j then j - 1 else q) ((fun q => if q = j - 1 then j else if q = j then j - 1 else q) i) = i := by
    intro i
    show (if (if i = j - 1 then j else if i = j then j - 1 else i) = j - 1 then j else if (if i = j - 1 then j else if i = j then j - 1 else i) = j then j - 1 else (if i = j - 1 then j else if i = j then j - 1 else i)) = i
    repeat' split
    all_goals omega
  refine ⟨?_, ?_, e i, e i, ?_⟩
  · show (if i = j - 1 then j else if i = j then j - 1 else i) < n
    split <;> (try split) <;> omega
  · show (if i = j - 1 then j else if i = j then j - 1 else i) < n
    split <;> (try split) <;> omega
  · show swp F j i = F (if i = j - 1 then j else if i = j then j - 1 else i)
    unfold swp
    split
    · rfl
    · split <;> rfl

theorem cmp_lt (s t : LD) : decide (r53.v s t < 0) = decide (s.lo < t.lo) := by
  unfold r53.v r54.v
  have e : ∀ x : Int, r77.v x = false := fun x => by simp [r77.v]
  rw [e, e, cond_false, cond_false]
  by_cases h : s.lo < t.lo
  · rw [decide_eq_true h, cond_true]; rfl
  · rw [decide_eq_false h, cond_false]
    cases decide (s.lo > t.lo) <;> rfl

theorem wrap_pred {n i : Nat} (hn : n ≤ 9223372036854775807) (h : i ≤ n) (h0 : 0 < i) : IntKind.i64.wrap ((i : Int) - 1) = ((i - 1 : Nat) : Int) := by
  rw [IntWalk.i64_in _ (by omega)]
  omega

theorem inner_step {m j : Nat} {F : Nat → LD} (hj : 0 < j) (hb : j ≤ 9223372036854775807) :
    L88b.N (m + 1) F (j : Int) = bif decide ((F j).lo < (F (j - 1)).lo) then L88b.N m (swp F j) ((j - 1 : Nat) : Int) else .e0 F := by
  simp only [L88b.N, wrap_pred hb (Nat.le_refl j) hj, Int.toNat_natCast, Nat.zero_add, cmp_lt]
  rw [decide_eq_true (show (j : Int) > 0 by omega), cond_true]
  have e : (fun (q : Nat) => LD.mk (if q = j - 1 then (F j).nm else if q = j then (F (j - 1)).nm else (F q).nm) (if q = j - 1 then (F j).lo else if q = j then (F (j - 1)).lo else (F q).lo) (if q = j - 1 then (F j).ln else if q = j then (F (j - 1)).ln else (F q).ln) (if q = j - 1 then (F j).ms else if q = j then (F (j - 1)).ms else (F q).ms)) = swp F j := by
    funext q
    unfold swp
    split
    · rfl
    · split <;> rfl
  rw [e]

theorem inner : ∀ (m j : Nat) (F : Nat → LD) (i n : Nat), j < m → j ≤ i → i < n → n ≤ 9223372036854775807 →
    (∀ a b, a < b → b ≤ i → a ≠ j → b ≠ j → (F a).lo ≤ (F b).lo) → (∀ b, j < b → b ≤ i → (F j).lo ≤ (F b).lo) →
    ∃ G, L88b.N m F (j : Int) = .e0 G ∧ Sorted (i + 1) G ∧ Pm n F G := by
  intro m
  induction m with
  | zero => intro j F i n h; omega
  | succ m ih =>
    intro j F i n hm hji hin hn h1 h2
    rcases Nat.eq_zero_or_pos j with e | e
    · subst e
      refine ⟨F, by simp [L88b.N], fun a b hab hb => ?_, .refl _ _⟩
      rcases Nat.eq_zero_or_pos a with q | q
      · subst q; exact h2 b hab (by omega)
      · exact h1 a b hab (by omega) (by omega) (by omega)
    · rw [inner_step e (by omega)]
      by_cases hlt : (F j).lo < (F (j - 1)).lo
      · rw [decide_eq_true hlt, cond_true]
        have w1 : ∀ q, q ≠ j - 1 → q ≠ j → swp F j q = F q := fun q a b => by unfold swp; rw [if_neg a, if_neg b]
        have w2 : swp F j (j - 1) = F j := by unfold swp; rw [if_pos rfl]
        have w3 : swp F j j = F (j - 1) := by unfold swp; rw [if_neg (by omega), if_pos rfl]
        obtain ⟨G, g1, g2, g3⟩ := ih (j - 1) (swp F j) i n (by omega) (by omega) hin hn (fun a b hab hb ha hbj => by
          by_cases qa : a = j
          · subst qa
            rw [w3, w1 b hbj (by omega)]
            exact h1 (a - 1) b (by omega) hb (by omega) (by omega)
          · by_cases qb : b = j
            · subst qb
              rw [w3, w1 a ha qa]
              exact h1 a (b - 1) (by omega) (by omega) qa (by omega)
            · rw [w1 a ha qa, w1 b hbj qb]
              exact h1 a b hab hb qa qb) (fun b hb hbi => by
          rw [w2]
          by_cases qb : b = j
          · subst qb; rw [w3]; omega
          · rw [w1 b (by omega) qb]
            exact h2 b (by omega) hbi)
        exact ⟨G, g1, g2, (Pm_swp F e (by omega)).trans g3⟩
      · rw [decide_eq_false hlt, cond_false]
        refine ⟨F, rfl, fun a b hab hb => ?_, .refl _ _⟩
        by_cases qa : a = j
        · subst qa; exact h2 b hab (by omega)
        · by_cases qb : b = j
          · subst qb
            by_cases q : a = b - 1
            · subst q; omega
            · have := h1 a (b - 1) (by omega) (by omega) qa (by omega)
              omega
          · exact h1 a b hab (by omega) qa qb

theorem outer {n : Nat} (hn : n ≤ 9223372036854775807) : ∀ (m i : Nat) (F : Nat → LD), n - i < m → 1 ≤ i → Sorted (min i n) F → ∃ G, L88a.N n m F (i : Int) = .e0 G ∧ Sorted n G ∧ Pm n F G := by
  intro m
  induction m with
  | zero => intro i F h; omega
  | succ m ih =>
    intro i F hm h1 hs
    simp only [L88a.N]
    by_cases hin : i < n
    · rw [decide_eq_true (show (i : Int) < (n : Int) by omega), cond_true]
      have hs' : ∀ a b, a < b → b < i → (F a).lo ≤ (F b).lo := fun a b hab hb => hs a b hab (by omega)
      obtain ⟨G, g1, g2, g3⟩ := inner (i + 1) i F i n (by omega) (Nat.le_refl _) hin hn (fun a b hab hb ha hbi => hs' a b hab (by omega)) (fun b hb hbi => by omega)
      have e : L88b.run F (i : Int) = .e0 G := by unfold L88b.run; rw [Int.toNat_natCast]; exact g1
      rw [e, wrap_succ hn hin]
      obtain ⟨K, k1, k2, k3⟩ := ih (i + 1) G (by omega) (by omega) (fun a b hab hb => g2 a b hab (by omega))
      exact ⟨K, k1, k2, g3.trans k3⟩
    · rw [decide_eq_false (show ¬ (i : Int) < (n : Int) by omega), cond_false]
      exact ⟨F, rfl, fun a b hab hb => hs a b hab (by omega), .refl _ _⟩

theorem sort_law {n : Nat} (hn : n ≤ 9223372036854775807) (F : Nat → LD) : Sorted n (r52.v n F) ∧ Pm n F (r52.v n F) := by
  obtain ⟨G, g1, g2, g3⟩ := outer hn (n - 1 + 1) 1 F (by omega) (Nat.le_refl _) (fun a b hab hb => by omega)
  have e : r52.v n F = G := by
    unfold r52.v r75.v r88.v L88a.run
    rw [show ((n : Int) - 1).toNat + 1 = n - 1 + 1 by omega, show (1 : Int) = ((1 : Nat) : Int) from rfl, g1]
  rw [e]
  exact ⟨g2, g3⟩

end Go.Proofs.Ytngpbfocjgikaaa

open Go

namespace Go.Proofs.Ytngpbfocjgikaaa

set_option maxHeartbeats 0

set_option maxRecDepth 100000

set_option linter.unusedVariables false

set_option linter.unusedSimpArgs false

variable {n : Nat} {g : Nat → LD}

/-- Numbers of a load that are in range. -/
def LOk (s : LD) : Prop := (0 ≤ s.lo ∧ s.lo ≤ 50000) ∧ (1 ≤ s.ln ∧ s.ln ≤ 50000) ∧ (1 ≤ s.ms ∧ s.ms ≤ 100000000)

theorem ok49 {s : LD} : r49.v s = false ↔ LOk s := by
  have r : ∀ {x a b : Int}, r32.v x a b = true ↔ a ≤ x ∧ x ≤ b := by
    intro x a b
    constructor
    · exact bd_in
    · intro ⟨h1, h2⟩
      unfold r32.v
      rw [decide_eq_true (show x ≥ a from h1), cond_true, decide_eq_true h2]
  unfold r49.v LOk
  rw [← r, ← r, ← r]
  cases r32.v s.lo 0 50000 <;> cases r32.v s.ln 1 50000 <;> cases r32.v s.ms 1 100000000 <;> simp [bnot]

theorem idx_eq (p : Nat → Bool) (n : Nat) (O : Type) (f : O → Int) (hit : Nat → O) (miss : O) (h1 : ∀ i : Nat, f (hit i) = i) (h2 : f miss = -1) :
    decide (f (srch p hit miss 0 n) ≥ 0) = anyN n p := by
  rcases srch_cases p hit miss n 0 with ⟨a1, a2⟩ | ⟨j, a1, a2, a3, a4, a5⟩
  · rw [a2, h2, anyN_false.2 fun i hi => a1 i (Nat.zero_le _) (by omega)]; rfl
  · rw [a5, h1, anyN_true.2 ⟨j, by omega, a3⟩, decide_eq_true (by omega)]

theorem r46a_v (hn : n ≤ 9223372036854775807) : r46a.v n g = anyN n (fun i => r48.v (g i)) := by
  have := search_eq (n := n) (fun i => r48.v (g i)) (fun i => L74aa.O.e0 i) .e1 (N := L74aa.N n g) (fun k i h => by
    simp only [L74aa.N, wrap_succ hn h, Int.toNat_natCast]; rw [decide_eq_true (by omega)]; rfl) (fun k => by simp [L74aa.N]) (n + 1) 0 (Nat.zero_le _) (by omega)
  have e : L74aa.run n g 0 = srch (fun i => r48.v (g i)) (fun i => L74aa.O.e0 i) .e1 0 n := by simpa [L74aa.run] using this
  unfold r46a.v r47a.v r74a.v
  rw [e]
  exact idx_eq _ n L74aa.O (fun o => match o with | .e0 a => a | .e1 => -1) _ _ (fun i => rfl) rfl

theorem r46b_v (hn : n ≤ 9223372036854775807) : r46b.v n g = anyN n (fun i => r49.v (g i)) := by
  have := search_eq (n := n) (fun i => r49.v (g i)) (fun i => L74ba.O.e0 i) .e1 (N := L74ba.N n g) (fun k i h => by
    simp only [L74ba.N, wrap_succ hn h, Int.toNat_natCast]; rw [decide_eq_true (by omega)]; rfl) (fun k => by simp [L74ba.N]) (n + 1) 0 (Nat.zero_le _) (by omega)
  have e : L74ba.run n g 0 = srch (fun i => r49.v (g i)) (fun i => L74ba.O.e0 i) .e1 0 n := by simpa [L74ba.run] using this
  unfold r46b.v r47b.v r74b.v
  rw [e]
  exact idx_eq _ n L74ba.O (fun o => match o with | .e0 a => a | .e1 => -1) _ _ (fun i => rfl) rfl

theorem r46c_v (hn : n ≤ 9223372036854775807) (bed : Int) : r46c.v n g bed = anyN n (fun i => r50.v bed (g i)) := by
  have := search_eq (n := n) (fun i => r50.v bed (g i)) (fun i => L74c.O.e0 i) .e1 (N := L74c.N n g bed) (fun k i h => by
    simp only [L74c.N, wrap_succ hn h, Int.toNat_natCast]; rw [decide_eq_true (by omega)]; rfl) (fun k => by simp [L74c.N]) (n + 1) 0 (Nat.zero_le _) (by omega)
  have e : L74c.run n g bed 0 = srch (fun i => r50.v bed (g i)) (fun i => L74c.O.e0 i) .e1 0 n := by simpa [L74c.run] using this
  unfold r46c.v r47c.v r74c.v
  rw [e]
  exact idx_eq _ n L74c.O (fun o => match o with | .e0 a => a | .e1 => -1) _ _ (fun i => rfl) rfl

theorem L15a_v (hn : n ≤ 9223372036854775807) (hg : ∀ i, (g i).nm.size ≤ 9223372036854775807) : L15a.run n g 0 = bif anyN n (fun i => r48.v (g i)) then .e0 else .e1 := by
  have := search_eq (n := n) (fun i => r48.v (g i)) (fun _ => L15a.O.e0) .e1 (N := L15a.N n g) (fun k i h => by
    simp only [L15a.N, wrap_succ hn h, Int.toNat_natCast]; rw [decide_eq_true (by omega)]
    unfold r48.v
    rw [name_eq (hg i)]
    cases r36.v (g i).nm <;> rfl) (fun k => by simp [L15a.N]) (n + 1) 0 (Nat.zero_le _) (by omega)
  rw [srch_any] at this
  simpa [L15a.run] using this

theorem L15b_v (hn : n ≤ 9223372036854775807) : L15b.run n g 0 = bif anyN n (fun i => r49.v (g i)) then .e0 else .e1 := by
  have := search_eq (n := n) (fun i => r49.v (g i)) (fun _ => L15b.O.e0) .e1 (N := L15b.N n g) (fun k i h => by
    simp only [L15b.N, wrap_succ hn h, Int.toNat_natCast]; rw [decide_eq_true (by omega)]
    unfold r49.v
    rw [show r37.v (g i).lo 0 50000 = r32.v (g i).lo 0 50000 from rfl, show r37.v (g i).ln 1 50000 = r32.v (g i).ln 1 50000 from rfl, show r37.v (g i).ms 1 100000000 = r32.v (g i).ms 1 100000000 from rfl]
    cases r32.v (g i).lo 0 50000 <;> cases r32.v (g i).ln 1 50000 <;> cases r32.v (g i).ms 1 100000000 <;> rfl) (fun k => by simp [L15b.N]) (n + 1) 0 (Nat.zero_le _) (by omega)
  rw [srch_any] at this
  simpa [L15b.run] using this

/-- The name of the i-th load stands before it. -/
def dupB (g : Nat → LD) (i : Nat) : Bool := anyN i (fun k => (g i).nm.toList == (g k).nm.toList)

theorem L15cd_v {i : Nat} (hi : i ≤ 9223372036854775807) : L15cd.run g (i : Int) 0 = bif dupB g i then .e0 else .e1 := by
  have := search_eq (n := i) (fun k => (g i).nm.toList == (g k).nm.toList) (fun _ => L15cd.O.e0) .e1 (N := L15cd.N g i) (fun m k h => by
    simp only [L15cd.N, wrap_succ hi h, Int.toNat_natCast]; rw [decide_eq_true (by omega)]; rfl) (fun k => by simp [L15cd.N]) (i + 1) 0 (Nat.zero_le _) (by omega)
  rw [srch_any] at this
  simpa [L15cd.run, dupB] using this

theorem L15c_v (hn : n ≤ 9223372036854775807) : L15c.run n g 0 = bif anyN n (dupB g) then .e0 else .e1 := by
  have := search_eq (n := n) (dupB g) (fun _ => L15c.O.e0) .e1 (N := L15c.N n g) (fun k i h => by
    simp only [L15c.N, wrap_succ hn h, L15cd_v (g := g) (show i ≤ 9223372036854775807 by omega)]; rw [decide_eq_true (by omega)]
    cases dupB g i <;> rfl) (fun k => by simp [L15c.N]) (n + 1) 0 (Nat.zero_le _) (by omega)
  rw [srch_any] at this
  simpa [L15c.run] using this

theorem anyN_succ (i : Nat) (p : Nat → Bool) : anyN (i + 1) p = (anyN i p || p i) := by
  unfold anyN
  rw [List.range_succ, List.any_append]
  simp

theorem seen_N (hn : n ≤ 9223372036854775807) : ∀ (m i : Nat) (ks : List ByteArray), i ≤ n → n - i < m → (∀ s : ByteArray, hasS ks s = anyN i (fun k => s.toList == (g k).nm.toList)) →
    (∃ d, L35s.N n g m (i : Int) ks = .e0 d ∧ ∃ j, i ≤ j ∧ j < n ∧ dupB g j = true) ∨ (∃ d, L35s.N n g m (i : Int) ks = .e1 d ∧ ∀ j, i ≤ j → j < n → dupB g j = false) := by
  intro m
  induction m with
  | zero => intro i ks _ h; omega
  | succ m ih =>
    intro i ks hi hm hk
    simp only [L35s.N, Int.toNat_natCast]
    rcases Nat.lt_or_ge i n with h | h
    · rw [decide_eq_true (show (i : Int) < n by omega), cond_true, wrap_succ hn h]
      have e : hasS ks (g i).nm = dupB g i := hk _
      cases hd : dupB g i with
      | true =>
        rw [e, hd, cond_true]
        exact .inl ⟨_, rfl, i, Nat.le_refl _, h, hd⟩
      | false =>
        rw [e, hd, cond_false]
        rcases ih (i + 1) (addS ks (g i).nm) h (by omega) (fun s => by
          unfold addS
          rw [e, hd, cond_false, anyN_succ, ← hk s]
          unfold hasS
          rw [List.any_append]
          simp) with ⟨d, q1, j, q2, q3, q4⟩ | ⟨d, q1, q2⟩
        · exact .inl ⟨d, q1, j, by omega, q3, q4⟩
        · refine .inr ⟨d, q1, fun j a b => ?_⟩
          rcases Nat.eq_or_lt_of_le a with e | e
          · subst e; exact hd
          · exact q2 j e b
    · rw [decide_eq_false (show ¬ (i : Int) < n by omega), cond_false]
      exact .inr ⟨_, rfl, fun j a b => by omega⟩

theorem L35s_v (hn : n ≤ 9223372036854775807) : (∃ d, L35s.run n g 0 [] = .e0 d ∧ anyN n (dupB g) = true) ∨ (∃ d, L35s.run n g 0 [] = .e1 d ∧ anyN n (dupB g) = false) := by
  unfold L35s.run
  rw [show ((n : Int) - 0).toNat + 1 = n + 1 by omega]
  rcases seen_N (g := g) hn (n + 1) 0 [] (Nat.zero_le _) (by omega) (fun s => rfl) with ⟨d, q1, j, q2, q3, q4⟩ | ⟨d, q1, q2⟩
  · exact .inl ⟨d, q1, anyN_true.2 ⟨j, q3, q4⟩⟩
  · exact .inr ⟨d, q1, anyN_false.2 fun i hi => q2 i (Nat.zero_le _) hi⟩

theorem L15e_v (hn : n ≤ 9223372036854775807) (e : Int) : L15e.run n g e 0 = bif anyN n (fun i => decide (e ≥ 0) && r50.v e (g i)) then .e0 else .e1 := by
  have := search_eq (n := n) (fun i => decide (e ≥ 0) && r50.v e (g i)) (fun _ => L15e.O.e0) .e1 (N := L15e.N n g e) (fun k i h => by
    simp only [L15e.N, wrap_succ hn h, Int.toNat_natCast]; rw [decide_eq_true (show (i : Int) < n by omega)]
    unfold r50.v
    cases decide (e ≥ 0) <;> cases decide (IntKind.i64.wrap ((g i).lo + (g i).ln) > e) <;> rfl) (fun k => by simp [L15e.N]) (n + 1) 0 (Nat.zero_le _) (by omega)
  rw [srch_any] at this
  simpa [L15e.run] using this

/-- Two loads lie over one another. -/
def ovB (s t : LD) : Bool := decide (s.lo < IntKind.i64.wrap (t.lo + t.ln)) && decide (t.lo < IntKind.i64.wrap (s.lo + s.ln))

theorem ov_iff {s t : LD} (hs : LOk s) (ht : LOk t) : ovB s t = true ↔ s.lo < t.lo + t.ln ∧ t.lo < s.lo + s.ln := by
  unfold ovB
  obtain ⟨s1, s2, s3⟩ := hs
  obtain ⟨t1, t2, t3⟩ := ht
  rw [i64_small (by omega), i64_small (by omega)]
  simp

theorem L15fg_v {i : Nat} (hi : i ≤ 9223372036854775807) : L15fg.run g (i : Int) 0 = bif anyN i (fun k => ovB (g i) (g k)) then .e0 else .e1 := by
  have := search_eq (n := i) (fun k => ovB (g i) (g k)) (fun _ => L15fg.O.e0) .e1 (N := L15fg.N g i) (fun m k h => by
    simp only [L15fg.N, wrap_succ hi h, Int.toNat_natCast]; rw [decide_eq_true (show (k : Int) < i by omega)]
    unfold ovB
    cases decide ((g i).lo < IntKind.i64.wrap ((g k).lo + (g k).ln)) <;> cases decide ((g k).lo < IntKind.i64.wrap ((g i).lo + (g i).ln)) <;> rfl) (fun k => by simp [L15fg.N]) (i + 1) 0 (Nat.zero_le _) (by omega)
  rw [srch_any] at this
  simpa [L15fg.run] using this

theorem L15f_v (hn : n ≤ 9223372036854775807) : L15f.run n g 0 = bif anyN n (fun i => anyN i (fun k => ovB (g i) (g k))) then .e0 else .e1 := by
  have := search_eq (n := n) (fun i => anyN i (fun k => ovB (g i) (g k))) (fun _ => L15f.O.e0) .e1 (N := L15f.N n g) (fun k i h => by
    simp only [L15f.N, wrap_succ hn h, L15fg_v (g := g) (show i ≤ 9223372036854775807 by omega)]; rw [decide_eq_true (by omega)]
    cases anyN i (fun k => ovB (g i) (g k)) <;> rfl) (fun k => by simp [L15f.N]) (n + 1) 0 (Nat.zero_le _) (by omega)
  rw [srch_any] at this
  simpa [L15f.run] using this

theorem srch_any1 {O : Type} (p : Nat → Bool) (a b : O) (n : Nat) : srch p (fun _ => a) b 1 (n - 1) = bif anyN n (fun i => decide (0 < i) && p i) then a else b := by
  rcases srch_cases p (fun _ => a) b (n - 1) 1 with ⟨h1, h2⟩ | ⟨j, h1, h2, h3, h4, h5⟩
  · rw [h2, anyN_false.2 fun i hi => ?_]; rfl
    by_cases e : 0 < i
    · rw [h1 i e (by omega)]; simp
    · rw [decide_eq_false e]; rfl
  · rw [h5, anyN_true.2 ⟨j, by omega, by rw [h3, decide_eq_true (show 0 < j by omega)]; rfl⟩]; rfl

def adjB (F : Nat → LD) (i : Nat) : Bool := decide ((F i).lo < IntKind.i64.wrap ((F (i - 1)).lo + (F (i - 1)).ln))

theorem L35o_v (hn : n ≤ 9223372036854775807) (F : Nat → LD) : L35o.run n F 1 = bif anyN n (fun i => decide (0 < i) && adjB F i) then .e0 else .e1 := by
  by_cases h0 : n = 0
  · subst h0; rfl
  have key : ∀ m i, 0 < i → i ≤ n → n - i < m → L35o.N n F m (i : Int) = srch (adjB F) (fun _ => .e0) .e1 i (n - i) := by
    intro m
    induction m with
    | zero => intro i _ _ h; omega
    | succ m ih =>
      intro i h1 h2 h3
      simp only [L35o.N, Int.toNat_natCast, wrap_pred hn h2 h1, Nat.zero_add]
      by_cases h : i < n
      · rw [decide_eq_true (show (i : Int) < n by omega), wrap_succ hn h, show n - i = (n - (i + 1)) + 1 by omega]
        simp only [srch, cond_true]
        rw [ih (i + 1) (by omega) h (by omega)]
        rfl
      · rw [decide_eq_false (show ¬ (i : Int) < n by omega), show n - i = 0 by omega]
        rfl
  have := key (n - 1 + 1) 1 (by omega) (by omega) (by omega)
  rw [srch_any1] at this
  unfold L35o.run
  rw [show ((n : Int) - 1).toNat + 1 = n - 1 + 1 by omega]
  exact this

/-- Neighbours in the order of their places lie over one another if any two do. -/
theorem over_eq (hn : n ≤ 9223372036854775807) (hg : ∀ i, i < n → LOk (g i)) : anyN n (fun i => decide (0 < i) && adjB (r52.v n g) i) = anyN n (fun i => anyN i (fun k => ovB (g i) (g k))) := by
  obtain ⟨hs, p, q, hp⟩ := sort_law hn g
  have hS : ∀ i, i < n → LOk (r52.v n g i) := fun i hi => by
    obtain ⟨a1, _, _, _, a5⟩ := hp i hi
    rw [a5]; exact hg _ a1
  have pair : ∀ a b, a < n → b < n → a ≠ b → ovB (g a) (g b) = true → anyN n (fun i => anyN i (fun k => ovB (g i) (g k))) = true := by
    intro a b ha hb hab ho
    rcases Nat.lt_or_gt_of_ne hab with h | h
    · refine anyN_true.2 ⟨b, hb, anyN_true.2 ⟨a, h, ?_⟩⟩
      have := (ov_iff (hg a ha) (hg b hb)).1 ho
      exact (ov_iff (hg b hb) (hg a ha)).2 ⟨this.2, this.1⟩
    · exact anyN_true.2 ⟨a, ha, anyN_true.2 ⟨b, h, ho⟩⟩
  cases h : anyN n (fun i => anyN i (fun k => ovB (g i) (g k))) with
  | true =>
    obtain ⟨b, hb, h2⟩ := anyN_true.1 h
    obtain ⟨a, ha, ho⟩ := anyN_true.1 h2
    have key : ∀ u v, u < v → v < n → (r52.v n g v).lo < (r52.v n g u).lo + (r52.v n g u).ln → anyN n (fun i => decide (0 < i) && adjB (r52.v n g) i) = true := by
      intro u v huv hv hlt
      refine anyN_true.2 ⟨u + 1, by omega, ?_⟩
      rw [decide_eq_true (show 0 < u + 1 by omega), Bool.true_and]
      unfold adjB
      rw [Nat.add_sub_cancel]
      obtain ⟨s1, s2, s3⟩ := hS u (by omega)
      rw [i64_small (by omega)]
      refine decide_eq_true ?_
      have : (r52.v n g (u + 1)).lo ≤ (r52.v n g v).lo := by
        rcases Nat.eq_or_lt_of_le huv with e | e
        · rw [show v = u + 1 by omega]; exact Int.le_refl _
        · exact hs (u + 1) v e hv
      omega
    have hv := (ov_iff (hg b hb) (hg a (by omega))).1 ho
    obtain ⟨_, qa, qa2, _, _⟩ := hp a (by omega)
    obtain ⟨_, qb, qb2, _, _⟩ := hp b hb
    have ea : r52.v n g (q a) = g a := by rw [(hp (q a) qa).2.2.2.2, qa2]
    have eb : r52.v n g (q b) = g b := by rw [(hp (q b) qb).2.2.2.2, qb2]
    have hne : q a ≠ q b := fun e => by
      have : p (q a) = p (q b) := by rw [e]
      rw [qa2, qb2] at this
      omega
    rcases Nat.lt_or_gt_of_ne hne with e | e
    · exact key (q a) (q b) e qb (by rw [ea, eb]; exact hv.1)
    · exact key (q b) (q a) e qa (by rw [ea, eb]; exact hv.2)
  | false =>
    refine anyN_false.2 fun i hi => ?_
    cases ha : decide (0 < i) && adjB (r52.v n g) i with
    | false => rfl
    | true =>
      rw [Bool.and_eq_true] at ha
      have h0 := of_decide_eq_true ha.1
      have h1 := of_decide_eq_true ha.2
      obtain ⟨s1, s2, s3⟩ := hS (i - 1) (by omega)
      obtain ⟨t1, t2, t3⟩ := hS i hi
      rw [i64_small (by omega)] at h1
      have hle := hs (i - 1) i (by omega) hi
      obtain ⟨a1, a2, a3, a4, a5⟩ := hp i hi
      obtain ⟨b1, b2, b3, b4, b5⟩ := hp (i - 1) (by omega)
      have hne : p i ≠ p (i - 1) := fun e => by
        have : q (p i) = q (p (i - 1)) := by rw [e]
        rw [a4, b4] at this
        omega
      have := pair (p i) (p (i - 1)) a1 b1 hne ((ov_iff (hg _ a1) (hg _ b1)).2 (by rw [← a5, ← b5]; omega))
      rw [h] at this; cases this

/-- Both checks of loads agree. -/
theorem loads_eq (hn : n ≤ 9223372036854775807) (hg : ∀ i, (g i).nm.size ≤ 9223372036854775807) {bed e : Int} (he : anyN n (fun i => r49.v (g i)) = false → anyN n (fun i => r50.v bed (g i)) = anyN n (fun i => decide (e ≥ 0) && r50.v e (g i))) : r35.v n g bed = r15.v n g e := by
  unfold r35.v r15.v
  rw [r46a_v hn, r46b_v hn, r46c_v hn, L35o_v hn, L15a_v hn hg, L15b_v hn, L15c_v hn, L15e_v hn, L15f_v hn]
  cases decide ((n : Int) > 64)
  · rw [cond_false, cond_false]
    cases anyN n (fun i => r48.v (g i))
    · rw [cond_false, cond_false]
      cases hr : anyN n (fun i => r49.v (g i))
      · rw [cond_false, he hr, over_eq hn (fun i hi => ok49.1 (anyN_false.1 hr i hi))]
        rcases L35s_v (g := g) hn with ⟨d, h1, h2⟩ | ⟨d, h1, h2⟩
        · rw [h1, h2]; rfl
        · rw [h1, h2]
          cases anyN n (fun i => decide (e ≥ 0) && r50.v e (g i))
          · cases anyN n (fun i => anyN i (fun k => ovB (g i) (g k))) <;> rfl
          · rfl
      · rfl
    · rfl
  · rfl

theorem loads_bed (hn : n ≤ 9223372036854775807) (hg : ∀ i, (g i).nm.size ≤ 9223372036854775807) {bed : Int} (h0 : 0 ≤ bed) : r35.v n g bed = r15.v n g bed :=
  loads_eq hn hg fun _ => by rw [decide_eq_true (show bed ≥ 0 from h0)]; simp

end Go.Proofs.Ytngpbfocjgikaaa

open Go

namespace Go.Proofs.Ytngpbfocjgikaaa

set_option maxHeartbeats 0

set_option maxRecDepth 100000

set_option linter.unusedVariables false

set_option linter.unusedSimpArgs false

theorem awake_true : r10.v = true := by kernel_rfl

variable {n : Nat} {g : Nat → LD} {t : TD}

theorem check_eq (hnm : t.nm.size ≤ 9223372036854775807) (hn : n ≤ 9223372036854775807) (hg : ∀ i, (g i).nm.size ≤ 9223372036854775807) : r18.v t n g = r19.v t n g := by
  unfold r18.v r19.v
  rw [truck_eq hnm]
  by_cases h : r17.v t = 0
  · rw [loads_bed hn hg (by have := (tok ((truck_eq hnm).trans h)).tl; omega)]
  · rw [show (r17.v t == 0) = false by simpa using h]; rfl

theorem many_eq (hq : decide ((n : Int) > 64) = true) (e : Int) : r15.v n g e = 7 := by
  unfold r15.v
  rw [hq]; rfl

theorem checkm_eq (hnm : t.nm.size ≤ 9223372036854775807) (hq : decide ((n : Int) > 64) = true) : r18m.v t = r19.v t n g := by
  unfold r18m.v r19.v
  rw [truck_eq hnm, many_eq hq]

theorem few_n (h : r11.v t n g = true) : n ≤ 10 ∨ decide ((n : Int) > 64) = true := by
  unfold r11.v at h
  by_cases h1 : (n : Int) > 10
  · by_cases h2 : (n : Int) ≤ 64
    · rw [decide_eq_true h1, decide_eq_true h2] at h
      revert h
      cases decide ((t.nm.size : Int) > 100) <;> (intro h; first | exact absurd h (by decide) | (simp at h))
    · exact .inr (decide_eq_true (by omega))
  · exact .inl (by omega)

end Go.Proofs.Ytngpbfocjgikaaa

open Go

namespace Go.Proofs.Ytngpbfocjgikaaa

set_option maxHeartbeats 0

set_option maxRecDepth 100000

theorem us3 {m : IdMap} {Mut : Mu} {w : World} {us : Array Value} {k : IntKind} {x y b : Int} (h : RelL m Mut w [AV.int k x, AV.int k y, AV.int k b] us) : us = #[.int k x, .int k y, .int k b] := by
  have hs : us.size = 3 := h.1.symm
  obtain ⟨l⟩ := us
  match l, hs with
  | [u0, u1, u2], _ =>
    have h0 := (h.2 0 _ u0 rfl rfl).inv_int
    have h1 := (h.2 1 _ u1 rfl rfl).inv_int
    have h2 := (h.2 2 _ u2 rfl rfl).inv_int
    rw [h0, h1, h2]

def sub64E : Array Value → Sem Value := fun args => do
  let (x, y, b) ← Extern.MathBitsCarry.three "Sub64" args
  pure (Extern.MathBitsCarry.pair ((x + Extern.MathBitsCarry.m64 - y - b) % Extern.MathBitsCarry.m64) (if x < y + b then 1 else 0))

theorem pair_rel {m : IdMap} {Mut : Mu} {w : World} {a b : Int} {x y : Nat} (h1 : a = x) (h2 : b = y) : RelV m Mut w (.tup [.int .u64 a, .int .u64 b]) (Extern.MathBitsCarry.pair x y) := by
  subst h1; subst h2
  refine .tup _ _ rfl fun i a v ha hv => ?_
  match i, ha, hv with
  | 0, ha, hv => cases ha; cases hv; exact .int _ _
  | 1, ha, hv => cases ha; cases hv; exact .int _ _

theorem e84 (x y b : Int) (hx : 0 ≤ x) (hy : 0 ≤ y) (hy2 : y ≤ 18446744073709551615) (hb0 : 0 ≤ b) (hb : b ≤ 1) (hyb : y + b ≤ x + 18446744073709551616) :
    ERet Try.prog 84 [AV.int .u64 x, AV.int .u64 y, AV.int .u64 b] (AV.tup [AV.int .u64 ((x - y - b) % 18446744073709551616), AV.int .u64 (if x < y + b then 1 else 0)]) := by
  intro m Mut w us hr
  obtain rfl := us3 hr
  obtain ⟨x, rfl⟩ := Int.eq_ofNat_of_zero_le hx
  obtain ⟨y, rfl⟩ := Int.eq_ofNat_of_zero_le hy
  obtain ⟨b, rfl⟩ := Int.eq_ofNat_of_zero_le hb0
  have hrun : (sub64E #[.int .u64 x, .int .u64 y, .int .u64 b]).run Try.prog w = .ok (Extern.MathBitsCarry.pair ((x + Extern.MathBitsCarry.m64 - y - b) % Extern.MathBitsCarry.m64) (if x < y + b then 1 else 0)) w := by
    have : b = 0 ∨ b = 1 := by omega
    rcases this with rfl | rfl <;> rfl
  refine ⟨_, by
    rw [run_callFunc_extern Try.func84 (by kernel_rfl) (by kernel_rfl) (by kernel_rfl) (e := sub64E) (by kernel_rfl), hrun]
    rfl, pair_rel ?_ ?_⟩
  · show _ = (((x + 18446744073709551616 - y - b) % 18446744073709551616 : Nat) : Int)
    omega
  · split <;> split <;> omega

end Go.Proofs.Ytngpbfocjgikaaa

open Go

namespace Go.Proofs.Ytngpbfocjgikaaa

set_option linter.unusedSimpArgs false

set_option linter.unusedVariables false

set_option maxHeartbeats 0

set_option maxRecDepth 100000

theorem ite_0 {p : Prop} [Decidable p] : 0 ≤ (if p then (1 : Int) else 0) := by split <;> omega

theorem ite_1 {p : Prop} [Decidable p] : (if p then (1 : Int) else 0) ≤ 1 := by split <;> omega

theorem ite_2 {p : Prop} [Decidable p] {x y : Int} (h : y ≤ 18446744073709551615) (h0 : 0 ≤ x) : y + (if p then (1 : Int) else 0) ≤ x + 18446744073709551616 := by split <;> omega

noncomputable def r85.v (x : Int) : Int := (bif decide (x < 0) then IntKind.u64.wrap (0 - IntKind.u64.wrap x) else IntKind.u64.wrap x)

theorem r85 (x : Int) (h : AHeap) : Ret Try.prog 85 ([AV.int IntKind.i64 x]) h (AV.int IntKind.u64 (r85.v x)) h := by
  cases h1 : decide (x < 0) with
  | true =>
    have h1p := of_decide_eq_true h1
    exact Ret.of_run1 mix [(AV.int IntKind.u64 (r85.v x))] Try.func85 rfl [.b true] (by simp) (by simp) (kmp (by kernel_rfl) (And.intro h1 (And.intro (show (AV.int IntKind.u64 (IntKind.u64.wrap (0 - IntKind.u64.wrap x))) = ((AV.int IntKind.u64 (r85.v x))) by first | (simp only [r85.v, h1, cond_true, cond_false]; done) | (try unfold r85.v; try simp only [h1, cond_true, cond_false]; try rfl; done) | rfl) trivial))) h
  | false =>
    have h1p := of_decide_eq_false h1
    exact Ret.of_run1 mix [(AV.int IntKind.u64 (r85.v x))] Try.func85 rfl [.b false] (by simp) (by simp) (kmp (by kernel_rfl) (And.intro h1 (And.intro (show (AV.int IntKind.u64 (IntKind.u64.wrap x)) = ((AV.int IntKind.u64 (r85.v x))) by first | (simp only [r85.v, h1, cond_true, cond_false]; done) | (try unfold r85.v; try simp only [h1, cond_true, cond_false]; try rfl; done) | rfl) trivial))) h

noncomputable def r68.v (xh : Int) (xl : Int) : Bool := (bif xh == 0 then xl == 0 else false)

theorem r68 (xh : Int) (xl : Int) (ng : Bool) (h : AHeap) : Ret Try.prog 68 ([AV.agg [AV.int IntKind.u64 xh, AV.int IntKind.u64 xl, AV.bool ng]]) h (AV.bool (r68.v xh xl)) h := by
  cases h1 : xh == 0 with
  | true =>
    have h1p := eq_of_beq h1
    exact Ret.of_run1 mix [(AV.bool (r68.v xh xl))] Try.func68 rfl [.b true, .b true, .b true, .b true] (by simp) (by simp) (kmp (by kernel_rfl) (And.intro h1 (And.intro h1 (And.intro h1 (And.intro h1 (And.intro (show (AV.bool (xl == 0)) = ((AV.bool (r68.v xh xl))) by first | (simp only [r68.v, h1, cond_true, cond_false]; done) | (try unfold r68.v; try simp only [h1, cond_true, cond_false]; try rfl; done) | rfl) trivial)))))) h
  | false =>
    have h1p := ne_of_beq_false h1
    exact Ret.of_run1 mix [(AV.bool (r68.v xh xl))] Try.func68 rfl [.b false, .b false, .b false, .b false] (by simp) (by simp) (kmp (by kernel_rfl) (And.intro h1 (And.intro h1 (And.intro h1 (And.intro h1 (And.intro (show (AV.bool false) = ((AV.bool (r68.v xh xl))) by first | (simp only [r68.v, h1, cond_true, cond_false]; done) | (try unfold r68.v; try simp only [h1, cond_true, cond_false]; try rfl; done) | rfl) trivial)))))) h

noncomputable def r99.v (xh : Int) (xl : Int) (i : Int) : Int := (bif decide (i ≥ 64) then IntKind.u64.wrap (↑(BitVec.ofInt 64 (xh.fdiv (2 ^ min (IntKind.i64.wrap (i - 64)).toNat 64)) &&& BitVec.ofInt 64 1).toNat : Int) else IntKind.u64.wrap (↑(BitVec.ofInt 64 (xl.fdiv (2 ^ min i.toNat 64)) &&& BitVec.ofInt 64 1).toNat : Int))

theorem r99 (xh : Int) (xl : Int) (ng : Bool) (i : Int) (h0 : 0 ≤ i) (h1 : i ≤ 127) (h : AHeap) : Ret Try.prog 99 ([AV.agg [AV.int IntKind.u64 xh, AV.int IntKind.u64 xl, AV.bool ng], AV.int IntKind.i64 i]) h (AV.int IntKind.u64 (r99.v xh xl i)) h := by
  cases h1 : decide (i ≥ 64) with
  | true =>
    have h1p := of_decide_eq_true h1
    try have := IntWalk.i64_in (i - 64) (by omega)
    have o0 : (0 : Int) ≤ IntKind.i64.wrap (i - (64 : Int)) := by first | assumption | omega | (simp_all; done)
    exact Ret.of_run1 mix [(AV.int IntKind.u64 (r99.v xh xl i))] Try.func99 rfl [.b true] (by simp) (by simp) (kmp (by kernel_rfl) (And.intro h1 (And.intro o0 (And.intro (show (AV.int IntKind.u64 (IntKind.u64.wrap (↑(BitVec.ofInt 64 (xh.fdiv (2 ^ min (IntKind.i64.wrap (i - 64)).toNat 64)) &&& BitVec.ofInt 64 1).toNat : Int))) = ((AV.int IntKind.u64 (r99.v xh xl i))) by first | (simp only [r99.v, h1, cond_true, cond_false]; done) | (try unfold r99.v; try simp only [h1, cond_true, cond_false]; try rfl; done) | rfl) trivial)))) h
  | false =>
    have h1p := of_decide_eq_false h1
    have o1 : (0 : Int) ≤ i := by first | assumption | omega | (simp_all; done)
    exact Ret.of_run1 mix [(AV.int IntKind.u64 (r99.v xh xl i))] Try.func99 rfl [.b false] (by simp) (by simp) (kmp (by kernel_rfl) (And.intro h1 (And.intro o1 (And.intro (show (AV.int IntKind.u64 (IntKind.u64.wrap (↑(BitVec.ofInt 64 (xl.fdiv (2 ^ min i.toNat 64)) &&& BitVec.ofInt 64 1).toNat : Int))) = ((AV.int IntKind.u64 (r99.v xh xl i))) by first | (simp only [r99.v, h1, cond_true, cond_false]; done) | (try unfold r99.v; try simp only [h1, cond_true, cond_false]; try rfl; done) | rfl) trivial)))) h

noncomputable def r83.v (xh : Int) (xl : Int) (yh : Int) (yl : Int) : Bool := (bif decide (xh > yh) then true else (bif xh == yh then decide (xl > yl) else false))

theorem r83 (xh : Int) (xl : Int) (xn : Bool) (yh : Int) (yl : Int) (yn : Bool) (h : AHeap) : Ret Try.prog 83 ([AV.agg [AV.int IntKind.u64 xh, AV.int IntKind.u64 xl, AV.bool xn], AV.agg [AV.int IntKind.u64 yh, AV.int IntKind.u64 yl, AV.bool yn]]) h (AV.bool (r83.v xh xl yh yl)) h := by
  cases h1 : decide (xh > yh) with
  | true =>
    have h1p := of_decide_eq_true h1
    exact Ret.of_run1 mix [(AV.bool (r83.v xh xl yh yl))] Try.func83 rfl [.b true, .b true, .b true, .b true, .b true, .b true, .b true, .b true] (by simp) (by simp) (kmp (by kernel_rfl) (And.intro h1 (And.intro h1 (And.intro h1 (And.intro h1 (And.intro h1 (And.intro h1 (And.intro h1 (And.intro h1 (And.intro (show (AV.bool true) = ((AV.bool (r83.v xh xl yh yl))) by first | (simp only [r83.v, h1, cond_true, cond_false]; done) | (try unfold r83.v; try simp only [h1, cond_true, cond_false]; try rfl; done) | rfl) trivial)))))))))) h
  | false =>
    have h1p := of_decide_eq_false h1
    cases h2 : xh == yh with
    | true =>
      have h2p := eq_of_beq h2
      exact Ret.of_run1 mix [(AV.bool (r83.v xh xl yh yl))] Try.func83 rfl [.b false, .b false, .b false, .b false, .b false, .b false, .b true, .b true, .b true, .b true, .b true, .b false, .b true, .b false] (by simp) (by simp) (kmp (by kernel_rfl) (And.intro h1 (And.intro h1 (And.intro h1 (And.intro h1 (And.intro h1 (And.intro h1 (And.intro h2 (And.intro h2 (And.intro h2 (And.intro h2 (And.intro h2 (And.intro h1 (And.intro h2 (And.intro h1 (And.intro (show (AV.bool (decide (xl > yl))) = ((AV.bool (r83.v xh xl yh yl))) by first | (simp only [r83.v, h1, h2, cond_true, cond_false]; done) | (try unfold r83.v; try simp only [h1, cond_true, cond_false]; try simp only [h2, cond_true, cond_false]; try rfl; done) | rfl) trivial)))))))))))))))) h
    | false =>
      have h2p := ne_of_beq_false h2
      exact Ret.of_run1 mix [(AV.bool (r83.v xh xl yh yl))] Try.func83 rfl [.b false, .b false, .b false, .b false, .b false, .b false, .b false, .b false, .b false, .b false, .b false, .b false, .b false, .b false] (by simp) (by simp) (kmp (by kernel_rfl) (And.intro h1 (And.intro h1 (And.intro h1 (And.intro h1 (And.intro h1 (And.intro h1 (And.intro h2 (And.intro h2 (And.intro h2 (And.intro h2 (And.intro h2 (And.intro h1 (And.intro h2 (And.intro h1 (And.intro (show (AV.bool false) = ((AV.bool (r83.v xh xl yh yl))) by first | (simp only [r83.v, h1, h2, cond_true, cond_false]; done) | (try unfold r83.v; try simp only [h1, cond_true, cond_false]; try simp only [h2, cond_true, cond_false]; try rfl; done) | rfl) trivial)))))))))))))))) h

noncomputable def r65.v0 (xh : Int) (xl : Int) (yh : Int) (yl : Int) : Int := (xh - yh - if xl < yl + 0 then 1 else 0) % 18446744073709551616

noncomputable def r65.v1 (xl : Int) (yl : Int) : Int := (xl - yl - 0) % 18446744073709551616

noncomputable abbrev r65.h0 (xh : Int) (xl : Int) (yh : Int) (yl : Int) : AHeap := ([AObj.var (AV.agg [AV.int IntKind.u64 xh, AV.int IntKind.u64 xl, AV.bool false]), AObj.var (AV.agg [AV.int IntKind.u64 yh, AV.int IntKind.u64 yl, AV.bool true]), AObj.var (AV.agg [AV.int IntKind.u64 0, AV.int IntKind.u64 0, AV.bool false])])

theorem r65 (xh : Int) (xl : Int) (yh : Int) (yl : Int) (b1 : 0 ≤ xh) (b2 : 0 ≤ xl) (b3 : 0 ≤ yh) (b4 : yh ≤ 18446744073709551615) (b5 : 0 ≤ yl) (b6 : yl ≤ 18446744073709551615) (hq : r83.v yh yl xh xl = false) (h : AHeap) : Ret Try.prog 65 ([AV.agg [AV.int IntKind.u64 xh, AV.int IntKind.u64 xl, AV.bool false], AV.agg [AV.int IntKind.u64 yh, AV.int IntKind.u64 yl, AV.bool true]]) h (AV.agg ((AV.int IntKind.u64 (r65.v0 xh xl yh yl)) :: ((AV.int IntKind.u64 (r65.v1 xl yl)) :: ((AV.bool false) :: [])))) h := by
  have o0 : (0 : Int) ≤ xl := by first | assumption | omega | (simp_all; done)
  have o1 : (0 : Int) ≤ yl := by first | assumption | omega | (simp_all; done)
  have o2 : yl ≤ (18446744073709551615 : Int) := by first | assumption | omega | (simp_all; done)
  have o3 : yl + (0 : Int) ≤ xl + (18446744073709551616 : Int) := by first | assumption | omega | (simp_all; done)
  have o4 : (0 : Int) ≤ xh := by first | assumption | omega | (simp_all; done)
  have o5 : (0 : Int) ≤ yh := by first | assumption | omega | (simp_all; done)
  have o6 : yh ≤ (18446744073709551615 : Int) := by first | assumption | omega | (simp_all; done)
  have o7 : (0 : Int) ≤ if xl < yl + (0 : Int) then (1 : Int) else (0 : Int) := by first | assumption | omega | (apply ite_0 <;> first | assumption | omega) | (simp_all; done)
  have o8 : (if xl < yl + (0 : Int) then (1 : Int) else (0 : Int)) ≤ (1 : Int) := by first | assumption | omega | (apply ite_1 <;> first | assumption | omega) | (simp_all; done)
  have o9 : (yh + if xl < yl + (0 : Int) then (1 : Int) else (0 : Int)) ≤ xh + (18446744073709551616 : Int) := by first | assumption | omega | (apply ite_2 <;> first | assumption | omega) | (simp_all; done)
  exact Ret.of_run1 mix [(AV.agg ((AV.int IntKind.u64 (r65.v0 xh xl yh yl)) :: ((AV.int IntKind.u64 (r65.v1 xl yl)) :: ((AV.bool false) :: []))))] Try.func65 rfl [.b false, .ret (AV.bool (r83.v yh yl xh xl)) (r65.h0 xh xl yh yl), .b false, .ret (AV.tup [AV.int IntKind.u64 ((xl - yl - 0) % 18446744073709551616), AV.int IntKind.u64 (if xl < yl + 0 then 1 else 0)]) (r65.h0 xh xl yh yl), .ret (AV.tup [AV.int IntKind.u64 ((xh - yh - if xl < yl + 0 then 1 else 0) % 18446744073709551616), AV.int IntKind.u64 (if xh < yh + if xl < yl + 0 then 1 else 0 then 1 else 0)]) (r65.h0 xh xl yh yl)] (by simp) (by simp) (kmp (by kernel_rfl) (And.intro (rfl : false = false) (And.intro (r83 (yh) (yl) (true) (xh) (xl) (false) (r65.h0 xh xl yh yl)) (And.intro hq (And.intro (e84 (xl) (yl) (0) o0 o1 o2 (show (0 : Int) ≤ (0 : Int) by first | decide | exact Int.NonNeg.mk _) (show (0 : Int) ≤ (1 : Int) by first | decide | exact Int.NonNeg.mk _) o3) (And.intro (e84 (xh) (yh) (if xl < yl + 0 then 1 else 0) o4 o5 o6 o7 o8 o9) (And.intro (And.intro trivial (show (AV.agg [AV.int IntKind.u64 ((xh - yh - if xl < yl + 0 then 1 else 0) % 18446744073709551616), AV.int IntKind.u64 ((xl - yl - 0) % 18446744073709551616), AV.bool false]) = ((AV.agg ((AV.int IntKind.u64 (r65.v0 xh xl yh yl)) :: ((AV.int IntKind.u64 (r65.v1 xl yl)) :: ((AV.bool false) :: []))))) by first | (simp only [r65.v0, r65.v1, cond_true, cond_false]; done) | (try unfold r65.v0; try unfold r65.v1; try rfl; done) | rfl)) trivial))))))) h

noncomputable def r73.v0 (x : Int) (y : Int) : Int := IntKind.u64.wrap (IntKind.u64.wrap (IntKind.u64.wrap (x.fdiv 4294967296 * y.fdiv 4294967296) + (IntKind.u64.wrap (IntKind.u64.wrap (x.fdiv 4294967296 * IntKind.u64.wrap (↑(BitVec.ofInt 64 y &&& BitVec.ofInt 64 4294967295).toNat : Int)) + (IntKind.u64.wrap (IntKind.u64.wrap (↑(BitVec.ofInt 64 x &&& BitVec.ofInt 64 4294967295).toNat : Int) * IntKind.u64.wrap (↑(BitVec.ofInt 64 y &&& BitVec.ofInt 64 4294967295).toNat : Int))).fdiv 4294967296)).fdiv 4294967296) + (IntKind.u64.wrap (IntKind.u64.wrap (↑(BitVec.ofInt 64 (IntKind.u64.wrap (IntKind.u64.wrap (x.fdiv 4294967296 * IntKind.u64.wrap (↑(BitVec.ofInt 64 y &&& BitVec.ofInt 64 4294967295).toNat : Int)) + (IntKind.u64.wrap (IntKind.u64.wrap (↑(BitVec.ofInt 64 x &&& BitVec.ofInt 64 4294967295).toNat : Int) * IntKind.u64.wrap (↑(BitVec.ofInt 64 y &&& BitVec.ofInt 64 4294967295).toNat : Int))).fdiv 4294967296)) &&& BitVec.ofInt 64 4294967295).toNat : Int) + IntKind.u64.wrap (IntKind.u64.wrap (↑(BitVec.ofInt 64 x &&& BitVec.ofInt 64 4294967295).toNat : Int) * y.fdiv 4294967296))).fdiv 4294967296)

noncomputable def r73.v1 (x : Int) (y : Int) : Int := IntKind.u64.wrap (x * y)

theorem r73 (x : Int) (y : Int) (h : AHeap) : Ret Try.prog 73 ([AV.int IntKind.u64 x, AV.int IntKind.u64 y]) h (AV.tup [(AV.int IntKind.u64 (r73.v0 x y)), (AV.int IntKind.u64 (r73.v1 x y))]) h := by
  exact Ret.of_run1 mix [(AV.int IntKind.u64 (r73.v0 x y)), (AV.int IntKind.u64 (r73.v1 x y))] Try.func73 rfl [] (by simp) (by simp) (kmp (by kernel_rfl) (And.intro (show Int.NonNeg (32 : Int) by first | decide | exact Int.NonNeg.mk _) (And.intro (show Int.NonNeg (32 : Int) by first | decide | exact Int.NonNeg.mk _) (And.intro (show Int.NonNeg (32 : Int) by first | decide | exact Int.NonNeg.mk _) (And.intro (show Int.NonNeg (32 : Int) by first | decide | exact Int.NonNeg.mk _) (And.intro (show Int.NonNeg (32 : Int) by first | decide | exact Int.NonNeg.mk _) (And.intro (show (AV.int IntKind.u64 (IntKind.u64.wrap (IntKind.u64.wrap (IntKind.u64.wrap (x.fdiv 4294967296 * y.fdiv 4294967296) + (IntKind.u64.wrap (IntKind.u64.wrap (x.fdiv 4294967296 * IntKind.u64.wrap (↑(BitVec.ofInt 64 y &&& BitVec.ofInt 64 4294967295).toNat : Int)) + (IntKind.u64.wrap (IntKind.u64.wrap (↑(BitVec.ofInt 64 x &&& BitVec.ofInt 64 4294967295).toNat : Int) * IntKind.u64.wrap (↑(BitVec.ofInt 64 y &&& BitVec.ofInt 64 4294967295).toNat : Int))).fdiv 4294967296)).fdiv 4294967296) + (IntKind.u64.wrap (IntKind.u64.wrap (↑(BitVec.ofInt 64 (IntKind.u64.wrap (IntKind.u64.wrap (x.fdiv 4294967296 * IntKind.u64.wrap (↑(BitVec.ofInt 64 y &&& BitVec.ofInt 64 4294967295).toNat : Int)) + (IntKind.u64.wrap (IntKind.u64.wrap (↑(BitVec.ofInt 64 x &&& BitVec.ofInt 64 4294967295).toNat : Int) * IntKind.u64.wrap (↑(BitVec.ofInt 64 y &&& BitVec.ofInt 64 4294967295).toNat : Int))).fdiv 4294967296)) &&& BitVec.ofInt 64 4294967295).toNat : Int) + IntKind.u64.wrap (IntKind.u64.wrap (↑(BitVec.ofInt 64 x &&& BitVec.ofInt 64 4294967295).toNat : Int) * y.fdiv 4294967296))).fdiv 4294967296))) = ((AV.int IntKind.u64 (r73.v0 x y))) by first | (simp only [r73.v0, r73.v1, cond_true, cond_false]; done) | (try unfold r73.v0; try unfold r73.v1; try rfl; done) | rfl) (And.intro (show (AV.int IntKind.u64 (IntKind.u64.wrap (x * y))) = ((AV.int IntKind.u64 (r73.v1 x y))) by first | (simp only [r73.v0, r73.v1, cond_true, cond_false]; done) | (try unfold r73.v0; try unfold r73.v1; try rfl; done) | rfl) trivial)))))))) h

noncomputable def r66.v0 (x : Int) (y : Int) : Int := r73.v0 (r85.v x) (r85.v y)

noncomputable def r66.v1 (x : Int) (y : Int) : Int := r73.v1 (r85.v x) (r85.v y)

noncomputable def r66.v2 (x : Int) (y : Int) : Bool := bnot (decide (x < 0) == decide (y < 0))

noncomputable abbrev r66.h0 (x : Int) (y : Int) : AHeap := ([AObj.var (AV.agg [AV.int IntKind.u64 0, AV.int IntKind.u64 0, AV.bool false])])

theorem r66 (x : Int) (y : Int) (h : AHeap) : Ret Try.prog 66 ([AV.int IntKind.i64 x, AV.int IntKind.i64 y]) h (AV.agg ((AV.int IntKind.u64 (r66.v0 x y)) :: ((AV.int IntKind.u64 (r66.v1 x y)) :: ((AV.bool (r66.v2 x y)) :: [])))) h := by
  exact Ret.of_run1 mix [(AV.agg ((AV.int IntKind.u64 (r66.v0 x y)) :: ((AV.int IntKind.u64 (r66.v1 x y)) :: ((AV.bool (r66.v2 x y)) :: []))))] Try.func66 rfl [.ret (AV.int IntKind.u64 (r85.v x)) (r66.h0 x y), .ret (AV.int IntKind.u64 (r85.v y)) (r66.h0 x y), .ret (AV.tup [AV.int IntKind.u64 (r73.v0 (r85.v x) (r85.v y)), AV.int IntKind.u64 (r73.v1 (r85.v x) (r85.v y))]) (r66.h0 x y)] (by simp) (by simp) (kmp (by kernel_rfl) (And.intro (r85 (x) (r66.h0 x y)) (And.intro (r85 (y) (r66.h0 x y)) (And.intro (r73 (r85.v x) (r85.v y) (r66.h0 x y)) (And.intro (And.intro trivial (show (AV.agg [AV.int IntKind.u64 (r73.v0 (r85.v x) (r85.v y)), AV.int IntKind.u64 (r73.v1 (r85.v x) (r85.v y)), AV.bool (bnot (decide (x < 0) == decide (y < 0)))]) = ((AV.agg ((AV.int IntKind.u64 (r66.v0 x y)) :: ((AV.int IntKind.u64 (r66.v1 x y)) :: ((AV.bool (r66.v2 x y)) :: []))))) by first | (simp only [r66.v0, r66.v1, r66.v2, cond_true, cond_false]; done) | (try unfold r66.v0; try unfold r66.v1; try unfold r66.v2; try rfl; done) | rfl)) trivial))))) h

noncomputable def r63.v0 (x : Int) : Int := r66.v0 x 1

noncomputable def r63.v1 (x : Int) : Int := r66.v1 x 1

noncomputable def r63.v2 (x : Int) : Bool := r66.v2 x 1

theorem r63 (x : Int) (h : AHeap) : Ret Try.prog 63 ([AV.int IntKind.i64 x]) h (AV.agg ((AV.int IntKind.u64 (r63.v0 x)) :: ((AV.int IntKind.u64 (r63.v1 x)) :: ((AV.bool (r63.v2 x)) :: [])))) h := by
  exact Ret.of_run1 mix [(AV.agg ((AV.int IntKind.u64 (r63.v0 x)) :: ((AV.int IntKind.u64 (r63.v1 x)) :: ((AV.bool (r63.v2 x)) :: []))))] Try.func63 rfl [.ret (AV.agg [AV.int IntKind.u64 (r66.v0 x 1), AV.int IntKind.u64 (r66.v1 x 1), AV.bool (r66.v2 x 1)]) ([AObj.var (AV.agg [AV.int IntKind.u64 0, AV.int IntKind.u64 0, AV.bool false])])] (by simp) (by simp) (kmp (by kernel_rfl) (And.intro (r66 (x) (1) ([AObj.var (AV.agg [AV.int IntKind.u64 0, AV.int IntKind.u64 0, AV.bool false])])) (And.intro (And.intro trivial (show (AV.agg [AV.int IntKind.u64 (r66.v0 x 1), AV.int IntKind.u64 (r66.v1 x 1), AV.bool (r66.v2 x 1)]) = ((AV.agg ((AV.int IntKind.u64 (r63.v0 x)) :: ((AV.int IntKind.u64 (r63.v1 x)) :: ((AV.bool (r63.v2 x)) :: []))))) by first | (simp only [r63.v0, r63.v1, r63.v2, cond_true, cond_false]; done) | (try unfold r63.v0; try unfold r63.v1; try unfold r63.v2; try rfl; done) | rfl)) trivial))) h

end Go.Proofs.Ytngpbfocjgikaaa

open Go

namespace Go.Proofs.Ytngpbfocjgikaaa

set_option linter.unusedSimpArgs false

set_option linter.unusedVariables false

set_option maxHeartbeats 0

set_option maxRecDepth 100000

theorem u_lo (x : Int) : 0 ≤ IntKind.u64.wrap x := by rw [IntKind.wrap_u64]; omega

theorem r65_lo0 (a b c d : Int) : 0 ≤ r65.v0 a b c d := by unfold r65.v0; exact Int.emod_nonneg _ (by decide)

theorem r65_lo1 (b d : Int) : 0 ≤ r65.v1 b d := by unfold r65.v1; exact Int.emod_nonneg _ (by decide)

inductive L81a.O where
  | e0 (a0 : Int) (a1 : Int) (a2 : Int) (a3 : Int)

noncomputable def L81a.T (xh : Int) (xl : Int) (xn : Bool) (yh : Int) (yl : Int) (yn : Bool) (i : Int) (qh : Int) (ql : Int) (rh : Int) (rl : Int) : List AV := mkT 58 [(2, AV.ptr 0 1 3 0 0), (3, AV.ptr 1 1 3 0 0), (4, AV.ptr 2 1 3 0 0), (5, AV.ptr 3 1 3 0 0), (6, AV.ptr 4 1 3 0 0), (7, AV.ptr 5 1 3 0 0), (8, AV.int IntKind.i64 i)]

noncomputable def L81a.H (xh : Int) (xl : Int) (xn : Bool) (yh : Int) (yl : Int) (yn : Bool) (i : Int) (qh : Int) (ql : Int) (rh : Int) (rl : Int) : AHeap := [AObj.var (AV.agg [AV.int IntKind.u64 xh, AV.int IntKind.u64 xl, AV.bool xn]), AObj.var (AV.agg [AV.int IntKind.u64 yh, AV.int IntKind.u64 yl, AV.bool yn]), AObj.var (AV.agg [AV.int IntKind.u64 0, AV.int IntKind.u64 0, AV.bool false]), AObj.var (AV.agg [AV.int IntKind.u64 0, AV.int IntKind.u64 0, AV.bool false]), AObj.var (AV.agg [AV.int IntKind.u64 qh, AV.int IntKind.u64 ql, AV.bool false]), AObj.var (AV.agg [AV.int IntKind.u64 rh, AV.int IntKind.u64 rl, AV.bool false])]

def L81a.inv (xh : Int) (xl : Int) (xn : Bool) (yh : Int) (yl : Int) (yn : Bool) (i : Int) (qh : Int) (ql : Int) (rh : Int) (rl : Int) : Prop := ((-1 ≤ i ∧ i ≤ 127) ∧ 0 ≤ rh) ∧ 0 ≤ rl

noncomputable def L81a.mu (xh : Int) (xl : Int) (xn : Bool) (yh : Int) (yl : Int) (yn : Bool) (i : Int) (qh : Int) (ql : Int) (rh : Int) (rl : Int) : Nat := (i + 1).toNat

noncomputable def L81a.E : L81a.O → Exit
  | .e0 a0 a1 a2 a3 => Exit.exit 0

noncomputable def L81a.X (xh : Int) (xl : Int) (xn : Bool) (yh : Int) (yl : Int) (yn : Bool) : L81a.O → List AV
  | .e0 a0 a1 a2 a3 => mkT 58 [(4, (AV.ptr 2 1 3 0 0)), (5, (AV.ptr 3 1 3 0 0)), (6, (AV.ptr 4 1 3 0 0)), (7, (AV.ptr 5 1 3 0 0))]

noncomputable def L81a.XH (xh : Int) (xl : Int) (xn : Bool) (yh : Int) (yl : Int) (yn : Bool) : L81a.O → AHeap
  | .e0 a0 a1 a2 a3 => ((AObj.var (AV.agg [AV.int IntKind.u64 xh, AV.int IntKind.u64 xl, AV.bool xn])) :: ((AObj.var (AV.agg [AV.int IntKind.u64 yh, AV.int IntKind.u64 yl, AV.bool yn])) :: ((AObj.var (AV.agg [AV.int IntKind.u64 0, AV.int IntKind.u64 0, AV.bool false])) :: ((AObj.var (AV.agg [AV.int IntKind.u64 0, AV.int IntKind.u64 0, AV.bool false])) :: ((AObj.var (AV.agg ((AV.int IntKind.u64 a0) :: ((AV.int IntKind.u64 a1) :: ([AV.bool false]))))) :: ((AObj.var (AV.agg ((AV.int IntKind.u64 a2) :: ((AV.int IntKind.u64 a3) :: ([AV.bool false]))))) :: ([])))))))

noncomputable def L81a.N (xh : Int) (xl : Int) (yh : Int) (yl : Int) : Nat → Int → Int → Int → Int → Int → L81a.O
  | 0, _, qh, ql, rh, rl => .e0 qh ql rh rl
  | k_ + 1, i, qh, ql, rh, rl => (bif decide (i ≥ 0) then (bif r83.v yh yl (IntKind.u64.wrap (↑(BitVec.ofInt 64 (IntKind.u64.wrap (rh * 2)) ||| BitVec.ofInt 64 (rl.fdiv 9223372036854775808)).toNat : Int)) (IntKind.u64.wrap (↑(BitVec.ofInt 64 (IntKind.u64.wrap (rl * 2)) ||| BitVec.ofInt 64 (r99.v xh xl i)).toNat : Int)) then (L81a.N xh xl yh yl k_ (IntKind.i64.wrap (i - 1)) (IntKind.u64.wrap (↑(BitVec.ofInt 64 (IntKind.u64.wrap (qh * 2)) ||| BitVec.ofInt 64 (ql.fdiv 9223372036854775808)).toNat : Int)) (IntKind.u64.wrap (ql * 2)) (IntKind.u64.wrap (↑(BitVec.ofInt 64 (IntKind.u64.wrap (rh * 2)) ||| BitVec.ofInt 64 (rl.fdiv 9223372036854775808)).toNat : Int)) (IntKind.u64.wrap (↑(BitVec.ofInt 64 (IntKind.u64.wrap (rl * 2)) ||| BitVec.ofInt 64 (r99.v xh xl i)).toNat : Int))) else (L81a.N xh xl yh yl k_ (IntKind.i64.wrap (i - 1)) (IntKind.u64.wrap (↑(BitVec.ofInt 64 (IntKind.u64.wrap (qh * 2)) ||| BitVec.ofInt 64 (ql.fdiv 9223372036854775808)).toNat : Int)) (IntKind.u64.wrap (↑(BitVec.ofInt 64 (IntKind.u64.wrap (ql * 2)) ||| BitVec.ofInt 64 1).toNat : Int)) (r65.v0 (IntKind.u64.wrap (↑(BitVec.ofInt 64 (IntKind.u64.wrap (rh * 2)) ||| BitVec.ofInt 64 (rl.fdiv 9223372036854775808)).toNat : Int)) (IntKind.u64.wrap (↑(BitVec.ofInt 64 (IntKind.u64.wrap (rl * 2)) ||| BitVec.ofInt 64 (r99.v xh xl i)).toNat : Int)) yh yl) (r65.v1 (IntKind.u64.wrap (↑(BitVec.ofInt 64 (IntKind.u64.wrap (rl * 2)) ||| BitVec.ofInt 64 (r99.v xh xl i)).toNat : Int)) yl))) else (.e0 (qh) (ql) (rh) (rl)))

noncomputable def L81a.run (xh : Int) (xl : Int) (yh : Int) (yl : Int) (i : Int) (qh : Int) (ql : Int) (rh : Int) (rl : Int) : L81a.O := L81a.N xh xl yh yl (((i + 1).toNat) + 1) i qh ql rh rl

theorem L81a.nx (xh : Int) (xl : Int) (xn : Bool) (yh : Int) (yl : Int) (yn : Bool) {k_ : Nat} {z_ : Int × Int × Int × Int × Int} {h_ : AHeap} (s_ : Int × Int × Int × Int × Int) (h1 : L81a.inv xh xl xn yh yl yn s_.1 s_.2.1 s_.2.2.1 s_.2.2.2.1 s_.2.2.2.2) (h2 : L81a.mu xh xl xn yh yl yn s_.1 s_.2.1 s_.2.2.1 s_.2.2.2.1 s_.2.2.2.2 < L81a.mu xh xl xn yh yl yn z_.1 z_.2.1 z_.2.2.1 z_.2.2.2.1 z_.2.2.2.2) (h3 : L81a.N xh xl yh yl k_ s_.1 s_.2.1 s_.2.2.1 s_.2.2.2.1 s_.2.2.2.2 = L81a.N xh xl yh yl (k_ + 1) z_.1 z_.2.1 z_.2.2.1 z_.2.2.2.1 z_.2.2.2.2) (h4 : PopOk (L81a.H xh xl xn yh yl yn z_.1 z_.2.1 z_.2.2.1 z_.2.2.2.1 z_.2.2.2.2) h_ (L81a.T xh xl xn yh yl yn s_.1 s_.2.1 s_.2.2.1 s_.2.2.2.1 s_.2.2.2.2) (L81a.H xh xl xn yh yl yn s_.1 s_.2.1 s_.2.2.1 s_.2.2.2.1 s_.2.2.2.2)) : LNextP (fun (z_ : Int × Int × Int × Int × Int) => L81a.T xh xl xn yh yl yn z_.1 z_.2.1 z_.2.2.1 z_.2.2.2.1 z_.2.2.2.2) (fun (z_ : Int × Int × Int × Int × Int) => L81a.H xh xl xn yh yl yn z_.1 z_.2.1 z_.2.2.1 z_.2.2.2.1 z_.2.2.2.2) (fun (z_ : Int × Int × Int × Int × Int) => L81a.inv xh xl xn yh yl yn z_.1 z_.2.1 z_.2.2.1 z_.2.2.2.1 z_.2.2.2.2) (fun (z_ : Int × Int × Int × Int × Int) => L81a.mu xh xl xn yh yl yn z_.1 z_.2.1 z_.2.2.1 z_.2.2.2.1 z_.2.2.2.2) (fun (k_ : Nat) (z_ : Int × Int × Int × Int × Int) => L81a.N xh xl yh yl k_ z_.1 z_.2.1 z_.2.2.1 z_.2.2.2.1 z_.2.2.2.2) k_ z_ (L81a.T xh xl xn yh yl yn s_.1 s_.2.1 s_.2.2.1 s_.2.2.2.1 s_.2.2.2.2) h_ := LNextP.mk (Tm := (fun (z_ : Int × Int × Int × Int × Int) => L81a.T xh xl xn yh yl yn z_.1 z_.2.1 z_.2.2.1 z_.2.2.2.1 z_.2.2.2.2)) (Hp := (fun (z_ : Int × Int × Int × Int × Int) => L81a.H xh xl xn yh yl yn z_.1 z_.2.1 z_.2.2.1 z_.2.2.2.1 z_.2.2.2.2)) (inv := (fun (z_ : Int × Int × Int × Int × Int) => L81a.inv xh xl xn yh yl yn z_.1 z_.2.1 z_.2.2.1 z_.2.2.2.1 z_.2.2.2.2)) (mu := (fun (z_ : Int × Int × Int × Int × Int) => L81a.mu xh xl xn yh yl yn z_.1 z_.2.1 z_.2.2.1 z_.2.2.2.1 z_.2.2.2.2)) (l := (fun (k_ : Nat) (z_ : Int × Int × Int × Int × Int) => L81a.N xh xl yh yl k_ z_.1 z_.2.1 z_.2.2.1 z_.2.2.2.1 z_.2.2.2.2)) s_ h1 h2 h3 h4

theorem L81a.en (xh : Int) (xl : Int) (xn : Bool) (yh : Int) (yl : Int) (yn : Bool) {k_ : Nat} {z_ : Int × Int × Int × Int × Int} {h_ : AHeap} (o_ : L81a.O) (h3 : L81a.N xh xl yh yl (k_ + 1) z_.1 z_.2.1 z_.2.2.1 z_.2.2.2.1 z_.2.2.2.2 = o_) (h4 : PopOk (L81a.H xh xl xn yh yl yn z_.1 z_.2.1 z_.2.2.1 z_.2.2.2.1 z_.2.2.2.2) h_ (L81a.X xh xl xn yh yl yn o_) (L81a.XH xh xl xn yh yl yn o_)) : LEndP (fun (z_ : Int × Int × Int × Int × Int) => L81a.H xh xl xn yh yl yn z_.1 z_.2.1 z_.2.2.1 z_.2.2.2.1 z_.2.2.2.2) (fun (k_ : Nat) (z_ : Int × Int × Int × Int × Int) => L81a.N xh xl yh yl k_ z_.1 z_.2.1 z_.2.2.1 z_.2.2.2.1 z_.2.2.2.2) L81a.E (L81a.X xh xl xn yh yl yn) (L81a.XH xh xl xn yh yl yn) k_ z_ (L81a.E o_) (L81a.X xh xl xn yh yl yn o_) h_ := LEndP.mk (Hp := (fun (z_ : Int × Int × Int × Int × Int) => L81a.H xh xl xn yh yl yn z_.1 z_.2.1 z_.2.2.1 z_.2.2.2.1 z_.2.2.2.2)) (l := (fun (k_ : Nat) (z_ : Int × Int × Int × Int × Int) => L81a.N xh xl yh yl k_ z_.1 z_.2.1 z_.2.2.1 z_.2.2.2.1 z_.2.2.2.2)) (oE := L81a.E) (oT := L81a.X xh xl xn yh yl yn) (oH := L81a.XH xh xl xn yh yl yn) o_ h3 h4

noncomputable abbrev L81a.h0 (xh : Int) (xl : Int) (xn : Bool) (yh : Int) (yl : Int) (yn : Bool) (i : Int) (qh : Int) (ql : Int) (rh : Int) (rl : Int) : AHeap := ([AObj.var (AV.agg [AV.int IntKind.u64 xh, AV.int IntKind.u64 xl, AV.bool xn]), AObj.var (AV.agg [AV.int IntKind.u64 yh, AV.int IntKind.u64 yl, AV.bool yn]), AObj.var (AV.agg [AV.int IntKind.u64 0, AV.int IntKind.u64 0, AV.bool false]), AObj.var (AV.agg [AV.int IntKind.u64 0, AV.int IntKind.u64 0, AV.bool false]), AObj.var (AV.agg [AV.int IntKind.u64 qh, AV.int IntKind.u64 ql, AV.bool false]), AObj.var (AV.agg [AV.int IntKind.u64 rh, AV.int IntKind.u64 rl, AV.bool false])])

noncomputable abbrev L81a.h1 (xh : Int) (xl : Int) (xn : Bool) (yh : Int) (yl : Int) (yn : Bool) (i : Int) (qh : Int) (ql : Int) (rh : Int) (rl : Int) : AHeap := ([AObj.var (AV.agg [AV.int IntKind.u64 xh, AV.int IntKind.u64 xl, AV.bool xn]), AObj.var (AV.agg [AV.int IntKind.u64 yh, AV.int IntKind.u64 yl, AV.bool yn]), AObj.var (AV.agg [AV.int IntKind.u64 0, AV.int IntKind.u64 0, AV.bool false]), AObj.var (AV.agg [AV.int IntKind.u64 0, AV.int IntKind.u64 0, AV.bool false]), AObj.var (AV.agg [AV.int IntKind.u64 (IntKind.u64.wrap (↑(BitVec.ofInt 64 (IntKind.u64.wrap (qh * 2)) ||| BitVec.ofInt 64 (ql.fdiv 9223372036854775808)).toNat : Int)), AV.int IntKind.u64 (IntKind.u64.wrap (ql * 2)), AV.bool false]), AObj.var (AV.agg [AV.int IntKind.u64 (IntKind.u64.wrap (↑(BitVec.ofInt 64 (IntKind.u64.wrap (rh * 2)) ||| BitVec.ofInt 64 (rl.fdiv 9223372036854775808)).toNat : Int)), AV.int IntKind.u64 (IntKind.u64.wrap (↑(BitVec.ofInt 64 (IntKind.u64.wrap (rl * 2)) ||| BitVec.ofInt 64 (r99.v xh xl i)).toNat : Int)), AV.bool false])])

theorem L81a.spec (xh : Int) (xl : Int) (xn : Bool) (yh : Int) (yl : Int) (yn : Bool) (b3 : 0 ≤ yh) (b4 : yh ≤ 18446744073709551615) (b5 : 0 ≤ yl) (b6 : yl ≤ 18446744073709551615) (k_ : Nat) (z_ : Int × Int × Int × Int × Int) (hi_ : L81a.inv xh xl xn yh yl yn z_.1 z_.2.1 z_.2.2.1 z_.2.2.2.1 z_.2.2.2.2) (hm_ : L81a.mu xh xl xn yh yl yn z_.1 z_.2.1 z_.2.2.1 z_.2.2.2.1 z_.2.2.2.2 < k_) : LoopTo Try.prog (loopN Try.f81 0) (L81a.T xh xl xn yh yl yn z_.1 z_.2.1 z_.2.2.1 z_.2.2.2.1 z_.2.2.2.2) (L81a.H xh xl xn yh yl yn z_.1 z_.2.1 z_.2.2.1 z_.2.2.2.1 z_.2.2.2.2) (L81a.E (L81a.N xh xl yh yl k_ z_.1 z_.2.1 z_.2.2.1 z_.2.2.2.1 z_.2.2.2.2)) (L81a.X xh xl xn yh yl yn (L81a.N xh xl yh yl k_ z_.1 z_.2.1 z_.2.2.1 z_.2.2.2.1 z_.2.2.2.2)) (L81a.XH xh xl xn yh yl yn (L81a.N xh xl yh yl k_ z_.1 z_.2.1 z_.2.2.1 z_.2.2.2.1 z_.2.2.2.2)) := by
  refine LoopTo.fuelP mix (fun (z_ : Int × Int × Int × Int × Int) => L81a.T xh xl xn yh yl yn z_.1 z_.2.1 z_.2.2.1 z_.2.2.2.1 z_.2.2.2.2) (fun (z_ : Int × Int × Int × Int × Int) => L81a.H xh xl xn yh yl yn z_.1 z_.2.1 z_.2.2.1 z_.2.2.2.1 z_.2.2.2.2) (fun (z_ : Int × Int × Int × Int × Int) => L81a.inv xh xl xn yh yl yn z_.1 z_.2.1 z_.2.2.1 z_.2.2.2.1 z_.2.2.2.2) (fun (z_ : Int × Int × Int × Int × Int) => L81a.mu xh xl xn yh yl yn z_.1 z_.2.1 z_.2.2.1 z_.2.2.2.1 z_.2.2.2.2) (fun (k_ : Nat) (z_ : Int × Int × Int × Int × Int) => L81a.N xh xl yh yl k_ z_.1 z_.2.1 z_.2.2.1 z_.2.2.2.1 z_.2.2.2.2) L81a.E (L81a.X xh xl xn yh yl yn) (L81a.XH xh xl xn yh yl yn) (others 58 [2, 3, 4, 5, 6, 7, 8]) (others 58 [4, 5]) (others 58 [4, 5, 6, 7]) ?_ k_ z_ hi_ hm_
  clear hm_ hi_ z_ k_
  intro k_ z_ hinv hmu
  obtain ⟨i, qh, ql, rh, rl⟩ := z_
  have hinv : ((-1 ≤ i ∧ i ≤ 127) ∧ 0 ≤ rh) ∧ 0 ≤ rl := hinv
  have hmu : ((i + 1).toNat) < k_ + 1 := hmu
  cases h1 : decide (i ≥ 0) with
  | true =>
    have h1p := of_decide_eq_true h1
    have o0 : (0 : Int) ≤ i := by first | assumption | omega | (simp_all; done)
    have o1 : i ≤ (127 : Int) := by first | assumption | omega | (simp_all; done)
    cases h2 : r83.v yh yl (IntKind.u64.wrap (↑(BitVec.ofInt 64 (IntKind.u64.wrap (rh * 2)) ||| BitVec.ofInt 64 (rl.fdiv 9223372036854775808)).toNat : Int)) (IntKind.u64.wrap (↑(BitVec.ofInt 64 (IntKind.u64.wrap (rl * 2)) ||| BitVec.ofInt 64 (r99.v xh xl i)).toNat : Int)) with
    | true =>
      try have := IntWalk.i64_in (i - 1) (by omega)
      have o2 : (-1 : Int) ≤ IntKind.i64.wrap (i - (1 : Int)) := by first | assumption | omega | (simp_all; done)
      have o3 : IntKind.i64.wrap (i - (1 : Int)) ≤ (127 : Int) := by first | assumption | omega | (simp_all; done)
      try have := IntWalk.u64_in (rh * 2) (by omega)
      try have := IntWalk.u64_in ((↑(BitVec.ofInt 64 (IntKind.u64.wrap (rh * 2)) ||| BitVec.ofInt 64 (rl.fdiv 9223372036854775808)).toNat : Int)) (by omega)
      have o4 : (0 : Int) ≤ IntKind.u64.wrap (↑(BitVec.ofInt (64 : Nat) (IntKind.u64.wrap (rh * (2 : Int))) ||| BitVec.ofInt (64 : Nat) (rl.fdiv (9223372036854775808 : Int))).toNat : Int) := by first | assumption | omega | (apply u_lo <;> first | assumption | omega) | (simp_all; done)
      try have := IntWalk.u64_in (rl * 2) (by omega)
      try have := IntWalk.u64_in ((↑(BitVec.ofInt 64 (IntKind.u64.wrap (rl * 2)) ||| BitVec.ofInt 64 (r99.v xh xl i)).toNat : Int)) (by omega)
      have o5 : (0 : Int) ≤ IntKind.u64.wrap (↑(BitVec.ofInt (64 : Nat) (IntKind.u64.wrap (rl * (2 : Int))) ||| BitVec.ofInt (64 : Nat) (r99.v xh xl i)).toNat : Int) := by first | assumption | omega | (apply u_lo <;> first | assumption | omega) | (simp_all; done)
      have o6 : (IntKind.i64.wrap (i - (1 : Int)) + (1 : Int)).toNat < (i + (1 : Int)).toNat := by first | assumption | omega | (simp_all; done)
      exact ⟨[.b true, .ret (AV.int IntKind.u64 (r99.v xh xl i)) (L81a.h0 xh xl xn yh yl yn i qh ql rh rl), .ret (AV.bool (r83.v yh yl (IntKind.u64.wrap (↑(BitVec.ofInt 64 (IntKind.u64.wrap (rh * 2)) ||| BitVec.ofInt 64 (rl.fdiv 9223372036854775808)).toNat : Int)) (IntKind.u64.wrap (↑(BitVec.ofInt 64 (IntKind.u64.wrap (rl * 2)) ||| BitVec.ofInt 64 (r99.v xh xl i)).toNat : Int)))) (L81a.h1 xh xl xn yh yl yn i qh ql rh rl), .b false], kmp (by kernel_rfl) (And.intro h1 (And.intro (show Int.NonNeg (1 : Int) by first | decide | exact Int.NonNeg.mk _) (And.intro (show Int.NonNeg (63 : Int) by first | decide | exact Int.NonNeg.mk _) (And.intro (show Int.NonNeg (1 : Int) by first | decide | exact Int.NonNeg.mk _) (And.intro (r99 (xh) (xl) (xn) (i) o0 o1 (L81a.h0 xh xl xn yh yl yn i qh ql rh rl)) (And.intro (show Int.NonNeg (1 : Int) by first | decide | exact Int.NonNeg.mk _) (And.intro (show Int.NonNeg (63 : Int) by first | decide | exact Int.NonNeg.mk _) (And.intro (show Int.NonNeg (1 : Int) by first | decide | exact Int.NonNeg.mk _) (And.intro (r83 (yh) (yl) (yn) (IntKind.u64.wrap (↑(BitVec.ofInt 64 (IntKind.u64.wrap (rh * 2)) ||| BitVec.ofInt 64 (rl.fdiv 9223372036854775808)).toNat : Int)) (IntKind.u64.wrap (↑(BitVec.ofInt 64 (IntKind.u64.wrap (rl * 2)) ||| BitVec.ofInt 64 (r99.v xh xl i)).toNat : Int)) (false) (L81a.h1 xh xl xn yh yl yn i qh ql rh rl)) (And.intro (show (bnot (r83.v yh yl (IntKind.u64.wrap (↑(BitVec.ofInt 64 (IntKind.u64.wrap (rh * 2)) ||| BitVec.ofInt 64 (rl.fdiv 9223372036854775808)).toNat : Int)) (IntKind.u64.wrap (↑(BitVec.ofInt 64 (IntKind.u64.wrap (rl * 2)) ||| BitVec.ofInt 64 (r99.v xh xl i)).toNat : Int)))) = false by rw [h2]; try rfl) (L81a.nx xh xl xn yh yl yn (k_ := k_) (z_ := (i, qh, ql, rh, rl)) ((IntKind.i64.wrap (i - 1), IntKind.u64.wrap (↑(BitVec.ofInt 64 (IntKind.u64.wrap (qh * 2)) ||| BitVec.ofInt 64 (ql.fdiv 9223372036854775808)).toNat : Int), IntKind.u64.wrap (ql * 2), IntKind.u64.wrap (↑(BitVec.ofInt 64 (IntKind.u64.wrap (rh * 2)) ||| BitVec.ofInt 64 (rl.fdiv 9223372036854775808)).toNat : Int), IntKind.u64.wrap (↑(BitVec.ofInt 64 (IntKind.u64.wrap (rl * 2)) ||| BitVec.ofInt 64 (r99.v xh xl i)).toNat : Int))) (And.intro (And.intro (And.intro o2 o3) o4) o5) o6 (by first | (simp only [L81a.N, h1, h2, cond_true, cond_false]; done) | (try unfold L81a.N; try simp only [h1, cond_true, cond_false]; try simp only [h2, cond_true, cond_false]; try rfl; done)) PopOk.same)))))))))))⟩
    | false =>
      try have := IntWalk.u64_in (rh * 2) (by omega)
      try have := IntWalk.u64_in ((↑(BitVec.ofInt 64 (IntKind.u64.wrap (rh * 2)) ||| BitVec.ofInt 64 (rl.fdiv 9223372036854775808)).toNat : Int)) (by omega)
      have o4 : (0 : Int) ≤ IntKind.u64.wrap (↑(BitVec.ofInt (64 : Nat) (IntKind.u64.wrap (rh * (2 : Int))) ||| BitVec.ofInt (64 : Nat) (rl.fdiv (9223372036854775808 : Int))).toNat : Int) := by first | assumption | omega | (apply u_lo <;> first | assumption | omega) | (simp_all; done)
      try have := IntWalk.u64_in (rl * 2) (by omega)
      try have := IntWalk.u64_in ((↑(BitVec.ofInt 64 (IntKind.u64.wrap (rl * 2)) ||| BitVec.ofInt 64 (r99.v xh xl i)).toNat : Int)) (by omega)
      have o5 : (0 : Int) ≤ IntKind.u64.wrap (↑(BitVec.ofInt (64 : Nat) (IntKind.u64.wrap (rl * (2 : Int))) ||| BitVec.ofInt (64 : Nat) (r99.v xh xl i)).toNat : Int) := by first | assumption | omega | (apply u_lo <;> first | assumption | omega) | (simp_all; done)
      have o7 : (0 : Int) ≤ yh := by first | assumption | omega | (simp_all; done)
      have o8 : yh ≤ (18446744073709551615 : Int) := by first | assumption | omega | (simp_all; done)
      have o9 : (0 : Int) ≤ yl := by first | assumption | omega | (simp_all; done)
      have o10 : yl ≤ (18446744073709551615 : Int) := by first | assumption | omega | (simp_all; done)
      have o11 : r83.v yh yl (IntKind.u64.wrap (↑(BitVec.ofInt (64 : Nat) (IntKind.u64.wrap (rh * (2 : Int))) ||| BitVec.ofInt (64 : Nat) (rl.fdiv (9223372036854775808 : Int))).toNat : Int)) (IntKind.u64.wrap (↑(BitVec.ofInt (64 : Nat) (IntKind.u64.wrap (rl * (2 : Int))) ||| BitVec.ofInt (64 : Nat) (r99.v xh xl i)).toNat : Int)) = false := by first | assumption | omega | (simp_all; done)
      try have := IntWalk.i64_in (i - 1) (by omega)
      have o2 : (-1 : Int) ≤ IntKind.i64.wrap (i - (1 : Int)) := by first | assumption | omega | (simp_all; done)
      have o3 : IntKind.i64.wrap (i - (1 : Int)) ≤ (127 : Int) := by first | assumption | omega | (simp_all; done)
      have o12 : (0 : Int) ≤ r65.v0 (IntKind.u64.wrap (↑(BitVec.ofInt (64 : Nat) (IntKind.u64.wrap (rh * (2 : Int))) ||| BitVec.ofInt (64 : Nat) (rl.fdiv (9223372036854775808 : Int))).toNat : Int)) (IntKind.u64.wrap (↑(BitVec.ofInt (64 : Nat) (IntKind.u64.wrap (rl * (2 : Int))) ||| BitVec.ofInt (64 : Nat) (r99.v xh xl i)).toNat : Int)) yh yl := by first | assumption | omega | (apply r65_lo0 <;> first | assumption | omega) | (simp_all; done)
      have o13 : (0 : Int) ≤ r65.v1 (IntKind.u64.wrap (↑(BitVec.ofInt (64 : Nat) (IntKind.u64.wrap (rl * (2 : Int))) ||| BitVec.ofInt (64 : Nat) (r99.v xh xl i)).toNat : Int)) yl := by first | assumption | omega | (apply r65_lo1 <;> first | assumption | omega) | (simp_all; done)
      have o6 : (IntKind.i64.wrap (i - (1 : Int)) + (1 : Int)).toNat < (i + (1 : Int)).toNat := by first | assumption | omega | (simp_all; done)
      exact ⟨[.b true, .ret (AV.int IntKind.u64 (r99.v xh xl i)) (L81a.h0 xh xl xn yh yl yn i qh ql rh rl), .ret (AV.bool (r83.v yh yl (IntKind.u64.wrap (↑(BitVec.ofInt 64 (IntKind.u64.wrap (rh * 2)) ||| BitVec.ofInt 64 (rl.fdiv 9223372036854775808)).toNat : Int)) (IntKind.u64.wrap (↑(BitVec.ofInt 64 (IntKind.u64.wrap (rl * 2)) ||| BitVec.ofInt 64 (r99.v xh xl i)).toNat : Int)))) (L81a.h1 xh xl xn yh yl yn i qh ql rh rl), .b true, .ret (AV.agg [AV.int IntKind.u64 (r65.v0 (IntKind.u64.wrap (↑(BitVec.ofInt 64 (IntKind.u64.wrap (rh * 2)) ||| BitVec.ofInt 64 (rl.fdiv 9223372036854775808)).toNat : Int)) (IntKind.u64.wrap (↑(BitVec.ofInt 64 (IntKind.u64.wrap (rl * 2)) ||| BitVec.ofInt 64 (r99.v xh xl i)).toNat : Int)) yh yl), AV.int IntKind.u64 (r65.v1 (IntKind.u64.wrap (↑(BitVec.ofInt 64 (IntKind.u64.wrap (rl * 2)) ||| BitVec.ofInt 64 (r99.v xh xl i)).toNat : Int)) yl), AV.bool false]) (L81a.h1 xh xl xn yh yl yn i qh ql rh rl)], kmp (by kernel_rfl) (And.intro h1 (And.intro (show Int.NonNeg (1 : Int) by first | decide | exact Int.NonNeg.mk _) (And.intro (show Int.NonNeg (63 : Int) by first | decide | exact Int.NonNeg.mk _) (And.intro (show Int.NonNeg (1 : Int) by first | decide | exact Int.NonNeg.mk _) (And.intro (r99 (xh) (xl) (xn) (i) o0 o1 (L81a.h0 xh xl xn yh yl yn i qh ql rh rl)) (And.intro (show Int.NonNeg (1 : Int) by first | decide | exact Int.NonNeg.mk _) (And.intro (show Int.NonNeg (63 : Int) by first | decide | exact Int.NonNeg.mk _) (And.intro (show Int.NonNeg (1 : Int) by first | decide | exact Int.NonNeg.mk _) (And.intro (r83 (yh) (yl) (yn) (IntKind.u64.wrap (↑(BitVec.ofInt 64 (IntKind.u64.wrap (rh * 2)) ||| BitVec.ofInt 64 (rl.fdiv 9223372036854775808)).toNat : Int)) (IntKind.u64.wrap (↑(BitVec.ofInt 64 (IntKind.u64.wrap (rl * 2)) ||| BitVec.ofInt 64 (r99.v xh xl i)).toNat : Int)) (false) (L81a.h1 xh xl xn yh yl yn i qh ql rh rl)) (And.intro (show (bnot (r83.v yh yl (IntKind.u64.wrap (↑(BitVec.ofInt 64 (IntKind.u64.wrap (rh * 2)) ||| BitVec.ofInt 64 (rl.fdiv 9223372036854775808)).toNat : Int)) (IntKind.u64.wrap (↑(BitVec.ofInt 64 (IntKind.u64.wrap (rl * 2)) ||| BitVec.ofInt 64 (r99.v xh xl i)).toNat : Int)))) = true by rw [h2]; try rfl) (And.intro (r65 (IntKind.u64.wrap (↑(BitVec.ofInt 64 (IntKind.u64.wrap (rh * 2)) ||| BitVec.ofInt 64 (rl.fdiv 9223372036854775808)).toNat : Int)) (IntKind.u64.wrap (↑(BitVec.ofInt 64 (IntKind.u64.wrap (rl * 2)) ||| BitVec.ofInt 64 (r99.v xh xl i)).toNat : Int)) (yh) (yl) o4 o5 o7 o8 o9 o10 o11 (L81a.h1 xh xl xn yh yl yn i qh ql rh rl)) (L81a.nx xh xl xn yh yl yn (k_ := k_) (z_ := (i, qh, ql, rh, rl)) ((IntKind.i64.wrap (i - 1), IntKind.u64.wrap (↑(BitVec.ofInt 64 (IntKind.u64.wrap (qh * 2)) ||| BitVec.ofInt 64 (ql.fdiv 9223372036854775808)).toNat : Int), IntKind.u64.wrap (↑(BitVec.ofInt 64 (IntKind.u64.wrap (ql * 2)) ||| BitVec.ofInt 64 1).toNat : Int), r65.v0 (IntKind.u64.wrap (↑(BitVec.ofInt 64 (IntKind.u64.wrap (rh * 2)) ||| BitVec.ofInt 64 (rl.fdiv 9223372036854775808)).toNat : Int)) (IntKind.u64.wrap (↑(BitVec.ofInt 64 (IntKind.u64.wrap (rl * 2)) ||| BitVec.ofInt 64 (r99.v xh xl i)).toNat : Int)) yh yl, r65.v1 (IntKind.u64.wrap (↑(BitVec.ofInt 64 (IntKind.u64.wrap (rl * 2)) ||| BitVec.ofInt 64 (r99.v xh xl i)).toNat : Int)) yl)) (And.intro (And.intro (And.intro o2 o3) o12) o13) o6 (by first | (simp only [L81a.N, h1, h2, cond_true, cond_false]; done) | (try unfold L81a.N; try simp only [h1, cond_true, cond_false]; try simp only [h2, cond_true, cond_false]; try rfl; done)) PopOk.same))))))))))))⟩
  | false =>
    have h1p := of_decide_eq_false h1
    exact ⟨[.b false], kmp (by kernel_rfl) (And.intro h1 (L81a.en xh xl xn yh yl yn (k_ := k_) (z_ := (i, qh, ql, rh, rl)) (.e0 (qh) (ql) (rh) (rl) : L81a.O) (by first | (simp only [L81a.N, h1, cond_true, cond_false]; done) | (try unfold L81a.N; try simp only [h1, cond_true, cond_false]; try rfl; done)) PopOk.same))⟩

theorem L81a.e0 (xh : Int) (xl : Int) (xn : Bool) (yh : Int) (yl : Int) (yn : Bool) (b3 : 0 ≤ yh) (b4 : yh ≤ 18446744073709551615) (b5 : 0 ≤ yl) (b6 : yl ≤ 18446744073709551615) (i : Int) (qh : Int) (ql : Int) (rh : Int) (rl : Int) (hinv : L81a.inv xh xl xn yh yl yn i qh ql rh rl) (a0 : Int) (a1 : Int) (a2 : Int) (a3 : Int) (hN : L81a.run xh xl yh yl i qh ql rh rl = (.e0 a0 a1 a2 a3 : L81a.O)) : LoopTo Try.prog (loopN Try.f81 0) (L81a.T xh xl xn yh yl yn i qh ql rh rl) (L81a.H xh xl xn yh yl yn i qh ql rh rl) (Exit.exit 0) (L81a.X xh xl xn yh yl yn (.e0 a0 a1 a2 a3 : L81a.O)) (L81a.XH xh xl xn yh yl yn (.e0 a0 a1 a2 a3 : L81a.O)) := by
  have h_ := L81a.spec xh xl xn yh yl yn b3 b4 b5 b6 (((i + 1).toNat) + 1) (i, qh, ql, rh, rl) hinv (Nat.lt_succ_self _)
  unfold L81a.run at hN
  simp only [hN] at h_
  exact h_

noncomputable def r81.v0 (xh : Int) (xl : Int) (yh : Int) (yl : Int) : Int := (match L81a.run xh xl yh yl 127 0 0 0 0 with | .e0 h1d0 h1d1 h1d2 h1d3 => h1d0 )

noncomputable def r81.v1 (xh : Int) (xl : Int) (yh : Int) (yl : Int) : Int := (match L81a.run xh xl yh yl 127 0 0 0 0 with | .e0 h1d0 h1d1 h1d2 h1d3 => h1d1 )

noncomputable def r81.v2 (xh : Int) (xl : Int) (yh : Int) (yl : Int) : Bool := (match L81a.run xh xl yh yl 127 0 0 0 0 with | .e0 h1d0 h1d1 h1d2 h1d3 => false )

noncomputable def r81.v3 (xh : Int) (xl : Int) (yh : Int) (yl : Int) : Int := (match L81a.run xh xl yh yl 127 0 0 0 0 with | .e0 h1d0 h1d1 h1d2 h1d3 => h1d2 )

noncomputable def r81.v4 (xh : Int) (xl : Int) (yh : Int) (yl : Int) : Int := (match L81a.run xh xl yh yl 127 0 0 0 0 with | .e0 h1d0 h1d1 h1d2 h1d3 => h1d3 )

noncomputable def r81.v5 (xh : Int) (xl : Int) (yh : Int) (yl : Int) : Bool := (match L81a.run xh xl yh yl 127 0 0 0 0 with | .e0 h1d0 h1d1 h1d2 h1d3 => false )

theorem r81 (xh : Int) (xl : Int) (xn : Bool) (yh : Int) (yl : Int) (yn : Bool) (b3 : 0 ≤ yh) (b4 : yh ≤ 18446744073709551615) (b5 : 0 ≤ yl) (b6 : yl ≤ 18446744073709551615) (h : AHeap) : Ret Try.prog 81 ([AV.agg [AV.int IntKind.u64 xh, AV.int IntKind.u64 xl, AV.bool xn], AV.agg [AV.int IntKind.u64 yh, AV.int IntKind.u64 yl, AV.bool yn]]) h (AV.tup [(AV.agg ((AV.int IntKind.u64 (r81.v0 xh xl yh yl)) :: ((AV.int IntKind.u64 (r81.v1 xh xl yh yl)) :: ((AV.bool (r81.v2 xh xl yh yl)) :: [])))), (AV.agg ((AV.int IntKind.u64 (r81.v3 xh xl yh yl)) :: ((AV.int IntKind.u64 (r81.v4 xh xl yh yl)) :: ((AV.bool (r81.v5 xh xl yh yl)) :: []))))]) h := by
  have o0 : (0 : Int) ≤ yh := by first | assumption | omega | (simp_all; done)
  have o1 : yh ≤ (18446744073709551615 : Int) := by first | assumption | omega | (simp_all; done)
  have o2 : (0 : Int) ≤ yl := by first | assumption | omega | (simp_all; done)
  have o3 : yl ≤ (18446744073709551615 : Int) := by first | assumption | omega | (simp_all; done)
  cases h1 : L81a.run xh xl yh yl 127 0 0 0 0 with
  | e0 h1d0 h1d1 h1d2 h1d3 =>
    exact Ret.of_run1 mix [(AV.agg ((AV.int IntKind.u64 (r81.v0 xh xl yh yl)) :: ((AV.int IntKind.u64 (r81.v1 xh xl yh yl)) :: ((AV.bool (r81.v2 xh xl yh yl)) :: [])))), (AV.agg ((AV.int IntKind.u64 (r81.v3 xh xl yh yl)) :: ((AV.int IntKind.u64 (r81.v4 xh xl yh yl)) :: ((AV.bool (r81.v5 xh xl yh yl)) :: []))))] Try.func81 rfl [.loop (others 58 [2, 3, 4, 5, 6, 7, 8]) (Exit.exit 0) (L81a.X xh xl xn yh yl yn (L81a.O.e0 h1d0 h1d1 h1d2 h1d3)) (L81a.XH xh xl xn yh yl yn (L81a.O.e0 h1d0 h1d1 h1d2 h1d3))] (by simp) (by simp) (kmp (by kernel_rfl) (And.intro (L81a.e0 (xh) (xl) (xn) (yh) (yl) (yn) o0 o1 o2 o3 (127) (0) (0) (0) (0) (And.intro (And.intro (And.intro (show (-1 : Int) ≤ (127 : Int) by first | decide | exact Int.NonNeg.mk _) (show (127 : Int) ≤ (127 : Int) by first | decide | exact Int.NonNeg.mk _)) (show (0 : Int) ≤ (0 : Int) by first | decide | exact Int.NonNeg.mk _)) (show (0 : Int) ≤ (0 : Int) by first | decide | exact Int.NonNeg.mk _)) h1d0 h1d1 h1d2 h1d3 h1) (And.intro (And.intro trivial (show (AV.agg [AV.int IntKind.u64 h1d0, AV.int IntKind.u64 h1d1, AV.bool false]) = ((AV.agg ((AV.int IntKind.u64 (r81.v0 xh xl yh yl)) :: ((AV.int IntKind.u64 (r81.v1 xh xl yh yl)) :: ((AV.bool (r81.v2 xh xl yh yl)) :: []))))) by first | (simp only [r81.v0, r81.v1, r81.v2, r81.v3, r81.v4, r81.v5, h1, cond_true, cond_false]; done) | (try unfold r81.v0; try unfold r81.v1; try unfold r81.v2; try unfold r81.v3; try unfold r81.v4; try unfold r81.v5; try simp only [h1, cond_true, cond_false]; try rfl; done) | rfl)) (And.intro (And.intro trivial (show (AV.agg [AV.int IntKind.u64 h1d2, AV.int IntKind.u64 h1d3, AV.bool false]) = ((AV.agg ((AV.int IntKind.u64 (r81.v3 xh xl yh yl)) :: ((AV.int IntKind.u64 (r81.v4 xh xl yh yl)) :: ((AV.bool (r81.v5 xh xl yh yl)) :: []))))) by first | (simp only [r81.v0, r81.v1, r81.v2, r81.v3, r81.v4, r81.v5, h1, cond_true, cond_false]; done) | (try unfold r81.v0; try unfold r81.v1; try unfold r81.v2; try unfold r81.v3; try unfold r81.v4; try unfold r81.v5; try simp only [h1, cond_true, cond_false]; try rfl; done) | rfl)) trivial)))) h

end Go.Proofs.Ytngpbfocjgikaaa

open Go

namespace Go.Proofs.Ytngpbfocjgikaaa

set_option maxHeartbeats 0

set_option maxRecDepth 100000

set_option linter.unusedVariables false

set_option linter.unusedSimpArgs false

theorem or_nat (a b : Nat) (ha : a < 18446744073709551616) (hb : b < 18446744073709551616) : IntKind.u64.wrap (↑(BitVec.ofInt 64 (a : Int) ||| BitVec.ofInt 64 (b : Int)).toNat : Int) = ((a ||| b : Nat) : Int) := u64_or_nat a b ha hb

theorem u64_two (a : Nat) (ha : a < 9223372036854775808) : IntKind.u64.wrap ((a : Int) * 2) = ((2 * a : Nat) : Int) := by
  rw [IntWalk.u64_in _ (by omega)]; omega

theorem or_bit (a b : Nat) (ha : a < 9223372036854775808) (hb : b ≤ 1) : IntKind.u64.wrap (↑(BitVec.ofInt 64 (IntKind.u64.wrap ((a : Int) * 2)) ||| BitVec.ofInt 64 (b : Int)).toNat : Int) = ((2 * a + b : Nat) : Int) := by
  rw [u64_two a ha, or_nat (2 * a) b (by omega) (by omega)]
  have := Nat.two_pow_add_eq_or_of_lt (i := 1) (b := b) (by omega) a
  rw [Nat.pow_one] at this
  rw [← this]

theorem hi_zero (a : Nat) (ha : a < 9223372036854775808) : IntKind.u64.wrap (↑(BitVec.ofInt 64 (IntKind.u64.wrap ((0 : Int) * 2)) ||| BitVec.ofInt 64 ((a : Int).fdiv 9223372036854775808)).toNat : Int) = 0 := by
  have e : (a : Int).fdiv 9223372036854775808 = 0 := by
    rw [Int.fdiv_eq_ediv_of_nonneg _ (by decide)]; omega
  rw [e]
  rfl

theorem bit99 (X i : Nat) (hX : X < 18446744073709551616) (hi : i ≤ 127) : r99.v 0 (X : Int) (i : Int) = ((X / 2 ^ i % 2 : Nat) : Int) := by
  unfold r99.v
  by_cases h : i < 64
  · rw [decide_eq_false (show ¬ (i : Int) ≥ 64 by omega), cond_false, Int.toNat_natCast, Nat.min_eq_left (by omega)]
    have e : (X : Int).fdiv (2 ^ i) = ((X / 2 ^ i : Nat) : Int) := by
      rw [Int.fdiv_eq_ediv_of_nonneg _ (Int.pow_nonneg (by decide)), Int.natCast_ediv]
      simp
    rw [e]
    have hle : X / 2 ^ i < 18446744073709551616 := Nat.lt_of_le_of_lt (Nat.div_le_self _ _) hX
    have := u64_and_nat (X / 2 ^ i) 1 hle (by decide)
    rw [Nat.and_one_is_mod] at this
    exact this
  · rw [decide_eq_true (show (i : Int) ≥ 64 by omega), cond_true]
    have e : X / 2 ^ i = 0 := Nat.div_eq_of_lt (Nat.lt_of_lt_of_le hX (Nat.pow_le_pow_right (n := 2) (by decide) (show 64 ≤ i by omega)))
    rw [e, show ∀ x : Int, (0 : Int).fdiv x = 0 from fun x => Int.zero_fdiv x]
    rfl

theorem div_step {X Y k : Nat} (hY : 0 < Y) :
    (X / 2 ^ k = 2 * (X / 2 ^ (k + 1)) + X / 2 ^ k % 2) ∧
    (2 * (X / 2 ^ (k + 1) % Y) + X / 2 ^ k % 2 < Y → X / 2 ^ k / Y = 2 * (X / 2 ^ (k + 1) / Y) ∧ X / 2 ^ k % Y = 2 * (X / 2 ^ (k + 1) % Y) + X / 2 ^ k % 2) ∧
    (Y ≤ 2 * (X / 2 ^ (k + 1) % Y) + X / 2 ^ k % 2 → X / 2 ^ k / Y = 2 * (X / 2 ^ (k + 1) / Y) + 1 ∧ X / 2 ^ k % Y = 2 * (X / 2 ^ (k + 1) % Y) + X / 2 ^ k % 2 - Y) := by
  have e : X / 2 ^ (k + 1) = X / 2 ^ k / 2 := by rw [Nat.pow_succ, Nat.div_div_eq_div_mul]
  rw [e]
  generalize X / 2 ^ k = B
  have h1 := Nat.div_add_mod (B / 2) Y
  have h2 := Nat.mod_lt (B / 2) hY
  generalize B / 2 / Y = q at *
  generalize B / 2 % Y = r at *
  have h3 : B = 2 * (B / 2) + B % 2 := by omega
  refine ⟨h3, fun h => ?_, fun h => ?_⟩
  · refine (Nat.div_mod_unique hY).2 ⟨?_, h⟩
    have : Y * (2 * q) = 2 * (Y * q) := by rw [Nat.mul_left_comm]
    omega
  · refine (Nat.div_mod_unique hY).2 ⟨?_, by omega⟩
    have : Y * (2 * q + 1) = 2 * (Y * q) + Y := by rw [Nat.mul_add, Nat.mul_one, Nat.mul_left_comm]
    omega

theorem divide_N {X Y : Nat} (hX : X < 18446744073709551616) (hY : 0 < Y) (hY2 : Y ≤ 9223372036854775808) : ∀ (m s : Nat), s ≤ 128 → s < m →
    L81a.N 0 (X : Int) 0 (Y : Int) m ((s : Int) - 1) 0 ((X / 2 ^ s / Y : Nat) : Int) 0 ((X / 2 ^ s % Y : Nat) : Int) = .e0 0 ((X / Y : Nat) : Int) 0 ((X % Y : Nat) : Int) := by
  intro m
  induction m with
  | zero => intro s _ h; omega
  | succ m ih =>
    intro s hs hm
    cases s with
    | zero =>
      simp only [L81a.N]
      rw [decide_eq_false (show ¬ ((0 : Nat) : Int) - 1 ≥ 0 by omega), cond_false, Nat.pow_zero, Nat.div_one]
    | succ k =>
      have ek : ((k + 1 : Nat) : Int) - 1 = (k : Int) := by omega
      rw [ek]
      simp only [L81a.N]
      obtain ⟨d1, d2, d3⟩ := div_step (X := X) (k := k) hY
      have hA : X / 2 ^ (k + 1) < 9223372036854775808 := by
        have h2 : X / 2 ^ (k + 1) ≤ X / 2 ^ 1 := Nat.div_le_div_left (Nat.pow_le_pow_right (by decide) (by omega)) (by decide)
        rw [Nat.pow_one] at h2
        omega
      have hq : X / 2 ^ (k + 1) / Y < 9223372036854775808 := Nat.lt_of_le_of_lt (Nat.div_le_self _ _) hA
      have hr : X / 2 ^ (k + 1) % Y < Y := Nat.mod_lt _ hY
      have hb : X / 2 ^ k % 2 ≤ 1 := by omega
      rw [decide_eq_true (show (k : Int) ≥ 0 by omega), cond_true, bit99 X k hX (by omega), or_bit _ _ (by omega) hb, hi_zero _ (show X / 2 ^ (k + 1) % Y < 9223372036854775808 by omega), hi_zero _ hq, u64_two _ hq,
        show IntKind.i64.wrap ((k : Int) - 1) = (k : Int) - 1 from i64_small (by omega)]
      have e83 : r83.v 0 (Y : Int) 0 ((2 * (X / 2 ^ (k + 1) % Y) + X / 2 ^ k % 2 : Nat) : Int) = decide ((Y : Int) > ((2 * (X / 2 ^ (k + 1) % Y) + X / 2 ^ k % 2 : Nat) : Int)) := by
        unfold r83.v; rfl
      rw [e83]
      by_cases h : 2 * (X / 2 ^ (k + 1) % Y) + X / 2 ^ k % 2 < Y
      · obtain ⟨f1, f2⟩ := d2 h
        rw [decide_eq_true (show (Y : Int) > ((2 * (X / 2 ^ (k + 1) % Y) + X / 2 ^ k % 2 : Nat) : Int) by omega), cond_true, ← f1, ← f2]
        exact ih k (by omega) (by omega)
      · obtain ⟨f1, f2⟩ := d3 (by omega)
        rw [decide_eq_false (show ¬ (Y : Int) > ((2 * (X / 2 ^ (k + 1) % Y) + X / 2 ^ k % 2 : Nat) : Int) by omega), cond_false]
        have o1 := or_nat (2 * (X / 2 ^ (k + 1) / Y)) 1 (by omega) (by decide)
        have o2 := Nat.two_pow_add_eq_or_of_lt (i := 1) (b := 1) (by decide) (X / 2 ^ (k + 1) / Y)
        rw [Nat.pow_one] at o2
        rw [← o2, ← f1] at o1
        have e0 : r65.v0 0 ((2 * (X / 2 ^ (k + 1) % Y) + X / 2 ^ k % 2 : Nat) : Int) 0 (Y : Int) = 0 := by
          unfold r65.v0
          rw [if_neg (by omega)]; rfl
        have e1 : r65.v1 ((2 * (X / 2 ^ (k + 1) % Y) + X / 2 ^ k % 2 : Nat) : Int) (Y : Int) = ((X / 2 ^ k % Y : Nat) : Int) := by
          unfold r65.v1
          rw [f2]; omega
        rw [e0, e1]
        have o3 : IntKind.u64.wrap (↑(BitVec.ofInt 64 ((2 * (X / 2 ^ (k + 1) / Y) : Nat) : Int) ||| BitVec.ofInt 64 1).toNat : Int) = ((X / 2 ^ k / Y : Nat) : Int) := o1
        rw [o3]
        exact ih k (by omega) (by omega)

/-- Of numbers of 64 bits: quotient and remainder. -/
theorem c81 (x : Int) (xn : Bool) (y : Int) (yn : Bool) (b1 : 0 ≤ x) (b2 : x ≤ 18446744073709551615) (b3 : 0 < y) (b4 : y ≤ 9223372036854775808) (h : AHeap) :
    Ret Try.prog 81 [AV.agg [AV.int .u64 0, AV.int .u64 x, AV.bool xn], AV.agg [AV.int .u64 0, AV.int .u64 y, AV.bool yn]] h
      (AV.tup [AV.agg [AV.int .u64 0, AV.int .u64 (x / y), AV.bool false], AV.agg [AV.int .u64 0, AV.int .u64 (x % y), AV.bool false]]) h := by
  obtain ⟨X, rfl⟩ := Int.eq_ofNat_of_zero_le b1
  obtain ⟨Y, rfl⟩ := Int.eq_ofNat_of_zero_le (Int.le_of_lt b3)
  have e : L81a.run 0 (X : Int) 0 (Y : Int) 127 0 0 0 0 = .e0 0 ((X / Y : Nat) : Int) 0 ((X % Y : Nat) : Int) := by
    unfold L81a.run
    have := divide_N (X := X) (Y := Y) (by omega) (by omega) (by omega) (((127 : Int) + 1).toNat + 1) 128 (Nat.le_refl _) (by decide)
    have z : X / 2 ^ 128 = 0 := Nat.div_eq_of_lt (Nat.lt_of_lt_of_le (show X < 2 ^ 64 by omega) (Nat.pow_le_pow_right (by decide) (by decide)))
    rw [z, Nat.zero_div, Nat.zero_mod] at this
    exact this
  have r := r81 0 (X : Int) xn 0 (Y : Int) yn (Int.le_refl _) (by decide) (by omega) (by omega) h
  unfold r81.v0 r81.v1 r81.v2 r81.v3 r81.v4 r81.v5 at r
  rw [e] at r
  rw [Int.natCast_ediv, Int.natCast_emod] at r
  exact r

end Go.Proofs.Ytngpbfocjgikaaa

open Go

namespace Go.Proofs.Ytngpbfocjgikaaa

set_option maxHeartbeats 0

set_option maxRecDepth 100000

set_option linter.unusedVariables false

set_option linter.unusedSimpArgs false

theorem c68 (b : Int) (ng : Bool) (h : AHeap) : Ret Try.prog 68 [AV.agg [AV.int .u64 0, AV.int .u64 b, AV.bool ng]] h (AV.bool (b == 0)) h := r68 0 b ng h

theorem and32 (z : Int) (h0 : 0 ≤ z) (h1 : z < 18446744073709551616) : IntKind.u64.wrap (↑(BitVec.ofInt 64 z &&& BitVec.ofInt 64 4294967295).toNat : Int) = z % 4294967296 := and_low32 z h0 h1

theorem r73_v0 (x y : Int) (hx0 : 0 ≤ x) (hx : x < 18446744073709551616) (hy0 : 0 ≤ y) (hy : y < 18446744073709551616) : r73.v0 x y = x * y / 18446744073709551616 := by
  unfold r73.v0
  have w (n : Int) : 0 ≤ IntKind.u64.wrap n ∧ IntKind.u64.wrap n < 18446744073709551616 := by rw [IntKind.wrap_u64]; omega
  rw [and32 x hx0 hx, and32 y hy0 hy, and32 _ (w _).1 (w _).2]
  simp only [Int.fdiv_eq_ediv_of_nonneg _ (show (0 : Int) ≤ 4294967296 by decide), IntKind.wrap_u64]
  exact mul64_arith x y hx0 hx hy0 hy

theorem size85 {x : Int} (h : -9223372036854775808 ≤ x ∧ x ≤ 9223372036854775807) : r85.v x = (x.natAbs : Int) := size_v h

theorem c63 (x : Int) (hx : -9223372036854775808 ≤ x ∧ x ≤ 9223372036854775807) (h : AHeap) :
    Ret Try.prog 63 [AV.int .i64 x] h (AV.agg [AV.int .u64 0, AV.int .u64 (x.natAbs : Int), AV.bool (decide (x < 0))]) h := by
  have r := r63 x h
  have e1 : r85.v 1 = 1 := size85 (by decide)
  have a0 : r63.v0 x = 0 := by
    unfold r63.v0 r66.v0
    rw [size85 hx, e1, r73_v0 _ _ (by omega) (by omega) (by decide) (by decide)]
    omega
  have a1 : r63.v1 x = (x.natAbs : Int) := by
    unfold r63.v1 r66.v1 r73.v1
    rw [size85 hx, e1, IntWalk.u64_in _ (by omega)]
    omega
  have a2 : r63.v2 x = decide (x < 0) := by
    unfold r63.v2 r66.v2
    by_cases q : x < 0
    · rw [decide_eq_true q]; rfl
    · rw [decide_eq_false q]; rfl
  rw [a0, a1, a2] at r
  exact r

/-- The greatest common divisor. -/
def gc (a b : Int) : Int := (Nat.gcd a.toNat b.toNat : Int)

theorem gc_pos {a b : Int} (h : 0 < a) : 0 < gc a b := by
  have := Nat.gcd_pos_of_pos_left b.toNat (m := a.toNat) (by omega)
  unfold gc; omega

theorem gc_le {a b : Int} (h : 0 < a) (h2 : a ≤ 9223372036854775808) : gc a b ≤ 9223372036854775808 := by
  have := Nat.gcd_le_left b.toNat (m := a.toNat) (by omega)
  unfold gc; omega

theorem em_0 {a b : Int} (h0 : 0 ≤ b) (h : ¬ b = 0) : 0 ≤ a % b := Int.emod_nonneg _ h

theorem em_lt {a b : Int} (h0 : 0 ≤ b) (h : ¬ b = 0) : (a % b).toNat < b.toNat := by
  have := Int.emod_lt_of_pos a (show 0 < b by omega)
  have := Int.emod_nonneg a h
  omega

theorem em_hi {a b : Int} (h0 : 0 ≤ b) (h : ¬ b = 0) (h1 : b ≤ 9223372036854775808) : a % b ≤ 9223372036854775808 := by
  have := Int.emod_lt_of_pos a (show 0 < b by omega)
  omega

end Go.Proofs.Ytngpbfocjgikaaa

open Go

namespace Go.Proofs.Ytngpbfocjgikaaa

set_option linter.unusedSimpArgs false

set_option linter.unusedVariables false

set_option maxHeartbeats 0

set_option maxRecDepth 100000

inductive L80a.O where
  | e0 (a0 : Int) (a1 : Int)

noncomputable def L80a.T (a : Int) (b : Int) : List AV := mkT 23 [(2, AV.ptr 0 1 3 0 0), (3, AV.ptr 1 1 3 0 0), (4, AV.ptr 2 1 3 0 0)]

noncomputable def L80a.H (a : Int) (b : Int) : AHeap := [AObj.var (AV.agg [AV.int IntKind.u64 0, AV.int IntKind.u64 a, AV.bool false]), AObj.var (AV.agg [AV.int IntKind.u64 0, AV.int IntKind.u64 b, AV.bool false]), AObj.var (AV.agg [AV.int IntKind.u64 0, AV.int IntKind.u64 0, AV.bool false])]

def L80a.inv (a : Int) (b : Int) : Prop := (0 ≤ a ∧ a ≤ 18446744073709551615) ∧ 0 ≤ b ∧ b ≤ 9223372036854775808

noncomputable def L80a.mu (a : Int) (b : Int) : Nat := b.toNat

noncomputable def L80a.E : L80a.O → Exit
  | .e0 a0 a1 => Exit.exit 0

noncomputable def L80a.X : L80a.O → List AV
  | .e0 a0 a1 => mkT 23 [(2, (AV.ptr 0 1 3 0 0)), (4, (AV.ptr 2 1 3 0 0))]

noncomputable def L80a.XH : L80a.O → AHeap
  | .e0 a0 a1 => ((AObj.var (AV.agg ((AV.int IntKind.u64 0) :: ((AV.int IntKind.u64 a0) :: ([AV.bool false]))))) :: ((AObj.var (AV.agg ((AV.int IntKind.u64 0) :: ((AV.int IntKind.u64 a1) :: ([AV.bool false]))))) :: ([AObj.var (AV.agg [AV.int IntKind.u64 0, AV.int IntKind.u64 0, AV.bool false])])))

noncomputable def L80a.N : Nat → Int → Int → L80a.O
  | 0, a, b => .e0 a b
  | k_ + 1, a, b => (bif b == 0 then (.e0 (a) (b)) else (L80a.N k_ (b) (a % b)))

noncomputable def L80a.run (a : Int) (b : Int) : L80a.O := L80a.N ((b.toNat) + 1) a b

theorem L80a.nx {k_ : Nat} {z_ : Int × Int} {h_ : AHeap} (s_ : Int × Int) (h1 : L80a.inv s_.1 s_.2) (h2 : L80a.mu s_.1 s_.2 < L80a.mu z_.1 z_.2) (h3 : L80a.N k_ s_.1 s_.2 = L80a.N (k_ + 1) z_.1 z_.2) (h4 : PopOk (L80a.H z_.1 z_.2) h_ (L80a.T s_.1 s_.2) (L80a.H s_.1 s_.2)) : LNextP (fun (z_ : Int × Int) => L80a.T z_.1 z_.2) (fun (z_ : Int × Int) => L80a.H z_.1 z_.2) (fun (z_ : Int × Int) => L80a.inv z_.1 z_.2) (fun (z_ : Int × Int) => L80a.mu z_.1 z_.2) (fun (k_ : Nat) (z_ : Int × Int) => L80a.N k_ z_.1 z_.2) k_ z_ (L80a.T s_.1 s_.2) h_ := LNextP.mk (Tm := (fun (z_ : Int × Int) => L80a.T z_.1 z_.2)) (Hp := (fun (z_ : Int × Int) => L80a.H z_.1 z_.2)) (inv := (fun (z_ : Int × Int) => L80a.inv z_.1 z_.2)) (mu := (fun (z_ : Int × Int) => L80a.mu z_.1 z_.2)) (l := (fun (k_ : Nat) (z_ : Int × Int) => L80a.N k_ z_.1 z_.2)) s_ h1 h2 h3 h4

theorem L80a.en {k_ : Nat} {z_ : Int × Int} {h_ : AHeap} (o_ : L80a.O) (h3 : L80a.N (k_ + 1) z_.1 z_.2 = o_) (h4 : PopOk (L80a.H z_.1 z_.2) h_ (L80a.X o_) (L80a.XH o_)) : LEndP (fun (z_ : Int × Int) => L80a.H z_.1 z_.2) (fun (k_ : Nat) (z_ : Int × Int) => L80a.N k_ z_.1 z_.2) L80a.E (L80a.X) (L80a.XH) k_ z_ (L80a.E o_) (L80a.X o_) h_ := LEndP.mk (Hp := (fun (z_ : Int × Int) => L80a.H z_.1 z_.2)) (l := (fun (k_ : Nat) (z_ : Int × Int) => L80a.N k_ z_.1 z_.2)) (oE := L80a.E) (oT := L80a.X) (oH := L80a.XH) o_ h3 h4

noncomputable abbrev L80a.h0 (a : Int) (b : Int) : AHeap := ([AObj.var (AV.agg [AV.int IntKind.u64 0, AV.int IntKind.u64 a, AV.bool false]), AObj.var (AV.agg [AV.int IntKind.u64 0, AV.int IntKind.u64 b, AV.bool false]), AObj.var (AV.agg [AV.int IntKind.u64 0, AV.int IntKind.u64 0, AV.bool false])])

theorem L80a.spec (k_ : Nat) (z_ : Int × Int) (hi_ : L80a.inv z_.1 z_.2) (hm_ : L80a.mu z_.1 z_.2 < k_) : LoopTo Try.prog (loopN Try.f80 0) (L80a.T z_.1 z_.2) (L80a.H z_.1 z_.2) (L80a.E (L80a.N k_ z_.1 z_.2)) (L80a.X (L80a.N k_ z_.1 z_.2)) (L80a.XH (L80a.N k_ z_.1 z_.2)) := by
  refine LoopTo.fuelP mix (fun (z_ : Int × Int) => L80a.T z_.1 z_.2) (fun (z_ : Int × Int) => L80a.H z_.1 z_.2) (fun (z_ : Int × Int) => L80a.inv z_.1 z_.2) (fun (z_ : Int × Int) => L80a.mu z_.1 z_.2) (fun (k_ : Nat) (z_ : Int × Int) => L80a.N k_ z_.1 z_.2) L80a.E (L80a.X) (L80a.XH) (others 23 [2, 3, 4]) (others 23 [4]) (others 23 [2, 4]) ?_ k_ z_ hi_ hm_
  clear hm_ hi_ z_ k_
  intro k_ z_ hinv hmu
  obtain ⟨a, b⟩ := z_
  have hinv : (0 ≤ a ∧ a ≤ 18446744073709551615) ∧ 0 ≤ b ∧ b ≤ 9223372036854775808 := hinv
  have hmu : (b.toNat) < k_ + 1 := hmu
  cases h1 : b == 0 with
  | true =>
    have h1p := eq_of_beq h1
    exact ⟨[.ret (AV.bool (b == 0)) (L80a.h0 a b), .b false], kmp (by kernel_rfl) (And.intro (c68 (b) (false) (L80a.h0 a b)) (And.intro (show (bnot (b == 0)) = false by rw [h1]; try rfl) (L80a.en (k_ := k_) (z_ := (a, b)) (.e0 (a) (b) : L80a.O) (by first | (simp only [L80a.N, h1, cond_true, cond_false]; done) | (try unfold L80a.N; try simp only [h1, cond_true, cond_false]; try rfl; done)) PopOk.same)))⟩
  | false =>
    have h1p := ne_of_beq_false h1
    have o0 : (0 : Int) ≤ a := by first | assumption | omega | (simp_all; done)
    have o1 : a ≤ (18446744073709551615 : Int) := by first | assumption | omega | (simp_all; done)
    have o2 : (0 : Int) < b := by first | assumption | omega | (simp_all; done)
    have o3 : b ≤ (9223372036854775808 : Int) := by first | assumption | omega | (simp_all; done)
    have o4 : (0 : Int) ≤ b := by first | assumption | omega | (simp_all; done)
    have o5 : b ≤ (18446744073709551615 : Int) := by first | assumption | omega | (simp_all; done)
    have o6 : (0 : Int) ≤ a % b := by first | assumption | omega | (apply em_0 <;> first | assumption | omega) | (simp_all; done)
    have o7 : a % b ≤ (9223372036854775808 : Int) := by first | assumption | omega | (apply em_hi <;> first | assumption | omega) | (simp_all; done)
    have o8 : (a % b).toNat < b.toNat := by first | assumption | omega | (apply em_lt <;> first | assumption | omega) | (simp_all; done)
    exact ⟨[.ret (AV.bool (b == 0)) (L80a.h0 a b), .b true, .ret (AV.tup [AV.agg [AV.int IntKind.u64 0, AV.int IntKind.u64 (a / b), AV.bool false], AV.agg [AV.int IntKind.u64 0, AV.int IntKind.u64 (a % b), AV.bool false]]) (L80a.h0 a b)], kmp (by kernel_rfl) (And.intro (c68 (b) (false) (L80a.h0 a b)) (And.intro (show (bnot (b == 0)) = true by rw [h1]; try rfl) (And.intro (c81 (a) (false) (b) (false) o0 o1 o2 o3 (L80a.h0 a b)) (L80a.nx (k_ := k_) (z_ := (a, b)) (h_ := [AObj.var (AV.agg [AV.int IntKind.u64 0, AV.int IntKind.u64 b, AV.bool false]), AObj.var (AV.agg [AV.int IntKind.u64 0, AV.int IntKind.u64 (a % b), AV.bool false]), AObj.var (AV.agg [AV.int IntKind.u64 0, AV.int IntKind.u64 0, AV.bool false]), AObj.var (AV.agg [AV.int IntKind.u64 0, AV.int IntKind.u64 (a / b), AV.bool false]), AObj.var (AV.agg [AV.int IntKind.u64 0, AV.int IntKind.u64 (a % b), AV.bool false])]) ((b, a % b)) (And.intro (And.intro o4 o5) (And.intro o6 o7)) o8 (by first | (simp only [L80a.N, h1, cond_true, cond_false]; done) | (try unfold L80a.N; try simp only [h1, cond_true, cond_false]; try rfl; done)) (PopOk.popLow _ rfl rfl (by simp [L80a.T, L80a.X, L80a.H, L80a.XH]) (by simp [L80a.T, L80a.X, L80a.H, L80a.XH]))))))⟩

theorem L80a.e0 (a : Int) (b : Int) (hinv : L80a.inv a b) (a0 : Int) (a1 : Int) (hN : L80a.run a b = (.e0 a0 a1 : L80a.O)) : LoopTo Try.prog (loopN Try.f80 0) (L80a.T a b) (L80a.H a b) (Exit.exit 0) (L80a.X (.e0 a0 a1 : L80a.O)) (L80a.XH (.e0 a0 a1 : L80a.O)) := by
  have h_ := L80a.spec ((b.toNat) + 1) (a, b) hinv (Nat.lt_succ_self _)
  unfold L80a.run at hN
  simp only [hN] at h_
  exact h_

noncomputable def r80.v0 (a : Int) (b : Int) : Int := (match L80a.run a b with | .e0 h1d0 h1d1 => 0 )

noncomputable def r80.v1 (a : Int) (b : Int) : Int := (match L80a.run a b with | .e0 h1d0 h1d1 => h1d0 )

noncomputable def r80.v2 (a : Int) (b : Int) : Bool := (match L80a.run a b with | .e0 h1d0 h1d1 => false )

theorem r80 (a : Int) (b : Int) (h0 : 0 ≤ a) (h1 : a ≤ 18446744073709551615) (h2 : 0 ≤ b) (h3 : b ≤ 9223372036854775808) (h : AHeap) : Ret Try.prog 80 ([AV.agg [AV.int IntKind.u64 0, AV.int IntKind.u64 a, AV.bool false], AV.agg [AV.int IntKind.u64 0, AV.int IntKind.u64 b, AV.bool false]]) h (AV.agg ((AV.int IntKind.u64 (r80.v0 a b)) :: ((AV.int IntKind.u64 (r80.v1 a b)) :: ((AV.bool (r80.v2 a b)) :: [])))) h := by
  have o0 : (0 : Int) ≤ a := by first | assumption | omega | (simp_all; done)
  have o1 : a ≤ (18446744073709551615 : Int) := by first | assumption | omega | (simp_all; done)
  have o2 : (0 : Int) ≤ b := by first | assumption | omega | (simp_all; done)
  have o3 : b ≤ (9223372036854775808 : Int) := by first | assumption | omega | (simp_all; done)
  cases h1 : L80a.run a b with
  | e0 h1d0 h1d1 =>
    exact Ret.of_run1 mix [(AV.agg ((AV.int IntKind.u64 (r80.v0 a b)) :: ((AV.int IntKind.u64 (r80.v1 a b)) :: ((AV.bool (r80.v2 a b)) :: []))))] Try.func80 rfl [.loop (others 23 [2, 3, 4]) (Exit.exit 0) (L80a.X (L80a.O.e0 h1d0 h1d1)) (L80a.XH (L80a.O.e0 h1d0 h1d1))] (by simp) (by simp) (kmp (by kernel_rfl) (And.intro (L80a.e0 (a) (b) (And.intro (And.intro o0 o1) (And.intro o2 o3)) h1d0 h1d1 h1) (And.intro (And.intro trivial (show (AV.agg [AV.int IntKind.u64 0, AV.int IntKind.u64 h1d0, AV.bool false]) = ((AV.agg ((AV.int IntKind.u64 (r80.v0 a b)) :: ((AV.int IntKind.u64 (r80.v1 a b)) :: ((AV.bool (r80.v2 a b)) :: []))))) by first | (simp only [r80.v0, r80.v1, r80.v2, h1, cond_true, cond_false]; done) | (try unfold r80.v0; try unfold r80.v1; try unfold r80.v2; try simp only [h1, cond_true, cond_false]; try rfl; done) | rfl)) trivial))) h

end Go.Proofs.Ytngpbfocjgikaaa

open Go

namespace Go.Proofs.Ytngpbfocjgikaaa

set_option maxHeartbeats 0

set_option maxRecDepth 100000

set_option linter.unusedVariables false

set_option linter.unusedSimpArgs false

theorem common_N : ∀ (m a b : Nat), b < m → L80a.N m (a : Int) (b : Int) = .e0 ((Nat.gcd a b : Nat) : Int) 0 := by
  intro m
  induction m with
  | zero => intro a b h; omega
  | succ m ih =>
    intro a b h
    simp only [L80a.N]
    by_cases hb : b = 0
    · subst hb; simp
    · rw [show ((b : Int) == 0) = false by simp; omega, cond_false, ← Int.natCast_emod, ih b (a % b) (by have := Nat.mod_lt a (Nat.pos_of_ne_zero hb); omega)]
      rw [Nat.gcd_comm a b, Nat.gcd_rec b a, Nat.gcd_comm]

theorem c80 (a b : Int) (h0 : 0 ≤ a) (h1 : a ≤ 18446744073709551615) (h2 : 0 ≤ b) (h3 : b ≤ 9223372036854775808) (h : AHeap) :
    Ret Try.prog 80 [AV.agg [AV.int .u64 0, AV.int .u64 a, AV.bool false], AV.agg [AV.int .u64 0, AV.int .u64 b, AV.bool false]] h (AV.agg [AV.int .u64 0, AV.int .u64 (gc a b), AV.bool false]) h := by
  have r := r80 a b h0 h1 h2 h3 h
  obtain ⟨A, rfl⟩ := Int.eq_ofNat_of_zero_le h0
  obtain ⟨B, rfl⟩ := Int.eq_ofNat_of_zero_le h2
  have e : L80a.run (A : Int) (B : Int) = .e0 ((Nat.gcd A B : Nat) : Int) 0 := by
    unfold L80a.run
    exact common_N _ A B (by omega)
  unfold r80.v0 r80.v1 r80.v2 at r
  rw [e] at r
  exact r

theorem na_le {x : Int} (hx : -9223372036854775808 ≤ x ∧ x ≤ 9223372036854775807) : ((x.natAbs : Nat) : Int) ≤ 9223372036854775808 := by omega

theorem na_0 {x : Int} : 0 ≤ ((x.natAbs : Nat) : Int) := by omega

theorem na_pos {x : Int} (h : ¬ x = 0) : 0 < ((x.natAbs : Nat) : Int) := by omega

end Go.Proofs.Ytngpbfocjgikaaa

open Go

namespace Go.Proofs.Ytngpbfocjgikaaa

set_option linter.unusedSimpArgs false

set_option linter.unusedVariables false

set_option maxHeartbeats 0

set_option maxRecDepth 100000

noncomputable def r64.v0 (a : Int) (nn : Bool) (d : Int) : Int := (bif decide (a / gc d a ≥ 1000000000000000000) then 0 else (bif decide (d / gc d a ≥ 1000000000000000000) then 0 else (bif nn then IntKind.i64.wrap (0 - IntKind.i64.wrap (a / gc d a)) else IntKind.i64.wrap (a / gc d a))))

noncomputable def r64.v1 (a : Int) (d : Int) : Int := (bif decide (a / gc d a ≥ 1000000000000000000) then 0 else (bif decide (d / gc d a ≥ 1000000000000000000) then 0 else IntKind.i64.wrap (d / gc d a)))

noncomputable def r64.v2 (a : Int) (d : Int) : Int := (bif decide (a / gc d a ≥ 1000000000000000000) then 6 else (bif decide (d / gc d a ≥ 1000000000000000000) then 6 else 0))

noncomputable abbrev r64.h0 (a : Int) (nn : Bool) (d : Int) : AHeap := ([AObj.var (AV.agg [AV.int IntKind.u64 0, AV.int IntKind.u64 a, AV.bool nn]), AObj.var (AV.agg [AV.int IntKind.u64 0, AV.int IntKind.u64 d, AV.bool false]), AObj.var (AV.agg [AV.int IntKind.i64 0, AV.int IntKind.i64 0])])

noncomputable abbrev r64.h1 (a : Int) (nn : Bool) (d : Int) : AHeap := ([AObj.var (AV.agg [AV.int IntKind.u64 0, AV.int IntKind.u64 a, AV.bool nn]), AObj.var (AV.agg [AV.int IntKind.u64 0, AV.int IntKind.u64 d, AV.bool false]), AObj.var (AV.agg [AV.int IntKind.i64 0, AV.int IntKind.i64 0]), AObj.var (AV.agg [AV.int IntKind.u64 0, AV.int IntKind.u64 (gc d a), AV.bool false])])

noncomputable abbrev r64.h2 (a : Int) (nn : Bool) (d : Int) : AHeap := ([AObj.var (AV.agg [AV.int IntKind.u64 0, AV.int IntKind.u64 a, AV.bool nn]), AObj.var (AV.agg [AV.int IntKind.u64 0, AV.int IntKind.u64 d, AV.bool false]), AObj.var (AV.agg [AV.int IntKind.i64 0, AV.int IntKind.i64 0]), AObj.var (AV.agg [AV.int IntKind.u64 0, AV.int IntKind.u64 (gc d a), AV.bool false]), AObj.var (AV.agg [AV.int IntKind.u64 0, AV.int IntKind.u64 (a / gc d a), AV.bool false]), AObj.var (AV.agg [AV.int IntKind.u64 0, AV.int IntKind.u64 (a % gc d a), AV.bool false])])

theorem r64 (a : Int) (nn : Bool) (d : Int) (h0 : 0 ≤ a) (h1 : a ≤ 9223372036854775808) (h2 : 0 < d) (h3 : d ≤ 9223372036854775808) (h : AHeap) : Ret Try.prog 64 ([AV.agg [AV.int IntKind.u64 0, AV.int IntKind.u64 a, AV.bool nn], AV.agg [AV.int IntKind.u64 0, AV.int IntKind.u64 d, AV.bool false]]) h (AV.tup [(AV.agg ((AV.int IntKind.i64 (r64.v0 a nn d)) :: ((AV.int IntKind.i64 (r64.v1 a d)) :: []))), (AV.int IntKind.i64 (r64.v2 a d))]) h := by
  have o0 : (0 : Int) ≤ d := by first | assumption | omega | (simp_all; done)
  have o1 : d ≤ (18446744073709551615 : Int) := by first | assumption | omega | (simp_all; done)
  have o2 : (0 : Int) ≤ a := by first | assumption | omega | (simp_all; done)
  have o3 : a ≤ (9223372036854775808 : Int) := by first | assumption | omega | (simp_all; done)
  have o4 : a ≤ (18446744073709551615 : Int) := by first | assumption | omega | (simp_all; done)
  have o5 : (0 : Int) < gc d a := by first | assumption | omega | (apply gc_pos <;> first | assumption | omega) | (simp_all; done)
  have o6 : gc d a ≤ (9223372036854775808 : Int) := by first | assumption | omega | (apply gc_le <;> first | assumption | omega) | (simp_all; done)
  cases h1 : decide (a / gc d a ≥ 1000000000000000000) with
  | true =>
    have h1p := of_decide_eq_true h1
    exact Ret.of_run1 mix [(AV.agg ((AV.int IntKind.i64 (r64.v0 a nn d)) :: ((AV.int IntKind.i64 (r64.v1 a d)) :: []))), (AV.int IntKind.i64 (r64.v2 a d))] Try.func64 rfl [.ret (AV.agg [AV.int IntKind.u64 0, AV.int IntKind.u64 (gc d a), AV.bool false]) (r64.h0 a nn d), .ret (AV.tup [AV.agg [AV.int IntKind.u64 0, AV.int IntKind.u64 (a / gc d a), AV.bool false], AV.agg [AV.int IntKind.u64 0, AV.int IntKind.u64 (a % gc d a), AV.bool false]]) (r64.h1 a nn d), .ret (AV.tup [AV.agg [AV.int IntKind.u64 0, AV.int IntKind.u64 (d / gc d a), AV.bool false], AV.agg [AV.int IntKind.u64 0, AV.int IntKind.u64 (d % gc d a), AV.bool false]]) (r64.h2 a nn d), .b false, .b false, .b false, .b false, .b true, .b true, .b true, .b true, .b true, .b true, .b true, .b true, .b true] (by simp) (by simp) (kmp (by kernel_rfl) (And.intro (c80 (d) (a) o0 o1 o2 o3 (r64.h0 a nn d)) (And.intro (c81 (a) (nn) (gc d a) (false) o2 o4 o5 o6 (r64.h1 a nn d)) (And.intro (c81 (d) (false) (gc d a) (false) o0 o1 o5 o6 (r64.h2 a nn d)) (And.intro (rfl : false = false) (And.intro (rfl : false = false) (And.intro (rfl : false = false) (And.intro (rfl : false = false) (And.intro h1 (And.intro h1 (And.intro h1 (And.intro h1 (And.intro (rfl : true = true) (And.intro (rfl : true = true) (And.intro (rfl : true = true) (And.intro (rfl : true = true) (And.intro (rfl : true = true) (And.intro (And.intro trivial (show (AV.agg [AV.int IntKind.i64 0, AV.int IntKind.i64 0]) = ((AV.agg ((AV.int IntKind.i64 (r64.v0 a nn d)) :: ((AV.int IntKind.i64 (r64.v1 a d)) :: [])))) by first | (simp only [r64.v0, r64.v1, r64.v2, h1, cond_true, cond_false]; done) | (try unfold r64.v0; try unfold r64.v1; try unfold r64.v2; try simp only [h1, cond_true, cond_false]; try rfl; done) | rfl)) (And.intro (show (AV.int IntKind.i64 6) = ((AV.int IntKind.i64 (r64.v2 a d))) by first | (simp only [r64.v0, r64.v1, r64.v2, h1, cond_true, cond_false]; done) | (try unfold r64.v0; try unfold r64.v1; try unfold r64.v2; try simp only [h1, cond_true, cond_false]; try rfl; done) | rfl) trivial))))))))))))))))))) h
  | false =>
    have h1p := of_decide_eq_false h1
    cases h2 : decide (d / gc d a ≥ 1000000000000000000) with
    | true =>
      have h2p := of_decide_eq_true h2
      exact Ret.of_run1 mix [(AV.agg ((AV.int IntKind.i64 (r64.v0 a nn d)) :: ((AV.int IntKind.i64 (r64.v1 a d)) :: []))), (AV.int IntKind.i64 (r64.v2 a d))] Try.func64 rfl [.ret (AV.agg [AV.int IntKind.u64 0, AV.int IntKind.u64 (gc d a), AV.bool false]) (r64.h0 a nn d), .ret (AV.tup [AV.agg [AV.int IntKind.u64 0, AV.int IntKind.u64 (a / gc d a), AV.bool false], AV.agg [AV.int IntKind.u64 0, AV.int IntKind.u64 (a % gc d a), AV.bool false]]) (r64.h1 a nn d), .ret (AV.tup [AV.agg [AV.int IntKind.u64 0, AV.int IntKind.u64 (d / gc d a), AV.bool false], AV.agg [AV.int IntKind.u64 0, AV.int IntKind.u64 (d % gc d a), AV.bool false]]) (r64.h2 a nn d), .b false, .b false, .b false, .b false, .b false, .b false, .b false, .b false, .b false, .b false, .b false, .b false, .b true] (by simp) (by simp) (kmp (by kernel_rfl) (And.intro (c80 (d) (a) o0 o1 o2 o3 (r64.h0 a nn d)) (And.intro (c81 (a) (nn) (gc d a) (false) o2 o4 o5 o6 (r64.h1 a nn d)) (And.intro (c81 (d) (false) (gc d a) (false) o0 o1 o5 o6 (r64.h2 a nn d)) (And.intro (rfl : false = false) (And.intro (rfl : false = false) (And.intro (rfl : false = false) (And.intro (rfl : false = false) (And.intro h1 (And.intro h1 (And.intro h1 (And.intro h1 (And.intro (rfl : false = false) (And.intro (rfl : false = false) (And.intro (rfl : false = false) (And.intro (rfl : false = false) (And.intro h2 (And.intro (And.intro trivial (show (AV.agg [AV.int IntKind.i64 0, AV.int IntKind.i64 0]) = ((AV.agg ((AV.int IntKind.i64 (r64.v0 a nn d)) :: ((AV.int IntKind.i64 (r64.v1 a d)) :: [])))) by first | (simp only [r64.v0, r64.v1, r64.v2, h1, h2, cond_true, cond_false]; done) | (try unfold r64.v0; try unfold r64.v1; try unfold r64.v2; try simp only [h1, cond_true, cond_false]; try simp only [h2, cond_true, cond_false]; try rfl; done) | rfl)) (And.intro (show (AV.int IntKind.i64 6) = ((AV.int IntKind.i64 (r64.v2 a d))) by first | (simp only [r64.v0, r64.v1, r64.v2, h1, h2, cond_true, cond_false]; done) | (try unfold r64.v0; try unfold r64.v1; try unfold r64.v2; try simp only [h1, cond_true, cond_false]; try simp only [h2, cond_true, cond_false]; try rfl; done) | rfl) trivial))))))))))))))))))) h
    | false =>
      have h2p := of_decide_eq_false h2
      cases boolIs nn with
      | true h3 =>
        exact Ret.of_run1 mix [(AV.agg ((AV.int IntKind.i64 (r64.v0 a nn d)) :: ((AV.int IntKind.i64 (r64.v1 a d)) :: []))), (AV.int IntKind.i64 (r64.v2 a d))] Try.func64 rfl [.ret (AV.agg [AV.int IntKind.u64 0, AV.int IntKind.u64 (gc d a), AV.bool false]) (r64.h0 a nn d), .ret (AV.tup [AV.agg [AV.int IntKind.u64 0, AV.int IntKind.u64 (a / gc d a), AV.bool false], AV.agg [AV.int IntKind.u64 0, AV.int IntKind.u64 (a % gc d a), AV.bool false]]) (r64.h1 a nn d), .ret (AV.tup [AV.agg [AV.int IntKind.u64 0, AV.int IntKind.u64 (d / gc d a), AV.bool false], AV.agg [AV.int IntKind.u64 0, AV.int IntKind.u64 (d % gc d a), AV.bool false]]) (r64.h2 a nn d), .b false, .b false, .b false, .b false, .b false, .b false, .b false, .b false, .b false, .b false, .b false, .b false, .b false, .b true] (by simp) (by simp) (kmp (by kernel_rfl) (And.intro (c80 (d) (a) o0 o1 o2 o3 (r64.h0 a nn d)) (And.intro (c81 (a) (nn) (gc d a) (false) o2 o4 o5 o6 (r64.h1 a nn d)) (And.intro (c81 (d) (false) (gc d a) (false) o0 o1 o5 o6 (r64.h2 a nn d)) (And.intro (rfl : false = false) (And.intro (rfl : false = false) (And.intro (rfl : false = false) (And.intro (rfl : false = false) (And.intro h1 (And.intro h1 (And.intro h1 (And.intro h1 (And.intro (rfl : false = false) (And.intro (rfl : false = false) (And.intro (rfl : false = false) (And.intro (rfl : false = false) (And.intro h2 (And.intro h3 (And.intro (And.intro trivial (show (AV.agg [AV.int IntKind.i64 (IntKind.i64.wrap (0 - IntKind.i64.wrap (a / gc d a))), AV.int IntKind.i64 (IntKind.i64.wrap (d / gc d a))]) = ((AV.agg ((AV.int IntKind.i64 (r64.v0 a nn d)) :: ((AV.int IntKind.i64 (r64.v1 a d)) :: [])))) by first | (simp only [r64.v0, r64.v1, r64.v2, h1, h2, h3, cond_true, cond_false]; done) | (try unfold r64.v0; try unfold r64.v1; try unfold r64.v2; try simp only [h1, cond_true, cond_false]; try simp only [h2, cond_true, cond_false]; try simp only [h3, cond_true, cond_false]; try rfl; done) | rfl)) (And.intro (show (AV.int IntKind.i64 0) = ((AV.int IntKind.i64 (r64.v2 a d))) by first | (simp only [r64.v0, r64.v1, r64.v2, h1, h2, h3, cond_true, cond_false]; done) | (try unfold r64.v0; try unfold r64.v1; try unfold r64.v2; try simp only [h1, cond_true, cond_false]; try simp only [h2, cond_true, cond_false]; try simp only [h3, cond_true, cond_false]; try rfl; done) | rfl) trivial)))))))))))))))))))) h
      | false h3 =>
        exact Ret.of_run1 mix [(AV.agg ((AV.int IntKind.i64 (r64.v0 a nn d)) :: ((AV.int IntKind.i64 (r64.v1 a d)) :: []))), (AV.int IntKind.i64 (r64.v2 a d))] Try.func64 rfl [.ret (AV.agg [AV.int IntKind.u64 0, AV.int IntKind.u64 (gc d a), AV.bool false]) (r64.h0 a nn d), .ret (AV.tup [AV.agg [AV.int IntKind.u64 0, AV.int IntKind.u64 (a / gc d a), AV.bool false], AV.agg [AV.int IntKind.u64 0, AV.int IntKind.u64 (a % gc d a), AV.bool false]]) (r64.h1 a nn d), .ret (AV.tup [AV.agg [AV.int IntKind.u64 0, AV.int IntKind.u64 (d / gc d a), AV.bool false], AV.agg [AV.int IntKind.u64 0, AV.int IntKind.u64 (d % gc d a), AV.bool false]]) (r64.h2 a nn d), .b false, .b false, .b false, .b false, .b false, .b false, .b false, .b false, .b false, .b false, .b false, .b false, .b false, .b false] (by simp) (by simp) (kmp (by kernel_rfl) (And.intro (c80 (d) (a) o0 o1 o2 o3 (r64.h0 a nn d)) (And.intro (c81 (a) (nn) (gc d a) (false) o2 o4 o5 o6 (r64.h1 a nn d)) (And.intro (c81 (d) (false) (gc d a) (false) o0 o1 o5 o6 (r64.h2 a nn d)) (And.intro (rfl : false = false) (And.intro (rfl : false = false) (And.intro (rfl : false = false) (And.intro (rfl : false = false) (And.intro h1 (And.intro h1 (And.intro h1 (And.intro h1 (And.intro (rfl : false = false) (And.intro (rfl : false = false) (And.intro (rfl : false = false) (And.intro (rfl : false = false) (And.intro h2 (And.intro h3 (And.intro (And.intro trivial (show (AV.agg [AV.int IntKind.i64 (IntKind.i64.wrap (a / gc d a)), AV.int IntKind.i64 (IntKind.i64.wrap (d / gc d a))]) = ((AV.agg ((AV.int IntKind.i64 (r64.v0 a nn d)) :: ((AV.int IntKind.i64 (r64.v1 a d)) :: [])))) by first | (simp only [r64.v0, r64.v1, r64.v2, h1, h2, h3, cond_true, cond_false]; done) | (try unfold r64.v0; try unfold r64.v1; try unfold r64.v2; try simp only [h1, cond_true, cond_false]; try simp only [h2, cond_true, cond_false]; try simp only [h3, cond_true, cond_false]; try rfl; done) | rfl)) (And.intro (show (AV.int IntKind.i64 0) = ((AV.int IntKind.i64 (r64.v2 a d))) by first | (simp only [r64.v0, r64.v1, r64.v2, h1, h2, h3, cond_true, cond_false]; done) | (try unfold r64.v0; try unfold r64.v1; try unfold r64.v2; try simp only [h1, cond_true, cond_false]; try simp only [h2, cond_true, cond_false]; try simp only [h3, cond_true, cond_false]; try rfl; done) | rfl) trivial)))))))))))))))))))) h

noncomputable def r40.v0 (a : Int) (b : Int) : Int := (bif b == 0 then 0 else r64.v0 (↑a.natAbs : Int) (bnot (decide (a < 0) == decide (b < 0))) (↑b.natAbs : Int))

noncomputable def r40.v1 (a : Int) (b : Int) : Int := (bif b == 0 then 0 else r64.v1 (↑a.natAbs : Int) (↑b.natAbs : Int))

noncomputable def r40.v2 (a : Int) (b : Int) : Int := (bif b == 0 then 1 else r64.v2 (↑a.natAbs : Int) (↑b.natAbs : Int))

noncomputable abbrev r40.h0 (a : Int) (b : Int) : AHeap := ([AObj.var (AV.agg [AV.int IntKind.i64 0, AV.int IntKind.i64 0])])

theorem r40 (a : Int) (b : Int) (ha : -9223372036854775808 ≤ a ∧ a ≤ 9223372036854775807) (hb : -9223372036854775808 ≤ b ∧ b ≤ 9223372036854775807) (h : AHeap) : Ret Try.prog 40 ([AV.int IntKind.i64 a, AV.int IntKind.i64 b]) h (AV.tup [(AV.agg ((AV.int IntKind.i64 (r40.v0 a b)) :: ((AV.int IntKind.i64 (r40.v1 a b)) :: []))), (AV.int IntKind.i64 (r40.v2 a b))]) h := by
  cases h1 : b == 0 with
  | true =>
    have h1p := eq_of_beq h1
    exact Ret.of_run1 mix [(AV.agg ((AV.int IntKind.i64 (r40.v0 a b)) :: ((AV.int IntKind.i64 (r40.v1 a b)) :: []))), (AV.int IntKind.i64 (r40.v2 a b))] Try.func40 rfl [.b true] (by simp) (by simp) (kmp (by kernel_rfl) (And.intro h1 (And.intro (And.intro trivial (show (AV.agg [AV.int IntKind.i64 0, AV.int IntKind.i64 0]) = ((AV.agg ((AV.int IntKind.i64 (r40.v0 a b)) :: ((AV.int IntKind.i64 (r40.v1 a b)) :: [])))) by first | (simp only [r40.v0, r40.v1, r40.v2, h1, cond_true, cond_false]; done) | (try unfold r40.v0; try unfold r40.v1; try unfold r40.v2; try simp only [h1, cond_true, cond_false]; try rfl; done) | rfl)) (And.intro (show (AV.int IntKind.i64 1) = ((AV.int IntKind.i64 (r40.v2 a b))) by first | (simp only [r40.v0, r40.v1, r40.v2, h1, cond_true, cond_false]; done) | (try unfold r40.v0; try unfold r40.v1; try unfold r40.v2; try simp only [h1, cond_true, cond_false]; try rfl; done) | rfl) trivial)))) h
  | false =>
    have h1p := ne_of_beq_false h1
    have o0 : (-9223372036854775808 : Int) ≤ a := by first | assumption | omega | (simp_all; done)
    have o1 : a ≤ (9223372036854775807 : Int) := by first | assumption | omega | (simp_all; done)
    have o2 : (-9223372036854775808 : Int) ≤ b := by first | assumption | omega | (simp_all; done)
    have o3 : b ≤ (9223372036854775807 : Int) := by first | assumption | omega | (simp_all; done)
    have o4 : (0 : Int) ≤ (↑a.natAbs : Int) := by first | assumption | omega | (apply na_0 <;> first | assumption | omega) | (simp_all; done)
    have o5 : (↑a.natAbs : Int) ≤ (9223372036854775808 : Int) := by first | assumption | omega | (apply na_le <;> first | assumption | omega) | (simp_all; done)
    have o6 : (0 : Int) < (↑b.natAbs : Int) := by first | assumption | omega | (apply na_pos <;> first | assumption | omega) | (simp_all; done)
    have o7 : (↑b.natAbs : Int) ≤ (9223372036854775808 : Int) := by first | assumption | omega | (apply na_le <;> first | assumption | omega) | (simp_all; done)
    exact Ret.of_run1 mix [(AV.agg ((AV.int IntKind.i64 (r40.v0 a b)) :: ((AV.int IntKind.i64 (r40.v1 a b)) :: []))), (AV.int IntKind.i64 (r40.v2 a b))] Try.func40 rfl [.b false, .ret (AV.agg [AV.int IntKind.u64 0, AV.int IntKind.u64 (↑a.natAbs : Int), AV.bool (decide (a < 0))]) (r40.h0 a b), .ret (AV.agg [AV.int IntKind.u64 0, AV.int IntKind.u64 (↑b.natAbs : Int), AV.bool (decide (b < 0))]) (r40.h0 a b), .ret (AV.tup [AV.agg [AV.int IntKind.i64 (r64.v0 (↑a.natAbs : Int) (bnot (decide (a < 0) == decide (b < 0))) (↑b.natAbs : Int)), AV.int IntKind.i64 (r64.v1 (↑a.natAbs : Int) (↑b.natAbs : Int))], AV.int IntKind.i64 (r64.v2 (↑a.natAbs : Int) (↑b.natAbs : Int))]) ([AObj.var (AV.agg [AV.int IntKind.i64 0, AV.int IntKind.i64 0]), AObj.var (AV.agg [AV.int IntKind.u64 0, AV.int IntKind.u64 (↑a.natAbs : Int), AV.bool (bnot (decide (a < 0) == decide (b < 0)))]), AObj.var (AV.agg [AV.int IntKind.u64 0, AV.int IntKind.u64 (↑b.natAbs : Int), AV.bool false])])] (by simp) (by simp) (kmp (by kernel_rfl) (And.intro h1 (And.intro (c63 (a) (And.intro o0 o1) (r40.h0 a b)) (And.intro (c63 (b) (And.intro o2 o3) (r40.h0 a b)) (And.intro (r64 ((↑a.natAbs : Int)) (bnot (decide (a < 0) == decide (b < 0))) ((↑b.natAbs : Int)) o4 o5 o6 o7 ([AObj.var (AV.agg [AV.int IntKind.i64 0, AV.int IntKind.i64 0]), AObj.var (AV.agg [AV.int IntKind.u64 0, AV.int IntKind.u64 (↑a.natAbs : Int), AV.bool (bnot (decide (a < 0) == decide (b < 0)))]), AObj.var (AV.agg [AV.int IntKind.u64 0, AV.int IntKind.u64 (↑b.natAbs : Int), AV.bool false])])) (And.intro (And.intro trivial (show (AV.agg [AV.int IntKind.i64 (r64.v0 (↑a.natAbs : Int) (bnot (decide (a < 0) == decide (b < 0))) (↑b.natAbs : Int)), AV.int IntKind.i64 (r64.v1 (↑a.natAbs : Int) (↑b.natAbs : Int))]) = ((AV.agg ((AV.int IntKind.i64 (r40.v0 a b)) :: ((AV.int IntKind.i64 (r40.v1 a b)) :: [])))) by first | (simp only [r40.v0, r40.v1, r40.v2, h1, cond_true, cond_false]; done) | (try unfold r40.v0; try unfold r40.v1; try unfold r40.v2; try simp only [h1, cond_true, cond_false]; try rfl; done) | rfl)) (And.intro (show (AV.int IntKind.i64 (r64.v2 (↑a.natAbs : Int) (↑b.natAbs : Int))) = ((AV.int IntKind.i64 (r40.v2 a b))) by first | (simp only [r40.v0, r40.v1, r40.v2, h1, cond_true, cond_false]; done) | (try unfold r40.v0; try unfold r40.v1; try unfold r40.v2; try simp only [h1, cond_true, cond_false]; try rfl; done) | rfl) trivial))))))) h

end Go.Proofs.Ytngpbfocjgikaaa

open Go

namespace Go.Proofs.Ytngpbfocjgikaaa

set_option maxHeartbeats 0

set_option maxRecDepth 100000

set_option linter.unusedVariables false

set_option linter.unusedSimpArgs false

variable {n : Nat} {g : Nat → LD} {t : TD}

/-- Mass and moment of one more load. -/
noncomputable def addL (fr : Int) (a : Int × Int) (s : LD) : Int × Int :=
  (IntKind.i64.wrap (a.1 + s.ms), IntKind.i64.wrap (a.2 + IntKind.i64.wrap (s.ms * IntKind.i64.wrap (IntKind.i64.wrap (IntKind.i64.wrap (2 * s.lo) + s.ln) - IntKind.i64.wrap (2 * fr)))))

noncomputable def sm (g : Nat → LD) (fr : Int) : Nat → Int × Int
  | 0 => (0, 0)
  | i + 1 => addL fr (sm g fr i) (g i)

theorem L33_N (hn : n ≤ 9223372036854775807) (fr : Int) : ∀ (m i : Nat), i ≤ n → n - i < m → L33a.N n g fr m (sm g fr i).1 (sm g fr i).2 (i : Int) = .e0 (sm g fr n).1 (sm g fr n).2 := by
  intro m
  induction m with
  | zero => intro i _ h; omega
  | succ m ih =>
    intro i hi hm
    simp only [L33a.N, Int.toNat_natCast]
    rcases Nat.lt_or_ge i n with h | h
    · rw [decide_eq_true (show (i : Int) < (n : Int) by omega), cond_true, wrap_succ hn h]
      exact ih (i + 1) h (by omega)
    · rw [decide_eq_false (show ¬ (i : Int) < (n : Int) by omega), cond_false, show i = n by omega]

theorem r33_sm (hn : n ≤ 9223372036854775807) (fr : Int) : r33.v0 n g fr = (sm g fr n).1 ∧ r33.v1 n g fr = (sm g fr n).2 := by
  have e : L33a.run n g fr 0 0 0 = .e0 (sm g fr n).1 (sm g fr n).2 := by
    unfold L33a.run
    rw [show ((n : Int) - 0).toNat + 1 = n + 1 by omega]
    exact L33_N hn fr (n + 1) 0 (Nat.zero_le _) (by omega)
  unfold r33.v0 r33.v1
  rw [e]
  exact ⟨rfl, rfl⟩

theorem sm_congr {G : Nat → LD} (fr : Int) : ∀ i, (∀ j, j < i → G j = g j) → sm G fr i = sm g fr i := by
  intro i
  induction i with
  | zero => intro _; rfl
  | succ i ih =>
    intro h
    show addL fr (sm G fr i) (G i) = addL fr (sm g fr i) (g i)
    rw [ih fun j hj => h j (by omega), h i (by omega)]

theorem mulb {m x A B : Int} (h1 : 0 ≤ m) (h2 : m ≤ A) (h3 : -B ≤ x) (h4 : x ≤ B) : -(A * B) ≤ m * x ∧ m * x ≤ A * B := by
  have hB : 0 ≤ B := by omega
  rcases Int.le_total 0 x with h | h
  · have e1 := Int.mul_nonneg h1 h
    have e2 := Int.mul_le_mul_of_nonneg_right h2 h
    have e3 := Int.mul_le_mul_of_nonneg_left h4 (show 0 ≤ A by omega)
    omega
  · have h' : 0 ≤ -x := by omega
    have e1 := Int.mul_nonneg h1 h'
    have e2 := Int.mul_le_mul_of_nonneg_right h2 h'
    have e3 := Int.mul_le_mul_of_nonneg_left (show -x ≤ B by omega) (show 0 ≤ A by omega)
    rw [Int.mul_neg] at e1 e2
    omega

theorem arm_eq {lo ln fr : Int} (h1 : 0 ≤ lo ∧ lo ≤ 50000) (h2 : 1 ≤ ln ∧ ln ≤ 50000) (h3 : -50000 ≤ fr ∧ fr ≤ 50000) :
    IntKind.i64.wrap (IntKind.i64.wrap (IntKind.i64.wrap (2 * lo) + ln) - IntKind.i64.wrap (2 * fr)) = 2 * lo + ln - 2 * fr := by
  rw [i64_small (x := 2 * lo) (by omega), i64_small (x := 2 * fr) (by omega), i64_small (x := 2 * lo + ln) (by omega), i64_small (by omega)]

theorem addL_eq {fr : Int} {a : Int × Int} {s : LD} (hs : LOk s) (hf : -50000 ≤ fr ∧ fr ≤ 50000) (h1 : 0 ≤ a.1 ∧ a.1 ≤ 2000000000) (h2 : -500000000000000 ≤ a.2 ∧ a.2 ≤ 500000000000000) :
    addL fr a s = (a.1 + s.ms, a.2 + s.ms * (2 * s.lo + s.ln - 2 * fr)) ∧ -25000000000000 ≤ s.ms * (2 * s.lo + s.ln - 2 * fr) ∧ s.ms * (2 * s.lo + s.ln - 2 * fr) ≤ 25000000000000 := by
  obtain ⟨s1, s2, s3⟩ := hs
  unfold addL
  rw [arm_eq s1 s2 hf]
  have := mulb (m := s.ms) (x := 2 * s.lo + s.ln - 2 * fr) (A := 100000000) (B := 250000) (by omega) s3.2 (by omega) (by omega)
  generalize hp : s.ms * (2 * s.lo + s.ln - 2 * fr) = p at *
  rw [i64_small (x := p) (by omega), i64_small (x := a.2 + p) (by omega), i64_small (by omega)]
  exact ⟨rfl, by omega, by omega⟩

theorem sm_bd {fr : Int} (hf : -50000 ≤ fr ∧ fr ≤ 50000) : ∀ i : Nat, i ≤ 12 → (∀ j, j < i → LOk (g j)) →
    (0 ≤ (sm g fr i).1 ∧ (sm g fr i).1 ≤ i * 100000000) ∧ (-(i * 25000000000000) ≤ (sm g fr i).2 ∧ (sm g fr i).2 ≤ i * 25000000000000) := by
  intro i
  induction i with
  | zero => intro _ _; exact ⟨⟨Int.le_refl _, Int.le_refl _⟩, ⟨Int.le_refl _, Int.le_refl _⟩⟩
  | succ i ih =>
    intro hi h
    obtain ⟨⟨a1, a2⟩, a3, a4⟩ := ih (by omega) fun j hj => h j (by omega)
    obtain ⟨e1, e2, e3⟩ := addL_eq (h i (by omega)) hf (a := sm g fr i) (by omega) (by omega)
    have hm := (h i (by omega)).2.2
    show (0 ≤ (addL fr (sm g fr i) (g i)).1 ∧ (addL fr (sm g fr i) (g i)).1 ≤ ((i + 1 : Nat) : Int) * 100000000) ∧ (-(((i + 1 : Nat) : Int) * 25000000000000) ≤ (addL fr (sm g fr i) (g i)).2 ∧ (addL fr (sm g fr i) (g i)).2 ≤ ((i + 1 : Nat) : Int) * 25000000000000)
    rw [e1]
    refine ⟨⟨?_, ?_⟩, ?_, ?_⟩ <;> simp only <;> omega

noncomputable def sB (t : TD) (n : Nat) (g : Nat → LD) (ln ms a : Int) : Bool :=
  r34.v t (IntKind.i64.wrap (r33.v0 n g t.fr + ms)) (IntKind.i64.wrap (r33.v1 n g t.fr + IntKind.i64.wrap (ms * IntKind.i64.wrap (IntKind.i64.wrap (IntKind.i64.wrap (2 * a) + ln) - IntKind.i64.wrap (2 * t.fr)))))

def RngI (S : Int → Bool) (W : Int) (i : Int) (f : Bool) (lo hi : Int) : Prop :=
  (f = false ∧ ∀ a, 0 ≤ a → a < i → S a = false) ∨ (f = true ∧ 0 ≤ lo ∧ lo ≤ hi ∧ hi < i ∧ hi ≤ W ∧ S lo = true ∧ S hi = true ∧ ∀ a, 0 ≤ a → a < i → S a = true → lo ≤ a ∧ a ≤ hi)

theorem rng_N {ln ms : Int} (hW : IntKind.i64.wrap (t.tl - ln) ≤ 50000) : ∀ (m : Nat) (i : Int) (f : Bool) (lo hi : Int), 0 ≤ i → i ≤ 50001 → (50001 - i).toNat < m → RngI (sB t n g ln ms) (IntKind.i64.wrap (t.tl - ln)) i f lo hi →
    ∃ j f' lo' hi', L12a.N t n g ln ms m f i lo hi = .e0 f' lo' hi' ∧ IntKind.i64.wrap (t.tl - ln) < j ∧ RngI (sB t n g ln ms) (IntKind.i64.wrap (t.tl - ln)) j f' lo' hi' := by
  intro m
  induction m with
  | zero => intro i f lo hi _ _ h; omega
  | succ m ih =>
    intro i f lo hi h0 h1 hm hinv
    simp only [L12a.N]
    generalize hw : IntKind.i64.wrap (t.tl - ln) = W at *
    by_cases hi' : i ≤ W
    · rw [decide_eq_true hi', cond_true, show IntKind.i64.wrap (i + 1) = i + 1 from i64_small (by omega)]
      change ∃ j f' lo' hi', (bif sB t n g ln ms i then _ else _) = _ ∧ _
      cases hs : sB t n g ln ms i with
      | true =>
        rw [cond_true]
        cases f with
        | true =>
          rw [cond_true]
          rcases hinv with ⟨q, _⟩ | ⟨_, q1, q2, q3, q4, q5, q6, q7⟩
          · cases q
          · refine ih (i + 1) true lo i (by omega) (by omega) (by omega) (.inr ⟨rfl, q1, by omega, by omega, hi', q5, hs, fun a a1 a2 a3 => ?_⟩)
            by_cases e : a = i
            · omega
            · have := q7 a a1 (by omega) a3; omega
        | false =>
          rw [cond_false]
          rcases hinv with ⟨_, q⟩ | ⟨q, _⟩
          · refine ih (i + 1) true i i (by omega) (by omega) (by omega) (.inr ⟨rfl, h0, Int.le_refl _, by omega, hi', hs, hs, fun a a1 a2 a3 => ?_⟩)
            by_cases e : a = i
            · omega
            · rw [q a a1 (by omega)] at a3; cases a3
          · cases q
      | false =>
        rw [cond_false]
        refine ih (i + 1) f lo hi (by omega) (by omega) (by omega) ?_
        rcases hinv with ⟨q, q1⟩ | ⟨q, q1, q2, q3, q4, q5, q6, q7⟩
        · refine .inl ⟨q, fun a a1 a2 => ?_⟩
          by_cases e : a = i
          · rw [e]; exact hs
          · exact q1 a a1 (by omega)
        · refine .inr ⟨q, q1, q2, by omega, q4, q5, q6, fun a a1 a2 a3 => ?_⟩
          by_cases e : a = i
          · rw [e, hs] at a3; cases a3
          · exact q7 a a1 (by omega) a3
    · rw [decide_eq_false hi', cond_false]
      exact ⟨i, f, lo, hi, rfl, by omega, hinv⟩

/-- What Range hands back of a truck and loads that are valid. -/
theorem range_ok {ln ms : Int} (h : r18.v t n g = 0) (h1 : r32.v ln 1 50000 = true) (h2 : r32.v ms 1 100000000 = true) :
    (r12.v2 t n g ln ms = 9 ∧ r12.v0 t n g ln ms = 0 ∧ r12.v1 t n g ln ms = 0 ∧ ∀ a, 0 ≤ a → a ≤ t.tl - ln → sB t n g ln ms a = false) ∨
    (r12.v2 t n g ln ms = 0 ∧ 0 ≤ r12.v0 t n g ln ms ∧ r12.v0 t n g ln ms ≤ r12.v1 t n g ln ms ∧ r12.v1 t n g ln ms ≤ t.tl - ln ∧ sB t n g ln ms (r12.v0 t n g ln ms) = true ∧ sB t n g ln ms (r12.v1 t n g ln ms) = true ∧
      ∀ a, 0 ≤ a → a ≤ t.tl - ln → sB t n g ln ms a = true → r12.v0 t n g ln ms ≤ a ∧ a ≤ r12.v1 t n g ln ms) := by
  have hW := w_tl h h1
  have b1 := bd_tl h
  have b2 := bd_in h1
  have eW : IntKind.i64.wrap (t.tl - ln) = t.tl - ln := i64_small (by omega)
  obtain ⟨j, f, lo, hi, e, hj, hp⟩ := rng_N (n := n) (g := g) (ms := ms) hW ((50001 - (0 : Int)).toNat + 1) 0 false 0 0 (Int.le_refl _) (by omega) (by omega) (.inl ⟨rfl, fun a a1 a2 => by omega⟩)
  rw [eW] at hj hp
  unfold r12.v0 r12.v1 r12.v2 L12a.run
  rw [h, h1, h2, e]
  rcases hp with ⟨q, q1⟩ | ⟨q, q1, q2, q3, q4, q5, q6, q7⟩
  · subst q
    exact .inl ⟨rfl, rfl, rfl, fun a a1 a2 => q1 a a1 (by omega)⟩
  · subst q
    exact .inr ⟨rfl, q1, q2, q4, q5, q6, fun a a1 a2 a3 => q7 a a1 (by omega) a3⟩

end Go.Proofs.Ytngpbfocjgikaaa

open Go

namespace Go.Proofs.Ytngpbfocjgikaaa

set_option maxHeartbeats 0

set_option maxRecDepth 100000

set_option linter.unusedVariables false

set_option linter.unusedSimpArgs false

variable {n : Nat} {g : Nat → LD} {t : TD}

theorem L41_N (hn : n ≤ 9223372036854775807) (fr : Int) : ∀ (m i : Nat), i ≤ n → n - i < m → L41a.N n g fr m (sm g fr i).2 (i : Int) = .e0 (sm g fr n).2 := by
  intro m
  induction m with
  | zero => intro i _ h; omega
  | succ m ih =>
    intro i hi hm
    simp only [L41a.N, Int.toNat_natCast]
    rcases Nat.lt_or_ge i n with h | h
    · rw [decide_eq_true (show (i : Int) < (n : Int) by omega), cond_true, wrap_succ hn h]
      exact ih (i + 1) h (by omega)
    · rw [decide_eq_false (show ¬ (i : Int) < (n : Int) by omega), cond_false, show i = n by omega]

theorem r41_sm (hn : n ≤ 9223372036854775807) (fr : Int) : r41.v n g fr = (sm g fr n).2 := by
  have e : L41a.run n g fr 0 0 = .e0 (sm g fr n).2 := by
    unfold L41a.run
    rw [show ((n : Int) - 0).toNat + 1 = n + 1 by omega]
    exact L41_N hn fr (n + 1) 0 (Nat.zero_le _) (by omega)
  unfold r41.v
  rw [e]

theorem L20_N (hn : n ≤ 9223372036854775807) (fr : Int) : ∀ (m i : Nat), i ≤ n → n - i < m → L20a.N n g m (sm g fr i).1 (i : Int) = .e0 (sm g fr n).1 := by
  intro m
  induction m with
  | zero => intro i _ h; omega
  | succ m ih =>
    intro i hi hm
    simp only [L20a.N, Int.toNat_natCast]
    rcases Nat.lt_or_ge i n with h | h
    · rw [decide_eq_true (show (i : Int) < (n : Int) by omega), cond_true, wrap_succ hn h]
      exact ih (i + 1) h (by omega)
    · rw [decide_eq_false (show ¬ (i : Int) < (n : Int) by omega), cond_false, show i = n by omega]

theorem r20_sm (hn : n ≤ 9223372036854775807) (fr : Int) : r20.v n g = (sm g fr n).1 := by
  have e : L20a.run n g 0 0 = .e0 (sm g fr n).1 := by
    unfold L20a.run
    rw [show ((n : Int) - 0).toNat + 1 = n + 1 by omega]
    exact L20_N hn fr (n + 1) 0 (Nat.zero_le _) (by omega)
  unfold r20.v
  rw [e]

end Go.Proofs.Ytngpbfocjgikaaa

open Go

namespace Go.Proofs.Ytngpbfocjgikaaa

set_option linter.unusedSimpArgs false

set_option linter.unusedVariables false

set_option maxHeartbeats 0

set_option maxRecDepth 100000

noncomputable def r67.v2 (ng : Bool) : Bool := bnot ng

theorem r67 (xl : Int) (ng : Bool) (h : AHeap) : Ret Try.prog 67 ([AV.agg [AV.int IntKind.u64 0, AV.int IntKind.u64 xl, AV.bool ng]]) h (AV.agg ((AV.int IntKind.u64 0) :: ((AV.int IntKind.u64 xl) :: ((AV.bool (r67.v2 ng)) :: [])))) h := by
  exact Ret.of_run1 mix [(AV.agg ((AV.int IntKind.u64 0) :: ((AV.int IntKind.u64 xl) :: ((AV.bool (r67.v2 ng)) :: []))))] Try.func67 rfl [] (by simp) (by simp) (kmp (by kernel_rfl) (And.intro (And.intro trivial (show (AV.agg [AV.int IntKind.u64 0, AV.int IntKind.u64 xl, AV.bool (bnot ng)]) = ((AV.agg ((AV.int IntKind.u64 0) :: ((AV.int IntKind.u64 xl) :: ((AV.bool (r67.v2 ng)) :: []))))) by first | (simp only [r67.v2, cond_true, cond_false]; done) | (try unfold r67.v2; try rfl; done) | rfl)) trivial)) h

noncomputable def r65t.v0 (xh : Int) (xl : Int) (yh : Int) (yl : Int) : Int := (yh - xh - if yl < xl + 0 then 1 else 0) % 18446744073709551616

noncomputable def r65t.v1 (xl : Int) (yl : Int) : Int := (yl - xl - 0) % 18446744073709551616

theorem r65t (xh : Int) (xl : Int) (yh : Int) (yl : Int) (b1 : 0 ≤ xh) (b2 : 0 ≤ xl) (c1 : xh ≤ 18446744073709551615) (c2 : xl ≤ 18446744073709551615) (b3 : 0 ≤ yh) (b4 : yh ≤ 18446744073709551615) (b5 : 0 ≤ yl) (b6 : yl ≤ 18446744073709551615) (hq : r83.v yh yl xh xl = true) (h : AHeap) : Ret Try.prog 65 ([AV.agg [AV.int IntKind.u64 xh, AV.int IntKind.u64 xl, AV.bool false], AV.agg [AV.int IntKind.u64 yh, AV.int IntKind.u64 yl, AV.bool true]]) h (AV.agg ((AV.int IntKind.u64 (r65t.v0 xh xl yh yl)) :: ((AV.int IntKind.u64 (r65t.v1 xl yl)) :: ((AV.bool true) :: [])))) h := by
  have o0 : (0 : Int) ≤ yl := by first | assumption | omega | (simp_all; done)
  have o1 : (0 : Int) ≤ xl := by first | assumption | omega | (simp_all; done)
  have o2 : xl ≤ (18446744073709551615 : Int) := by first | assumption | omega | (simp_all; done)
  have o3 : xl + (0 : Int) ≤ yl + (18446744073709551616 : Int) := by first | assumption | omega | (simp_all; done)
  have o4 : (0 : Int) ≤ yh := by first | assumption | omega | (simp_all; done)
  have o5 : (0 : Int) ≤ xh := by first | assumption | omega | (simp_all; done)
  have o6 : xh ≤ (18446744073709551615 : Int) := by first | assumption | omega | (simp_all; done)
  have o7 : (0 : Int) ≤ if yl < xl + (0 : Int) then (1 : Int) else (0 : Int) := by first | assumption | omega | (apply ite_0 <;> first | assumption | omega) | (simp_all; done)
  have o8 : (if yl < xl + (0 : Int) then (1 : Int) else (0 : Int)) ≤ (1 : Int) := by first | assumption | omega | (apply ite_1 <;> first | assumption | omega) | (simp_all; done)
  have o9 : (xh + if yl < xl + (0 : Int) then (1 : Int) else (0 : Int)) ≤ yh + (18446744073709551616 : Int) := by first | assumption | omega | (apply ite_2 <;> first | assumption | omega) | (simp_all; done)
  exact Ret.of_run1 mix [(AV.agg ((AV.int IntKind.u64 (r65t.v0 xh xl yh yl)) :: ((AV.int IntKind.u64 (r65t.v1 xl yl)) :: ((AV.bool true) :: []))))] Try.func65 rfl [.b false, .ret (AV.bool (r83.v yh yl xh xl)) ([AObj.var (AV.agg [AV.int IntKind.u64 xh, AV.int IntKind.u64 xl, AV.bool false]), AObj.var (AV.agg [AV.int IntKind.u64 yh, AV.int IntKind.u64 yl, AV.bool true]), AObj.var (AV.agg [AV.int IntKind.u64 0, AV.int IntKind.u64 0, AV.bool false])]), .b true, .ret (AV.tup [AV.int IntKind.u64 ((yl - xl - 0) % 18446744073709551616), AV.int IntKind.u64 (if yl < xl + 0 then 1 else 0)]) ([AObj.var (AV.agg [AV.int IntKind.u64 yh, AV.int IntKind.u64 yl, AV.bool true]), AObj.var (AV.agg [AV.int IntKind.u64 xh, AV.int IntKind.u64 xl, AV.bool false]), AObj.var (AV.agg [AV.int IntKind.u64 0, AV.int IntKind.u64 0, AV.bool false])]), .ret (AV.tup [AV.int IntKind.u64 ((yh - xh - if yl < xl + 0 then 1 else 0) % 18446744073709551616), AV.int IntKind.u64 (if yh < xh + if yl < xl + 0 then 1 else 0 then 1 else 0)]) ([AObj.var (AV.agg [AV.int IntKind.u64 yh, AV.int IntKind.u64 yl, AV.bool true]), AObj.var (AV.agg [AV.int IntKind.u64 xh, AV.int IntKind.u64 xl, AV.bool false]), AObj.var (AV.agg [AV.int IntKind.u64 0, AV.int IntKind.u64 0, AV.bool false])])] (by simp) (by simp) (kmp (by kernel_rfl) (And.intro (rfl : false = false) (And.intro (r83 (yh) (yl) (true) (xh) (xl) (false) ([AObj.var (AV.agg [AV.int IntKind.u64 xh, AV.int IntKind.u64 xl, AV.bool false]), AObj.var (AV.agg [AV.int IntKind.u64 yh, AV.int IntKind.u64 yl, AV.bool true]), AObj.var (AV.agg [AV.int IntKind.u64 0, AV.int IntKind.u64 0, AV.bool false])])) (And.intro hq (And.intro (e84 (yl) (xl) (0) o0 o1 o2 (show (0 : Int) ≤ (0 : Int) by first | decide | exact Int.NonNeg.mk _) (show (0 : Int) ≤ (1 : Int) by first | decide | exact Int.NonNeg.mk _) o3) (And.intro (e84 (yh) (xh) (if yl < xl + 0 then 1 else 0) o4 o5 o6 o7 o8 o9) (And.intro (And.intro trivial (show (AV.agg [AV.int IntKind.u64 ((yh - xh - if yl < xl + 0 then 1 else 0) % 18446744073709551616), AV.int IntKind.u64 ((yl - xl - 0) % 18446744073709551616), AV.bool true]) = ((AV.agg ((AV.int IntKind.u64 (r65t.v0 xh xl yh yl)) :: ((AV.int IntKind.u64 (r65t.v1 xl yl)) :: ((AV.bool true) :: []))))) by first | (simp only [r65t.v0, r65t.v1, cond_true, cond_false]; done) | (try unfold r65t.v0; try unfold r65t.v1; try rfl; done) | rfl)) trivial))))))) h

end Go.Proofs.Ytngpbfocjgikaaa

open Go

namespace Go.Proofs.Ytngpbfocjgikaaa

set_option maxHeartbeats 0

set_option maxRecDepth 100000

set_option linter.unusedVariables false

set_option linter.unusedSimpArgs false

theorem c67 (x : Int) (ng : Bool) (h : AHeap) : Ret Try.prog 67 [AV.agg [AV.int .u64 0, AV.int .u64 x, AV.bool ng]] h (AV.agg [AV.int .u64 0, AV.int .u64 x, AV.bool (bnot ng)]) h := r67 x ng h

theorem c66 (x y : Int) (hx : 0 ≤ x ∧ x ≤ 9223372036854775807) (hy : 0 ≤ y ∧ y ≤ 9223372036854775807) (hxy : x * y ≤ 9223372036854775807) (h : AHeap) :
    Ret Try.prog 66 [AV.int .i64 x, AV.int .i64 y] h (AV.agg [AV.int .u64 0, AV.int .u64 (x * y), AV.bool false]) h := by
  have r := r66 x y h
  have ex : r85.v x = x := by rw [size85 (by omega)]; omega
  have ey : r85.v y = y := by rw [size85 (by omega)]; omega
  have h0 := Int.mul_nonneg hx.1 hy.1
  have a0 : r66.v0 x y = 0 := by
    unfold r66.v0
    rw [ex, ey, r73_v0 _ _ (by omega) (by omega) (by omega) (by omega)]
    omega
  have a1 : r66.v1 x y = x * y := by
    unfold r66.v1 r73.v1
    rw [ex, ey, IntWalk.u64_in _ (by omega)]
  have a2 : r66.v2 x y = false := by
    unfold r66.v2
    rw [decide_eq_false (show ¬ x < 0 by omega), decide_eq_false (show ¬ y < 0 by omega)]; rfl
  rw [a0, a1, a2] at r
  exact r

theorem c65 (x y : Int) (hx : 0 ≤ x ∧ x ≤ 9223372036854775807) (hy : 0 ≤ y ∧ y ≤ 9223372036854775807) (h : AHeap) :
    Ret Try.prog 65 [AV.agg [AV.int .u64 0, AV.int .u64 x, AV.bool false], AV.agg [AV.int .u64 0, AV.int .u64 y, AV.bool true]] h
      (AV.agg [AV.int .u64 0, AV.int .u64 (if x < y then y - x else x - y), AV.bool (decide (x < y))]) h := by
  have e83 : r83.v 0 y 0 x = decide (y > x) := by unfold r83.v; rfl
  by_cases q : x < y
  · have r := r65t 0 x 0 y (Int.le_refl _) hx.1 (by decide) (by omega) (Int.le_refl _) (by decide) hy.1 (by omega) (e83.trans (decide_eq_true q)) h
    have a0 : r65t.v0 0 x 0 y = 0 := by unfold r65t.v0; rw [if_neg (by omega)]; rfl
    have a1 : r65t.v1 x y = y - x := by unfold r65t.v1; omega
    rw [a0, a1] at r
    rw [if_pos q, decide_eq_true q]
    exact r
  · have r := r65 0 x 0 y (Int.le_refl _) hx.1 (Int.le_refl _) (by decide) hy.1 (by omega) (e83.trans (decide_eq_false q)) h
    have a0 : r65.v0 0 x 0 y = 0 := by unfold r65.v0; rw [if_neg (by omega)]; rfl
    have a1 : r65.v1 x y = x - y := by unfold r65.v1; omega
    rw [a0, a1] at r
    rw [if_neg q, decide_eq_false q]
    exact r

theorem mul_0 {x y : Int} (hx : 0 ≤ x) (hy : 0 ≤ y) : 0 ≤ x * y := Int.mul_nonneg hx hy

end Go.Proofs.Ytngpbfocjgikaaa

open Go

namespace Go.Proofs.Ytngpbfocjgikaaa

set_option linter.unusedSimpArgs false

set_option linter.unusedVariables false

set_option maxHeartbeats 0

set_option maxRecDepth 100000

noncomputable def r43.v (a : Int) (b : Int) (l : Int) : Int := (bif (if a * 1 < l * b then l * b - a * 1 else a * 1 - l * b) == 0 then 0 else (bif decide (a * 1 < l * b) then -1 else 1))

noncomputable abbrev r43.h0 (a : Int) (b : Int) (l : Int) : AHeap := ([AObj.var (AV.agg [AV.int IntKind.i64 a, AV.int IntKind.i64 b]), AObj.var (AV.agg [AV.int IntKind.i64 l, AV.int IntKind.i64 1])])

noncomputable abbrev r43.h1 (a : Int) (b : Int) (l : Int) : AHeap := ([AObj.var (AV.agg [AV.int IntKind.i64 a, AV.int IntKind.i64 b]), AObj.var (AV.agg [AV.int IntKind.i64 l, AV.int IntKind.i64 1]), AObj.var (AV.agg [AV.int IntKind.u64 0, AV.int IntKind.u64 (if a * 1 < l * b then l * b - a * 1 else a * 1 - l * b), AV.bool (decide (a * 1 < l * b))])])

theorem r43 (a : Int) (b : Int) (l : Int) (h0 : 0 ≤ a) (h1 : a ≤ 9223372036854775807) (h2 : 0 ≤ b) (h3 : b ≤ 9223372036854775807) (h4 : 0 ≤ l) (h5 : l ≤ 9223372036854775807) (h6 : l * b ≤ 9223372036854775807) (h : AHeap) : Ret Try.prog 43 ([AV.agg [AV.int IntKind.i64 a, AV.int IntKind.i64 b], AV.agg [AV.int IntKind.i64 l, AV.int IntKind.i64 1]]) h (AV.int IntKind.i64 (r43.v a b l)) h := by
  have o0 : (0 : Int) ≤ a := by first | assumption | omega | (simp_all; done)
  have o1 : a ≤ (9223372036854775807 : Int) := by first | assumption | omega | (simp_all; done)
  have o2 : a * (1 : Int) ≤ (9223372036854775807 : Int) := by first | assumption | omega | (simp_all; done)
  have o3 : (0 : Int) ≤ l := by first | assumption | omega | (simp_all; done)
  have o4 : l ≤ (9223372036854775807 : Int) := by first | assumption | omega | (simp_all; done)
  have o5 : (0 : Int) ≤ b := by first | assumption | omega | (simp_all; done)
  have o6 : b ≤ (9223372036854775807 : Int) := by first | assumption | omega | (simp_all; done)
  have o7 : l * b ≤ (9223372036854775807 : Int) := by first | assumption | omega | (simp_all; done)
  have o8 : (0 : Int) ≤ a * (1 : Int) := by first | assumption | omega | (apply mul_0 <;> first | assumption | omega) | (simp_all; done)
  have o9 : (0 : Int) ≤ l * b := by first | assumption | omega | (apply mul_0 <;> first | assumption | omega) | (simp_all; done)
  cases h1 : (if a * 1 < l * b then l * b - a * 1 else a * 1 - l * b) == 0 with
  | true =>
    have h1p := eq_of_beq h1
    exact Ret.of_run1 mix [(AV.int IntKind.i64 (r43.v a b l))] Try.func43 rfl [.ret (AV.agg [AV.int IntKind.u64 0, AV.int IntKind.u64 (a * 1), AV.bool false]) (r43.h0 a b l), .ret (AV.agg [AV.int IntKind.u64 0, AV.int IntKind.u64 (l * b), AV.bool false]) (r43.h0 a b l), .ret (AV.agg [AV.int IntKind.u64 0, AV.int IntKind.u64 (l * b), AV.bool (bnot false)]) (r43.h0 a b l), .ret (AV.agg [AV.int IntKind.u64 0, AV.int IntKind.u64 (if a * 1 < l * b then l * b - a * 1 else a * 1 - l * b), AV.bool (decide (a * 1 < l * b))]) (r43.h0 a b l), .ret (AV.bool ((if a * 1 < l * b then l * b - a * 1 else a * 1 - l * b) == 0)) (r43.h1 a b l), .b true] (by simp) (by simp) (kmp (by kernel_rfl) (And.intro (c66 (a) (1) (And.intro o0 o1) (And.intro (show (0 : Int) ≤ (1 : Int) by first | decide | exact Int.NonNeg.mk _) (show (1 : Int) ≤ (9223372036854775807 : Int) by first | decide | exact Int.NonNeg.mk _)) o2 (r43.h0 a b l)) (And.intro (PRet.mk (c66 (a) (1) (And.intro o0 o1) (And.intro (show (0 : Int) ≤ (1 : Int) by first | decide | exact Int.NonNeg.mk _) (show (1 : Int) ≤ (9223372036854775807 : Int) by first | decide | exact Int.NonNeg.mk _)) o2 ([])) (by simp)) (And.intro (c66 (l) (b) (And.intro o3 o4) (And.intro o5 o6) o7 (r43.h0 a b l)) (And.intro (PRet.mk (c66 (l) (b) (And.intro o3 o4) (And.intro o5 o6) o7 ([])) (by simp)) (And.intro (c67 (l * b) (false) (r43.h0 a b l)) (And.intro (PRet.mk (c67 (l * b) (false) ([])) (by simp)) (And.intro (c65 (a * 1) (l * b) (And.intro o8 o2) (And.intro o9 o7) (r43.h0 a b l)) (And.intro (PRet.mk (c65 (a * 1) (l * b) (And.intro o8 o2) (And.intro o9 o7) ([])) (by simp)) (And.intro (c68 (if a * 1 < l * b then l * b - a * 1 else a * 1 - l * b) (decide (a * 1 < l * b)) (r43.h1 a b l)) (And.intro h1 (And.intro (show (AV.int IntKind.i64 0) = ((AV.int IntKind.i64 (r43.v a b l))) by first | (simp only [r43.v, h1, cond_true, cond_false]; done) | (try unfold r43.v; try simp only [h1, cond_true, cond_false]; try rfl; done) | rfl) trivial)))))))))))) h
  | false =>
    have h1p := ne_of_beq_false h1
    cases h2 : decide (a * 1 < l * b) with
    | true =>
      have h2p := of_decide_eq_true h2
      exact Ret.of_run1 mix [(AV.int IntKind.i64 (r43.v a b l))] Try.func43 rfl [.ret (AV.agg [AV.int IntKind.u64 0, AV.int IntKind.u64 (a * 1), AV.bool false]) (r43.h0 a b l), .ret (AV.agg [AV.int IntKind.u64 0, AV.int IntKind.u64 (l * b), AV.bool false]) (r43.h0 a b l), .ret (AV.agg [AV.int IntKind.u64 0, AV.int IntKind.u64 (l * b), AV.bool (bnot false)]) (r43.h0 a b l), .ret (AV.agg [AV.int IntKind.u64 0, AV.int IntKind.u64 (if a * 1 < l * b then l * b - a * 1 else a * 1 - l * b), AV.bool (decide (a * 1 < l * b))]) (r43.h0 a b l), .ret (AV.bool ((if a * 1 < l * b then l * b - a * 1 else a * 1 - l * b) == 0)) (r43.h1 a b l), .b false, .b true] (by simp) (by simp) (kmp (by kernel_rfl) (And.intro (c66 (a) (1) (And.intro o0 o1) (And.intro (show (0 : Int) ≤ (1 : Int) by first | decide | exact Int.NonNeg.mk _) (show (1 : Int) ≤ (9223372036854775807 : Int) by first | decide | exact Int.NonNeg.mk _)) o2 (r43.h0 a b l)) (And.intro (PRet.mk (c66 (a) (1) (And.intro o0 o1) (And.intro (show (0 : Int) ≤ (1 : Int) by first | decide | exact Int.NonNeg.mk _) (show (1 : Int) ≤ (9223372036854775807 : Int) by first | decide | exact Int.NonNeg.mk _)) o2 ([])) (by simp)) (And.intro (c66 (l) (b) (And.intro o3 o4) (And.intro o5 o6) o7 (r43.h0 a b l)) (And.intro (PRet.mk (c66 (l) (b) (And.intro o3 o4) (And.intro o5 o6) o7 ([])) (by simp)) (And.intro (c67 (l * b) (false) (r43.h0 a b l)) (And.intro (PRet.mk (c67 (l * b) (false) ([])) (by simp)) (And.intro (c65 (a * 1) (l * b) (And.intro o8 o2) (And.intro o9 o7) (r43.h0 a b l)) (And.intro (PRet.mk (c65 (a * 1) (l * b) (And.intro o8 o2) (And.intro o9 o7) ([])) (by simp)) (And.intro (c68 (if a * 1 < l * b then l * b - a * 1 else a * 1 - l * b) (decide (a * 1 < l * b)) (r43.h1 a b l)) (And.intro h1 (And.intro h2 (And.intro (show (AV.int IntKind.i64 (-1)) = ((AV.int IntKind.i64 (r43.v a b l))) by first | (simp only [r43.v, h1, h2, cond_true, cond_false]; done) | (try unfold r43.v; try simp only [h1, cond_true, cond_false]; try simp only [h2, cond_true, cond_false]; try rfl; done) | rfl) trivial))))))))))))) h
    | false =>
      have h2p := of_decide_eq_false h2
      exact Ret.of_run1 mix [(AV.int IntKind.i64 (r43.v a b l))] Try.func43 rfl [.ret (AV.agg [AV.int IntKind.u64 0, AV.int IntKind.u64 (a * 1), AV.bool false]) (r43.h0 a b l), .ret (AV.agg [AV.int IntKind.u64 0, AV.int IntKind.u64 (l * b), AV.bool false]) (r43.h0 a b l), .ret (AV.agg [AV.int IntKind.u64 0, AV.int IntKind.u64 (l * b), AV.bool (bnot false)]) (r43.h0 a b l), .ret (AV.agg [AV.int IntKind.u64 0, AV.int IntKind.u64 (if a * 1 < l * b then l * b - a * 1 else a * 1 - l * b), AV.bool (decide (a * 1 < l * b))]) (r43.h0 a b l), .ret (AV.bool ((if a * 1 < l * b then l * b - a * 1 else a * 1 - l * b) == 0)) (r43.h1 a b l), .b false, .b false] (by simp) (by simp) (kmp (by kernel_rfl) (And.intro (c66 (a) (1) (And.intro o0 o1) (And.intro (show (0 : Int) ≤ (1 : Int) by first | decide | exact Int.NonNeg.mk _) (show (1 : Int) ≤ (9223372036854775807 : Int) by first | decide | exact Int.NonNeg.mk _)) o2 (r43.h0 a b l)) (And.intro (PRet.mk (c66 (a) (1) (And.intro o0 o1) (And.intro (show (0 : Int) ≤ (1 : Int) by first | decide | exact Int.NonNeg.mk _) (show (1 : Int) ≤ (9223372036854775807 : Int) by first | decide | exact Int.NonNeg.mk _)) o2 ([])) (by simp)) (And.intro (c66 (l) (b) (And.intro o3 o4) (And.intro o5 o6) o7 (r43.h0 a b l)) (And.intro (PRet.mk (c66 (l) (b) (And.intro o3 o4) (And.intro o5 o6) o7 ([])) (by simp)) (And.intro (c67 (l * b) (false) (r43.h0 a b l)) (And.intro (PRet.mk (c67 (l * b) (false) ([])) (by simp)) (And.intro (c65 (a * 1) (l * b) (And.intro o8 o2) (And.intro o9 o7) (r43.h0 a b l)) (And.intro (PRet.mk (c65 (a * 1) (l * b) (And.intro o8 o2) (And.intro o9 o7) ([])) (by simp)) (And.intro (c68 (if a * 1 < l * b then l * b - a * 1 else a * 1 - l * b) (decide (a * 1 < l * b)) (r43.h1 a b l)) (And.intro h1 (And.intro h2 (And.intro (show (AV.int IntKind.i64 1) = ((AV.int IntKind.i64 (r43.v a b l))) by first | (simp only [r43.v, h1, h2, cond_true, cond_false]; done) | (try unfold r43.v; try simp only [h1, cond_true, cond_false]; try simp only [h2, cond_true, cond_false]; try rfl; done) | rfl) trivial))))))))))))) h

end Go.Proofs.Ytngpbfocjgikaaa

open Go

namespace Go.Proofs.Ytngpbfocjgikaaa

set_option linter.unusedSimpArgs false

set_option linter.unusedVariables false

set_option maxHeartbeats 0

set_option maxRecDepth 100000

noncomputable def r27.v0 (t : TD) (n : Nat) (g : Nat → LD) : Int := r40.v0 (IntKind.i64.wrap (IntKind.i64.wrap (IntKind.i64.wrap (t.e0 * IntKind.i64.wrap (2 * IntKind.i64.wrap (t.re - t.fr))) + IntKind.i64.wrap (r20.v n g * IntKind.i64.wrap (2 * IntKind.i64.wrap (t.re - t.fr)))) - r41.v n g t.fr)) (IntKind.i64.wrap (2 * IntKind.i64.wrap (t.re - t.fr)))

noncomputable def r27.v1 (t : TD) (n : Nat) (g : Nat → LD) : Int := r40.v1 (IntKind.i64.wrap (IntKind.i64.wrap (IntKind.i64.wrap (t.e0 * IntKind.i64.wrap (2 * IntKind.i64.wrap (t.re - t.fr))) + IntKind.i64.wrap (r20.v n g * IntKind.i64.wrap (2 * IntKind.i64.wrap (t.re - t.fr)))) - r41.v n g t.fr)) (IntKind.i64.wrap (2 * IntKind.i64.wrap (t.re - t.fr)))

noncomputable def r27.v2 (t : TD) (n : Nat) (g : Nat → LD) : Int := r40.v0 (IntKind.i64.wrap (IntKind.i64.wrap (t.e1 * IntKind.i64.wrap (2 * IntKind.i64.wrap (t.re - t.fr))) + r41.v n g t.fr)) (IntKind.i64.wrap (2 * IntKind.i64.wrap (t.re - t.fr)))

noncomputable def r27.v3 (t : TD) (n : Nat) (g : Nat → LD) : Int := r40.v1 (IntKind.i64.wrap (IntKind.i64.wrap (t.e1 * IntKind.i64.wrap (2 * IntKind.i64.wrap (t.re - t.fr))) + r41.v n g t.fr)) (IntKind.i64.wrap (2 * IntKind.i64.wrap (t.re - t.fr)))

noncomputable abbrev r27.h0 (t : TD) (n : Nat) (g : Nat → LD) : AHeap := ([AObj.var (AV.agg [AV.str t.nm, AV.int IntKind.i64 t.tl, AV.int IntKind.i64 t.fr, AV.int IntKind.i64 t.re, AV.int IntKind.i64 t.l0, AV.int IntKind.i64 t.l1, AV.int IntKind.i64 t.e0, AV.int IntKind.i64 t.e1]), AObj.var (AV.agg [AV.int IntKind.i64 0, AV.int IntKind.i64 0, AV.int IntKind.i64 0, AV.int IntKind.i64 0])])

theorem r27 (t : TD) (n : Nat) (hn : n ≤ 9223372036854775807) (g : Nat → LD) (h : AHeap) : Ret Try.prog 27 ([t.av, lds n g]) h (AV.agg ((AV.int IntKind.i64 (r27.v0 t n g)) :: ((AV.int IntKind.i64 (r27.v1 t n g)) :: ((AV.int IntKind.i64 (r27.v2 t n g)) :: ((AV.int IntKind.i64 (r27.v3 t n g)) :: []))))) h := by
  have o0 : n ≤ (9223372036854775807 : Nat) := by first | assumption | omega | (simp_all; done)
  try have := IntWalk.i64_in (t.re - t.fr) (by omega)
  try have := IntWalk.i64_in (2 * IntKind.i64.wrap (t.re - t.fr)) (by omega)
  try have := IntWalk.i64_in (t.e0 * IntKind.i64.wrap (2 * IntKind.i64.wrap (t.re - t.fr))) (by omega)
  try have := IntWalk.i64_in (r20.v n g * IntKind.i64.wrap (2 * IntKind.i64.wrap (t.re - t.fr))) (by omega)
  try have := IntWalk.i64_in (IntKind.i64.wrap (t.e0 * IntKind.i64.wrap (2 * IntKind.i64.wrap (t.re - t.fr))) + IntKind.i64.wrap (r20.v n g * IntKind.i64.wrap (2 * IntKind.i64.wrap (t.re - t.fr)))) (by omega)
  try have := IntWalk.i64_in (IntKind.i64.wrap (IntKind.i64.wrap (t.e0 * IntKind.i64.wrap (2 * IntKind.i64.wrap (t.re - t.fr))) + IntKind.i64.wrap (r20.v n g * IntKind.i64.wrap (2 * IntKind.i64.wrap (t.re - t.fr)))) - r41.v n g t.fr) (by omega)
  have o1 : (-9223372036854775808 : Int) ≤ IntKind.i64.wrap (IntKind.i64.wrap (IntKind.i64.wrap (t.e0 * IntKind.i64.wrap ((2 : Int) * IntKind.i64.wrap (t.re - t.fr))) + IntKind.i64.wrap (r20.v n g * IntKind.i64.wrap ((2 : Int) * IntKind.i64.wrap (t.re - t.fr)))) - r41.v n g t.fr) := by first | assumption | omega | (apply wr_lo <;> first | assumption | omega) | (simp_all; done)
  have o2 : IntKind.i64.wrap (IntKind.i64.wrap (IntKind.i64.wrap (t.e0 * IntKind.i64.wrap ((2 : Int) * IntKind.i64.wrap (t.re - t.fr))) + IntKind.i64.wrap (r20.v n g * IntKind.i64.wrap ((2 : Int) * IntKind.i64.wrap (t.re - t.fr)))) - r41.v n g t.fr) ≤ (9223372036854775807 : Int) := by first | assumption | omega | (apply wr_hi <;> first | assumption | omega) | (simp_all; done)
  have o3 : (-9223372036854775808 : Int) ≤ IntKind.i64.wrap ((2 : Int) * IntKind.i64.wrap (t.re - t.fr)) := by first | assumption | omega | (apply wr_lo <;> first | assumption | omega) | (simp_all; done)
  have o4 : IntKind.i64.wrap ((2 : Int) * IntKind.i64.wrap (t.re - t.fr)) ≤ (9223372036854775807 : Int) := by first | assumption | omega | (apply wr_hi <;> first | assumption | omega) | (simp_all; done)
  try have := IntWalk.i64_in (t.e1 * IntKind.i64.wrap (2 * IntKind.i64.wrap (t.re - t.fr))) (by omega)
  try have := IntWalk.i64_in (IntKind.i64.wrap (t.e1 * IntKind.i64.wrap (2 * IntKind.i64.wrap (t.re - t.fr))) + r41.v n g t.fr) (by omega)
  have o5 : (-9223372036854775808 : Int) ≤ IntKind.i64.wrap (IntKind.i64.wrap (t.e1 * IntKind.i64.wrap ((2 : Int) * IntKind.i64.wrap (t.re - t.fr))) + r41.v n g t.fr) := by first | assumption | omega | (apply wr_lo <;> first | assumption | omega) | (simp_all; done)
  have o6 : IntKind.i64.wrap (IntKind.i64.wrap (t.e1 * IntKind.i64.wrap ((2 : Int) * IntKind.i64.wrap (t.re - t.fr))) + r41.v n g t.fr) ≤ (9223372036854775807 : Int) := by first | assumption | omega | (apply wr_hi <;> first | assumption | omega) | (simp_all; done)
  exact Ret.of_run1 mix [(AV.agg ((AV.int IntKind.i64 (r27.v0 t n g)) :: ((AV.int IntKind.i64 (r27.v1 t n g)) :: ((AV.int IntKind.i64 (r27.v2 t n g)) :: ((AV.int IntKind.i64 (r27.v3 t n g)) :: [])))))] Try.func27 rfl [.ret (AV.int IntKind.i64 (r41.v n g t.fr)) (r27.h0 t n g), .ret (AV.int IntKind.i64 (r20.v n g)) (r27.h0 t n g), .ret (AV.tup [AV.agg [AV.int IntKind.i64 (r40.v0 (IntKind.i64.wrap (IntKind.i64.wrap (IntKind.i64.wrap (t.e0 * IntKind.i64.wrap (2 * IntKind.i64.wrap (t.re - t.fr))) + IntKind.i64.wrap (r20.v n g * IntKind.i64.wrap (2 * IntKind.i64.wrap (t.re - t.fr)))) - r41.v n g t.fr)) (IntKind.i64.wrap (2 * IntKind.i64.wrap (t.re - t.fr)))), AV.int IntKind.i64 (r40.v1 (IntKind.i64.wrap (IntKind.i64.wrap (IntKind.i64.wrap (t.e0 * IntKind.i64.wrap (2 * IntKind.i64.wrap (t.re - t.fr))) + IntKind.i64.wrap (r20.v n g * IntKind.i64.wrap (2 * IntKind.i64.wrap (t.re - t.fr)))) - r41.v n g t.fr)) (IntKind.i64.wrap (2 * IntKind.i64.wrap (t.re - t.fr))))], AV.int IntKind.i64 (r40.v2 (IntKind.i64.wrap (IntKind.i64.wrap (IntKind.i64.wrap (t.e0 * IntKind.i64.wrap (2 * IntKind.i64.wrap (t.re - t.fr))) + IntKind.i64.wrap (r20.v n g * IntKind.i64.wrap (2 * IntKind.i64.wrap (t.re - t.fr)))) - r41.v n g t.fr)) (IntKind.i64.wrap (2 * IntKind.i64.wrap (t.re - t.fr))))]) (r27.h0 t n g), .ret (AV.tup [AV.agg [AV.int IntKind.i64 (r40.v0 (IntKind.i64.wrap (IntKind.i64.wrap (t.e1 * IntKind.i64.wrap (2 * IntKind.i64.wrap (t.re - t.fr))) + r41.v n g t.fr)) (IntKind.i64.wrap (2 * IntKind.i64.wrap (t.re - t.fr)))), AV.int IntKind.i64 (r40.v1 (IntKind.i64.wrap (IntKind.i64.wrap (t.e1 * IntKind.i64.wrap (2 * IntKind.i64.wrap (t.re - t.fr))) + r41.v n g t.fr)) (IntKind.i64.wrap (2 * IntKind.i64.wrap (t.re - t.fr))))], AV.int IntKind.i64 (r40.v2 (IntKind.i64.wrap (IntKind.i64.wrap (t.e1 * IntKind.i64.wrap (2 * IntKind.i64.wrap (t.re - t.fr))) + r41.v n g t.fr)) (IntKind.i64.wrap (2 * IntKind.i64.wrap (t.re - t.fr))))]) ([AObj.var (AV.agg [AV.str t.nm, AV.int IntKind.i64 t.tl, AV.int IntKind.i64 t.fr, AV.int IntKind.i64 t.re, AV.int IntKind.i64 t.l0, AV.int IntKind.i64 t.l1, AV.int IntKind.i64 t.e0, AV.int IntKind.i64 t.e1]), AObj.var (AV.agg [AV.int IntKind.i64 0, AV.int IntKind.i64 0, AV.int IntKind.i64 0, AV.int IntKind.i64 0]), AObj.var (AV.agg [AV.int IntKind.i64 (r40.v0 (IntKind.i64.wrap (IntKind.i64.wrap (IntKind.i64.wrap (t.e0 * IntKind.i64.wrap (2 * IntKind.i64.wrap (t.re - t.fr))) + IntKind.i64.wrap (r20.v n g * IntKind.i64.wrap (2 * IntKind.i64.wrap (t.re - t.fr)))) - r41.v n g t.fr)) (IntKind.i64.wrap (2 * IntKind.i64.wrap (t.re - t.fr)))), AV.int IntKind.i64 (r40.v1 (IntKind.i64.wrap (IntKind.i64.wrap (IntKind.i64.wrap (t.e0 * IntKind.i64.wrap (2 * IntKind.i64.wrap (t.re - t.fr))) + IntKind.i64.wrap (r20.v n g * IntKind.i64.wrap (2 * IntKind.i64.wrap (t.re - t.fr)))) - r41.v n g t.fr)) (IntKind.i64.wrap (2 * IntKind.i64.wrap (t.re - t.fr))))])])] (by simp) (by simp) (kmp (by kernel_rfl) (And.intro (r41 (n) (g) o0 (t.fr) (r27.h0 t n g)) (And.intro (And.intro (show (0 : Int) ≤ (0 : Int) by first | decide | exact Int.NonNeg.mk _) (show (0 : Int) < (2 : Int) by first | decide | exact Int.NonNeg.mk _)) (And.intro (r20 (n) (g) o0 (r27.h0 t n g)) (And.intro (PRet.mk (r20 (n) (g) o0 ([])) (by simp)) (And.intro (r40 (IntKind.i64.wrap (IntKind.i64.wrap (IntKind.i64.wrap (t.e0 * IntKind.i64.wrap (2 * IntKind.i64.wrap (t.re - t.fr))) + IntKind.i64.wrap (r20.v n g * IntKind.i64.wrap (2 * IntKind.i64.wrap (t.re - t.fr)))) - r41.v n g t.fr)) (IntKind.i64.wrap (2 * IntKind.i64.wrap (t.re - t.fr))) (And.intro o1 o2) (And.intro o3 o4) (r27.h0 t n g)) (And.intro (PRet.mk (r40 (IntKind.i64.wrap (IntKind.i64.wrap (IntKind.i64.wrap (t.e0 * IntKind.i64.wrap (2 * IntKind.i64.wrap (t.re - t.fr))) + IntKind.i64.wrap (r20.v n g * IntKind.i64.wrap (2 * IntKind.i64.wrap (t.re - t.fr)))) - r41.v n g t.fr)) (IntKind.i64.wrap (2 * IntKind.i64.wrap (t.re - t.fr))) (And.intro o1 o2) (And.intro o3 o4) ([])) (by simp)) (And.intro (And.intro (show (0 : Int) ≤ (1 : Int) by first | decide | exact Int.NonNeg.mk _) (show (1 : Int) < (2 : Int) by first | decide | exact Int.NonNeg.mk _)) (And.intro (r40 (IntKind.i64.wrap (IntKind.i64.wrap (t.e1 * IntKind.i64.wrap (2 * IntKind.i64.wrap (t.re - t.fr))) + r41.v n g t.fr)) (IntKind.i64.wrap (2 * IntKind.i64.wrap (t.re - t.fr))) (And.intro o5 o6) (And.intro o3 o4) ([AObj.var (AV.agg [AV.str t.nm, AV.int IntKind.i64 t.tl, AV.int IntKind.i64 t.fr, AV.int IntKind.i64 t.re, AV.int IntKind.i64 t.l0, AV.int IntKind.i64 t.l1, AV.int IntKind.i64 t.e0, AV.int IntKind.i64 t.e1]), AObj.var (AV.agg [AV.int IntKind.i64 0, AV.int IntKind.i64 0, AV.int IntKind.i64 0, AV.int IntKind.i64 0]), AObj.var (AV.agg [AV.int IntKind.i64 (r40.v0 (IntKind.i64.wrap (IntKind.i64.wrap (IntKind.i64.wrap (t.e0 * IntKind.i64.wrap (2 * IntKind.i64.wrap (t.re - t.fr))) + IntKind.i64.wrap (r20.v n g * IntKind.i64.wrap (2 * IntKind.i64.wrap (t.re - t.fr)))) - r41.v n g t.fr)) (IntKind.i64.wrap (2 * IntKind.i64.wrap (t.re - t.fr)))), AV.int IntKind.i64 (r40.v1 (IntKind.i64.wrap (IntKind.i64.wrap (IntKind.i64.wrap (t.e0 * IntKind.i64.wrap (2 * IntKind.i64.wrap (t.re - t.fr))) + IntKind.i64.wrap (r20.v n g * IntKind.i64.wrap (2 * IntKind.i64.wrap (t.re - t.fr)))) - r41.v n g t.fr)) (IntKind.i64.wrap (2 * IntKind.i64.wrap (t.re - t.fr))))])])) (And.intro (And.intro trivial (show (AV.agg [AV.int IntKind.i64 (r40.v0 (IntKind.i64.wrap (IntKind.i64.wrap (IntKind.i64.wrap (t.e0 * IntKind.i64.wrap (2 * IntKind.i64.wrap (t.re - t.fr))) + IntKind.i64.wrap (r20.v n g * IntKind.i64.wrap (2 * IntKind.i64.wrap (t.re - t.fr)))) - r41.v n g t.fr)) (IntKind.i64.wrap (2 * IntKind.i64.wrap (t.re - t.fr)))), AV.int IntKind.i64 (r40.v1 (IntKind.i64.wrap (IntKind.i64.wrap (IntKind.i64.wrap (t.e0 * IntKind.i64.wrap (2 * IntKind.i64.wrap (t.re - t.fr))) + IntKind.i64.wrap (r20.v n g * IntKind.i64.wrap (2 * IntKind.i64.wrap (t.re - t.fr)))) - r41.v n g t.fr)) (IntKind.i64.wrap (2 * IntKind.i64.wrap (t.re - t.fr)))), AV.int IntKind.i64 (r40.v0 (IntKind.i64.wrap (IntKind.i64.wrap (t.e1 * IntKind.i64.wrap (2 * IntKind.i64.wrap (t.re - t.fr))) + r41.v n g t.fr)) (IntKind.i64.wrap (2 * IntKind.i64.wrap (t.re - t.fr)))), AV.int IntKind.i64 (r40.v1 (IntKind.i64.wrap (IntKind.i64.wrap (t.e1 * IntKind.i64.wrap (2 * IntKind.i64.wrap (t.re - t.fr))) + r41.v n g t.fr)) (IntKind.i64.wrap (2 * IntKind.i64.wrap (t.re - t.fr))))]) = ((AV.agg ((AV.int IntKind.i64 (r27.v0 t n g)) :: ((AV.int IntKind.i64 (r27.v1 t n g)) :: ((AV.int IntKind.i64 (r27.v2 t n g)) :: ((AV.int IntKind.i64 (r27.v3 t n g)) :: [])))))) by first | (simp only [r27.v0, r27.v1, r27.v2, r27.v3, cond_true, cond_false]; done) | (try unfold r27.v0; try unfold r27.v1; try unfold r27.v2; try unfold r27.v3; try rfl; done) | rfl)) trivial)))))))))) h

end Go.Proofs.Ytngpbfocjgikaaa

open Go

namespace Go.Proofs.Ytngpbfocjgikaaa

set_option maxHeartbeats 0

set_option maxRecDepth 100000

set_option linter.unusedVariables false

set_option linter.unusedSimpArgs false

variable {n : Nat} {g : Nat → LD} {t : TD}

theorem span_eq (ht : TOk t) : IntKind.i64.wrap (2 * IntKind.i64.wrap (t.re - t.fr)) = 2 * (t.re - t.fr) := by
  have hfr := ht.fr
  have hre := ht.re
  have hlt := ht.lt
  rw [i64_small (x := t.re - t.fr) (by omega), i64_small (by omega)]

theorem span_bd (ht : TOk t) : 0 < 2 * (t.re - t.fr) ∧ 2 * (t.re - t.fr) ≤ 200000 := by
  have hfr := ht.fr
  have hre := ht.re
  have hlt := ht.lt
  omega

theorem den_bd {a s : Int} (hs : 0 < s ∧ s ≤ 200000) : 0 ≤ r40.v1 a s ∧ r40.v1 a s ≤ 200000 := by
  unfold r40.v1
  rw [show (s == 0) = false by simp; omega, cond_false]
  unfold r64.v1
  have hp := gc_pos (a := (s.natAbs : Int)) (b := (a.natAbs : Int)) (by omega)
  have h2 : (s.natAbs : Int) / gc (s.natAbs : Int) (a.natAbs : Int) ≤ s.natAbs := Int.ediv_le_self _ (by omega)
  have h3 : 0 ≤ (s.natAbs : Int) / gc (s.natAbs : Int) (a.natAbs : Int) := Int.ediv_nonneg (by omega) (by omega)
  generalize (s.natAbs : Int) / gc (s.natAbs : Int) (a.natAbs : Int) = q at *
  cases decide ((a.natAbs : Int) / gc (s.natAbs : Int) (a.natAbs : Int) ≥ 1000000000000000000)
  · cases decide (q ≥ 1000000000000000000)
    · rw [cond_false, cond_false, i64_small (by omega)]; omega
    · exact (show (0 : Int) ≤ 0 ∧ (0 : Int) ≤ 200000 by decide)
  · exact (show (0 : Int) ≤ 0 ∧ (0 : Int) ≤ 200000 by decide)

theorem num_hi {a s : Int} : r40.v0 a s ≤ 9223372036854775807 := by
  unfold r40.v0
  cases s == 0
  · rw [cond_false]
    unfold r64.v0
    cases decide ((a.natAbs : Int) / gc (s.natAbs : Int) (a.natAbs : Int) ≥ 1000000000000000000)
    · cases decide ((s.natAbs : Int) / gc (s.natAbs : Int) (a.natAbs : Int) ≥ 1000000000000000000)
      · cases bnot (decide (a < 0) == decide (s < 0)) <;> exact wr_hi _
      · exact (show (0 : Int) ≤ 9223372036854775807 by decide)
    · exact (show (0 : Int) ≤ 9223372036854775807 by decide)
  · exact (show (0 : Int) ≤ 9223372036854775807 by decide)

theorem n27_0 : r27.v0 t n g ≤ 9223372036854775807 := num_hi

theorem n27_2 : r27.v2 t n g ≤ 9223372036854775807 := num_hi

theorem d27_1 (ht : TOk t) : 0 ≤ r27.v1 t n g ∧ r27.v1 t n g ≤ 200000 := by unfold r27.v1; rw [span_eq ht]; exact den_bd (span_bd ht)

theorem d27_3 (ht : TOk t) : 0 ≤ r27.v3 t n g ∧ r27.v3 t n g ≤ 200000 := by unfold r27.v3; rw [span_eq ht]; exact den_bd (span_bd ht)

theorem d27_1l (ht : TOk t) : 0 ≤ r27.v1 t n g := (d27_1 ht).1

theorem d27_3l (ht : TOk t) : 0 ≤ r27.v3 t n g := (d27_3 ht).1

theorem d27_1h (ht : TOk t) : r27.v1 t n g ≤ 9223372036854775807 := by have := d27_1 (n := n) (g := g) ht; omega

theorem d27_3h (ht : TOk t) : r27.v3 t n g ≤ 9223372036854775807 := by have := d27_3 (n := n) (g := g) ht; omega

theorem l0_lo (ht : TOk t) : 0 ≤ t.l0 := by have := ht.l0; omega

theorem l0_hi (ht : TOk t) : t.l0 ≤ 9223372036854775807 := by have := ht.l0; omega

theorem l1_lo (ht : TOk t) : 0 ≤ t.l1 := by have := ht.l1; omega

theorem l1_hi (ht : TOk t) : t.l1 ≤ 9223372036854775807 := by have := ht.l1; omega

theorem ld_1 (ht : TOk t) : t.l0 * r27.v1 t n g ≤ 9223372036854775807 := by
  have h := d27_1 (n := n) (g := g) ht
  have := (mulb (m := t.l0) (x := r27.v1 t n g) (A := 1000000000) (B := 200000) (l0_lo ht) ht.l0.2 (by omega) h.2).2
  omega

theorem ld_3 (ht : TOk t) : t.l1 * r27.v3 t n g ≤ 9223372036854775807 := by
  have h := d27_3 (n := n) (g := g) ht
  have := (mulb (m := t.l1) (x := r27.v3 t n g) (A := 1000000000) (B := 200000) (l1_lo ht) ht.l1.2 (by omega) h.2).2
  omega

end Go.Proofs.Ytngpbfocjgikaaa

open Go

namespace Go.Proofs.Ytngpbfocjgikaaa

set_option linter.unusedSimpArgs false

set_option linter.unusedVariables false

set_option maxHeartbeats 0

set_option maxRecDepth 100000

noncomputable def r28.v (t : TD) (n : Nat) (g : Nat → LD) : Bool := (bif decide (r27.v0 t n g < 0) then false else (bif decide (r43.v (r27.v0 t n g) (r27.v1 t n g) t.l0 > 0) then false else (bif decide (r27.v2 t n g < 0) then false else (bif decide (r43.v (r27.v2 t n g) (r27.v3 t n g) t.l1 > 0) then false else true))))

noncomputable abbrev r28.h0 (t : TD) (n : Nat) (g : Nat → LD) : AHeap := ([AObj.var (AV.agg [AV.str t.nm, AV.int IntKind.i64 t.tl, AV.int IntKind.i64 t.fr, AV.int IntKind.i64 t.re, AV.int IntKind.i64 t.l0, AV.int IntKind.i64 t.l1, AV.int IntKind.i64 t.e0, AV.int IntKind.i64 t.e1])])

noncomputable abbrev r28.h1 (t : TD) (n : Nat) (g : Nat → LD) : AHeap := ([AObj.var (AV.agg [AV.str t.nm, AV.int IntKind.i64 t.tl, AV.int IntKind.i64 t.fr, AV.int IntKind.i64 t.re, AV.int IntKind.i64 t.l0, AV.int IntKind.i64 t.l1, AV.int IntKind.i64 t.e0, AV.int IntKind.i64 t.e1]), AObj.var (AV.agg [AV.int IntKind.i64 (r27.v0 t n g), AV.int IntKind.i64 (r27.v1 t n g), AV.int IntKind.i64 (r27.v2 t n g), AV.int IntKind.i64 (r27.v3 t n g)])])

theorem r28 (t : TD) (ht : TOk t) (n : Nat) (hn : n ≤ 9223372036854775807) (g : Nat → LD) (h : AHeap) : Ret Try.prog 28 ([t.av, lds n g]) h (AV.bool (r28.v t n g)) h := by
  have o0 : n ≤ (9223372036854775807 : Nat) := by first | assumption | omega | (simp_all; done)
  cases h1 : decide (r27.v0 t n g < 0) with
  | true =>
    have h1p := of_decide_eq_true h1
    exact Ret.of_run1 mix [(AV.bool (r28.v t n g))] Try.func28 rfl [.ret (AV.agg [AV.int IntKind.i64 (r27.v0 t n g), AV.int IntKind.i64 (r27.v1 t n g), AV.int IntKind.i64 (r27.v2 t n g), AV.int IntKind.i64 (r27.v3 t n g)]) (r28.h0 t n g), .rounds 3, .b true, .b true, .b true, .b true, .b true, .b true, .b true, .b true, .b true, .b true, .b true, .b true, .b true] (by simp) (by simp) (kmp (by kernel_rfl) (And.intro (r27 (t) (n) o0 (g) (r28.h0 t n g)) (And.intro (rfl : true = true) (And.intro (And.intro (show (0 : Int) ≤ (0 : Int) by first | decide | exact Int.NonNeg.mk _) (show (0 : Int) < (2 : Int) by first | decide | exact Int.NonNeg.mk _)) (And.intro h1 (And.intro h1 (And.intro h1 (And.intro h1 (And.intro h1 (And.intro h1 (And.intro h1 (And.intro h1 (And.intro h1 (And.intro h1 (And.intro h1 (And.intro (rfl : true = true) (And.intro (show (AV.bool false) = ((AV.bool (r28.v t n g))) by first | (simp only [r28.v, h1, cond_true, cond_false]; done) | (try unfold r28.v; try simp only [h1, cond_true, cond_false]; try rfl; done) | rfl) trivial))))))))))))))))) h
  | false =>
    have h1p := of_decide_eq_false h1
    have o1 : (0 : Int) ≤ r27.v0 t n g := by first | assumption | omega | (simp_all; done)
    have o2 : r27.v0 t n g ≤ (9223372036854775807 : Int) := by first | assumption | omega | (apply n27_0 <;> first | assumption | omega) | (simp_all; done)
    have o3 : (0 : Int) ≤ r27.v1 t n g := by first | assumption | omega | (apply d27_1l <;> first | assumption | omega) | (simp_all; done)
    have o4 : r27.v1 t n g ≤ (9223372036854775807 : Int) := by first | assumption | omega | (apply d27_1h <;> first | assumption | omega) | (simp_all; done)
    have o5 : (0 : Int) ≤ t.l0 := by first | assumption | omega | (apply l0_lo <;> first | assumption | omega) | (simp_all; done)
    have o6 : t.l0 ≤ (9223372036854775807 : Int) := by first | assumption | omega | (apply l0_hi <;> first | assumption | omega) | (simp_all; done)
    have o7 : t.l0 * r27.v1 t n g ≤ (9223372036854775807 : Int) := by first | assumption | omega | (apply ld_1 <;> first | assumption | omega) | (simp_all; done)
    cases h2 : decide (r43.v (r27.v0 t n g) (r27.v1 t n g) t.l0 > 0) with
    | true =>
      have h2p := of_decide_eq_true h2
      exact Ret.of_run1 mix [(AV.bool (r28.v t n g))] Try.func28 rfl [.ret (AV.agg [AV.int IntKind.i64 (r27.v0 t n g), AV.int IntKind.i64 (r27.v1 t n g), AV.int IntKind.i64 (r27.v2 t n g), AV.int IntKind.i64 (r27.v3 t n g)]) (r28.h0 t n g), .rounds 3, .b true, .b false, .b false, .b false, .b false, .b false, .b false, .b false, .b false, .b false, .ret (AV.int IntKind.i64 (r43.v (r27.v0 t n g) (r27.v1 t n g) t.l0)) (r28.h1 t n g), .b false, .b false, .b true] (by simp) (by simp) (kmp (by kernel_rfl) (And.intro (r27 (t) (n) o0 (g) (r28.h0 t n g)) (And.intro (rfl : true = true) (And.intro (And.intro (show (0 : Int) ≤ (0 : Int) by first | decide | exact Int.NonNeg.mk _) (show (0 : Int) < (2 : Int) by first | decide | exact Int.NonNeg.mk _)) (And.intro h1 (And.intro h1 (And.intro (And.intro (show (0 : Int) ≤ (0 : Int) by first | decide | exact Int.NonNeg.mk _) (show (0 : Int) < (2 : Int) by first | decide | exact Int.NonNeg.mk _)) (And.intro h1 (And.intro h1 (And.intro h1 (And.intro h1 (And.intro (And.intro (show (0 : Int) ≤ (0 : Int) by first | decide | exact Int.NonNeg.mk _) (show (0 : Int) < (2 : Int) by first | decide | exact Int.NonNeg.mk _)) (And.intro h1 (And.intro h1 (And.intro h1 (And.intro (r43 (r27.v0 t n g) (r27.v1 t n g) (t.l0) o1 o2 o3 o4 o5 o6 o7 (r28.h1 t n g)) (And.intro h1 (And.intro h1 (And.intro h2 (And.intro (show (AV.bool false) = ((AV.bool (r28.v t n g))) by first | (simp only [r28.v, h1, h2, cond_true, cond_false]; done) | (try unfold r28.v; try simp only [h1, cond_true, cond_false]; try simp only [h2, cond_true, cond_false]; try rfl; done) | rfl) trivial)))))))))))))))))))) h
    | false =>
      have h2p := of_decide_eq_false h2
      cases h3 : decide (r27.v2 t n g < 0) with
      | true =>
        have h3p := of_decide_eq_true h3
        exact Ret.of_run1 mix [(AV.bool (r28.v t n g))] Try.func28 rfl [.ret (AV.agg [AV.int IntKind.i64 (r27.v0 t n g), AV.int IntKind.i64 (r27.v1 t n g), AV.int IntKind.i64 (r27.v2 t n g), AV.int IntKind.i64 (r27.v3 t n g)]) (r28.h0 t n g), .rounds 3, .b true, .b false, .b false, .b false, .b false, .b false, .b false, .b false, .b false, .b false, .ret (AV.int IntKind.i64 (r43.v (r27.v0 t n g) (r27.v1 t n g) t.l0)) (r28.h1 t n g), .b false, .b false, .b false, .b true, .b true, .b true, .b true, .b true, .b true, .b true, .b true, .b true, .b true, .b true, .b true, .b true] (by simp) (by simp) (kmp (by kernel_rfl) (And.intro (r27 (t) (n) o0 (g) (r28.h0 t n g)) (And.intro (rfl : true = true) (And.intro (And.intro (show (0 : Int) ≤ (0 : Int) by first | decide | exact Int.NonNeg.mk _) (show (0 : Int) < (2 : Int) by first | decide | exact Int.NonNeg.mk _)) (And.intro h1 (And.intro h1 (And.intro (And.intro (show (0 : Int) ≤ (0 : Int) by first | decide | exact Int.NonNeg.mk _) (show (0 : Int) < (2 : Int) by first | decide | exact Int.NonNeg.mk _)) (And.intro h1 (And.intro h1 (And.intro h1 (And.intro h1 (And.intro (And.intro (show (0 : Int) ≤ (0 : Int) by first | decide | exact Int.NonNeg.mk _) (show (0 : Int) < (2 : Int) by first | decide | exact Int.NonNeg.mk _)) (And.intro h1 (And.intro h1 (And.intro h1 (And.intro (r43 (r27.v0 t n g) (r27.v1 t n g) (t.l0) o1 o2 o3 o4 o5 o6 o7 (r28.h1 t n g)) (And.intro h1 (And.intro h1 (And.intro h2 (And.intro (rfl : true = true) (And.intro (And.intro (show (0 : Int) ≤ (1 : Int) by first | decide | exact Int.NonNeg.mk _) (show (1 : Int) < (2 : Int) by first | decide | exact Int.NonNeg.mk _)) (And.intro h3 (And.intro h3 (And.intro h3 (And.intro h3 (And.intro h3 (And.intro h3 (And.intro h3 (And.intro h3 (And.intro h3 (And.intro h3 (And.intro h3 (And.intro (rfl : true = true) (And.intro (show (AV.bool false) = ((AV.bool (r28.v t n g))) by first | (simp only [r28.v, h1, h2, h3, cond_true, cond_false]; done) | (try unfold r28.v; try simp only [h1, cond_true, cond_false]; try simp only [h2, cond_true, cond_false]; try simp only [h3, cond_true, cond_false]; try rfl; done) | rfl) trivial)))))))))))))))))))))))))))))))))) h
      | false =>
        have h3p := of_decide_eq_false h3
        have o8 : (0 : Int) ≤ r27.v2 t n g := by first | assumption | omega | (simp_all; done)
        have o9 : r27.v2 t n g ≤ (9223372036854775807 : Int) := by first | assumption | omega | (apply n27_2 <;> first | assumption | omega) | (simp_all; done)
        have o10 : (0 : Int) ≤ r27.v3 t n g := by first | assumption | omega | (apply d27_3l <;> first | assumption | omega) | (simp_all; done)
        have o11 : r27.v3 t n g ≤ (9223372036854775807 : Int) := by first | assumption | omega | (apply d27_3h <;> first | assumption | omega) | (simp_all; done)
        have o12 : (0 : Int) ≤ t.l1 := by first | assumption | omega | (apply l1_lo <;> first | assumption | omega) | (simp_all; done)
        have o13 : t.l1 ≤ (9223372036854775807 : Int) := by first | assumption | omega | (apply l1_hi <;> first | assumption | omega) | (simp_all; done)
        have o14 : t.l1 * r27.v3 t n g ≤ (9223372036854775807 : Int) := by first | assumption | omega | (apply ld_3 <;> first | assumption | omega) | (simp_all; done)
        cases h4 : decide (r43.v (r27.v2 t n g) (r27.v3 t n g) t.l1 > 0) with
        | true =>
          have h4p := of_decide_eq_true h4
          exact Ret.of_run1 mix [(AV.bool (r28.v t n g))] Try.func28 rfl [.ret (AV.agg [AV.int IntKind.i64 (r27.v0 t n g), AV.int IntKind.i64 (r27.v1 t n g), AV.int IntKind.i64 (r27.v2 t n g), AV.int IntKind.i64 (r27.v3 t n g)]) (r28.h0 t n g), .rounds 3, .b true, .b false, .b false, .b false, .b false, .b false, .b false, .b false, .b false, .b false, .ret (AV.int IntKind.i64 (r43.v (r27.v0 t n g) (r27.v1 t n g) t.l0)) (r28.h1 t n g), .b false, .b false, .b false, .b true, .b false, .b false, .b false, .b false, .b false, .b false, .b false, .b false, .b false, .ret (AV.int IntKind.i64 (r43.v (r27.v2 t n g) (r27.v3 t n g) t.l1)) (r28.h1 t n g), .b false, .b false, .b true] (by simp) (by simp) (kmp (by kernel_rfl) (And.intro (r27 (t) (n) o0 (g) (r28.h0 t n g)) (And.intro (rfl : true = true) (And.intro (And.intro (show (0 : Int) ≤ (0 : Int) by first | decide | exact Int.NonNeg.mk _) (show (0 : Int) < (2 : Int) by first | decide | exact Int.NonNeg.mk _)) (And.intro h1 (And.intro h1 (And.intro (And.intro (show (0 : Int) ≤ (0 : Int) by first | decide | exact Int.NonNeg.mk _) (show (0 : Int) < (2 : Int) by first | decide | exact Int.NonNeg.mk _)) (And.intro h1 (And.intro h1 (And.intro h1 (And.intro h1 (And.intro (And.intro (show (0 : Int) ≤ (0 : Int) by first | decide | exact Int.NonNeg.mk _) (show (0 : Int) < (2 : Int) by first | decide | exact Int.NonNeg.mk _)) (And.intro h1 (And.intro h1 (And.intro h1 (And.intro (r43 (r27.v0 t n g) (r27.v1 t n g) (t.l0) o1 o2 o3 o4 o5 o6 o7 (r28.h1 t n g)) (And.intro h1 (And.intro h1 (And.intro h2 (And.intro (rfl : true = true) (And.intro (And.intro (show (0 : Int) ≤ (1 : Int) by first | decide | exact Int.NonNeg.mk _) (show (1 : Int) < (2 : Int) by first | decide | exact Int.NonNeg.mk _)) (And.intro h3 (And.intro h3 (And.intro (And.intro (show (0 : Int) ≤ (1 : Int) by first | decide | exact Int.NonNeg.mk _) (show (1 : Int) < (2 : Int) by first | decide | exact Int.NonNeg.mk _)) (And.intro h3 (And.intro h3 (And.intro h3 (And.intro h3 (And.intro (And.intro (show (0 : Int) ≤ (1 : Int) by first | decide | exact Int.NonNeg.mk _) (show (1 : Int) < (2 : Int) by first | decide | exact Int.NonNeg.mk _)) (And.intro h3 (And.intro h3 (And.intro h3 (And.intro (r43 (r27.v2 t n g) (r27.v3 t n g) (t.l1) o8 o9 o10 o11 o12 o13 o14 (r28.h1 t n g)) (And.intro h3 (And.intro h3 (And.intro h4 (And.intro (show (AV.bool false) = ((AV.bool (r28.v t n g))) by first | (simp only [r28.v, h1, h2, h3, h4, cond_true, cond_false]; done) | (try unfold r28.v; try simp only [h1, cond_true, cond_false]; try simp only [h2, cond_true, cond_false]; try simp only [h3, cond_true, cond_false]; try simp only [h4, cond_true, cond_false]; try rfl; done) | rfl) trivial))))))))))))))))))))))))))))))))))))) h
        | false =>
          have h4p := of_decide_eq_false h4
          exact Ret.of_run1 mix [(AV.bool (r28.v t n g))] Try.func28 rfl [.ret (AV.agg [AV.int IntKind.i64 (r27.v0 t n g), AV.int IntKind.i64 (r27.v1 t n g), AV.int IntKind.i64 (r27.v2 t n g), AV.int IntKind.i64 (r27.v3 t n g)]) (r28.h0 t n g), .rounds 3, .b true, .b false, .b false, .b false, .b false, .b false, .b false, .b false, .b false, .b false, .ret (AV.int IntKind.i64 (r43.v (r27.v0 t n g) (r27.v1 t n g) t.l0)) (r28.h1 t n g), .b false, .b false, .b false, .b true, .b false, .b false, .b false, .b false, .b false, .b false, .b false, .b false, .b false, .ret (AV.int IntKind.i64 (r43.v (r27.v2 t n g) (r27.v3 t n g) t.l1)) (r28.h1 t n g), .b false, .b false, .b false, .b false] (by simp) (by simp) (kmp (by kernel_rfl) (And.intro (r27 (t) (n) o0 (g) (r28.h0 t n g)) (And.intro (rfl : true = true) (And.intro (And.intro (show (0 : Int) ≤ (0 : Int) by first | decide | exact Int.NonNeg.mk _) (show (0 : Int) < (2 : Int) by first | decide | exact Int.NonNeg.mk _)) (And.intro h1 (And.intro h1 (And.intro (And.intro (show (0 : Int) ≤ (0 : Int) by first | decide | exact Int.NonNeg.mk _) (show (0 : Int) < (2 : Int) by first | decide | exact Int.NonNeg.mk _)) (And.intro h1 (And.intro h1 (And.intro h1 (And.intro h1 (And.intro (And.intro (show (0 : Int) ≤ (0 : Int) by first | decide | exact Int.NonNeg.mk _) (show (0 : Int) < (2 : Int) by first | decide | exact Int.NonNeg.mk _)) (And.intro h1 (And.intro h1 (And.intro h1 (And.intro (r43 (r27.v0 t n g) (r27.v1 t n g) (t.l0) o1 o2 o3 o4 o5 o6 o7 (r28.h1 t n g)) (And.intro h1 (And.intro h1 (And.intro h2 (And.intro (rfl : true = true) (And.intro (And.intro (show (0 : Int) ≤ (1 : Int) by first | decide | exact Int.NonNeg.mk _) (show (1 : Int) < (2 : Int) by first | decide | exact Int.NonNeg.mk _)) (And.intro h3 (And.intro h3 (And.intro (And.intro (show (0 : Int) ≤ (1 : Int) by first | decide | exact Int.NonNeg.mk _) (show (1 : Int) < (2 : Int) by first | decide | exact Int.NonNeg.mk _)) (And.intro h3 (And.intro h3 (And.intro h3 (And.intro h3 (And.intro (And.intro (show (0 : Int) ≤ (1 : Int) by first | decide | exact Int.NonNeg.mk _) (show (1 : Int) < (2 : Int) by first | decide | exact Int.NonNeg.mk _)) (And.intro h3 (And.intro h3 (And.intro h3 (And.intro (r43 (r27.v2 t n g) (r27.v3 t n g) (t.l1) o8 o9 o10 o11 o12 o13 o14 (r28.h1 t n g)) (And.intro h3 (And.intro h3 (And.intro h4 (And.intro (rfl : false = false) (And.intro (show (AV.bool true) = ((AV.bool (r28.v t n g))) by first | (simp only [r28.v, h1, h2, h3, h4, cond_true, cond_false]; done) | (try unfold r28.v; try simp only [h1, cond_true, cond_false]; try simp only [h2, cond_true, cond_false]; try simp only [h3, cond_true, cond_false]; try simp only [h4, cond_true, cond_false]; try rfl; done) | rfl) trivial)))))))))))))))))))))))))))))))))))))) h

end Go.Proofs.Ytngpbfocjgikaaa

open Go

namespace Go.Proofs.Ytngpbfocjgikaaa

set_option linter.unusedSimpArgs false

set_option linter.unusedVariables false

set_option maxHeartbeats 0

set_option maxRecDepth 100000

end Go.Proofs.Ytngpbfocjgikaaa

open Go

namespace Go.Proofs.Ytngpbfocjgikaaa

set_option linter.unusedSimpArgs false

set_option linter.unusedVariables false

set_option maxHeartbeats 0

set_option maxRecDepth 100000

end Go.Proofs.Ytngpbfocjgikaaa

open Go

namespace Go.Proofs.Ytngpbfocjgikaaa

set_option linter.unusedSimpArgs false

set_option linter.unusedVariables false

set_option maxHeartbeats 0

set_option maxRecDepth 100000

theorem tok17 {t : TD} (h : r17.v t = 0) : TOk t := by
  unfold r17.v at h
  have st : ∀ {b : Bool} {x y : Int}, (bif b then x else y) = 0 → y ≠ 0 → b = true ∧ x = 0 := by
    intro b x y h hy; cases b
    · exact absurd h hy
    · exact ⟨rfl, h⟩
  obtain ⟨_, h⟩ := st h (by decide)
  obtain ⟨h1, h⟩ := st h (by decide)
  obtain ⟨h2, h⟩ := st h (by decide)
  obtain ⟨h3, h⟩ := st h (by decide)
  obtain ⟨h4, h⟩ := st h (by decide)
  obtain ⟨h5, h⟩ := st h (by decide)
  obtain ⟨h6, h⟩ := st h (by decide)
  obtain ⟨h7, h⟩ := st h (by decide)
  refine ⟨bd_in h1, bd_in h2, bd_in h3, bd_in h4, bd_in h5, bd_in h6, bd_in h7, ?_⟩
  by_cases q : t.fr ≥ t.re
  · rw [decide_eq_true q, cond_true] at h; cases h
  · omega

theorem tok19 {t : TD} {n : Nat} {g : Nat → LD} (h : r19.v t n g = 0) : TOk t := by
  unfold r19.v at h
  by_cases q : r17.v t = 0
  · exact tok17 q
  · rw [show (r17.v t == 0) = false by simpa using q, cond_false] at h; exact absurd h q

end Go.Proofs.Ytngpbfocjgikaaa

open Go

namespace Go.Proofs.Ytngpbfocjgikaaa

set_option linter.unusedSimpArgs false

set_option linter.unusedVariables false

set_option maxHeartbeats 0

set_option maxRecDepth 100000

end Go.Proofs.Ytngpbfocjgikaaa

open Go

namespace Go.Proofs.Ytngpbfocjgikaaa

set_option linter.unusedSimpArgs false

set_option linter.unusedVariables false

set_option maxHeartbeats 0

set_option maxRecDepth 100000

end Go.Proofs.Ytngpbfocjgikaaa

open Go

namespace Go.Proofs.Ytngpbfocjgikaaa

set_option maxHeartbeats 0

set_option maxRecDepth 100000

set_option linter.unusedVariables false

set_option linter.unusedSimpArgs false

variable {n : Nat} {g : Nat → LD} {t : TD}

theorem r35_0 (hn : n ≤ 9223372036854775807) {bed : Int} (h : r35.v n g bed = 0) : (∀ i, i < n → LOk (g i)) ∧ ∀ i, i < n → r50.v bed (g i) = false := by
  unfold r35.v at h
  rw [r46a_v hn, r46b_v hn, r46c_v hn] at h
  have st : ∀ {b : Bool} {x y : Int}, (bif b then x else y) = 0 → x ≠ 0 → b = false ∧ y = 0 := by
    intro b x y h hx; cases b
    · exact ⟨rfl, h⟩
    · exact absurd h hx
  obtain ⟨_, h⟩ := st h (by decide)
  obtain ⟨_, h⟩ := st h (by decide)
  obtain ⟨h1, h⟩ := st h (by decide)
  refine ⟨fun i hi => ok49.1 (anyN_false.1 h1 i hi), ?_⟩
  split at h
  · cases h
  · obtain ⟨h2, _⟩ := st h (by decide)
    exact anyN_false.1 h2

end Go.Proofs.Ytngpbfocjgikaaa

open Go

namespace Go.Proofs.Ytngpbfocjgikaaa

set_option maxHeartbeats 0

set_option maxRecDepth 100000

set_option linter.unusedVariables false

set_option linter.unusedSimpArgs false

end Go.Proofs.Ytngpbfocjgikaaa
