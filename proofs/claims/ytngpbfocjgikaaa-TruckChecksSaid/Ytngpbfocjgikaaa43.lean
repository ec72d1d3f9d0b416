/- TruckChecks: whatever the input, the law hands back true. Conditions: none. -/
import Derived.Test.Ytngpbfocjgikaaa42

open Go

namespace Go.Proofs.Ytngpbfocjgikaaa

set_option linter.unusedSimpArgs false

set_option linter.unusedVariables false

set_option maxHeartbeats 0

set_option maxRecDepth 100000

noncomputable def r39.v0 (a : Int) (b : Int) : Int := (bif b == 0 then 0 else r62.v0 (bnot (decide (a < 0) == decide (b < 0))) (IntKind.u64.wrap ((r60.v a).tdiv (r61.v (r60.v a) (r60.v b)))) (IntKind.u64.wrap ((r60.v b).tdiv (r61.v (r60.v a) (r60.v b)))))

noncomputable def r39.v1 (a : Int) (b : Int) : Int := (bif b == 0 then 0 else r62.v1 (IntKind.u64.wrap ((r60.v a).tdiv (r61.v (r60.v a) (r60.v b)))) (IntKind.u64.wrap ((r60.v b).tdiv (r61.v (r60.v a) (r60.v b)))))

noncomputable def r39.v2 (a : Int) (b : Int) : Int := (bif b == 0 then 1 else r62.v2 (IntKind.u64.wrap ((r60.v a).tdiv (r61.v (r60.v a) (r60.v b)))) (IntKind.u64.wrap ((r60.v b).tdiv (r61.v (r60.v a) (r60.v b)))))

noncomputable abbrev r39.h0 (a : Int) (b : Int) : AHeap := ([AObj.var (AV.agg [AV.int IntKind.i64 0, AV.int IntKind.i64 0])])

theorem r39 (a : Int) (b : Int) (ha : -9223372036854775808 ≤ a ∧ a ≤ 9223372036854775807) (hb : -9223372036854775808 ≤ b ∧ b ≤ 9223372036854775807) (h : AHeap) : Ret Try.prog 39 ([AV.int IntKind.i64 a, AV.int IntKind.i64 b]) h (AV.tup [(AV.agg ((AV.int IntKind.i64 (r39.v0 a b)) :: ((AV.int IntKind.i64 (r39.v1 a b)) :: []))), (AV.int IntKind.i64 (r39.v2 a b))]) h := by
  cases h1 : b == 0 with
  | true =>
    have h1p := eq_of_beq h1
    exact Ret.of_run1 mix [(AV.agg ((AV.int IntKind.i64 (r39.v0 a b)) :: ((AV.int IntKind.i64 (r39.v1 a b)) :: []))), (AV.int IntKind.i64 (r39.v2 a b))] Try.func39 rfl [.b true] (by simp) (by simp) (kmp (by kernel_rfl) (And.intro h1 (And.intro (And.intro trivial (show (AV.agg [AV.int IntKind.i64 0, AV.int IntKind.i64 0]) = ((AV.agg ((AV.int IntKind.i64 (r39.v0 a b)) :: ((AV.int IntKind.i64 (r39.v1 a b)) :: [])))) by first | (simp only [r39.v0, r39.v1, r39.v2, h1, cond_true, cond_false]; done) | (try unfold r39.v0; try unfold r39.v1; try unfold r39.v2; try simp only [h1, cond_true, cond_false]; try rfl; done) | rfl)) (And.intro (show (AV.int IntKind.i64 1) = ((AV.int IntKind.i64 (r39.v2 a b))) by first | (simp only [r39.v0, r39.v1, r39.v2, h1, cond_true, cond_false]; done) | (try unfold r39.v0; try unfold r39.v1; try unfold r39.v2; try simp only [h1, cond_true, cond_false]; try rfl; done) | rfl) trivial)))) h
  | false =>
    have h1p := ne_of_beq_false h1
    have o0 : (0 : Int) ≤ r60.v a := by first | assumption | omega | (apply size_0 <;> first | assumption | omega) | (simp_all; done)
    have o1 : (0 : Int) ≤ r60.v b := by first | assumption | omega | (apply size_0 <;> first | assumption | omega) | (simp_all; done)
    have o2 : r61.v (r60.v a) (r60.v b) = (0 : Int) → False := by first | assumption | omega | (apply size_z <;> first | assumption | omega) | (simp_all; done)
    exact Ret.of_run1 mix [(AV.agg ((AV.int IntKind.i64 (r39.v0 a b)) :: ((AV.int IntKind.i64 (r39.v1 a b)) :: []))), (AV.int IntKind.i64 (r39.v2 a b))] Try.func39 rfl [.b false, .ret (AV.int IntKind.u64 (r60.v a)) (r39.h0 a b), .ret (AV.int IntKind.u64 (r60.v b)) (r39.h0 a b), .ret (AV.int IntKind.u64 (r61.v (r60.v a) (r60.v b))) (r39.h0 a b), .ret (AV.tup [AV.agg [AV.int IntKind.i64 (r62.v0 (bnot (decide (a < 0) == decide (b < 0))) (IntKind.u64.wrap ((r60.v a).tdiv (r61.v (r60.v a) (r60.v b)))) (IntKind.u64.wrap ((r60.v b).tdiv (r61.v (r60.v a) (r60.v b))))), AV.int IntKind.i64 (r62.v1 (IntKind.u64.wrap ((r60.v a).tdiv (r61.v (r60.v a) (r60.v b)))) (IntKind.u64.wrap ((r60.v b).tdiv (r61.v (r60.v a) (r60.v b)))))], AV.int IntKind.i64 (r62.v2 (IntKind.u64.wrap ((r60.v a).tdiv (r61.v (r60.v a) (r60.v b)))) (IntKind.u64.wrap ((r60.v b).tdiv (r61.v (r60.v a) (r60.v b)))))]) (r39.h0 a b)] (by simp) (by simp) (kmp (by kernel_rfl) (And.intro h1 (And.intro (r60 (a) (r39.h0 a b)) (And.intro (r60 (b) (r39.h0 a b)) (And.intro (r61 (r60.v a) (r60.v b) o0 o1 (r39.h0 a b)) (And.intro o2 (And.intro o2 (And.intro (r62 (bnot (decide (a < 0) == decide (b < 0))) (IntKind.u64.wrap ((r60.v a).tdiv (r61.v (r60.v a) (r60.v b)))) (IntKind.u64.wrap ((r60.v b).tdiv (r61.v (r60.v a) (r60.v b)))) (r39.h0 a b)) (And.intro (And.intro trivial (show (AV.agg [AV.int IntKind.i64 (r62.v0 (bnot (decide (a < 0) == decide (b < 0))) (IntKind.u64.wrap ((r60.v a).tdiv (r61.v (r60.v a) (r60.v b)))) (IntKind.u64.wrap ((r60.v b).tdiv (r61.v (r60.v a) (r60.v b))))), AV.int IntKind.i64 (r62.v1 (IntKind.u64.wrap ((r60.v a).tdiv (r61.v (r60.v a) (r60.v b)))) (IntKind.u64.wrap ((r60.v b).tdiv (r61.v (r60.v a) (r60.v b)))))]) = ((AV.agg ((AV.int IntKind.i64 (r39.v0 a b)) :: ((AV.int IntKind.i64 (r39.v1 a b)) :: [])))) by first | (simp only [r39.v0, r39.v1, r39.v2, h1, cond_true, cond_false]; done) | (try unfold r39.v0; try unfold r39.v1; try unfold r39.v2; try simp only [h1, cond_true, cond_false]; try rfl; done) | rfl)) (And.intro (show (AV.int IntKind.i64 (r62.v2 (IntKind.u64.wrap ((r60.v a).tdiv (r61.v (r60.v a) (r60.v b)))) (IntKind.u64.wrap ((r60.v b).tdiv (r61.v (r60.v a) (r60.v b)))))) = ((AV.int IntKind.i64 (r39.v2 a b))) by first | (simp only [r39.v0, r39.v1, r39.v2, h1, cond_true, cond_false]; done) | (try unfold r39.v0; try unfold r39.v1; try unfold r39.v2; try simp only [h1, cond_true, cond_false]; try rfl; done) | rfl) trivial)))))))))) h

noncomputable def r24.v0 (t : TD) (n : Nat) (g : Nat → LD) : Int := (bif r18.v t n g == 0 then (bif r39.v2 (IntKind.i64.wrap (IntKind.i64.wrap (t.e1 * r42.v t) + r33.v1 n g t.fr)) (r42.v t) == 0 then (bif r39.v2 (IntKind.i64.wrap (IntKind.i64.wrap (IntKind.i64.wrap (t.e0 + r33.v0 n g t.fr) * r42.v t) - r33.v1 n g t.fr)) (r42.v t) == 0 then r39.v0 (IntKind.i64.wrap (IntKind.i64.wrap (IntKind.i64.wrap (t.e0 + r33.v0 n g t.fr) * r42.v t) - r33.v1 n g t.fr)) (r42.v t) else 0) else 0) else 0)

noncomputable def r24.v1 (t : TD) (n : Nat) (g : Nat → LD) : Int := (bif r18.v t n g == 0 then (bif r39.v2 (IntKind.i64.wrap (IntKind.i64.wrap (t.e1 * r42.v t) + r33.v1 n g t.fr)) (r42.v t) == 0 then (bif r39.v2 (IntKind.i64.wrap (IntKind.i64.wrap (IntKind.i64.wrap (t.e0 + r33.v0 n g t.fr) * r42.v t) - r33.v1 n g t.fr)) (r42.v t) == 0 then r39.v1 (IntKind.i64.wrap (IntKind.i64.wrap (IntKind.i64.wrap (t.e0 + r33.v0 n g t.fr) * r42.v t) - r33.v1 n g t.fr)) (r42.v t) else 0) else 0) else 0)

noncomputable def r24.v2 (t : TD) (n : Nat) (g : Nat → LD) : Int := (bif r18.v t n g == 0 then (bif r39.v2 (IntKind.i64.wrap (IntKind.i64.wrap (t.e1 * r42.v t) + r33.v1 n g t.fr)) (r42.v t) == 0 then (bif r39.v2 (IntKind.i64.wrap (IntKind.i64.wrap (IntKind.i64.wrap (t.e0 + r33.v0 n g t.fr) * r42.v t) - r33.v1 n g t.fr)) (r42.v t) == 0 then r39.v0 (IntKind.i64.wrap (IntKind.i64.wrap (t.e1 * r42.v t) + r33.v1 n g t.fr)) (r42.v t) else 0) else 0) else 0)

noncomputable def r24.v3 (t : TD) (n : Nat) (g : Nat → LD) : Int := (bif r18.v t n g == 0 then (bif r39.v2 (IntKind.i64.wrap (IntKind.i64.wrap (t.e1 * r42.v t) + r33.v1 n g t.fr)) (r42.v t) == 0 then (bif r39.v2 (IntKind.i64.wrap (IntKind.i64.wrap (IntKind.i64.wrap (t.e0 + r33.v0 n g t.fr) * r42.v t) - r33.v1 n g t.fr)) (r42.v t) == 0 then r39.v1 (IntKind.i64.wrap (IntKind.i64.wrap (t.e1 * r42.v t) + r33.v1 n g t.fr)) (r42.v t) else 0) else 0) else 0)

noncomputable def r24.v4 (t : TD) (n : Nat) (g : Nat → LD) : Int := (bif r18.v t n g == 0 then (bif r39.v2 (IntKind.i64.wrap (IntKind.i64.wrap (t.e1 * r42.v t) + r33.v1 n g t.fr)) (r42.v t) == 0 then (bif r39.v2 (IntKind.i64.wrap (IntKind.i64.wrap (IntKind.i64.wrap (t.e0 + r33.v0 n g t.fr) * r42.v t) - r33.v1 n g t.fr)) (r42.v t) == 0 then 0 else r39.v2 (IntKind.i64.wrap (IntKind.i64.wrap (IntKind.i64.wrap (t.e0 + r33.v0 n g t.fr) * r42.v t) - r33.v1 n g t.fr)) (r42.v t)) else r39.v2 (IntKind.i64.wrap (IntKind.i64.wrap (t.e1 * r42.v t) + r33.v1 n g t.fr)) (r42.v t)) else r18.v t n g)

noncomputable abbrev r24.h0 (t : TD) (n : Nat) (g : Nat → LD) : AHeap := ([AObj.var (AV.agg [AV.str t.nm, AV.int IntKind.i64 t.tl, AV.int IntKind.i64 t.fr, AV.int IntKind.i64 t.re, AV.int IntKind.i64 t.l0, AV.int IntKind.i64 t.l1, AV.int IntKind.i64 t.e0, AV.int IntKind.i64 t.e1]), AObj.var (AV.agg [AV.int IntKind.i64 0, AV.int IntKind.i64 0, AV.int IntKind.i64 0, AV.int IntKind.i64 0])])

noncomputable abbrev r24.h1 (t : TD) (n : Nat) (g : Nat → LD) : AHeap := ([AObj.var (AV.agg [AV.str t.nm, AV.int IntKind.i64 t.tl, AV.int IntKind.i64 t.fr, AV.int IntKind.i64 t.re, AV.int IntKind.i64 t.l0, AV.int IntKind.i64 t.l1, AV.int IntKind.i64 t.e0, AV.int IntKind.i64 t.e1]), AObj.var (AV.agg [AV.int IntKind.i64 0, AV.int IntKind.i64 0, AV.int IntKind.i64 0, AV.int IntKind.i64 0]), AObj.var (AV.agg [AV.int IntKind.i64 (r39.v0 (IntKind.i64.wrap (IntKind.i64.wrap (t.e1 * r42.v t) + r33.v1 n g t.fr)) (r42.v t)), AV.int IntKind.i64 (r39.v1 (IntKind.i64.wrap (IntKind.i64.wrap (t.e1 * r42.v t) + r33.v1 n g t.fr)) (r42.v t))])])

theorem r24 (t : TD) (hnm : t.nm.size ≤ 9223372036854775807) (n : Nat) (hn : n ≤ 12) (g : Nat → LD) (hg : ∀ (i : Nat), (g i).nm.size ≤ 9223372036854775807) (h : AHeap) : Ret Try.prog 24 ([t.av, lds n g]) h (AV.tup [(AV.agg ((AV.int IntKind.i64 (r24.v0 t n g)) :: ((AV.int IntKind.i64 (r24.v1 t n g)) :: ((AV.int IntKind.i64 (r24.v2 t n g)) :: ((AV.int IntKind.i64 (r24.v3 t n g)) :: []))))), (AV.int IntKind.i64 (r24.v4 t n g))]) h := by
  have o0 : t.nm.size ≤ (9223372036854775807 : Nat) := by first | assumption | omega | (exact hg _) | (exact hg _ (by omega)) | (simp_all; done)
  have o1 : n ≤ (12 : Nat) := by first | assumption | omega | (exact hg _) | (exact hg _ (by omega)) | (simp_all; done)
  have o2 : ∀ (i : Nat), (g i).nm.size ≤ (9223372036854775807 : Nat) := by first | assumption | omega | (exact hg _) | (exact hg _ (by omega)) | (simp_all; done)
  cases h1 : r18.v t n g == 0 with
  | true =>
    have h1p := eq_of_beq h1
    have o3 : n ≤ (9223372036854775807 : Nat) := by first | assumption | omega | (exact hg _) | (exact hg _ (by omega)) | (simp_all; done)
    try have := IntWalk.i64_in (t.e1 * r42.v t) (by omega)
    try have := IntWalk.i64_in (IntKind.i64.wrap (t.e1 * r42.v t) + r33.v1 n g t.fr) (by omega)
    have o4 : (-9223372036854775808 : Int) ≤ IntKind.i64.wrap (IntKind.i64.wrap (t.e1 * r42.v t) + r33.v1 n g t.fr) := by first | assumption | omega | (apply wr_lo <;> first | assumption | omega) | (exact hg _) | (exact hg _ (by omega)) | (simp_all; done)
    have o5 : IntKind.i64.wrap (IntKind.i64.wrap (t.e1 * r42.v t) + r33.v1 n g t.fr) ≤ (9223372036854775807 : Int) := by first | assumption | omega | (apply wr_hi <;> first | assumption | omega) | (exact hg _) | (exact hg _ (by omega)) | (simp_all; done)
    have o6 : (-9223372036854775808 : Int) ≤ r42.v t := by first | assumption | omega | (apply sp_lo <;> first | assumption | omega) | (exact hg _) | (exact hg _ (by omega)) | (simp_all; done)
    have o7 : r42.v t ≤ (9223372036854775807 : Int) := by first | assumption | omega | (apply sp_hi <;> first | assumption | omega) | (exact hg _) | (exact hg _ (by omega)) | (simp_all; done)
    cases h2 : r39.v2 (IntKind.i64.wrap (IntKind.i64.wrap (t.e1 * r42.v t) + r33.v1 n g t.fr)) (r42.v t) == 0 with
    | true =>
      have h2p := eq_of_beq h2
      try have := IntWalk.i64_in (t.e0 + r33.v0 n g t.fr) (by omega)
      try have := IntWalk.i64_in (IntKind.i64.wrap (t.e0 + r33.v0 n g t.fr) * r42.v t) (by omega)
      try have := IntWalk.i64_in (IntKind.i64.wrap (IntKind.i64.wrap (t.e0 + r33.v0 n g t.fr) * r42.v t) - r33.v1 n g t.fr) (by omega)
      have o8 : (-9223372036854775808 : Int) ≤ IntKind.i64.wrap (IntKind.i64.wrap (IntKind.i64.wrap (t.e0 + r33.v0 n g t.fr) * r42.v t) - r33.v1 n g t.fr) := by first | assumption | omega | (apply wr_lo <;> first | assumption | omega) | (exact hg _) | (exact hg _ (by omega)) | (simp_all; done)
      have o9 : IntKind.i64.wrap (IntKind.i64.wrap (IntKind.i64.wrap (t.e0 + r33.v0 n g t.fr) * r42.v t) - r33.v1 n g t.fr) ≤ (9223372036854775807 : Int) := by first | assumption | omega | (apply wr_hi <;> first | assumption | omega) | (exact hg _) | (exact hg _ (by omega)) | (simp_all; done)
      cases h3 : r39.v2 (IntKind.i64.wrap (IntKind.i64.wrap (IntKind.i64.wrap (t.e0 + r33.v0 n g t.fr) * r42.v t) - r33.v1 n g t.fr)) (r42.v t) == 0 with
      | true =>
        have h3p := eq_of_beq h3
        exact Ret.of_run1 mix [(AV.agg ((AV.int IntKind.i64 (r24.v0 t n g)) :: ((AV.int IntKind.i64 (r24.v1 t n g)) :: ((AV.int IntKind.i64 (r24.v2 t n g)) :: ((AV.int IntKind.i64 (r24.v3 t n g)) :: []))))), (AV.int IntKind.i64 (r24.v4 t n g))] Try.func24 rfl [.ret (AV.int IntKind.i64 (r18.v t n g)) (r24.h0 t n g), .b false, .ret (AV.tup [AV.int IntKind.i64 (r33.v0 n g t.fr), AV.int IntKind.i64 (r33.v1 n g t.fr)]) (r24.h0 t n g), .ret (AV.int IntKind.i64 (r42.v t)) (r24.h0 t n g), .ret (AV.int IntKind.i64 (r42.v t)) (r24.h0 t n g), .ret (AV.tup [AV.agg [AV.int IntKind.i64 (r39.v0 (IntKind.i64.wrap (IntKind.i64.wrap (t.e1 * r42.v t) + r33.v1 n g t.fr)) (r42.v t)), AV.int IntKind.i64 (r39.v1 (IntKind.i64.wrap (IntKind.i64.wrap (t.e1 * r42.v t) + r33.v1 n g t.fr)) (r42.v t))], AV.int IntKind.i64 (r39.v2 (IntKind.i64.wrap (IntKind.i64.wrap (t.e1 * r42.v t) + r33.v1 n g t.fr)) (r42.v t))]) (r24.h0 t n g), .b false, .ret (AV.int IntKind.i64 (r42.v t)) (r24.h1 t n g), .ret (AV.int IntKind.i64 (r42.v t)) (r24.h1 t n g), .ret (AV.tup [AV.agg [AV.int IntKind.i64 (r39.v0 (IntKind.i64.wrap (IntKind.i64.wrap (IntKind.i64.wrap (t.e0 + r33.v0 n g t.fr) * r42.v t) - r33.v1 n g t.fr)) (r42.v t)), AV.int IntKind.i64 (r39.v1 (IntKind.i64.wrap (IntKind.i64.wrap (IntKind.i64.wrap (t.e0 + r33.v0 n g t.fr) * r42.v t) - r33.v1 n g t.fr)) (r42.v t))], AV.int IntKind.i64 (r39.v2 (IntKind.i64.wrap (IntKind.i64.wrap (IntKind.i64.wrap (t.e0 + r33.v0 n g t.fr) * r42.v t) - r33.v1 n g t.fr)) (r42.v t))]) (r24.h1 t n g), .b false] (by simp) (by simp) (kmp (by kernel_rfl) (And.intro (r18 (t) o0 (n) o1 (g) o2 (r24.h0 t n g)) (And.intro (show (bnot (r18.v t n g == 0)) = false by rw [h1]; try rfl) (And.intro (r33 (n) (g) o3 (t.fr) (r24.h0 t n g)) (And.intro (And.intro (show (0 : Int) ≤ (1 : Int) by first | decide | exact Int.NonNeg.mk _) (show (1 : Int) < (2 : Int) by first | decide | exact Int.NonNeg.mk _)) (And.intro (r42 (t) (r24.h0 t n g)) (And.intro (PRet.mk (r42 (t) ([])) (by simp)) (And.intro (r42 (t) (r24.h0 t n g)) (And.intro (PRet.mk (r42 (t) ([])) (by simp)) (And.intro (r39 (IntKind.i64.wrap (IntKind.i64.wrap (t.e1 * r42.v t) + r33.v1 n g t.fr)) (r42.v t) (And.intro o4 o5) (And.intro o6 o7) (r24.h0 t n g)) (And.intro (PRet.mk (r39 (IntKind.i64.wrap (IntKind.i64.wrap (t.e1 * r42.v t) + r33.v1 n g t.fr)) (r42.v t) (And.intro o4 o5) (And.intro o6 o7) ([])) (by simp)) (And.intro (show (bnot (r39.v2 (IntKind.i64.wrap (IntKind.i64.wrap (t.e1 * r42.v t) + r33.v1 n g t.fr)) (r42.v t) == 0)) = false by rw [h2]; try rfl) (And.intro (And.intro (show (0 : Int) ≤ (0 : Int) by first | decide | exact Int.NonNeg.mk _) (show (0 : Int) < (2 : Int) by first | decide | exact Int.NonNeg.mk _)) (And.intro (r42 (t) (r24.h1 t n g)) (And.intro (PRet.mk (r42 (t) ([])) (by simp)) (And.intro (r42 (t) (r24.h1 t n g)) (And.intro (PRet.mk (r42 (t) ([])) (by simp)) (And.intro (r39 (IntKind.i64.wrap (IntKind.i64.wrap (IntKind.i64.wrap (t.e0 + r33.v0 n g t.fr) * r42.v t) - r33.v1 n g t.fr)) (r42.v t) (And.intro o8 o9) (And.intro o6 o7) (r24.h1 t n g)) (And.intro (PRet.mk (r39 (IntKind.i64.wrap (IntKind.i64.wrap (IntKind.i64.wrap (t.e0 + r33.v0 n g t.fr) * r42.v t) - r33.v1 n g t.fr)) (r42.v t) (And.intro o8 o9) (And.intro o6 o7) ([])) (by simp)) (And.intro (show (bnot (r39.v2 (IntKind.i64.wrap (IntKind.i64.wrap (IntKind.i64.wrap (t.e0 + r33.v0 n g t.fr) * r42.v t) - r33.v1 n g t.fr)) (r42.v t) == 0)) = false by rw [h3]; try rfl) (And.intro (And.intro trivial (show (AV.agg [AV.int IntKind.i64 (r39.v0 (IntKind.i64.wrap (IntKind.i64.wrap (IntKind.i64.wrap (t.e0 + r33.v0 n g t.fr) * r42.v t) - r33.v1 n g t.fr)) (r42.v t)), AV.int IntKind.i64 (r39.v1 (IntKind.i64.wrap (IntKind.i64.wrap (IntKind.i64.wrap (t.e0 + r33.v0 n g t.fr) * r42.v t) - r33.v1 n g t.fr)) (r42.v t)), AV.int IntKind.i64 (r39.v0 (IntKind.i64.wrap (IntKind.i64.wrap (t.e1 * r42.v t) + r33.v1 n g t.fr)) (r42.v t)), AV.int IntKind.i64 (r39.v1 (IntKind.i64.wrap (IntKind.i64.wrap (t.e1 * r42.v t) + r33.v1 n g t.fr)) (r42.v t))]) = ((AV.agg ((AV.int IntKind.i64 (r24.v0 t n g)) :: ((AV.int IntKind.i64 (r24.v1 t n g)) :: ((AV.int IntKind.i64 (r24.v2 t n g)) :: ((AV.int IntKind.i64 (r24.v3 t n g)) :: [])))))) by first | (simp only [r24.v0, r24.v1, r24.v2, r24.v3, r24.v4, h1, h2, h3, cond_true, cond_false]; done) | (try unfold r24.v0; try unfold r24.v1; try unfold r24.v2; try unfold r24.v3; try unfold r24.v4; try simp only [h1, cond_true, cond_false]; try simp only [h2, cond_true, cond_false]; try simp only [h3, cond_true, cond_false]; try rfl; done) | rfl)) (And.intro (show (AV.int IntKind.i64 0) = ((AV.int IntKind.i64 (r24.v4 t n g))) by first | (simp only [r24.v0, r24.v1, r24.v2, r24.v3, r24.v4, h1, h2, h3, cond_true, cond_false]; done) | (try unfold r24.v0; try unfold r24.v1; try unfold r24.v2; try unfold r24.v3; try unfold r24.v4; try simp only [h1, cond_true, cond_false]; try simp only [h2, cond_true, cond_false]; try simp only [h3, cond_true, cond_false]; try rfl; done) | rfl) trivial)))))))))))))))))))))) h
      | false =>
        have h3p := ne_of_beq_false h3
        exact Ret.of_run1 mix [(AV.agg ((AV.int IntKind.i64 (r24.v0 t n g)) :: ((AV.int IntKind.i64 (r24.v1 t n g)) :: ((AV.int IntKind.i64 (r24.v2 t n g)) :: ((AV.int IntKind.i64 (r24.v3 t n g)) :: []))))), (AV.int IntKind.i64 (r24.v4 t n g))] Try.func24 rfl [.ret (AV.int IntKind.i64 (r18.v t n g)) (r24.h0 t n g), .b false, .ret (AV.tup [AV.int IntKind.i64 (r33.v0 n g t.fr), AV.int IntKind.i64 (r33.v1 n g t.fr)]) (r24.h0 t n g), .ret (AV.int IntKind.i64 (r42.v t)) (r24.h0 t n g), .ret (AV.int IntKind.i64 (r42.v t)) (r24.h0 t n g), .ret (AV.tup [AV.agg [AV.int IntKind.i64 (r39.v0 (IntKind.i64.wrap (IntKind.i64.wrap (t.e1 * r42.v t) + r33.v1 n g t.fr)) (r42.v t)), AV.int IntKind.i64 (r39.v1 (IntKind.i64.wrap (IntKind.i64.wrap (t.e1 * r42.v t) + r33.v1 n g t.fr)) (r42.v t))], AV.int IntKind.i64 (r39.v2 (IntKind.i64.wrap (IntKind.i64.wrap (t.e1 * r42.v t) + r33.v1 n g t.fr)) (r42.v t))]) (r24.h0 t n g), .b false, .ret (AV.int IntKind.i64 (r42.v t)) (r24.h1 t n g), .ret (AV.int IntKind.i64 (r42.v t)) (r24.h1 t n g), .ret (AV.tup [AV.agg [AV.int IntKind.i64 (r39.v0 (IntKind.i64.wrap (IntKind.i64.wrap (IntKind.i64.wrap (t.e0 + r33.v0 n g t.fr) * r42.v t) - r33.v1 n g t.fr)) (r42.v t)), AV.int IntKind.i64 (r39.v1 (IntKind.i64.wrap (IntKind.i64.wrap (IntKind.i64.wrap (t.e0 + r33.v0 n g t.fr) * r42.v t) - r33.v1 n g t.fr)) (r42.v t))], AV.int IntKind.i64 (r39.v2 (IntKind.i64.wrap (IntKind.i64.wrap (IntKind.i64.wrap (t.e0 + r33.v0 n g t.fr) * r42.v t) - r33.v1 n g t.fr)) (r42.v t))]) (r24.h1 t n g), .b true] (by simp) (by simp) (kmp (by kernel_rfl) (And.intro (r18 (t) o0 (n) o1 (g) o2 (r24.h0 t n g)) (And.intro (show (bnot (r18.v t n g == 0)) = false by rw [h1]; try rfl) (And.intro (r33 (n) (g) o3 (t.fr) (r24.h0 t n g)) (And.intro (And.intro (show (0 : Int) ≤ (1 : Int) by first | decide | exact Int.NonNeg.mk _) (show (1 : Int) < (2 : Int) by first | decide | exact Int.NonNeg.mk _)) (And.intro (r42 (t) (r24.h0 t n g)) (And.intro (PRet.mk (r42 (t) ([])) (by simp)) (And.intro (r42 (t) (r24.h0 t n g)) (And.intro (PRet.mk (r42 (t) ([])) (by simp)) (And.intro (r39 (IntKind.i64.wrap (IntKind.i64.wrap (t.e1 * r42.v t) + r33.v1 n g t.fr)) (r42.v t) (And.intro o4 o5) (And.intro o6 o7) (r24.h0 t n g)) (And.intro (PRet.mk (r39 (IntKind.i64.wrap (IntKind.i64.wrap (t.e1 * r42.v t) + r33.v1 n g t.fr)) (r42.v t) (And.intro o4 o5) (And.intro o6 o7) ([])) (by simp)) (And.intro (show (bnot (r39.v2 (IntKind.i64.wrap (IntKind.i64.wrap (t.e1 * r42.v t) + r33.v1 n g t.fr)) (r42.v t) == 0)) = false by rw [h2]; try rfl) (And.intro (And.intro (show (0 : Int) ≤ (0 : Int) by first | decide | exact Int.NonNeg.mk _) (show (0 : Int) < (2 : Int) by first | decide | exact Int.NonNeg.mk _)) (And.intro (r42 (t) (r24.h1 t n g)) (And.intro (PRet.mk (r42 (t) ([])) (by simp)) (And.intro (r42 (t) (r24.h1 t n g)) (And.intro (PRet.mk (r42 (t) ([])) (by simp)) (And.intro (r39 (IntKind.i64.wrap (IntKind.i64.wrap (IntKind.i64.wrap (t.e0 + r33.v0 n g t.fr) * r42.v t) - r33.v1 n g t.fr)) (r42.v t) (And.intro o8 o9) (And.intro o6 o7) (r24.h1 t n g)) (And.intro (PRet.mk (r39 (IntKind.i64.wrap (IntKind.i64.wrap (IntKind.i64.wrap (t.e0 + r33.v0 n g t.fr) * r42.v t) - r33.v1 n g t.fr)) (r42.v t) (And.intro o8 o9) (And.intro o6 o7) ([])) (by simp)) (And.intro (show (bnot (r39.v2 (IntKind.i64.wrap (IntKind.i64.wrap (IntKind.i64.wrap (t.e0 + r33.v0 n g t.fr) * r42.v t) - r33.v1 n g t.fr)) (r42.v t) == 0)) = true by rw [h3]; try rfl) (And.intro (And.intro trivial (show (AV.agg [AV.int IntKind.i64 0, AV.int IntKind.i64 0, AV.int IntKind.i64 0, AV.int IntKind.i64 0]) = ((AV.agg ((AV.int IntKind.i64 (r24.v0 t n g)) :: ((AV.int IntKind.i64 (r24.v1 t n g)) :: ((AV.int IntKind.i64 (r24.v2 t n g)) :: ((AV.int IntKind.i64 (r24.v3 t n g)) :: [])))))) by first | (simp only [r24.v0, r24.v1, r24.v2, r24.v3, r24.v4, h1, h2, h3, cond_true, cond_false]; done) | (try unfold r24.v0; try unfold r24.v1; try unfold r24.v2; try unfold r24.v3; try unfold r24.v4; try simp only [h1, cond_true, cond_false]; try simp only [h2, cond_true, cond_false]; try simp only [h3, cond_true, cond_false]; try rfl; done) | rfl)) (And.intro (show (AV.int IntKind.i64 (r39.v2 (IntKind.i64.wrap (IntKind.i64.wrap (IntKind.i64.wrap (t.e0 + r33.v0 n g t.fr) * r42.v t) - r33.v1 n g t.fr)) (r42.v t))) = ((AV.int IntKind.i64 (r24.v4 t n g))) by first | (simp only [r24.v0, r24.v1, r24.v2, r24.v3, r24.v4, h1, h2, h3, cond_true, cond_false]; done) | (try unfold r24.v0; try unfold r24.v1; try unfold r24.v2; try unfold r24.v3; try unfold r24.v4; try simp only [h1, cond_true, cond_false]; try simp only [h2, cond_true, cond_false]; try simp only [h3, cond_true, cond_false]; try rfl; done) | rfl) trivial)))))))))))))))))))))) h
    | false =>
      have h2p := ne_of_beq_false h2
      exact Ret.of_run1 mix [(AV.agg ((AV.int IntKind.i64 (r24.v0 t n g)) :: ((AV.int IntKind.i64 (r24.v1 t n g)) :: ((AV.int IntKind.i64 (r24.v2 t n g)) :: ((AV.int IntKind.i64 (r24.v3 t n g)) :: []))))), (AV.int IntKind.i64 (r24.v4 t n g))] Try.func24 rfl [.ret (AV.int IntKind.i64 (r18.v t n g)) (r24.h0 t n g), .b false, .ret (AV.tup [AV.int IntKind.i64 (r33.v0 n g t.fr), AV.int IntKind.i64 (r33.v1 n g t.fr)]) (r24.h0 t n g), .ret (AV.int IntKind.i64 (r42.v t)) (r24.h0 t n g), .ret (AV.int IntKind.i64 (r42.v t)) (r24.h0 t n g), .ret (AV.tup [AV.agg [AV.int IntKind.i64 (r39.v0 (IntKind.i64.wrap (IntKind.i64.wrap (t.e1 * r42.v t) + r33.v1 n g t.fr)) (r42.v t)), AV.int IntKind.i64 (r39.v1 (IntKind.i64.wrap (IntKind.i64.wrap (t.e1 * r42.v t) + r33.v1 n g t.fr)) (r42.v t))], AV.int IntKind.i64 (r39.v2 (IntKind.i64.wrap (IntKind.i64.wrap (t.e1 * r42.v t) + r33.v1 n g t.fr)) (r42.v t))]) (r24.h0 t n g), .b true] (by simp) (by simp) (kmp (by kernel_rfl) (And.intro (r18 (t) o0 (n) o1 (g) o2 (r24.h0 t n g)) (And.intro (show (bnot (r18.v t n g == 0)) = false by rw [h1]; try rfl) (And.intro (r33 (n) (g) o3 (t.fr) (r24.h0 t n g)) (And.intro (And.intro (show (0 : Int) ≤ (1 : Int) by first | decide | exact Int.NonNeg.mk _) (show (1 : Int) < (2 : Int) by first | decide | exact Int.NonNeg.mk _)) (And.intro (r42 (t) (r24.h0 t n g)) (And.intro (PRet.mk (r42 (t) ([])) (by simp)) (And.intro (r42 (t) (r24.h0 t n g)) (And.intro (PRet.mk (r42 (t) ([])) (by simp)) (And.intro (r39 (IntKind.i64.wrap (IntKind.i64.wrap (t.e1 * r42.v t) + r33.v1 n g t.fr)) (r42.v t) (And.intro o4 o5) (And.intro o6 o7) (r24.h0 t n g)) (And.intro (PRet.mk (r39 (IntKind.i64.wrap (IntKind.i64.wrap (t.e1 * r42.v t) + r33.v1 n g t.fr)) (r42.v t) (And.intro o4 o5) (And.intro o6 o7) ([])) (by simp)) (And.intro (show (bnot (r39.v2 (IntKind.i64.wrap (IntKind.i64.wrap (t.e1 * r42.v t) + r33.v1 n g t.fr)) (r42.v t) == 0)) = true by rw [h2]; try rfl) (And.intro (And.intro trivial (show (AV.agg [AV.int IntKind.i64 0, AV.int IntKind.i64 0, AV.int IntKind.i64 0, AV.int IntKind.i64 0]) = ((AV.agg ((AV.int IntKind.i64 (r24.v0 t n g)) :: ((AV.int IntKind.i64 (r24.v1 t n g)) :: ((AV.int IntKind.i64 (r24.v2 t n g)) :: ((AV.int IntKind.i64 (r24.v3 t n g)) :: [])))))) by first | (simp only [r24.v0, r24.v1, r24.v2, r24.v3, r24.v4, h1, h2, cond_true, cond_false]; done) | (try unfold r24.v0; try unfold r24.v1; try unfold r24.v2; try unfold r24.v3; try unfold r24.v4; try simp only [h1, cond_true, cond_false]; try simp only [h2, cond_true, cond_false]; try rfl; done) | rfl)) (And.intro (show (AV.int IntKind.i64 (r39.v2 (IntKind.i64.wrap (IntKind.i64.wrap (t.e1 * r42.v t) + r33.v1 n g t.fr)) (r42.v t))) = ((AV.int IntKind.i64 (r24.v4 t n g))) by first | (simp only [r24.v0, r24.v1, r24.v2, r24.v3, r24.v4, h1, h2, cond_true, cond_false]; done) | (try unfold r24.v0; try unfold r24.v1; try unfold r24.v2; try unfold r24.v3; try unfold r24.v4; try simp only [h1, cond_true, cond_false]; try simp only [h2, cond_true, cond_false]; try rfl; done) | rfl) trivial)))))))))))))) h
  | false =>
    have h1p := ne_of_beq_false h1
    exact Ret.of_run1 mix [(AV.agg ((AV.int IntKind.i64 (r24.v0 t n g)) :: ((AV.int IntKind.i64 (r24.v1 t n g)) :: ((AV.int IntKind.i64 (r24.v2 t n g)) :: ((AV.int IntKind.i64 (r24.v3 t n g)) :: []))))), (AV.int IntKind.i64 (r24.v4 t n g))] Try.func24 rfl [.ret (AV.int IntKind.i64 (r18.v t n g)) (r24.h0 t n g), .b true] (by simp) (by simp) (kmp (by kernel_rfl) (And.intro (r18 (t) o0 (n) o1 (g) o2 (r24.h0 t n g)) (And.intro (show (bnot (r18.v t n g == 0)) = true by rw [h1]; try rfl) (And.intro (And.intro trivial (show (AV.agg [AV.int IntKind.i64 0, AV.int IntKind.i64 0, AV.int IntKind.i64 0, AV.int IntKind.i64 0]) = ((AV.agg ((AV.int IntKind.i64 (r24.v0 t n g)) :: ((AV.int IntKind.i64 (r24.v1 t n g)) :: ((AV.int IntKind.i64 (r24.v2 t n g)) :: ((AV.int IntKind.i64 (r24.v3 t n g)) :: [])))))) by first | (simp only [r24.v0, r24.v1, r24.v2, r24.v3, r24.v4, h1, cond_true, cond_false]; done) | (try unfold r24.v0; try unfold r24.v1; try unfold r24.v2; try unfold r24.v3; try unfold r24.v4; try simp only [h1, cond_true, cond_false]; try rfl; done) | rfl)) (And.intro (show (AV.int IntKind.i64 (r18.v t n g)) = ((AV.int IntKind.i64 (r24.v4 t n g))) by first | (simp only [r24.v0, r24.v1, r24.v2, r24.v3, r24.v4, h1, cond_true, cond_false]; done) | (try unfold r24.v0; try unfold r24.v1; try unfold r24.v2; try unfold r24.v3; try unfold r24.v4; try simp only [h1, cond_true, cond_false]; try rfl; done) | rfl) trivial))))) h

end Go.Proofs.Ytngpbfocjgikaaa

open Go

namespace Go.Proofs.Ytngpbfocjgikaaa

set_option maxHeartbeats 0

set_option maxRecDepth 100000

theorem bd_in {x a b : Int} (h : r32.v x a b = true) : a ≤ x ∧ x ≤ b := by
  unfold r32.v at h
  by_cases h1 : x ≥ a
  · rw [decide_eq_true h1, cond_true] at h
    exact ⟨h1, of_decide_eq_true h⟩
  · rw [decide_eq_false h1, cond_false] at h; cases h

/-- The bounds of a truck that is accepted. -/
structure TOk (t : TD) : Prop where
  tl : 1 ≤ t.tl ∧ t.tl ≤ 50000
  fr : -50000 ≤ t.fr ∧ t.fr ≤ 50000
  re : -50000 ≤ t.re ∧ t.re ≤ 50000
  l0 : 1 ≤ t.l0 ∧ t.l0 ≤ 1000000000
  e0 : 0 ≤ t.e0 ∧ t.e0 ≤ 1000000000
  l1 : 1 ≤ t.l1 ∧ t.l1 ≤ 1000000000
  e1 : 0 ≤ t.e1 ∧ t.e1 ≤ 1000000000
  lt : t.fr < t.re

theorem tok {t : TD} (h : r16.v t = 0) : TOk t := by
  unfold r16.v at h
  have st : ∀ {b : Bool} {x y : Int}, (bif b then x else y) = 0 → y ≠ 0 → b = true ∧ x = 0 := by
    intro b x y h hy; cases b
    · exact absurd h hy
    · exact ⟨rfl, h⟩
  obtain ⟨_, h⟩ := st h (by decide)
  obtain ⟨h1, h⟩ := st h (by decide)
  obtain ⟨h2, h⟩ := st h (by decide)
  obtain ⟨h3, h⟩ := st h (by decide)
  obtain ⟨h4, h⟩ := st h (by decide)
  obtain ⟨h5, h⟩ := st h (by decide)
  obtain ⟨h6, h⟩ := st h (by decide)
  obtain ⟨h7, h⟩ := st h (by decide)
  refine ⟨bd_in h1, bd_in h2, bd_in h3, bd_in h4, bd_in h5, bd_in h6, bd_in h7, ?_⟩
  by_cases q : t.fr ≥ t.re
  · rw [decide_eq_true q, cond_true] at h; cases h
  · omega

theorem r18_0 {t : TD} {n : Nat} {g : Nat → LD} (h : r18.v t n g = 0) : r16.v t = 0 ∧ r35.v n g t.tl = 0 := by
  unfold r18.v at h
  by_cases q : r16.v t = 0
  · rw [q] at h; exact ⟨q, h⟩
  · rw [show (r16.v t == 0) = false by simpa using q, cond_false] at h; exact absurd h q

theorem bd_ln {x : Int} (h : r32.v x 1 50000 = true) : 1 ≤ x ∧ x ≤ 50000 := bd_in h

theorem bd_tl {t : TD} {n : Nat} {g : Nat → LD} (h : r18.v t n g = 0) : 1 ≤ t.tl ∧ t.tl ≤ 50000 := (tok (r18_0 h).1).tl

theorem w_tl {t : TD} {n : Nat} {g : Nat → LD} {ln : Int} (h : r18.v t n g = 0) (h2 : r32.v ln 1 50000 = true) : IntKind.i64.wrap (t.tl - ln) ≤ 50000 := by
  have := bd_tl h
  have := bd_ln h2
  rw [i64_small (by omega)]
  omega

theorem w_tlm {t : TD} {ln : Int} (h : r18m.v t = 0) (h2 : r32.v ln 1 50000 = true) : IntKind.i64.wrap (t.tl - ln) ≤ 50000 := by
  unfold r18m.v at h
  by_cases q : r16.v t = 0
  · rw [q] at h; cases h
  · rw [show (r16.v t == 0) = false by simpa using q, cond_false] at h; exact absurd h q

theorem awk_g (i : Nat) : ([LD.mk (ByteArray.mk #[97]) 2000 1000 8000].getD i default).nm.size ≤ 9223372036854775807 := by
  cases i with
  | zero => decide
  | succ i => exact (show (ByteArray.empty : ByteArray).size ≤ 9223372036854775807 by decide)

end Go.Proofs.Ytngpbfocjgikaaa

open Go

namespace Go.Proofs.Ytngpbfocjgikaaa

set_option linter.unusedSimpArgs false

set_option linter.unusedVariables false

set_option maxHeartbeats 0

set_option maxRecDepth 100000

inductive L12a.O where
  | e0 (a0 : Bool) (a1 : Int) (a2 : Int)

noncomputable def L12a.T (t : TD) (n : Nat) (g : Nat → LD) (ln : Int) (ms : Int) (a13 : Bool) (a15 : Int) (ao2_0 : Int) (ao2_1 : Int) : List AV := mkT 75 [(2, AV.int IntKind.i64 ln), (3, AV.int IntKind.i64 ms), (4, AV.ptr 0 1 8 0 0), (8, AV.ptr 1 1 2 0 0), (11, AV.int IntKind.i64 (r33.v0 n g t.fr)), (12, AV.int IntKind.i64 (r33.v1 n g t.fr)), (13, AV.bool a13), (14, AV.ptr 2 1 2 0 0), (15, AV.int IntKind.i64 a15)]

noncomputable def L12a.H (t : TD) (n : Nat) (g : Nat → LD) (ln : Int) (ms : Int) (a13 : Bool) (a15 : Int) (ao2_0 : Int) (ao2_1 : Int) : AHeap := [AObj.var (AV.agg [AV.str t.nm, AV.int IntKind.i64 t.tl, AV.int IntKind.i64 t.fr, AV.int IntKind.i64 t.re, AV.int IntKind.i64 t.l0, AV.int IntKind.i64 t.l1, AV.int IntKind.i64 t.e0, AV.int IntKind.i64 t.e1]), AObj.var (AV.agg [AV.int IntKind.i64 0, AV.int IntKind.i64 0]), AObj.var (AV.agg [AV.int IntKind.i64 ao2_0, AV.int IntKind.i64 ao2_1])]

def L12a.inv (t : TD) (n : Nat) (g : Nat → LD) (ln : Int) (ms : Int) (a13 : Bool) (a15 : Int) (ao2_0 : Int) (ao2_1 : Int) : Prop := 0 ≤ a15 ∧ a15 ≤ 50001

noncomputable def L12a.mu (t : TD) (n : Nat) (g : Nat → LD) (ln : Int) (ms : Int) (a13 : Bool) (a15 : Int) (ao2_0 : Int) (ao2_1 : Int) : Nat := (50001 - a15).toNat

noncomputable def L12a.E : L12a.O → Exit
  | .e0 a0 a1 a2 => Exit.exit 0

noncomputable def L12a.X (t : TD) (n : Nat) (g : Nat → LD) (ln : Int) (ms : Int) : L12a.O → List AV
  | .e0 a0 a1 a2 => mkT 75 [(8, (AV.ptr 1 1 2 0 0)), (13, (AV.bool a0)), (14, (AV.ptr 2 1 2 0 0))]

noncomputable def L12a.XH (t : TD) (n : Nat) (g : Nat → LD) (ln : Int) (ms : Int) : L12a.O → AHeap
  | .e0 a0 a1 a2 => ((AObj.var (AV.agg [AV.str t.nm, AV.int IntKind.i64 t.tl, AV.int IntKind.i64 t.fr, AV.int IntKind.i64 t.re, AV.int IntKind.i64 t.l0, AV.int IntKind.i64 t.l1, AV.int IntKind.i64 t.e0, AV.int IntKind.i64 t.e1])) :: ((AObj.var (AV.agg [AV.int IntKind.i64 0, AV.int IntKind.i64 0])) :: ((AObj.var (AV.agg ((AV.int IntKind.i64 a1) :: ((AV.int IntKind.i64 a2) :: ([]))))) :: ([]))))

noncomputable def L12a.N (t : TD) (n : Nat) (g : Nat → LD) (ln : Int) (ms : Int) : Nat → Bool → Int → Int → Int → L12a.O
  | 0, a13, _, ao2_0, ao2_1 => .e0 a13 ao2_0 ao2_1
  | k_ + 1, a13, a15, ao2_0, ao2_1 => (bif decide (a15 ≤ IntKind.i64.wrap (t.tl - ln)) then (bif r34.v t (IntKind.i64.wrap (r33.v0 n g t.fr + ms)) (IntKind.i64.wrap (r33.v1 n g t.fr + IntKind.i64.wrap (ms * IntKind.i64.wrap (IntKind.i64.wrap (IntKind.i64.wrap (2 * a15) + ln) - IntKind.i64.wrap (2 * t.fr))))) then (bif a13 then (L12a.N t n g ln ms k_ (a13) (IntKind.i64.wrap (a15 + 1)) (ao2_0) (a15)) else (L12a.N t n g ln ms k_ (true) (IntKind.i64.wrap (a15 + 1)) (a15) (a15))) else (L12a.N t n g ln ms k_ (a13) (IntKind.i64.wrap (a15 + 1)) (ao2_0) (ao2_1))) else (.e0 (a13) (ao2_0) (ao2_1)))

noncomputable def L12a.run (t : TD) (n : Nat) (g : Nat → LD) (ln : Int) (ms : Int) (a13 : Bool) (a15 : Int) (ao2_0 : Int) (ao2_1 : Int) : L12a.O := L12a.N t n g ln ms (((50001 - a15).toNat) + 1) a13 a15 ao2_0 ao2_1

theorem L12a.nx (t : TD) (n : Nat) (g : Nat → LD) (ln : Int) (ms : Int) {k_ : Nat} {z_ : Bool × Int × Int × Int} {h_ : AHeap} (s_ : Bool × Int × Int × Int) (h1 : L12a.inv t n g ln ms s_.1 s_.2.1 s_.2.2.1 s_.2.2.2) (h2 : L12a.mu t n g ln ms s_.1 s_.2.1 s_.2.2.1 s_.2.2.2 < L12a.mu t n g ln ms z_.1 z_.2.1 z_.2.2.1 z_.2.2.2) (h3 : L12a.N t n g ln ms k_ s_.1 s_.2.1 s_.2.2.1 s_.2.2.2 = L12a.N t n g ln ms (k_ + 1) z_.1 z_.2.1 z_.2.2.1 z_.2.2.2) (h4 : PopOk (L12a.H t n g ln ms z_.1 z_.2.1 z_.2.2.1 z_.2.2.2) h_ (L12a.T t n g ln ms s_.1 s_.2.1 s_.2.2.1 s_.2.2.2) (L12a.H t n g ln ms s_.1 s_.2.1 s_.2.2.1 s_.2.2.2)) : LNextP (fun (z_ : Bool × Int × Int × Int) => L12a.T t n g ln ms z_.1 z_.2.1 z_.2.2.1 z_.2.2.2) (fun (z_ : Bool × Int × Int × Int) => L12a.H t n g ln ms z_.1 z_.2.1 z_.2.2.1 z_.2.2.2) (fun (z_ : Bool × Int × Int × Int) => L12a.inv t n g ln ms z_.1 z_.2.1 z_.2.2.1 z_.2.2.2) (fun (z_ : Bool × Int × Int × Int) => L12a.mu t n g ln ms z_.1 z_.2.1 z_.2.2.1 z_.2.2.2) (fun (k_ : Nat) (z_ : Bool × Int × Int × Int) => L12a.N t n g ln ms k_ z_.1 z_.2.1 z_.2.2.1 z_.2.2.2) k_ z_ (L12a.T t n g ln ms s_.1 s_.2.1 s_.2.2.1 s_.2.2.2) h_ := LNextP.mk (Tm := (fun (z_ : Bool × Int × Int × Int) => L12a.T t n g ln ms z_.1 z_.2.1 z_.2.2.1 z_.2.2.2)) (Hp := (fun (z_ : Bool × Int × Int × Int) => L12a.H t n g ln ms z_.1 z_.2.1 z_.2.2.1 z_.2.2.2)) (inv := (fun (z_ : Bool × Int × Int × Int) => L12a.inv t n g ln ms z_.1 z_.2.1 z_.2.2.1 z_.2.2.2)) (mu := (fun (z_ : Bool × Int × Int × Int) => L12a.mu t n g ln ms z_.1 z_.2.1 z_.2.2.1 z_.2.2.2)) (l := (fun (k_ : Nat) (z_ : Bool × Int × Int × Int) => L12a.N t n g ln ms k_ z_.1 z_.2.1 z_.2.2.1 z_.2.2.2)) s_ h1 h2 h3 h4

theorem L12a.en (t : TD) (n : Nat) (g : Nat → LD) (ln : Int) (ms : Int) {k_ : Nat} {z_ : Bool × Int × Int × Int} {h_ : AHeap} (o_ : L12a.O) (h3 : L12a.N t n g ln ms (k_ + 1) z_.1 z_.2.1 z_.2.2.1 z_.2.2.2 = o_) (h4 : PopOk (L12a.H t n g ln ms z_.1 z_.2.1 z_.2.2.1 z_.2.2.2) h_ (L12a.X t n g ln ms o_) (L12a.XH t n g ln ms o_)) : LEndP (fun (z_ : Bool × Int × Int × Int) => L12a.H t n g ln ms z_.1 z_.2.1 z_.2.2.1 z_.2.2.2) (fun (k_ : Nat) (z_ : Bool × Int × Int × Int) => L12a.N t n g ln ms k_ z_.1 z_.2.1 z_.2.2.1 z_.2.2.2) L12a.E (L12a.X t n g ln ms) (L12a.XH t n g ln ms) k_ z_ (L12a.E o_) (L12a.X t n g ln ms o_) h_ := LEndP.mk (Hp := (fun (z_ : Bool × Int × Int × Int) => L12a.H t n g ln ms z_.1 z_.2.1 z_.2.2.1 z_.2.2.2)) (l := (fun (k_ : Nat) (z_ : Bool × Int × Int × Int) => L12a.N t n g ln ms k_ z_.1 z_.2.1 z_.2.2.1 z_.2.2.2)) (oE := L12a.E) (oT := L12a.X t n g ln ms) (oH := L12a.XH t n g ln ms) o_ h3 h4

noncomputable abbrev L12a.h0 (t : TD) (n : Nat) (g : Nat → LD) (ln : Int) (ms : Int) (a13 : Bool) (a15 : Int) (ao2_0 : Int) (ao2_1 : Int) : AHeap := ([AObj.var (AV.agg [AV.str t.nm, AV.int IntKind.i64 t.tl, AV.int IntKind.i64 t.fr, AV.int IntKind.i64 t.re, AV.int IntKind.i64 t.l0, AV.int IntKind.i64 t.l1, AV.int IntKind.i64 t.e0, AV.int IntKind.i64 t.e1]), AObj.var (AV.agg [AV.int IntKind.i64 0, AV.int IntKind.i64 0]), AObj.var (AV.agg [AV.int IntKind.i64 ao2_0, AV.int IntKind.i64 ao2_1])])

theorem L12a.spec (t : TD) (n : Nat) (g : Nat → LD) (ln : Int) (ms : Int) (hw : IntKind.i64.wrap (t.tl - ln) ≤ 50000) (k_ : Nat) (z_ : Bool × Int × Int × Int) (hi_ : L12a.inv t n g ln ms z_.1 z_.2.1 z_.2.2.1 z_.2.2.2) (hm_ : L12a.mu t n g ln ms z_.1 z_.2.1 z_.2.2.1 z_.2.2.2 < k_) : LoopTo Try.prog (loopN Try.f12 0) (L12a.T t n g ln ms z_.1 z_.2.1 z_.2.2.1 z_.2.2.2) (L12a.H t n g ln ms z_.1 z_.2.1 z_.2.2.1 z_.2.2.2) (L12a.E (L12a.N t n g ln ms k_ z_.1 z_.2.1 z_.2.2.1 z_.2.2.2)) (L12a.X t n g ln ms (L12a.N t n g ln ms k_ z_.1 z_.2.1 z_.2.2.1 z_.2.2.2)) (L12a.XH t n g ln ms (L12a.N t n g ln ms k_ z_.1 z_.2.1 z_.2.2.1 z_.2.2.2)) := by
  refine LoopTo.fuelP mix (fun (z_ : Bool × Int × Int × Int) => L12a.T t n g ln ms z_.1 z_.2.1 z_.2.2.1 z_.2.2.2) (fun (z_ : Bool × Int × Int × Int) => L12a.H t n g ln ms z_.1 z_.2.1 z_.2.2.1 z_.2.2.2) (fun (z_ : Bool × Int × Int × Int) => L12a.inv t n g ln ms z_.1 z_.2.1 z_.2.2.1 z_.2.2.2) (fun (z_ : Bool × Int × Int × Int) => L12a.mu t n g ln ms z_.1 z_.2.1 z_.2.2.1 z_.2.2.2) (fun (k_ : Nat) (z_ : Bool × Int × Int × Int) => L12a.N t n g ln ms k_ z_.1 z_.2.1 z_.2.2.1 z_.2.2.2) L12a.E (L12a.X t n g ln ms) (L12a.XH t n g ln ms) (others 75 [2, 3, 4, 8, 11, 12, 13, 14, 15]) (others 75 [8, 9]) (others 75 [8, 13, 14]) ?_ k_ z_ hi_ hm_
  clear hm_ hi_ z_ k_
  intro k_ z_ hinv hmu
  obtain ⟨a13, a15, ao2_0, ao2_1⟩ := z_
  have hinv : 0 ≤ a15 ∧ a15 ≤ 50001 := hinv
  have hmu : ((50001 - a15).toNat) < k_ + 1 := hmu
  cases h1 : decide (a15 ≤ IntKind.i64.wrap (t.tl - ln)) with
  | true =>
    have h1p := of_decide_eq_true h1
    cases h2 : r34.v t (IntKind.i64.wrap (r33.v0 n g t.fr + ms)) (IntKind.i64.wrap (r33.v1 n g t.fr + IntKind.i64.wrap (ms * IntKind.i64.wrap (IntKind.i64.wrap (IntKind.i64.wrap (2 * a15) + ln) - IntKind.i64.wrap (2 * t.fr))))) with
    | true =>
      cases boolIs a13 with
      | true h3 =>
        try have := IntWalk.i64_in (a15 + 1) (by omega)
        have o0 : (0 : Int) ≤ IntKind.i64.wrap (a15 + (1 : Int)) := by first | assumption | omega | (simp_all; done)
        have o1 : IntKind.i64.wrap (a15 + (1 : Int)) ≤ (50001 : Int) := by first | assumption | omega | (simp_all; done)
        have o2 : ((50001 : Int) - IntKind.i64.wrap (a15 + (1 : Int))).toNat < ((50001 : Int) - a15).toNat := by first | assumption | omega | (simp_all; done)
        exact ⟨[.b true, .ret (AV.bool (r34.v t (IntKind.i64.wrap (r33.v0 n g t.fr + ms)) (IntKind.i64.wrap (r33.v1 n g t.fr + IntKind.i64.wrap (ms * IntKind.i64.wrap (IntKind.i64.wrap (IntKind.i64.wrap (2 * a15) + ln) - IntKind.i64.wrap (2 * t.fr))))))) (L12a.h0 t n g ln ms a13 a15 ao2_0 ao2_1), .b false, .b false], kmp (by kernel_rfl) (And.intro h1 (And.intro (r34 (t) (IntKind.i64.wrap (r33.v0 n g t.fr + ms)) (IntKind.i64.wrap (r33.v1 n g t.fr + IntKind.i64.wrap (ms * IntKind.i64.wrap (IntKind.i64.wrap (IntKind.i64.wrap (2 * a15) + ln) - IntKind.i64.wrap (2 * t.fr))))) (L12a.h0 t n g ln ms a13 a15 ao2_0 ao2_1)) (And.intro (show (bnot (r34.v t (IntKind.i64.wrap (r33.v0 n g t.fr + ms)) (IntKind.i64.wrap (r33.v1 n g t.fr + IntKind.i64.wrap (ms * IntKind.i64.wrap (IntKind.i64.wrap (IntKind.i64.wrap (2 * a15) + ln) - IntKind.i64.wrap (2 * t.fr))))))) = false by rw [h2]; try rfl) (And.intro (show (bnot a13) = false by rw [h3]; try rfl) (L12a.nx t n g ln ms (k_ := k_) (z_ := (a13, a15, ao2_0, ao2_1)) ((a13, IntKind.i64.wrap (a15 + 1), ao2_0, a15)) (And.intro o0 o1) o2 (by first | (simp only [L12a.N, h1, h2, h3, cond_true, cond_false]; done) | (try unfold L12a.N; try simp only [h1, cond_true, cond_false]; try simp only [h2, cond_true, cond_false]; try simp only [h3, cond_true, cond_false]; try rfl; done)) PopOk.same)))))⟩
      | false h3 =>
        try have := IntWalk.i64_in (a15 + 1) (by omega)
        have o0 : (0 : Int) ≤ IntKind.i64.wrap (a15 + (1 : Int)) := by first | assumption | omega | (simp_all; done)
        have o1 : IntKind.i64.wrap (a15 + (1 : Int)) ≤ (50001 : Int) := by first | assumption | omega | (simp_all; done)
        have o2 : ((50001 : Int) - IntKind.i64.wrap (a15 + (1 : Int))).toNat < ((50001 : Int) - a15).toNat := by first | assumption | omega | (simp_all; done)
        exact ⟨[.b true, .ret (AV.bool (r34.v t (IntKind.i64.wrap (r33.v0 n g t.fr + ms)) (IntKind.i64.wrap (r33.v1 n g t.fr + IntKind.i64.wrap (ms * IntKind.i64.wrap (IntKind.i64.wrap (IntKind.i64.wrap (2 * a15) + ln) - IntKind.i64.wrap (2 * t.fr))))))) (L12a.h0 t n g ln ms a13 a15 ao2_0 ao2_1), .b false, .b true], kmp (by kernel_rfl) (And.intro h1 (And.intro (r34 (t) (IntKind.i64.wrap (r33.v0 n g t.fr + ms)) (IntKind.i64.wrap (r33.v1 n g t.fr + IntKind.i64.wrap (ms * IntKind.i64.wrap (IntKind.i64.wrap (IntKind.i64.wrap (2 * a15) + ln) - IntKind.i64.wrap (2 * t.fr))))) (L12a.h0 t n g ln ms a13 a15 ao2_0 ao2_1)) (And.intro (show (bnot (r34.v t (IntKind.i64.wrap (r33.v0 n g t.fr + ms)) (IntKind.i64.wrap (r33.v1 n g t.fr + IntKind.i64.wrap (ms * IntKind.i64.wrap (IntKind.i64.wrap (IntKind.i64.wrap (2 * a15) + ln) - IntKind.i64.wrap (2 * t.fr))))))) = false by rw [h2]; try rfl) (And.intro (show (bnot a13) = true by rw [h3]; try rfl) (L12a.nx t n g ln ms (k_ := k_) (z_ := (a13, a15, ao2_0, ao2_1)) ((true, IntKind.i64.wrap (a15 + 1), a15, a15)) (And.intro o0 o1) o2 (by first | (simp only [L12a.N, h1, h2, h3, cond_true, cond_false]; done) | (try unfold L12a.N; try simp only [h1, cond_true, cond_false]; try simp only [h2, cond_true, cond_false]; try simp only [h3, cond_true, cond_false]; try rfl; done)) PopOk.same)))))⟩
    | false =>
      try have := IntWalk.i64_in (a15 + 1) (by omega)
      have o0 : (0 : Int) ≤ IntKind.i64.wrap (a15 + (1 : Int)) := by first | assumption | omega | (simp_all; done)
      have o1 : IntKind.i64.wrap (a15 + (1 : Int)) ≤ (50001 : Int) := by first | assumption | omega | (simp_all; done)
      have o2 : ((50001 : Int) - IntKind.i64.wrap (a15 + (1 : Int))).toNat < ((50001 : Int) - a15).toNat := by first | assumption | omega | (simp_all; done)
      exact ⟨[.b true, .ret (AV.bool (r34.v t (IntKind.i64.wrap (r33.v0 n g t.fr + ms)) (IntKind.i64.wrap (r33.v1 n g t.fr + IntKind.i64.wrap (ms * IntKind.i64.wrap (IntKind.i64.wrap (IntKind.i64.wrap (2 * a15) + ln) - IntKind.i64.wrap (2 * t.fr))))))) (L12a.h0 t n g ln ms a13 a15 ao2_0 ao2_1), .b true], kmp (by kernel_rfl) (And.intro h1 (And.intro (r34 (t) (IntKind.i64.wrap (r33.v0 n g t.fr + ms)) (IntKind.i64.wrap (r33.v1 n g t.fr + IntKind.i64.wrap (ms * IntKind.i64.wrap (IntKind.i64.wrap (IntKind.i64.wrap (2 * a15) + ln) - IntKind.i64.wrap (2 * t.fr))))) (L12a.h0 t n g ln ms a13 a15 ao2_0 ao2_1)) (And.intro (show (bnot (r34.v t (IntKind.i64.wrap (r33.v0 n g t.fr + ms)) (IntKind.i64.wrap (r33.v1 n g t.fr + IntKind.i64.wrap (ms * IntKind.i64.wrap (IntKind.i64.wrap (IntKind.i64.wrap (2 * a15) + ln) - IntKind.i64.wrap (2 * t.fr))))))) = true by rw [h2]; try rfl) (L12a.nx t n g ln ms (k_ := k_) (z_ := (a13, a15, ao2_0, ao2_1)) ((a13, IntKind.i64.wrap (a15 + 1), ao2_0, ao2_1)) (And.intro o0 o1) o2 (by first | (simp only [L12a.N, h1, h2, cond_true, cond_false]; done) | (try unfold L12a.N; try simp only [h1, cond_true, cond_false]; try simp only [h2, cond_true, cond_false]; try rfl; done)) PopOk.same))))⟩
  | false =>
    have h1p := of_decide_eq_false h1
    exact ⟨[.b false], kmp (by kernel_rfl) (And.intro h1 (L12a.en t n g ln ms (k_ := k_) (z_ := (a13, a15, ao2_0, ao2_1)) (.e0 (a13) (ao2_0) (ao2_1) : L12a.O) (by first | (simp only [L12a.N, h1, cond_true, cond_false]; done) | (try unfold L12a.N; try simp only [h1, cond_true, cond_false]; try rfl; done)) PopOk.same))⟩

theorem L12a.e0 (t : TD) (n : Nat) (g : Nat → LD) (ln : Int) (ms : Int) (hw : IntKind.i64.wrap (t.tl - ln) ≤ 50000) (a13 : Bool) (a15 : Int) (ao2_0 : Int) (ao2_1 : Int) (hinv : L12a.inv t n g ln ms a13 a15 ao2_0 ao2_1) (a0 : Bool) (a1 : Int) (a2 : Int) (hN : L12a.run t n g ln ms a13 a15 ao2_0 ao2_1 = (.e0 a0 a1 a2 : L12a.O)) : LoopTo Try.prog (loopN Try.f12 0) (L12a.T t n g ln ms a13 a15 ao2_0 ao2_1) (L12a.H t n g ln ms a13 a15 ao2_0 ao2_1) (Exit.exit 0) (L12a.X t n g ln ms (.e0 a0 a1 a2 : L12a.O)) (L12a.XH t n g ln ms (.e0 a0 a1 a2 : L12a.O)) := by
  have h_ := L12a.spec t n g ln ms hw (((50001 - a15).toNat) + 1) (a13, a15, ao2_0, ao2_1) hinv (Nat.lt_succ_self _)
  unfold L12a.run at hN
  simp only [hN] at h_
  exact h_

noncomputable def r12.v0 (t : TD) (n : Nat) (g : Nat → LD) (ln : Int) (ms : Int) : Int := (bif r18.v t n g == 0 then (bif r32.v ln 1 50000 then (bif r32.v ms 1 100000000 then (match L12a.run t n g ln ms false 0 0 0 with | .e0 h4d0 h4d1 h4d2 => (bif h4d0 then h4d1 else 0) ) else 0) else 0) else 0)

noncomputable def r12.v1 (t : TD) (n : Nat) (g : Nat → LD) (ln : Int) (ms : Int) : Int := (bif r18.v t n g == 0 then (bif r32.v ln 1 50000 then (bif r32.v ms 1 100000000 then (match L12a.run t n g ln ms false 0 0 0 with | .e0 h4d0 h4d1 h4d2 => (bif h4d0 then h4d2 else 0) ) else 0) else 0) else 0)

noncomputable def r12.v2 (t : TD) (n : Nat) (g : Nat → LD) (ln : Int) (ms : Int) : Int := (bif r18.v t n g == 0 then (bif r32.v ln 1 50000 then (bif r32.v ms 1 100000000 then (match L12a.run t n g ln ms false 0 0 0 with | .e0 h4d0 h4d1 h4d2 => (bif h4d0 then 0 else 9) ) else 6) else 6) else r18.v t n g)

noncomputable abbrev r12.h0 (t : TD) (n : Nat) (g : Nat → LD) (ln : Int) (ms : Int) : AHeap := ([AObj.var (AV.agg [AV.str t.nm, AV.int IntKind.i64 t.tl, AV.int IntKind.i64 t.fr, AV.int IntKind.i64 t.re, AV.int IntKind.i64 t.l0, AV.int IntKind.i64 t.l1, AV.int IntKind.i64 t.e0, AV.int IntKind.i64 t.e1]), AObj.var (AV.agg [AV.int IntKind.i64 0, AV.int IntKind.i64 0])])

theorem r12 (t : TD) (hnm : t.nm.size ≤ 9223372036854775807) (n : Nat) (hn : n ≤ 12) (g : Nat → LD) (hg : ∀ (i : Nat), (g i).nm.size ≤ 9223372036854775807) (ln : Int) (ms : Int) (h : AHeap) : Ret Try.prog 12 ([t.av, lds n g, AV.int IntKind.i64 ln, AV.int IntKind.i64 ms]) h (AV.tup [(AV.agg ((AV.int IntKind.i64 (r12.v0 t n g ln ms)) :: ((AV.int IntKind.i64 (r12.v1 t n g ln ms)) :: []))), (AV.int IntKind.i64 (r12.v2 t n g ln ms))]) h := by
  have o0 : t.nm.size ≤ (9223372036854775807 : Nat) := by first | assumption | omega | (exact hg _) | (exact hg _ (by omega)) | (simp_all; done)
  have o1 : n ≤ (12 : Nat) := by first | assumption | omega | (exact hg _) | (exact hg _ (by omega)) | (simp_all; done)
  have o2 : ∀ (i : Nat), (g i).nm.size ≤ (9223372036854775807 : Nat) := by first | assumption | omega | (exact hg _) | (exact hg _ (by omega)) | (simp_all; done)
  cases h1 : r18.v t n g == 0 with
  | true =>
    have h1p := eq_of_beq h1
    cases h2 : r32.v ln 1 50000 with
    | true =>
      cases h3 : r32.v ms 1 100000000 with
      | true =>
        have o3 : n ≤ (9223372036854775807 : Nat) := by first | assumption | omega | (exact hg _) | (exact hg _ (by omega)) | (simp_all; done)
        try have := IntWalk.i64_in (t.tl - ln) (by omega)
        have o4 : IntKind.i64.wrap (t.tl - ln) ≤ (50000 : Int) := by first | assumption | omega | (apply w_tl <;> first | assumption | omega) | (apply w_tlm <;> first | assumption | omega) | (exact hg _) | (exact hg _ (by omega)) | (simp_all; done)
        cases h4 : L12a.run t n g ln ms false 0 0 0 with
        | e0 h4d0 h4d1 h4d2 =>
          cases boolIs h4d0 with
          | true h5 =>
            exact Ret.of_run1 mix [(AV.agg ((AV.int IntKind.i64 (r12.v0 t n g ln ms)) :: ((AV.int IntKind.i64 (r12.v1 t n g ln ms)) :: []))), (AV.int IntKind.i64 (r12.v2 t n g ln ms))] Try.func12 rfl [.ret (AV.int IntKind.i64 (r18.v t n g)) (r12.h0 t n g ln ms), .b false, .ret (AV.bool (r32.v ln 1 50000)) (r12.h0 t n g ln ms), .b false, .b false, .ret (AV.bool (r32.v ms 1 100000000)) (r12.h0 t n g ln ms), .b false, .b false, .b false, .ret (AV.tup [AV.int IntKind.i64 (r33.v0 n g t.fr), AV.int IntKind.i64 (r33.v1 n g t.fr)]) (r12.h0 t n g ln ms), .loop (others 75 [2, 3, 4, 8, 11, 12, 13, 14, 15]) (Exit.exit 0) (L12a.X t n g ln ms (L12a.O.e0 h4d0 h4d1 h4d2)) (L12a.XH t n g ln ms (L12a.O.e0 h4d0 h4d1 h4d2)), .b false] (by simp) (by simp) (kmp (by kernel_rfl) (And.intro (r18 (t) o0 (n) o1 (g) o2 (r12.h0 t n g ln ms)) (And.intro (show (bnot (r18.v t n g == 0)) = false by rw [h1]; try rfl) (And.intro (r32 (ln) (1) (50000) (r12.h0 t n g ln ms)) (And.intro (show (bnot (r32.v ln 1 50000)) = false by rw [h2]; try rfl) (And.intro (show (bnot (r32.v ln 1 50000)) = false by rw [h2]; try rfl) (And.intro (r32 (ms) (1) (100000000) (r12.h0 t n g ln ms)) (And.intro (show (bnot (r32.v ln 1 50000)) = false by rw [h2]; try rfl) (And.intro (show (bnot (r32.v ln 1 50000)) = false by rw [h2]; try rfl) (And.intro (show (bnot (r32.v ms 1 100000000)) = false by rw [h3]; try rfl) (And.intro (r33 (n) (g) o3 (t.fr) (r12.h0 t n g ln ms)) (And.intro (L12a.e0 (t) (n) (g) (ln) (ms) o4 (false) (0) (0) (0) (And.intro (show (0 : Int) ≤ (0 : Int) by first | decide | exact Int.NonNeg.mk _) (show (0 : Int) ≤ (50001 : Int) by first | decide | exact Int.NonNeg.mk _)) h4d0 h4d1 h4d2 h4) (And.intro (show (bnot h4d0) = false by rw [h5]; try rfl) (And.intro (And.intro trivial (show (AV.agg [AV.int IntKind.i64 h4d1, AV.int IntKind.i64 h4d2]) = ((AV.agg ((AV.int IntKind.i64 (r12.v0 t n g ln ms)) :: ((AV.int IntKind.i64 (r12.v1 t n g ln ms)) :: [])))) by first | (simp only [r12.v0, r12.v1, r12.v2, h1, h2, h3, h5, h4, cond_true, cond_false]; done) | (try unfold r12.v0; try unfold r12.v1; try unfold r12.v2; try simp only [h1, cond_true, cond_false]; try simp only [h2, cond_true, cond_false]; try simp only [h3, cond_true, cond_false]; try simp only [h5, cond_true, cond_false]; try simp only [h4, cond_true, cond_false]; try rfl; done) | rfl)) (And.intro (show (AV.int IntKind.i64 0) = ((AV.int IntKind.i64 (r12.v2 t n g ln ms))) by first | (simp only [r12.v0, r12.v1, r12.v2, h1, h2, h3, h5, h4, cond_true, cond_false]; done) | (try unfold r12.v0; try unfold r12.v1; try unfold r12.v2; try simp only [h1, cond_true, cond_false]; try simp only [h2, cond_true, cond_false]; try simp only [h3, cond_true, cond_false]; try simp only [h5, cond_true, cond_false]; try simp only [h4, cond_true, cond_false]; try rfl; done) | rfl) trivial))))))))))))))) h
          | false h5 =>
            exact Ret.of_run1 mix [(AV.agg ((AV.int IntKind.i64 (r12.v0 t n g ln ms)) :: ((AV.int IntKind.i64 (r12.v1 t n g ln ms)) :: []))), (AV.int IntKind.i64 (r12.v2 t n g ln ms))] Try.func12 rfl [.ret (AV.int IntKind.i64 (r18.v t n g)) (r12.h0 t n g ln ms), .b false, .ret (AV.bool (r32.v ln 1 50000)) (r12.h0 t n g ln ms), .b false, .b false, .ret (AV.bool (r32.v ms 1 100000000)) (r12.h0 t n g ln ms), .b false, .b false, .b false, .ret (AV.tup [AV.int IntKind.i64 (r33.v0 n g t.fr), AV.int IntKind.i64 (r33.v1 n g t.fr)]) (r12.h0 t n g ln ms), .loop (others 75 [2, 3, 4, 8, 11, 12, 13, 14, 15]) (Exit.exit 0) (L12a.X t n g ln ms (L12a.O.e0 h4d0 h4d1 h4d2)) (L12a.XH t n g ln ms (L12a.O.e0 h4d0 h4d1 h4d2)), .b true] (by simp) (by simp) (kmp (by kernel_rfl) (And.intro (r18 (t) o0 (n) o1 (g) o2 (r12.h0 t n g ln ms)) (And.intro (show (bnot (r18.v t n g == 0)) = false by rw [h1]; try rfl) (And.intro (r32 (ln) (1) (50000) (r12.h0 t n g ln ms)) (And.intro (show (bnot (r32.v ln 1 50000)) = false by rw [h2]; try rfl) (And.intro (show (bnot (r32.v ln 1 50000)) = false by rw [h2]; try rfl) (And.intro (r32 (ms) (1) (100000000) (r12.h0 t n g ln ms)) (And.intro (show (bnot (r32.v ln 1 50000)) = false by rw [h2]; try rfl) (And.intro (show (bnot (r32.v ln 1 50000)) = false by rw [h2]; try rfl) (And.intro (show (bnot (r32.v ms 1 100000000)) = false by rw [h3]; try rfl) (And.intro (r33 (n) (g) o3 (t.fr) (r12.h0 t n g ln ms)) (And.intro (L12a.e0 (t) (n) (g) (ln) (ms) o4 (false) (0) (0) (0) (And.intro (show (0 : Int) ≤ (0 : Int) by first | decide | exact Int.NonNeg.mk _) (show (0 : Int) ≤ (50001 : Int) by first | decide | exact Int.NonNeg.mk _)) h4d0 h4d1 h4d2 h4) (And.intro (show (bnot h4d0) = true by rw [h5]; try rfl) (And.intro (And.intro trivial (show (AV.agg [AV.int IntKind.i64 0, AV.int IntKind.i64 0]) = ((AV.agg ((AV.int IntKind.i64 (r12.v0 t n g ln ms)) :: ((AV.int IntKind.i64 (r12.v1 t n g ln ms)) :: [])))) by first | (simp only [r12.v0, r12.v1, r12.v2, h1, h2, h3, h5, h4, cond_true, cond_false]; done) | (try unfold r12.v0; try unfold r12.v1; try unfold r12.v2; try simp only [h1, cond_true, cond_false]; try simp only [h2, cond_true, cond_false]; try simp only [h3, cond_true, cond_false]; try simp only [h5, cond_true, cond_false]; try simp only [h4, cond_true, cond_false]; try rfl; done) | rfl)) (And.intro (show (AV.int IntKind.i64 9) = ((AV.int IntKind.i64 (r12.v2 t n g ln ms))) by first | (simp only [r12.v0, r12.v1, r12.v2, h1, h2, h3, h5, h4, cond_true, cond_false]; done) | (try unfold r12.v0; try unfold r12.v1; try unfold r12.v2; try simp only [h1, cond_true, cond_false]; try simp only [h2, cond_true, cond_false]; try simp only [h3, cond_true, cond_false]; try simp only [h5, cond_true, cond_false]; try simp only [h4, cond_true, cond_false]; try rfl; done) | rfl) trivial))))))))))))))) h
      | false =>
        exact Ret.of_run1 mix [(AV.agg ((AV.int IntKind.i64 (r12.v0 t n g ln ms)) :: ((AV.int IntKind.i64 (r12.v1 t n g ln ms)) :: []))), (AV.int IntKind.i64 (r12.v2 t n g ln ms))] Try.func12 rfl [.ret (AV.int IntKind.i64 (r18.v t n g)) (r12.h0 t n g ln ms), .b false, .ret (AV.bool (r32.v ln 1 50000)) (r12.h0 t n g ln ms), .b false, .b false, .ret (AV.bool (r32.v ms 1 100000000)) (r12.h0 t n g ln ms), .b false, .b false, .b true] (by simp) (by simp) (kmp (by kernel_rfl) (And.intro (r18 (t) o0 (n) o1 (g) o2 (r12.h0 t n g ln ms)) (And.intro (show (bnot (r18.v t n g == 0)) = false by rw [h1]; try rfl) (And.intro (r32 (ln) (1) (50000) (r12.h0 t n g ln ms)) (And.intro (show (bnot (r32.v ln 1 50000)) = false by rw [h2]; try rfl) (And.intro (show (bnot (r32.v ln 1 50000)) = false by rw [h2]; try rfl) (And.intro (r32 (ms) (1) (100000000) (r12.h0 t n g ln ms)) (And.intro (show (bnot (r32.v ln 1 50000)) = false by rw [h2]; try rfl) (And.intro (show (bnot (r32.v ln 1 50000)) = false by rw [h2]; try rfl) (And.intro (show (bnot (r32.v ms 1 100000000)) = true by rw [h3]; try rfl) (And.intro (And.intro trivial (show (AV.agg [AV.int IntKind.i64 0, AV.int IntKind.i64 0]) = ((AV.agg ((AV.int IntKind.i64 (r12.v0 t n g ln ms)) :: ((AV.int IntKind.i64 (r12.v1 t n g ln ms)) :: [])))) by first | (simp only [r12.v0, r12.v1, r12.v2, h1, h2, h3, cond_true, cond_false]; done) | (try unfold r12.v0; try unfold r12.v1; try unfold r12.v2; try simp only [h1, cond_true, cond_false]; try simp only [h2, cond_true, cond_false]; try simp only [h3, cond_true, cond_false]; try rfl; done) | rfl)) (And.intro (show (AV.int IntKind.i64 6) = ((AV.int IntKind.i64 (r12.v2 t n g ln ms))) by first | (simp only [r12.v0, r12.v1, r12.v2, h1, h2, h3, cond_true, cond_false]; done) | (try unfold r12.v0; try unfold r12.v1; try unfold r12.v2; try simp only [h1, cond_true, cond_false]; try simp only [h2, cond_true, cond_false]; try simp only [h3, cond_true, cond_false]; try rfl; done) | rfl) trivial)))))))))))) h
    | false =>
      exact Ret.of_run1 mix [(AV.agg ((AV.int IntKind.i64 (r12.v0 t n g ln ms)) :: ((AV.int IntKind.i64 (r12.v1 t n g ln ms)) :: []))), (AV.int IntKind.i64 (r12.v2 t n g ln ms))] Try.func12 rfl [.ret (AV.int IntKind.i64 (r18.v t n g)) (r12.h0 t n g ln ms), .b false, .ret (AV.bool (r32.v ln 1 50000)) (r12.h0 t n g ln ms), .b true, .b true, .b true, .b true, .b true] (by simp) (by simp) (kmp (by kernel_rfl) (And.intro (r18 (t) o0 (n) o1 (g) o2 (r12.h0 t n g ln ms)) (And.intro (show (bnot (r18.v t n g == 0)) = false by rw [h1]; try rfl) (And.intro (r32 (ln) (1) (50000) (r12.h0 t n g ln ms)) (And.intro (show (bnot (r32.v ln 1 50000)) = true by rw [h2]; try rfl) (And.intro (show (bnot (r32.v ln 1 50000)) = true by rw [h2]; try rfl) (And.intro (show (bnot (r32.v ln 1 50000)) = true by rw [h2]; try rfl) (And.intro (show (bnot (r32.v ln 1 50000)) = true by rw [h2]; try rfl) (And.intro (rfl : true = true) (And.intro (And.intro trivial (show (AV.agg [AV.int IntKind.i64 0, AV.int IntKind.i64 0]) = ((AV.agg ((AV.int IntKind.i64 (r12.v0 t n g ln ms)) :: ((AV.int IntKind.i64 (r12.v1 t n g ln ms)) :: [])))) by first | (simp only [r12.v0, r12.v1, r12.v2, h1, h2, cond_true, cond_false]; done) | (try unfold r12.v0; try unfold r12.v1; try unfold r12.v2; try simp only [h1, cond_true, cond_false]; try simp only [h2, cond_true, cond_false]; try rfl; done) | rfl)) (And.intro (show (AV.int IntKind.i64 6) = ((AV.int IntKind.i64 (r12.v2 t n g ln ms))) by first | (simp only [r12.v0, r12.v1, r12.v2, h1, h2, cond_true, cond_false]; done) | (try unfold r12.v0; try unfold r12.v1; try unfold r12.v2; try simp only [h1, cond_true, cond_false]; try simp only [h2, cond_true, cond_false]; try rfl; done) | rfl) trivial))))))))))) h
  | false =>
    have h1p := ne_of_beq_false h1
    exact Ret.of_run1 mix [(AV.agg ((AV.int IntKind.i64 (r12.v0 t n g ln ms)) :: ((AV.int IntKind.i64 (r12.v1 t n g ln ms)) :: []))), (AV.int IntKind.i64 (r12.v2 t n g ln ms))] Try.func12 rfl [.ret (AV.int IntKind.i64 (r18.v t n g)) (r12.h0 t n g ln ms), .b true] (by simp) (by simp) (kmp (by kernel_rfl) (And.intro (r18 (t) o0 (n) o1 (g) o2 (r12.h0 t n g ln ms)) (And.intro (show (bnot (r18.v t n g == 0)) = true by rw [h1]; try rfl) (And.intro (And.intro trivial (show (AV.agg [AV.int IntKind.i64 0, AV.int IntKind.i64 0]) = ((AV.agg ((AV.int IntKind.i64 (r12.v0 t n g ln ms)) :: ((AV.int IntKind.i64 (r12.v1 t n g ln ms)) :: [])))) by first | (simp only [r12.v0, r12.v1, r12.v2, h1, cond_true, cond_false]; done) | (try unfold r12.v0; try unfold r12.v1; try unfold r12.v2; try simp only [h1, cond_true, cond_false]; try rfl; done) | rfl)) (And.intro (show (AV.int IntKind.i64 (r18.v t n g)) = ((AV.int IntKind.i64 (r12.v2 t n g ln ms))) by first | (simp only [r12.v0, r12.v1, r12.v2, h1, cond_true, cond_false]; done) | (try unfold r12.v0; try unfold r12.v1; try unfold r12.v2; try simp only [h1, cond_true, cond_false]; try rfl; done) | rfl) trivial))))) h

noncomputable def r31.v0 : ByteArray := ByteArray.mk #[116]

theorem r31 (h : AHeap) : Ret Try.prog 31 ([]) h (AV.agg ((AV.str r31.v0) :: ((AV.int IntKind.i64 6000) :: ((AV.int IntKind.i64 0) :: ((AV.int IntKind.i64 5000) :: ((AV.int IntKind.i64 10000) :: ((AV.int IntKind.i64 15000) :: ((AV.int IntKind.i64 2000) :: ((AV.int IntKind.i64 1000) :: []))))))))) h := by
  exact Ret.of_run1 mix [(AV.agg ((AV.str r31.v0) :: ((AV.int IntKind.i64 6000) :: ((AV.int IntKind.i64 0) :: ((AV.int IntKind.i64 5000) :: ((AV.int IntKind.i64 10000) :: ((AV.int IntKind.i64 15000) :: ((AV.int IntKind.i64 2000) :: ((AV.int IntKind.i64 1000) :: [])))))))))] Try.func31 rfl [] (by simp) (by simp) (kmp (by kernel_rfl) (And.intro (And.intro trivial (show (AV.agg [AV.str (ByteArray.mk #[116]), AV.int IntKind.i64 6000, AV.int IntKind.i64 0, AV.int IntKind.i64 5000, AV.int IntKind.i64 10000, AV.int IntKind.i64 15000, AV.int IntKind.i64 2000, AV.int IntKind.i64 1000]) = ((AV.agg ((AV.str r31.v0) :: ((AV.int IntKind.i64 6000) :: ((AV.int IntKind.i64 0) :: ((AV.int IntKind.i64 5000) :: ((AV.int IntKind.i64 10000) :: ((AV.int IntKind.i64 15000) :: ((AV.int IntKind.i64 2000) :: ((AV.int IntKind.i64 1000) :: [])))))))))) by first | (simp only [r31.v0, cond_true, cond_false]; done) | (try unfold r31.v0; try rfl; done) | rfl)) trivial)) h

noncomputable def r10.v : Bool := r13.v0 (TD.mk r31.v0 6000 0 5000 10000 15000 2000 1000) 1 fun (i : Nat) => [LD.mk (ByteArray.mk #[97]) 2000 1000 8000].getD i default

noncomputable abbrev r10.h0 : AHeap := ([AObj.var (AV.agg [AV.int IntKind.i64 6000, AV.int IntKind.i64 1, AV.int IntKind.i64 5000, AV.int IntKind.i64 1])])

noncomputable abbrev r10.h1 : AHeap := ([AObj.var (AV.agg [AV.int IntKind.i64 6000, AV.int IntKind.i64 1, AV.int IntKind.i64 5000, AV.int IntKind.i64 1]), AObj.var (AV.agg [AV.int IntKind.i64 2500, AV.int IntKind.i64 4500])])

theorem r10 (h : AHeap) : Ret Try.prog 10 ([]) h (AV.bool r10.v) h := by
  have o0 : ∀ (i : Nat), ([LD.mk (ByteArray.mk #[(97 : UInt8)]) (2000 : Int) (1000 : Int) (8000 : Int)].getD i default).nm.size ≤ (9223372036854775807 : Nat) := by first | assumption | omega | (apply awk_g <;> first | assumption | omega) | (simp_all; done)
  exact Ret.of_run1 mix [(AV.bool r10.v)] Try.func10 rfl [.ret (AV.agg [AV.str r31.v0, AV.int IntKind.i64 6000, AV.int IntKind.i64 0, AV.int IntKind.i64 5000, AV.int IntKind.i64 10000, AV.int IntKind.i64 15000, AV.int IntKind.i64 2000, AV.int IntKind.i64 1000]) ([]), .fret ([AV.agg [AV.str r31.v0, AV.int IntKind.i64 6000, AV.int IntKind.i64 0, AV.int IntKind.i64 5000, AV.int IntKind.i64 10000, AV.int IntKind.i64 15000, AV.int IntKind.i64 2000, AV.int IntKind.i64 1000], AV.sl 4 1 fun (i : Nat) => ([LD.mk (ByteArray.mk #[97]) 2000 1000 8000].getD i default).av]) ([]) (AV.tup [AV.agg [AV.int IntKind.i64 6000, AV.int IntKind.i64 1, AV.int IntKind.i64 5000, AV.int IntKind.i64 1], AV.int IntKind.i64 0]) ([]), .ret (AV.agg [AV.str r31.v0, AV.int IntKind.i64 6000, AV.int IntKind.i64 0, AV.int IntKind.i64 5000, AV.int IntKind.i64 10000, AV.int IntKind.i64 15000, AV.int IntKind.i64 2000, AV.int IntKind.i64 1000]) (r10.h0), .fret ([AV.agg [AV.str r31.v0, AV.int IntKind.i64 6000, AV.int IntKind.i64 0, AV.int IntKind.i64 5000, AV.int IntKind.i64 10000, AV.int IntKind.i64 15000, AV.int IntKind.i64 2000, AV.int IntKind.i64 1000], AV.sl 4 1 fun (i : Nat) => ([LD.mk (ByteArray.mk #[97]) 2000 1000 8000].getD i default).av, AV.int IntKind.i64 1000, AV.int IntKind.i64 10000]) (r10.h0) (AV.tup [AV.agg [AV.int IntKind.i64 2500, AV.int IntKind.i64 4500], AV.int IntKind.i64 0]) (r10.h0), .ret (AV.agg [AV.str r31.v0, AV.int IntKind.i64 6000, AV.int IntKind.i64 0, AV.int IntKind.i64 5000, AV.int IntKind.i64 10000, AV.int IntKind.i64 15000, AV.int IntKind.i64 2000, AV.int IntKind.i64 1000]) (r10.h1), .fret ([AV.agg [AV.str r31.v0, AV.int IntKind.i64 6000, AV.int IntKind.i64 0, AV.int IntKind.i64 5000, AV.int IntKind.i64 10000, AV.int IntKind.i64 15000, AV.int IntKind.i64 2000, AV.int IntKind.i64 1000], AV.sl 4 1 fun (i : Nat) => ([LD.mk (ByteArray.mk #[97]) 2000 1000 8000].getD i default).av]) (r10.h1) (AV.tup [AV.bool (r13.v0 (TD.mk r31.v0 6000 0 5000 10000 15000 2000 1000) 1 fun (i : Nat) => [LD.mk (ByteArray.mk #[97]) 2000 1000 8000].getD i default), AV.int IntKind.i64 0]) (r10.h1), .b true, .b true, .b true, .b true, .b true, .b true, .b true, .b true, .b true, .b true, .b true, .b true, .b true, .b true, .b true, .b true, .b true, .b true] (by simp) (by simp) (kmp (by kernel_rfl) (And.intro (r31 ([])) (And.intro (show Weak 0 ([AV.agg [AV.str r31.v0, AV.int IntKind.i64 6000, AV.int IntKind.i64 0, AV.int IntKind.i64 5000, AV.int IntKind.i64 10000, AV.int IntKind.i64 15000, AV.int IntKind.i64 2000, AV.int IntKind.i64 1000], AV.sl 4 1 fun (a : Nat) => (Col.ofList [AV.agg [AV.str (ByteArray.mk #[97]), AV.int IntKind.i64 2000, AV.int IntKind.i64 1000, AV.int IntKind.i64 8000]]).get a]) ([]) ([AV.agg [AV.str r31.v0, AV.int IntKind.i64 6000, AV.int IntKind.i64 0, AV.int IntKind.i64 5000, AV.int IntKind.i64 10000, AV.int IntKind.i64 15000, AV.int IntKind.i64 2000, AV.int IntKind.i64 1000], AV.sl 4 1 fun (i : Nat) => ([LD.mk (ByteArray.mk #[97]) 2000 1000 8000].getD i default).av]) ([]) from Weak.same (And.intro (Or.inl rfl) (And.intro (same_recs (av := LD.av) [LD.mk (ByteArray.mk #[97]) 2000 1000 8000] rfl (fun i hi => by rcases i with _ | _ | _ | _ | _ | _ | _ | _ | i <;> first | rfl | (exact absurd hi (by omega)))) trivial))) (And.intro (r24 (TD.mk r31.v0 6000 0 5000 10000 15000 2000 1000) (show (1 : Nat) ≤ (9223372036854775807 : Nat) by first | decide | exact Int.NonNeg.mk _) (1) (show (1 : Nat) ≤ (12 : Nat) by first | decide | exact Int.NonNeg.mk _) (fun (i : Nat) => [LD.mk (ByteArray.mk #[97]) 2000 1000 8000].getD i default) o0 ([])) (And.intro (r31 (r10.h0)) (And.intro (show Weak 1 ([AV.agg [AV.str r31.v0, AV.int IntKind.i64 6000, AV.int IntKind.i64 0, AV.int IntKind.i64 5000, AV.int IntKind.i64 10000, AV.int IntKind.i64 15000, AV.int IntKind.i64 2000, AV.int IntKind.i64 1000], AV.sl 4 1 fun (a : Nat) => (Col.ofList [AV.agg [AV.str (ByteArray.mk #[97]), AV.int IntKind.i64 2000, AV.int IntKind.i64 1000, AV.int IntKind.i64 8000]]).get a, AV.int IntKind.i64 1000, AV.int IntKind.i64 10000]) (r10.h0) ([AV.agg [AV.str r31.v0, AV.int IntKind.i64 6000, AV.int IntKind.i64 0, AV.int IntKind.i64 5000, AV.int IntKind.i64 10000, AV.int IntKind.i64 15000, AV.int IntKind.i64 2000, AV.int IntKind.i64 1000], AV.sl 4 1 fun (i : Nat) => ([LD.mk (ByteArray.mk #[97]) 2000 1000 8000].getD i default).av, AV.int IntKind.i64 1000, AV.int IntKind.i64 10000]) (r10.h0) from Weak.same (And.intro (Or.inl rfl) (And.intro (same_recs (av := LD.av) [LD.mk (ByteArray.mk #[97]) 2000 1000 8000] rfl (fun i hi => by rcases i with _ | _ | _ | _ | _ | _ | _ | _ | i <;> first | rfl | (exact absurd hi (by omega)))) (And.intro (Or.inl rfl) (And.intro (Or.inl rfl) trivial))))) (And.intro (r12 (TD.mk r31.v0 6000 0 5000 10000 15000 2000 1000) (show (1 : Nat) ≤ (9223372036854775807 : Nat) by first | decide | exact Int.NonNeg.mk _) (1) (show (1 : Nat) ≤ (12 : Nat) by first | decide | exact Int.NonNeg.mk _) (fun (i : Nat) => [LD.mk (ByteArray.mk #[97]) 2000 1000 8000].getD i default) o0 (1000) (10000) (r10.h0)) (And.intro (r31 (r10.h1)) (And.intro (show Weak 2 ([AV.agg [AV.str r31.v0, AV.int IntKind.i64 6000, AV.int IntKind.i64 0, AV.int IntKind.i64 5000, AV.int IntKind.i64 10000, AV.int IntKind.i64 15000, AV.int IntKind.i64 2000, AV.int IntKind.i64 1000], AV.sl 4 1 fun (a : Nat) => (Col.ofList [AV.agg [AV.str (ByteArray.mk #[97]), AV.int IntKind.i64 2000, AV.int IntKind.i64 1000, AV.int IntKind.i64 8000]]).get a]) (r10.h1) ([AV.agg [AV.str r31.v0, AV.int IntKind.i64 6000, AV.int IntKind.i64 0, AV.int IntKind.i64 5000, AV.int IntKind.i64 10000, AV.int IntKind.i64 15000, AV.int IntKind.i64 2000, AV.int IntKind.i64 1000], AV.sl 4 1 fun (i : Nat) => ([LD.mk (ByteArray.mk #[97]) 2000 1000 8000].getD i default).av]) (r10.h1) from Weak.same (And.intro (Or.inl rfl) (And.intro (same_recs (av := LD.av) [LD.mk (ByteArray.mk #[97]) 2000 1000 8000] rfl (fun i hi => by rcases i with _ | _ | _ | _ | _ | _ | _ | _ | i <;> first | rfl | (exact absurd hi (by omega)))) trivial))) (And.intro (r13 (TD.mk r31.v0 6000 0 5000 10000 15000 2000 1000) (show (1 : Nat) ≤ (9223372036854775807 : Nat) by first | decide | exact Int.NonNeg.mk _) (1) (show (1 : Nat) ≤ (12 : Nat) by first | decide | exact Int.NonNeg.mk _) (fun (i : Nat) => [LD.mk (ByteArray.mk #[97]) 2000 1000 8000].getD i default) o0 (r10.h1)) (And.intro (rfl : true = true) (And.intro (rfl : true = true) (And.intro (rfl : true = true) (And.intro (rfl : true = true) (And.intro (rfl : true = true) (And.intro (rfl : true = true) (And.intro (rfl : true = true) (And.intro (rfl : true = true) (And.intro (rfl : true = true) (And.intro (rfl : true = true) (And.intro (rfl : true = true) (And.intro (rfl : true = true) (And.intro (rfl : true = true) (And.intro (rfl : true = true) (And.intro (rfl : true = true) (And.intro (rfl : true = true) (And.intro (rfl : true = true) (And.intro (rfl : true = true) (And.intro (show (AV.bool (r13.v0 (TD.mk r31.v0 6000 0 5000 10000 15000 2000 1000) 1 fun (i : Nat) => [LD.mk (ByteArray.mk #[97]) 2000 1000 8000].getD i default)) = ((AV.bool r10.v)) by first | (simp only [r10.v, cond_true, cond_false]; done) | (try unfold r10.v; try rfl; done) | rfl) trivial))))))))))))))))))))))))))))) h

end Go.Proofs.Ytngpbfocjgikaaa

open Go

namespace Go.Proofs.Ytngpbfocjgikaaa

set_option linter.unusedSimpArgs false

set_option linter.unusedVariables false

set_option maxHeartbeats 0

set_option maxRecDepth 100000

noncomputable def r19.v (t : TD) (n : Nat) (g : Nat → LD) : Int := (bif r17.v t == 0 then r15.v n g t.tl else r17.v t)

noncomputable abbrev r19.h0 (t : TD) (n : Nat) (g : Nat → LD) : AHeap := ([AObj.var (AV.agg [AV.str t.nm, AV.int IntKind.i64 t.tl, AV.int IntKind.i64 t.fr, AV.int IntKind.i64 t.re, AV.int IntKind.i64 t.l0, AV.int IntKind.i64 t.l1, AV.int IntKind.i64 t.e0, AV.int IntKind.i64 t.e1])])

theorem r19 (t : TD) (hnm : t.nm.size ≤ 9223372036854775807) (n : Nat) (hn : n ≤ 9223372036854775807) (g : Nat → LD) (hg : ∀ (i : Nat), (g i).nm.size ≤ 9223372036854775807) (h : AHeap) : Ret Try.prog 19 ([t.av, lds n g]) h (AV.int IntKind.i64 (r19.v t n g)) h := by
  have o0 : t.nm.size ≤ (9223372036854775807 : Nat) := by first | assumption | omega | (exact hg _) | (exact hg _ (by omega)) | (simp_all; done)
  cases h1 : r17.v t == 0 with
  | true =>
    have h1p := eq_of_beq h1
    have o1 : n ≤ (9223372036854775807 : Nat) := by first | assumption | omega | (exact hg _) | (exact hg _ (by omega)) | (simp_all; done)
    have o2 : ∀ (i : Nat), (g i).nm.size ≤ (9223372036854775807 : Nat) := by first | assumption | omega | (exact hg _) | (exact hg _ (by omega)) | (simp_all; done)
    exact Ret.of_run1 mix [(AV.int IntKind.i64 (r19.v t n g))] Try.func19 rfl [.ret (AV.int IntKind.i64 (r17.v t)) (r19.h0 t n g), .b false, .ret (AV.int IntKind.i64 (r15.v n g t.tl)) (r19.h0 t n g)] (by simp) (by simp) (kmp (by kernel_rfl) (And.intro (r17 (t) o0 (r19.h0 t n g)) (And.intro (show (bnot (r17.v t == 0)) = false by rw [h1]; try rfl) (And.intro (r15 (n) (g) o1 o2 (t.tl) (r19.h0 t n g)) (And.intro (show (AV.int IntKind.i64 (r15.v n g t.tl)) = ((AV.int IntKind.i64 (r19.v t n g))) by first | (simp only [r19.v, h1, cond_true, cond_false]; done) | (try unfold r19.v; try simp only [h1, cond_true, cond_false]; try rfl; done) | rfl) trivial))))) h
  | false =>
    have h1p := ne_of_beq_false h1
    exact Ret.of_run1 mix [(AV.int IntKind.i64 (r19.v t n g))] Try.func19 rfl [.ret (AV.int IntKind.i64 (r17.v t)) (r19.h0 t n g), .b true] (by simp) (by simp) (kmp (by kernel_rfl) (And.intro (r17 (t) o0 (r19.h0 t n g)) (And.intro (show (bnot (r17.v t == 0)) = true by rw [h1]; try rfl) (And.intro (show (AV.int IntKind.i64 (r17.v t)) = ((AV.int IntKind.i64 (r19.v t n g))) by first | (simp only [r19.v, h1, cond_true, cond_false]; done) | (try unfold r19.v; try simp only [h1, cond_true, cond_false]; try rfl; done) | rfl) trivial)))) h

noncomputable def r4a.v (t : TD) (n : Nat) (g : Nat → LD) : Bool := (bif r16.v t == r17.v t then (bif r18.v t n g == r19.v t n g then (bif r14.v1 n g == r15.v n g (-1) then (bif r15.v n g (-1) == 0 then r14.v0 n g == r20.v n g else (bif r14.v0 n g == 0 then true else false)) else false) else false) else false)

noncomputable abbrev r4a.h0 (t : TD) (n : Nat) (g : Nat → LD) : AHeap := ([AObj.var (AV.agg [AV.str t.nm, AV.int IntKind.i64 t.tl, AV.int IntKind.i64 t.fr, AV.int IntKind.i64 t.re, AV.int IntKind.i64 t.l0, AV.int IntKind.i64 t.l1, AV.int IntKind.i64 t.e0, AV.int IntKind.i64 t.e1])])

theorem r4a (ha : r10.v = true) (t : TD) (hnm : t.nm.size ≤ 9223372036854775807) (n : Nat) (hn : n ≤ 12) (g : Nat → LD) (hg : ∀ (i : Nat), (g i).nm.size ≤ 9223372036854775807) (hf : r11.v t n g = true) (h : AHeap) : Ret Try.prog 4 ([t.av, lds n g]) h (AV.bool (r4a.v t n g)) h := by
  have o0 : n ≤ (9223372036854775807 : Nat) := by first | assumption | omega | (exact hg _) | (exact hg _ (by omega)) | (simp_all; done)
  have o1 : n ≤ (12 : Nat) := by first | assumption | omega | (exact hg _) | (exact hg _ (by omega)) | (simp_all; done)
  have o2 : ∀ (i : Nat), (g i).nm.size ≤ (9223372036854775807 : Nat) := by first | assumption | omega | (exact hg _) | (exact hg _ (by omega)) | (simp_all; done)
  have o3 : t.nm.size ≤ (9223372036854775807 : Nat) := by first | assumption | omega | (exact hg _) | (exact hg _ (by omega)) | (simp_all; done)
  cases h1 : r16.v t == r17.v t with
  | true =>
    have h1p := eq_of_beq h1
    cases h2 : r18.v t n g == r19.v t n g with
    | true =>
      have h2p := eq_of_beq h2
      cases h3 : r14.v1 n g == r15.v n g (-1) with
      | true =>
        have h3p := eq_of_beq h3
        cases h4 : r15.v n g (-1) == 0 with
        | true =>
          have h4p := eq_of_beq h4
          exact Ret.of_run1 mix [(AV.bool (r4a.v t n g))] Try.func4 rfl [.ret (AV.bool r10.v) (r4a.h0 t n g), .b false, .ret (AV.bool (r11.v t n g)) (r4a.h0 t n g), .b false, .ret (AV.tup [AV.int IntKind.i64 (r14.v0 n g), AV.int IntKind.i64 (r14.v1 n g)]) (r4a.h0 t n g), .ret (AV.int IntKind.i64 (r15.v n g (-1))) (r4a.h0 t n g), .ret (AV.int IntKind.i64 (r16.v t)) (r4a.h0 t n g), .ret (AV.int IntKind.i64 (r17.v t)) (r4a.h0 t n g), .b false, .b false, .b false, .ret (AV.int IntKind.i64 (r18.v t n g)) (r4a.h0 t n g), .b false, .b false, .b false, .ret (AV.int IntKind.i64 (r19.v t n g)) (r4a.h0 t n g), .b false, .b false, .b false, .b false, .b false, .b false, .b false, .b false, .b false, .b false, .b false, .b false, .b false, .b true, .b true, .b true, .ret (AV.int IntKind.i64 (r20.v n g)) (r4a.h0 t n g), .b true, .b false, .b true, .b false] (by simp) (by simp) (kmp (by kernel_rfl) (And.intro (r10 (r4a.h0 t n g)) (And.intro (rfl : false = false) (And.intro (r11 (t) (n) (g) o0 (r4a.h0 t n g)) (And.intro (show (bnot (r11.v t n g)) = false by rw [hf]; try rfl) (And.intro (r14 (n) o1 (g) o2 (r4a.h0 t n g)) (And.intro (r15 (n) (g) o0 o2 (-1) (r4a.h0 t n g)) (And.intro (r16 (t) o3 (r4a.h0 t n g)) (And.intro (r17 (t) o3 (r4a.h0 t n g)) (And.intro (show (bnot (r16.v t == r17.v t)) = false by rw [h1]; try rfl) (And.intro (show (bnot (r16.v t == r17.v t)) = false by rw [h1]; try rfl) (And.intro (show (bnot (r16.v t == r17.v t)) = false by rw [h1]; try rfl) (And.intro (r18 (t) o3 (n) o1 (g) o2 (r4a.h0 t n g)) (And.intro (show (bnot (r16.v t == r17.v t)) = false by rw [h1]; try rfl) (And.intro (show (bnot (r16.v t == r17.v t)) = false by rw [h1]; try rfl) (And.intro (show (bnot (r16.v t == r17.v t)) = false by rw [h1]; try rfl) (And.intro (r19 (t) o3 (n) o0 (g) o2 (r4a.h0 t n g)) (And.intro (show (bnot (r16.v t == r17.v t)) = false by rw [h1]; try rfl) (And.intro (show (bnot (r16.v t == r17.v t)) = false by rw [h1]; try rfl) (And.intro (show (bnot (r18.v t n g == r19.v t n g)) = false by rw [h2]; try rfl) (And.intro (show (bnot (r18.v t n g == r19.v t n g)) = false by rw [h2]; try rfl) (And.intro (show (bnot (r18.v t n g == r19.v t n g)) = false by rw [h2]; try rfl) (And.intro (show (bnot (r18.v t n g == r19.v t n g)) = false by rw [h2]; try rfl) (And.intro (show (bnot (r14.v1 n g == r15.v n g (-1))) = false by rw [h3]; try rfl) (And.intro (show (bnot (r15.v n g (-1) == 0)) = false by rw [h4]; try rfl) (And.intro (show (bnot (r15.v n g (-1) == 0)) = false by rw [h4]; try rfl) (And.intro (show (bnot (r15.v n g (-1) == 0)) = false by rw [h4]; try rfl) (And.intro (rfl : false = false) (And.intro (rfl : false = false) (And.intro (rfl : false = false) (And.intro h4 (And.intro h4 (And.intro h4 (And.intro (r20 (n) (g) o0 (r4a.h0 t n g)) (And.intro h4 (And.intro (rfl : false = false) (And.intro h4 (And.intro (rfl : false = false) (And.intro (show (AV.bool (r14.v0 n g == r20.v n g)) = ((AV.bool (r4a.v t n g))) by first | (simp only [r4a.v, hf, h1, h2, h3, h4, cond_true, cond_false]; done) | (try unfold r4a.v; try simp only [hf, cond_true, cond_false]; try simp only [h1, cond_true, cond_false]; try simp only [h2, cond_true, cond_false]; try simp only [h3, cond_true, cond_false]; try simp only [h4, cond_true, cond_false]; try rfl; done) | rfl) trivial))))))))))))))))))))))))))))))))))))))) h
        | false =>
          have h4p := ne_of_beq_false h4
          cases h5 : r14.v0 n g == 0 with
          | true =>
            have h5p := eq_of_beq h5
            exact Ret.of_run1 mix [(AV.bool (r4a.v t n g))] Try.func4 rfl [.ret (AV.bool r10.v) (r4a.h0 t n g), .b false, .ret (AV.bool (r11.v t n g)) (r4a.h0 t n g), .b false, .ret (AV.tup [AV.int IntKind.i64 (r14.v0 n g), AV.int IntKind.i64 (r14.v1 n g)]) (r4a.h0 t n g), .ret (AV.int IntKind.i64 (r15.v n g (-1))) (r4a.h0 t n g), .ret (AV.int IntKind.i64 (r16.v t)) (r4a.h0 t n g), .ret (AV.int IntKind.i64 (r17.v t)) (r4a.h0 t n g), .b false, .b false, .b false, .ret (AV.int IntKind.i64 (r18.v t n g)) (r4a.h0 t n g), .b false, .b false, .b false, .ret (AV.int IntKind.i64 (r19.v t n g)) (r4a.h0 t n g), .b false, .b false, .b false, .b false, .b false, .b false, .b false, .b true, .b true, .b true, .b true, .b true, .b true, .b true, .b true] (by simp) (by simp) (kmp (by kernel_rfl) (And.intro (r10 (r4a.h0 t n g)) (And.intro (rfl : false = false) (And.intro (r11 (t) (n) (g) o0 (r4a.h0 t n g)) (And.intro (show (bnot (r11.v t n g)) = false by rw [hf]; try rfl) (And.intro (r14 (n) o1 (g) o2 (r4a.h0 t n g)) (And.intro (r15 (n) (g) o0 o2 (-1) (r4a.h0 t n g)) (And.intro (r16 (t) o3 (r4a.h0 t n g)) (And.intro (r17 (t) o3 (r4a.h0 t n g)) (And.intro (show (bnot (r16.v t == r17.v t)) = false by rw [h1]; try rfl) (And.intro (show (bnot (r16.v t == r17.v t)) = false by rw [h1]; try rfl) (And.intro (show (bnot (r16.v t == r17.v t)) = false by rw [h1]; try rfl) (And.intro (r18 (t) o3 (n) o1 (g) o2 (r4a.h0 t n g)) (And.intro (show (bnot (r16.v t == r17.v t)) = false by rw [h1]; try rfl) (And.intro (show (bnot (r16.v t == r17.v t)) = false by rw [h1]; try rfl) (And.intro (show (bnot (r16.v t == r17.v t)) = false by rw [h1]; try rfl) (And.intro (r19 (t) o3 (n) o0 (g) o2 (r4a.h0 t n g)) (And.intro (show (bnot (r16.v t == r17.v t)) = false by rw [h1]; try rfl) (And.intro (show (bnot (r16.v t == r17.v t)) = false by rw [h1]; try rfl) (And.intro (show (bnot (r18.v t n g == r19.v t n g)) = false by rw [h2]; try rfl) (And.intro (show (bnot (r18.v t n g == r19.v t n g)) = false by rw [h2]; try rfl) (And.intro (show (bnot (r18.v t n g == r19.v t n g)) = false by rw [h2]; try rfl) (And.intro (show (bnot (r18.v t n g == r19.v t n g)) = false by rw [h2]; try rfl) (And.intro (show (bnot (r14.v1 n g == r15.v n g (-1))) = false by rw [h3]; try rfl) (And.intro (show (bnot (r15.v n g (-1) == 0)) = true by rw [h4]; try rfl) (And.intro (show (bnot (r15.v n g (-1) == 0)) = true by rw [h4]; try rfl) (And.intro (show (bnot (r15.v n g (-1) == 0)) = true by rw [h4]; try rfl) (And.intro h5 (And.intro h5 (And.intro h5 (And.intro h5 (And.intro h5 (And.intro (show (AV.bool true) = ((AV.bool (r4a.v t n g))) by first | (simp only [r4a.v, hf, h1, h2, h3, h4, h5, cond_true, cond_false]; done) | (try unfold r4a.v; try simp only [hf, cond_true, cond_false]; try simp only [h1, cond_true, cond_false]; try simp only [h2, cond_true, cond_false]; try simp only [h3, cond_true, cond_false]; try simp only [h4, cond_true, cond_false]; try simp only [h5, cond_true, cond_false]; try rfl; done) | rfl) trivial))))))))))))))))))))))))))))))))) h
          | false =>
            have h5p := ne_of_beq_false h5
            exact Ret.of_run1 mix [(AV.bool (r4a.v t n g))] Try.func4 rfl [.ret (AV.bool r10.v) (r4a.h0 t n g), .b false, .ret (AV.bool (r11.v t n g)) (r4a.h0 t n g), .b false, .ret (AV.tup [AV.int IntKind.i64 (r14.v0 n g), AV.int IntKind.i64 (r14.v1 n g)]) (r4a.h0 t n g), .ret (AV.int IntKind.i64 (r15.v n g (-1))) (r4a.h0 t n g), .ret (AV.int IntKind.i64 (r16.v t)) (r4a.h0 t n g), .ret (AV.int IntKind.i64 (r17.v t)) (r4a.h0 t n g), .b false, .b false, .b false, .ret (AV.int IntKind.i64 (r18.v t n g)) (r4a.h0 t n g), .b false, .b false, .b false, .ret (AV.int IntKind.i64 (r19.v t n g)) (r4a.h0 t n g), .b false, .b false, .b false, .b false, .b false, .b false, .b false, .b true, .b true, .b true, .b false, .b false, .b false, .b false, .b false, .b false, .b false, .b false, .b false, .b false] (by simp) (by simp) (kmp (by kernel_rfl) (And.intro (r10 (r4a.h0 t n g)) (And.intro (rfl : false = false) (And.intro (r11 (t) (n) (g) o0 (r4a.h0 t n g)) (And.intro (show (bnot (r11.v t n g)) = false by rw [hf]; try rfl) (And.intro (r14 (n) o1 (g) o2 (r4a.h0 t n g)) (And.intro (r15 (n) (g) o0 o2 (-1) (r4a.h0 t n g)) (And.intro (r16 (t) o3 (r4a.h0 t n g)) (And.intro (r17 (t) o3 (r4a.h0 t n g)) (And.intro (show (bnot (r16.v t == r17.v t)) = false by rw [h1]; try rfl) (And.intro (show (bnot (r16.v t == r17.v t)) = false by rw [h1]; try rfl) (And.intro (show (bnot (r16.v t == r17.v t)) = false by rw [h1]; try rfl) (And.intro (r18 (t) o3 (n) o1 (g) o2 (r4a.h0 t n g)) (And.intro (show (bnot (r16.v t == r17.v t)) = false by rw [h1]; try rfl) (And.intro (show (bnot (r16.v t == r17.v t)) = false by rw [h1]; try rfl) (And.intro (show (bnot (r16.v t == r17.v t)) = false by rw [h1]; try rfl) (And.intro (r19 (t) o3 (n) o0 (g) o2 (r4a.h0 t n g)) (And.intro (show (bnot (r16.v t == r17.v t)) = false by rw [h1]; try rfl) (And.intro (show (bnot (r16.v t == r17.v t)) = false by rw [h1]; try rfl) (And.intro (show (bnot (r18.v t n g == r19.v t n g)) = false by rw [h2]; try rfl) (And.intro (show (bnot (r18.v t n g == r19.v t n g)) = false by rw [h2]; try rfl) (And.intro (show (bnot (r18.v t n g == r19.v t n g)) = false by rw [h2]; try rfl) (And.intro (show (bnot (r18.v t n g == r19.v t n g)) = false by rw [h2]; try rfl) (And.intro (show (bnot (r14.v1 n g == r15.v n g (-1))) = false by rw [h3]; try rfl) (And.intro (show (bnot (r15.v n g (-1) == 0)) = true by rw [h4]; try rfl) (And.intro (show (bnot (r15.v n g (-1) == 0)) = true by rw [h4]; try rfl) (And.intro (show (bnot (r15.v n g (-1) == 0)) = true by rw [h4]; try rfl) (And.intro h5 (And.intro h5 (And.intro h5 (And.intro h4 (And.intro h4 (And.intro h4 (And.intro h4 (And.intro h5 (And.intro h4 (And.intro h5 (And.intro (show (AV.bool false) = ((AV.bool (r4a.v t n g))) by first | (simp only [r4a.v, hf, h1, h2, h3, h4, h5, cond_true, cond_false]; done) | (try unfold r4a.v; try simp only [hf, cond_true, cond_false]; try simp only [h1, cond_true, cond_false]; try simp only [h2, cond_true, cond_false]; try simp only [h3, cond_true, cond_false]; try simp only [h4, cond_true, cond_false]; try simp only [h5, cond_true, cond_false]; try rfl; done) | rfl) trivial)))))))))))))))))))))))))))))))))))))) h
      | false =>
        have h3p := ne_of_beq_false h3
        exact Ret.of_run1 mix [(AV.bool (r4a.v t n g))] Try.func4 rfl [.ret (AV.bool r10.v) (r4a.h0 t n g), .b false, .ret (AV.bool (r11.v t n g)) (r4a.h0 t n g), .b false, .ret (AV.tup [AV.int IntKind.i64 (r14.v0 n g), AV.int IntKind.i64 (r14.v1 n g)]) (r4a.h0 t n g), .ret (AV.int IntKind.i64 (r15.v n g (-1))) (r4a.h0 t n g), .ret (AV.int IntKind.i64 (r16.v t)) (r4a.h0 t n g), .ret (AV.int IntKind.i64 (r17.v t)) (r4a.h0 t n g), .b false, .b false, .b false, .ret (AV.int IntKind.i64 (r18.v t n g)) (r4a.h0 t n g), .b false, .b false, .b false, .ret (AV.int IntKind.i64 (r19.v t n g)) (r4a.h0 t n g), .b false, .b false, .b false, .b false, .b false, .b false, .b true] (by simp) (by simp) (kmp (by kernel_rfl) (And.intro (r10 (r4a.h0 t n g)) (And.intro (rfl : false = false) (And.intro (r11 (t) (n) (g) o0 (r4a.h0 t n g)) (And.intro (show (bnot (r11.v t n g)) = false by rw [hf]; try rfl) (And.intro (r14 (n) o1 (g) o2 (r4a.h0 t n g)) (And.intro (r15 (n) (g) o0 o2 (-1) (r4a.h0 t n g)) (And.intro (r16 (t) o3 (r4a.h0 t n g)) (And.intro (r17 (t) o3 (r4a.h0 t n g)) (And.intro (show (bnot (r16.v t == r17.v t)) = false by rw [h1]; try rfl) (And.intro (show (bnot (r16.v t == r17.v t)) = false by rw [h1]; try rfl) (And.intro (show (bnot (r16.v t == r17.v t)) = false by rw [h1]; try rfl) (And.intro (r18 (t) o3 (n) o1 (g) o2 (r4a.h0 t n g)) (And.intro (show (bnot (r16.v t == r17.v t)) = false by rw [h1]; try rfl) (And.intro (show (bnot (r16.v t == r17.v t)) = false by rw [h1]; try rfl) (And.intro (show (bnot (r16.v t == r17.v t)) = false by rw [h1]; try rfl) (And.intro (r19 (t) o3 (n) o0 (g) o2 (r4a.h0 t n g)) (And.intro (show (bnot (r16.v t == r17.v t)) = false by rw [h1]; try rfl) (And.intro (show (bnot (r16.v t == r17.v t)) = false by rw [h1]; try rfl) (And.intro (show (bnot (r18.v t n g == r19.v t n g)) = false by rw [h2]; try rfl) (And.intro (show (bnot (r18.v t n g == r19.v t n g)) = false by rw [h2]; try rfl) (And.intro (show (bnot (r18.v t n g == r19.v t n g)) = false by rw [h2]; try rfl) (And.intro (show (bnot (r18.v t n g == r19.v t n g)) = false by rw [h2]; try rfl) (And.intro (show (bnot (r14.v1 n g == r15.v n g (-1))) = true by rw [h3]; try rfl) (And.intro (show (AV.bool false) = ((AV.bool (r4a.v t n g))) by first | (simp only [r4a.v, hf, h1, h2, h3, cond_true, cond_false]; done) | (try unfold r4a.v; try simp only [hf, cond_true, cond_false]; try simp only [h1, cond_true, cond_false]; try simp only [h2, cond_true, cond_false]; try simp only [h3, cond_true, cond_false]; try rfl; done) | rfl) trivial))))))))))))))))))))))))) h
    | false =>
      have h2p := ne_of_beq_false h2
      exact Ret.of_run1 mix [(AV.bool (r4a.v t n g))] Try.func4 rfl [.ret (AV.bool r10.v) (r4a.h0 t n g), .b false, .ret (AV.bool (r11.v t n g)) (r4a.h0 t n g), .b false, .ret (AV.tup [AV.int IntKind.i64 (r14.v0 n g), AV.int IntKind.i64 (r14.v1 n g)]) (r4a.h0 t n g), .ret (AV.int IntKind.i64 (r15.v n g (-1))) (r4a.h0 t n g), .ret (AV.int IntKind.i64 (r16.v t)) (r4a.h0 t n g), .ret (AV.int IntKind.i64 (r17.v t)) (r4a.h0 t n g), .b false, .b false, .b false, .ret (AV.int IntKind.i64 (r18.v t n g)) (r4a.h0 t n g), .b false, .b false, .b false, .ret (AV.int IntKind.i64 (r19.v t n g)) (r4a.h0 t n g), .b false, .b false, .b true, .b true, .b true, .b true, .b true] (by simp) (by simp) (kmp (by kernel_rfl) (And.intro (r10 (r4a.h0 t n g)) (And.intro (rfl : false = false) (And.intro (r11 (t) (n) (g) o0 (r4a.h0 t n g)) (And.intro (show (bnot (r11.v t n g)) = false by rw [hf]; try rfl) (And.intro (r14 (n) o1 (g) o2 (r4a.h0 t n g)) (And.intro (r15 (n) (g) o0 o2 (-1) (r4a.h0 t n g)) (And.intro (r16 (t) o3 (r4a.h0 t n g)) (And.intro (r17 (t) o3 (r4a.h0 t n g)) (And.intro (show (bnot (r16.v t == r17.v t)) = false by rw [h1]; try rfl) (And.intro (show (bnot (r16.v t == r17.v t)) = false by rw [h1]; try rfl) (And.intro (show (bnot (r16.v t == r17.v t)) = false by rw [h1]; try rfl) (And.intro (r18 (t) o3 (n) o1 (g) o2 (r4a.h0 t n g)) (And.intro (show (bnot (r16.v t == r17.v t)) = false by rw [h1]; try rfl) (And.intro (show (bnot (r16.v t == r17.v t)) = false by rw [h1]; try rfl) (And.intro (show (bnot (r16.v t == r17.v t)) = false by rw [h1]; try rfl) (And.intro (r19 (t) o3 (n) o0 (g) o2 (r4a.h0 t n g)) (And.intro (show (bnot (r16.v t == r17.v t)) = false by rw [h1]; try rfl) (And.intro (show (bnot (r16.v t == r17.v t)) = false by rw [h1]; try rfl) (And.intro (show (bnot (r18.v t n g == r19.v t n g)) = true by rw [h2]; try rfl) (And.intro (show (bnot (r18.v t n g == r19.v t n g)) = true by rw [h2]; try rfl) (And.intro (show (bnot (r18.v t n g == r19.v t n g)) = true by rw [h2]; try rfl) (And.intro (show (bnot (r18.v t n g == r19.v t n g)) = true by rw [h2]; try rfl) (And.intro (rfl : true = true) (And.intro (show (AV.bool false) = ((AV.bool (r4a.v t n g))) by first | (simp only [r4a.v, hf, h1, h2, cond_true, cond_false]; done) | (try unfold r4a.v; try simp only [hf, cond_true, cond_false]; try simp only [h1, cond_true, cond_false]; try simp only [h2, cond_true, cond_false]; try rfl; done) | rfl) trivial))))))))))))))))))))))))) h
  | false =>
    have h1p := ne_of_beq_false h1
    exact Ret.of_run1 mix [(AV.bool (r4a.v t n g))] Try.func4 rfl [.ret (AV.bool r10.v) (r4a.h0 t n g), .b false, .ret (AV.bool (r11.v t n g)) (r4a.h0 t n g), .b false, .ret (AV.tup [AV.int IntKind.i64 (r14.v0 n g), AV.int IntKind.i64 (r14.v1 n g)]) (r4a.h0 t n g), .ret (AV.int IntKind.i64 (r15.v n g (-1))) (r4a.h0 t n g), .ret (AV.int IntKind.i64 (r16.v t)) (r4a.h0 t n g), .ret (AV.int IntKind.i64 (r17.v t)) (r4a.h0 t n g), .b true, .b true, .b true, .b true, .b true, .b true, .b true, .b true, .b true, .b true, .b true, .b true, .b true] (by simp) (by simp) (kmp (by kernel_rfl) (And.intro (r10 (r4a.h0 t n g)) (And.intro (rfl : false = false) (And.intro (r11 (t) (n) (g) o0 (r4a.h0 t n g)) (And.intro (show (bnot (r11.v t n g)) = false by rw [hf]; try rfl) (And.intro (r14 (n) o1 (g) o2 (r4a.h0 t n g)) (And.intro (r15 (n) (g) o0 o2 (-1) (r4a.h0 t n g)) (And.intro (r16 (t) o3 (r4a.h0 t n g)) (And.intro (r17 (t) o3 (r4a.h0 t n g)) (And.intro (show (bnot (r16.v t == r17.v t)) = true by rw [h1]; try rfl) (And.intro (show (bnot (r16.v t == r17.v t)) = true by rw [h1]; try rfl) (And.intro (show (bnot (r16.v t == r17.v t)) = true by rw [h1]; try rfl) (And.intro (show (bnot (r16.v t == r17.v t)) = true by rw [h1]; try rfl) (And.intro (show (bnot (r16.v t == r17.v t)) = true by rw [h1]; try rfl) (And.intro (show (bnot (r16.v t == r17.v t)) = true by rw [h1]; try rfl) (And.intro (show (bnot (r16.v t == r17.v t)) = true by rw [h1]; try rfl) (And.intro (show (bnot (r16.v t == r17.v t)) = true by rw [h1]; try rfl) (And.intro (rfl : true = true) (And.intro (rfl : true = true) (And.intro (rfl : true = true) (And.intro (rfl : true = true) (And.intro (rfl : true = true) (And.intro (show (AV.bool false) = ((AV.bool (r4a.v t n g))) by first | (simp only [r4a.v, hf, h1, cond_true, cond_false]; done) | (try unfold r4a.v; try simp only [hf, cond_true, cond_false]; try simp only [h1, cond_true, cond_false]; try rfl; done) | rfl) trivial))))))))))))))))))))))) h

noncomputable def r4b.v (t : TD) (n : Nat) (g : Nat → LD) : Bool := (bif r16.v t == r17.v t then (bif r18m.v t == r19.v t n g then (bif 7 == r15.v n g (-1) then (bif r15.v n g (-1) == 0 then 0 == r20.v n g else true) else false) else false) else false)

noncomputable abbrev r4b.h0 (t : TD) (n : Nat) (g : Nat → LD) : AHeap := ([AObj.var (AV.agg [AV.str t.nm, AV.int IntKind.i64 t.tl, AV.int IntKind.i64 t.fr, AV.int IntKind.i64 t.re, AV.int IntKind.i64 t.l0, AV.int IntKind.i64 t.l1, AV.int IntKind.i64 t.e0, AV.int IntKind.i64 t.e1])])

theorem r4b (ha : r10.v = true) (t : TD) (hnm : t.nm.size ≤ 9223372036854775807) (n : Nat) (hn : n ≤ 9223372036854775807) (hq : decide ((↑n : Int) > 64) = true) (g : Nat → LD) (hg : ∀ (i : Nat), (g i).nm.size ≤ 9223372036854775807) (hf : r11.v t n g = true) (h : AHeap) : Ret Try.prog 4 ([t.av, lds n g]) h (AV.bool (r4b.v t n g)) h := by
  have o0 : n ≤ (9223372036854775807 : Nat) := by first | assumption | omega | (exact hg _) | (exact hg _ (by omega)) | (simp_all; done)
  have o1 : decide ((↑n : Int) > (64 : Int)) = true := by first | assumption | omega | (exact hg _) | (exact hg _ (by omega)) | (simp_all; done)
  have o2 : ∀ (i : Nat), (g i).nm.size ≤ (9223372036854775807 : Nat) := by first | assumption | omega | (exact hg _) | (exact hg _ (by omega)) | (simp_all; done)
  have o3 : t.nm.size ≤ (9223372036854775807 : Nat) := by first | assumption | omega | (exact hg _) | (exact hg _ (by omega)) | (simp_all; done)
  cases h1 : r16.v t == r17.v t with
  | true =>
    have h1p := eq_of_beq h1
    cases h2 : r18m.v t == r19.v t n g with
    | true =>
      have h2p := eq_of_beq h2
      cases h3 : 7 == r15.v n g (-1) with
      | true =>
        have h3p := eq_of_beq h3
        cases h4 : r15.v n g (-1) == 0 with
        | true =>
          have h4p := eq_of_beq h4
          exact Ret.of_run1 mix [(AV.bool (r4b.v t n g))] Try.func4 rfl [.ret (AV.bool r10.v) (r4b.h0 t n g), .b false, .ret (AV.bool (r11.v t n g)) (r4b.h0 t n g), .b false, .ret (AV.tup [AV.int IntKind.i64 0, AV.int IntKind.i64 7]) (r4b.h0 t n g), .ret (AV.int IntKind.i64 (r15.v n g (-1))) (r4b.h0 t n g), .ret (AV.int IntKind.i64 (r16.v t)) (r4b.h0 t n g), .ret (AV.int IntKind.i64 (r17.v t)) (r4b.h0 t n g), .b false, .b false, .b false, .ret (AV.int IntKind.i64 (r18m.v t)) (r4b.h0 t n g), .b false, .b false, .b false, .ret (AV.int IntKind.i64 (r19.v t n g)) (r4b.h0 t n g), .b false, .b false, .b false, .b false, .b false, .b false, .b false, .b false, .b false, .b false, .b false, .b false, .b false, .b true, .b true, .b true, .ret (AV.int IntKind.i64 (r20.v n g)) (r4b.h0 t n g), .b true, .b false, .b true, .b false] (by simp) (by simp) (kmp (by kernel_rfl) (And.intro (r10 (r4b.h0 t n g)) (And.intro (rfl : false = false) (And.intro (r11 (t) (n) (g) o0 (r4b.h0 t n g)) (And.intro (show (bnot (r11.v t n g)) = false by rw [hf]; try rfl) (And.intro (r14m (n) o0 o1 (g) (r4b.h0 t n g)) (And.intro (r15 (n) (g) o0 o2 (-1) (r4b.h0 t n g)) (And.intro (r16 (t) o3 (r4b.h0 t n g)) (And.intro (r17 (t) o3 (r4b.h0 t n g)) (And.intro (show (bnot (r16.v t == r17.v t)) = false by rw [h1]; try rfl) (And.intro (show (bnot (r16.v t == r17.v t)) = false by rw [h1]; try rfl) (And.intro (show (bnot (r16.v t == r17.v t)) = false by rw [h1]; try rfl) (And.intro (r18m (t) o3 (n) o0 o1 (g) (r4b.h0 t n g)) (And.intro (show (bnot (r16.v t == r17.v t)) = false by rw [h1]; try rfl) (And.intro (show (bnot (r16.v t == r17.v t)) = false by rw [h1]; try rfl) (And.intro (show (bnot (r16.v t == r17.v t)) = false by rw [h1]; try rfl) (And.intro (r19 (t) o3 (n) o0 (g) o2 (r4b.h0 t n g)) (And.intro (show (bnot (r16.v t == r17.v t)) = false by rw [h1]; try rfl) (And.intro (show (bnot (r16.v t == r17.v t)) = false by rw [h1]; try rfl) (And.intro (show (bnot (r18m.v t == r19.v t n g)) = false by rw [h2]; try rfl) (And.intro (show (bnot (r18m.v t == r19.v t n g)) = false by rw [h2]; try rfl) (And.intro (show (bnot (r18m.v t == r19.v t n g)) = false by rw [h2]; try rfl) (And.intro (show (bnot (r18m.v t == r19.v t n g)) = false by rw [h2]; try rfl) (And.intro (show (bnot (7 == r15.v n g (-1))) = false by rw [h3]; try rfl) (And.intro (show (bnot (r15.v n g (-1) == 0)) = false by rw [h4]; try rfl) (And.intro (show (bnot (r15.v n g (-1) == 0)) = false by rw [h4]; try rfl) (And.intro (show (bnot (r15.v n g (-1) == 0)) = false by rw [h4]; try rfl) (And.intro (rfl : false = false) (And.intro (rfl : false = false) (And.intro (rfl : false = false) (And.intro h4 (And.intro h4 (And.intro h4 (And.intro (r20 (n) (g) o0 (r4b.h0 t n g)) (And.intro h4 (And.intro (rfl : false = false) (And.intro h4 (And.intro (rfl : false = false) (And.intro (show (AV.bool (0 == r20.v n g)) = ((AV.bool (r4b.v t n g))) by first | (simp only [r4b.v, hf, h1, h2, h3, h4, cond_true, cond_false]; done) | (try unfold r4b.v; try simp only [hf, cond_true, cond_false]; try simp only [h1, cond_true, cond_false]; try simp only [h2, cond_true, cond_false]; try simp only [h3, cond_true, cond_false]; try simp only [h4, cond_true, cond_false]; try rfl; done) | rfl) trivial))))))))))))))))))))))))))))))))))))))) h
        | false =>
          have h4p := ne_of_beq_false h4
          exact Ret.of_run1 mix [(AV.bool (r4b.v t n g))] Try.func4 rfl [.ret (AV.bool r10.v) (r4b.h0 t n g), .b false, .ret (AV.bool (r11.v t n g)) (r4b.h0 t n g), .b false, .ret (AV.tup [AV.int IntKind.i64 0, AV.int IntKind.i64 7]) (r4b.h0 t n g), .ret (AV.int IntKind.i64 (r15.v n g (-1))) (r4b.h0 t n g), .ret (AV.int IntKind.i64 (r16.v t)) (r4b.h0 t n g), .ret (AV.int IntKind.i64 (r17.v t)) (r4b.h0 t n g), .b false, .b false, .b false, .ret (AV.int IntKind.i64 (r18m.v t)) (r4b.h0 t n g), .b false, .b false, .b false, .ret (AV.int IntKind.i64 (r19.v t n g)) (r4b.h0 t n g), .b false, .b false, .b false, .b false, .b false, .b false, .b false, .b true, .b true, .b true, .b true, .b true, .b true, .b true, .b true] (by simp) (by simp) (kmp (by kernel_rfl) (And.intro (r10 (r4b.h0 t n g)) (And.intro (rfl : false = false) (And.intro (r11 (t) (n) (g) o0 (r4b.h0 t n g)) (And.intro (show (bnot (r11.v t n g)) = false by rw [hf]; try rfl) (And.intro (r14m (n) o0 o1 (g) (r4b.h0 t n g)) (And.intro (r15 (n) (g) o0 o2 (-1) (r4b.h0 t n g)) (And.intro (r16 (t) o3 (r4b.h0 t n g)) (And.intro (r17 (t) o3 (r4b.h0 t n g)) (And.intro (show (bnot (r16.v t == r17.v t)) = false by rw [h1]; try rfl) (And.intro (show (bnot (r16.v t == r17.v t)) = false by rw [h1]; try rfl) (And.intro (show (bnot (r16.v t == r17.v t)) = false by rw [h1]; try rfl) (And.intro (r18m (t) o3 (n) o0 o1 (g) (r4b.h0 t n g)) (And.intro (show (bnot (r16.v t == r17.v t)) = false by rw [h1]; try rfl) (And.intro (show (bnot (r16.v t == r17.v t)) = false by rw [h1]; try rfl) (And.intro (show (bnot (r16.v t == r17.v t)) = false by rw [h1]; try rfl) (And.intro (r19 (t) o3 (n) o0 (g) o2 (r4b.h0 t n g)) (And.intro (show (bnot (r16.v t == r17.v t)) = false by rw [h1]; try rfl) (And.intro (show (bnot (r16.v t == r17.v t)) = false by rw [h1]; try rfl) (And.intro (show (bnot (r18m.v t == r19.v t n g)) = false by rw [h2]; try rfl) (And.intro (show (bnot (r18m.v t == r19.v t n g)) = false by rw [h2]; try rfl) (And.intro (show (bnot (r18m.v t == r19.v t n g)) = false by rw [h2]; try rfl) (And.intro (show (bnot (r18m.v t == r19.v t n g)) = false by rw [h2]; try rfl) (And.intro (show (bnot (7 == r15.v n g (-1))) = false by rw [h3]; try rfl) (And.intro (show (bnot (r15.v n g (-1) == 0)) = true by rw [h4]; try rfl) (And.intro (show (bnot (r15.v n g (-1) == 0)) = true by rw [h4]; try rfl) (And.intro (show (bnot (r15.v n g (-1) == 0)) = true by rw [h4]; try rfl) (And.intro (rfl : true = true) (And.intro (rfl : true = true) (And.intro (rfl : true = true) (And.intro (rfl : true = true) (And.intro (rfl : true = true) (And.intro (show (AV.bool true) = ((AV.bool (r4b.v t n g))) by first | (simp only [r4b.v, hf, h1, h2, h3, h4, cond_true, cond_false]; done) | (try unfold r4b.v; try simp only [hf, cond_true, cond_false]; try simp only [h1, cond_true, cond_false]; try simp only [h2, cond_true, cond_false]; try simp only [h3, cond_true, cond_false]; try simp only [h4, cond_true, cond_false]; try rfl; done) | rfl) trivial))))))))))))))))))))))))))))))))) h
      | false =>
        have h3p := ne_of_beq_false h3
        exact Ret.of_run1 mix [(AV.bool (r4b.v t n g))] Try.func4 rfl [.ret (AV.bool r10.v) (r4b.h0 t n g), .b false, .ret (AV.bool (r11.v t n g)) (r4b.h0 t n g), .b false, .ret (AV.tup [AV.int IntKind.i64 0, AV.int IntKind.i64 7]) (r4b.h0 t n g), .ret (AV.int IntKind.i64 (r15.v n g (-1))) (r4b.h0 t n g), .ret (AV.int IntKind.i64 (r16.v t)) (r4b.h0 t n g), .ret (AV.int IntKind.i64 (r17.v t)) (r4b.h0 t n g), .b false, .b false, .b false, .ret (AV.int IntKind.i64 (r18m.v t)) (r4b.h0 t n g), .b false, .b false, .b false, .ret (AV.int IntKind.i64 (r19.v t n g)) (r4b.h0 t n g), .b false, .b false, .b false, .b false, .b false, .b false, .b true] (by simp) (by simp) (kmp (by kernel_rfl) (And.intro (r10 (r4b.h0 t n g)) (And.intro (rfl : false = false) (And.intro (r11 (t) (n) (g) o0 (r4b.h0 t n g)) (And.intro (show (bnot (r11.v t n g)) = false by rw [hf]; try rfl) (And.intro (r14m (n) o0 o1 (g) (r4b.h0 t n g)) (And.intro (r15 (n) (g) o0 o2 (-1) (r4b.h0 t n g)) (And.intro (r16 (t) o3 (r4b.h0 t n g)) (And.intro (r17 (t) o3 (r4b.h0 t n g)) (And.intro (show (bnot (r16.v t == r17.v t)) = false by rw [h1]; try rfl) (And.intro (show (bnot (r16.v t == r17.v t)) = false by rw [h1]; try rfl) (And.intro (show (bnot (r16.v t == r17.v t)) = false by rw [h1]; try rfl) (And.intro (r18m (t) o3 (n) o0 o1 (g) (r4b.h0 t n g)) (And.intro (show (bnot (r16.v t == r17.v t)) = false by rw [h1]; try rfl) (And.intro (show (bnot (r16.v t == r17.v t)) = false by rw [h1]; try rfl) (And.intro (show (bnot (r16.v t == r17.v t)) = false by rw [h1]; try rfl) (And.intro (r19 (t) o3 (n) o0 (g) o2 (r4b.h0 t n g)) (And.intro (show (bnot (r16.v t == r17.v t)) = false by rw [h1]; try rfl) (And.intro (show (bnot (r16.v t == r17.v t)) = false by rw [h1]; try rfl) (And.intro (show (bnot (r18m.v t == r19.v t n g)) = false by rw [h2]; try rfl) (And.intro (show (bnot (r18m.v t == r19.v t n g)) = false by rw [h2]; try rfl) (And.intro (show (bnot (r18m.v t == r19.v t n g)) = false by rw [h2]; try rfl) (And.intro (show (bnot (r18m.v t == r19.v t n g)) = false by rw [h2]; try rfl) (And.intro (show (bnot (7 == r15.v n g (-1))) = true by rw [h3]; try rfl) (And.intro (show (AV.bool false) = ((AV.bool (r4b.v t n g))) by first | (simp only [r4b.v, hf, h1, h2, h3, cond_true, cond_false]; done) | (try unfold r4b.v; try simp only [hf, cond_true, cond_false]; try simp only [h1, cond_true, cond_false]; try simp only [h2, cond_true, cond_false]; try simp only [h3, cond_true, cond_false]; try rfl; done) | rfl) trivial))))))))))))))))))))))))) h
    | false =>
      have h2p := ne_of_beq_false h2
      exact Ret.of_run1 mix [(AV.bool (r4b.v t n g))] Try.func4 rfl [.ret (AV.bool r10.v) (r4b.h0 t n g), .b false, .ret (AV.bool (r11.v t n g)) (r4b.h0 t n g), .b false, .ret (AV.tup [AV.int IntKind.i64 0, AV.int IntKind.i64 7]) (r4b.h0 t n g), .ret (AV.int IntKind.i64 (r15.v n g (-1))) (r4b.h0 t n g), .ret (AV.int IntKind.i64 (r16.v t)) (r4b.h0 t n g), .ret (AV.int IntKind.i64 (r17.v t)) (r4b.h0 t n g), .b false, .b false, .b false, .ret (AV.int IntKind.i64 (r18m.v t)) (r4b.h0 t n g), .b false, .b false, .b false, .ret (AV.int IntKind.i64 (r19.v t n g)) (r4b.h0 t n g), .b false, .b false, .b true, .b true, .b true, .b true, .b true] (by simp) (by simp) (kmp (by kernel_rfl) (And.intro (r10 (r4b.h0 t n g)) (And.intro (rfl : false = false) (And.intro (r11 (t) (n) (g) o0 (r4b.h0 t n g)) (And.intro (show (bnot (r11.v t n g)) = false by rw [hf]; try rfl) (And.intro (r14m (n) o0 o1 (g) (r4b.h0 t n g)) (And.intro (r15 (n) (g) o0 o2 (-1) (r4b.h0 t n g)) (And.intro (r16 (t) o3 (r4b.h0 t n g)) (And.intro (r17 (t) o3 (r4b.h0 t n g)) (And.intro (show (bnot (r16.v t == r17.v t)) = false by rw [h1]; try rfl) (And.intro (show (bnot (r16.v t == r17.v t)) = false by rw [h1]; try rfl) (And.intro (show (bnot (r16.v t == r17.v t)) = false by rw [h1]; try rfl) (And.intro (r18m (t) o3 (n) o0 o1 (g) (r4b.h0 t n g)) (And.intro (show (bnot (r16.v t == r17.v t)) = false by rw [h1]; try rfl) (And.intro (show (bnot (r16.v t == r17.v t)) = false by rw [h1]; try rfl) (And.intro (show (bnot (r16.v t == r17.v t)) = false by rw [h1]; try rfl) (And.intro (r19 (t) o3 (n) o0 (g) o2 (r4b.h0 t n g)) (And.intro (show (bnot (r16.v t == r17.v t)) = false by rw [h1]; try rfl) (And.intro (show (bnot (r16.v t == r17.v t)) = false by rw [h1]; try rfl) (And.intro (show (bnot (r18m.v t == r19.v t n g)) = true by rw [h2]; try rfl) (And.intro (show (bnot (r18m.v t == r19.v t n g)) = true by rw [h2]; try rfl) (And.intro (show (bnot (r18m.v t == r19.v t n g)) = true by rw [h2]; try rfl) (And.intro (show (bnot (r18m.v t == r19.v t n g)) = true by rw [h2]; try rfl) (And.intro (rfl : true = true) (And.intro (show (AV.bool false) = ((AV.bool (r4b.v t n g))) by first | (simp only [r4b.v, hf, h1, h2, cond_true, cond_false]; done) | (try unfold r4b.v; try simp only [hf, cond_true, cond_false]; try simp only [h1, cond_true, cond_false]; try simp only [h2, cond_true, cond_false]; try rfl; done) | rfl) trivial))))))))))))))))))))))))) h
  | false =>
    have h1p := ne_of_beq_false h1
    exact Ret.of_run1 mix [(AV.bool (r4b.v t n g))] Try.func4 rfl [.ret (AV.bool r10.v) (r4b.h0 t n g), .b false, .ret (AV.bool (r11.v t n g)) (r4b.h0 t n g), .b false, .ret (AV.tup [AV.int IntKind.i64 0, AV.int IntKind.i64 7]) (r4b.h0 t n g), .ret (AV.int IntKind.i64 (r15.v n g (-1))) (r4b.h0 t n g), .ret (AV.int IntKind.i64 (r16.v t)) (r4b.h0 t n g), .ret (AV.int IntKind.i64 (r17.v t)) (r4b.h0 t n g), .b true, .b true, .b true, .b true, .b true, .b true, .b true, .b true, .b true, .b true, .b true, .b true, .b true] (by simp) (by simp) (kmp (by kernel_rfl) (And.intro (r10 (r4b.h0 t n g)) (And.intro (rfl : false = false) (And.intro (r11 (t) (n) (g) o0 (r4b.h0 t n g)) (And.intro (show (bnot (r11.v t n g)) = false by rw [hf]; try rfl) (And.intro (r14m (n) o0 o1 (g) (r4b.h0 t n g)) (And.intro (r15 (n) (g) o0 o2 (-1) (r4b.h0 t n g)) (And.intro (r16 (t) o3 (r4b.h0 t n g)) (And.intro (r17 (t) o3 (r4b.h0 t n g)) (And.intro (show (bnot (r16.v t == r17.v t)) = true by rw [h1]; try rfl) (And.intro (show (bnot (r16.v t == r17.v t)) = true by rw [h1]; try rfl) (And.intro (show (bnot (r16.v t == r17.v t)) = true by rw [h1]; try rfl) (And.intro (show (bnot (r16.v t == r17.v t)) = true by rw [h1]; try rfl) (And.intro (show (bnot (r16.v t == r17.v t)) = true by rw [h1]; try rfl) (And.intro (show (bnot (r16.v t == r17.v t)) = true by rw [h1]; try rfl) (And.intro (show (bnot (r16.v t == r17.v t)) = true by rw [h1]; try rfl) (And.intro (show (bnot (r16.v t == r17.v t)) = true by rw [h1]; try rfl) (And.intro (rfl : true = true) (And.intro (rfl : true = true) (And.intro (rfl : true = true) (And.intro (rfl : true = true) (And.intro (rfl : true = true) (And.intro (show (AV.bool false) = ((AV.bool (r4b.v t n g))) by first | (simp only [r4b.v, hf, h1, cond_true, cond_false]; done) | (try unfold r4b.v; try simp only [hf, cond_true, cond_false]; try simp only [h1, cond_true, cond_false]; try rfl; done) | rfl) trivial))))))))))))))))))))))) h

noncomputable abbrev r4c.h0 (t : TD) (n : Nat) (g : Nat → LD) : AHeap := ([AObj.var (AV.agg [AV.str t.nm, AV.int IntKind.i64 t.tl, AV.int IntKind.i64 t.fr, AV.int IntKind.i64 t.re, AV.int IntKind.i64 t.l0, AV.int IntKind.i64 t.l1, AV.int IntKind.i64 t.e0, AV.int IntKind.i64 t.e1])])

theorem r4c (ha : r10.v = true) (t : TD) (hnm : t.nm.size ≤ 9223372036854775807) (n : Nat) (hn : n ≤ 9223372036854775807) (g : Nat → LD) (hg : ∀ (i : Nat), (g i).nm.size ≤ 9223372036854775807) (hf : r11.v t n g = false) (h : AHeap) : Ret Try.prog 4 ([t.av, lds n g]) h (AV.bool true) h := by
  have o0 : n ≤ (9223372036854775807 : Nat) := by first | assumption | omega | (exact hg _) | (exact hg _ (by omega)) | (simp_all; done)
  exact Ret.of_run1 mix [(AV.bool true)] Try.func4 rfl [.ret (AV.bool r10.v) (r4c.h0 t n g), .b false, .ret (AV.bool (r11.v t n g)) (r4c.h0 t n g), .b true] (by simp) (by simp) (kmp (by kernel_rfl) (And.intro (r10 (r4c.h0 t n g)) (And.intro (rfl : false = false) (And.intro (r11 (t) (n) (g) o0 (r4c.h0 t n g)) (And.intro (show (bnot (r11.v t n g)) = true by rw [hf]; try rfl) (And.intro (show (AV.bool true) = ((AV.bool true)) by first | (simp only [hf, cond_true, cond_false]; done) | (try simp only [hf, cond_true, cond_false]; try rfl; done) | rfl) trivial)))))) h

end Go.Proofs.Ytngpbfocjgikaaa

open Go

namespace Go.Proofs.Ytngpbfocjgikaaa

set_option maxHeartbeats 0

set_option maxRecDepth 100000

set_option linter.unusedVariables false

set_option linter.unusedSimpArgs false

noncomputable def okR (i : Nat) (c : Int) : Bool := r55.v c && !(decide (c ≥ 65) && decide (c ≤ 90)) && (decide (0 < i) || r56.v c)

theorem L36_run {s : ByteArray} (hs : s.size ≤ 9223372036854775807) : L36.run s 0 = srch (fun i => !okR i (sbyte s i)) (fun _ => L36.O.e0) .e1 0 s.size := by
  have := search_eq (n := s.size) (fun i => !okR i (sbyte s i)) (fun _ => L36.O.e0) .e1 (N := L36.N s) (fun k i h => by
    simp only [L36.N, wrap_succ hs h, Int.toNat_natCast]; rw [decide_eq_true (by omega)]
    unfold okR
    have e : ((i : Int) == 0) = !decide (0 < i) := by
      rcases Nat.eq_zero_or_pos i with q | q
      · subst q; rfl
      · rw [decide_eq_true q]; simp; omega
    rw [e]
    cases r55.v (sbyte s i) <;> cases decide (sbyte s i ≥ 65) <;> cases decide (sbyte s i ≤ 90) <;> cases decide (0 < i) <;> cases r56.v (sbyte s i) <;> rfl) (fun k => by simp [L36.N]) (s.size + 1) 0 (Nat.zero_le _) (by omega)
  simpa [L36.run, L36.mu] using this

theorem L57_run {s : ByteArray} (hs : s.size ≤ 9223372036854775807) : L57.run s 0 = srch (fun i => !r58.v (sbyte s i)) (fun i => L57.O.e0 i) (.e0 s.size) 0 s.size := by
  have := search_eq (n := s.size) (fun i => !r58.v (sbyte s i)) (fun i => L57.O.e0 i) (.e0 s.size) (N := L57.N s) (fun k i h => by
    simp only [L57.N, wrap_succ hs h, Int.toNat_natCast]; rw [decide_eq_true (by omega)]
    cases r58.v (sbyte s i) <;> rfl) (fun k => by simp [L57.N]) (s.size + 1) 0 (Nat.zero_le _) (by omega)
  simpa [L57.run, L57.mu] using this

theorem r58_all : ((List.range 256).all fun c => (r58.v (c : Int) == okR 1 (c : Int)) && ((decide ((c : Int) ≥ 97) && decide ((c : Int) ≤ 122)) == okR 0 (c : Int))) = true := by kernel_rfl

theorem r58_ok {c : Int} (h0 : 0 ≤ c) (h1 : c ≤ 255) : r58.v c = okR 1 c ∧ (decide (c ≥ 97) && decide (c ≤ 122)) = okR 0 c := by
  have := List.all_eq_true.1 r58_all c.toNat (List.mem_range.2 (by omega))
  have e : ((c.toNat : Nat) : Int) = c := Int.toNat_of_nonneg h0
  rw [e, Bool.and_eq_true] at this
  exact ⟨eq_of_beq this.1, eq_of_beq this.2⟩

theorem okR_pos {i : Nat} (h : 0 < i) (c : Int) : okR i c = okR 1 c := by
  unfold okR; rw [decide_eq_true h]; rfl

theorem okR_01 {c : Int} (h : okR 0 c = true) : okR 1 c = true := by
  unfold okR at h ⊢
  revert h
  cases r55.v c <;> cases decide (c ≥ 65) <;> cases decide (c ≤ 90) <;> simp

theorem name_eq {s : ByteArray} (hs : s.size ≤ 9223372036854775807) : r38.v s = r36.v s := by
  unfold r38.v r36.v r57.v
  rw [L36_run hs, L57_run hs, srch_any]
  have h1 : (s.toList == (ByteArray.mk #[]).toList) = decide ((s.size : Int) < 1) := by
    cases h : (s.toList == (ByteArray.mk #[]).toList) with
    | true => rw [str_eq h]; rfl
    | false => have := str_pos h; exact (decide_eq_false (by omega)).symm
  rw [h1]
  have hc := sbyte_bd s
  rcases Nat.lt_or_ge 0 s.size with q | q
  · rw [decide_eq_false (show ¬ (s.size : Int) < 1 by omega), cond_false, decide_eq_true (show (s.size : Int) ≥ 1 by omega), cond_true]
    have hb : ∀ i, i < s.size → (okR i (sbyte s i) = true ↔ r58.v (sbyte s i) = true ∧ (i = 0 → sbyte s 0 ≥ 97 ∧ sbyte s 0 ≤ 122)) := by
      intro i hi
      obtain ⟨a1, a2⟩ := r58_ok (hc i).1 (hc i).2
      rcases Nat.eq_zero_or_pos i with e | e
      · subst e
        rw [a1]
        constructor
        · intro h
          refine ⟨okR_01 h, fun _ => ?_⟩
          rw [← a2, Bool.and_eq_true] at h
          exact ⟨of_decide_eq_true h.1, of_decide_eq_true h.2⟩
        · intro ⟨_, h⟩
          rw [← a2, decide_eq_true (h rfl).1, decide_eq_true (h rfl).2]; rfl
      · rw [okR_pos e, a1]
        exact ⟨fun h => ⟨h, fun h => by omega⟩, fun h => h.1⟩
    by_cases hsz : (s.size : Int) > 24
    · rw [decide_eq_true hsz, cond_true, decide_eq_false (show ¬ (s.size : Int) ≤ 24 by omega)]
      cases anyN s.size _ <;> rfl
    · rw [decide_eq_false hsz, cond_false, decide_eq_true (show (s.size : Int) ≤ 24 by omega)]
      cases hA : anyN s.size (fun i => !okR i (sbyte s i)) with
      | true =>
        obtain ⟨i, hi, hp⟩ := anyN_true.1 hA
        have hno : ¬ (okR i (sbyte s i) = true) := by simpa using hp
        rw [hb i hi] at hno
        rw [cond_true]
        show _ = false
        by_cases k1 : sbyte s 0 < 97
        · rw [decide_eq_true k1]; rfl
        rw [decide_eq_false k1, cond_false]
        by_cases k2 : sbyte s 0 > 122
        · rw [decide_eq_true k2]; rfl
        rw [decide_eq_false k2, cond_false]
        rcases srch_cases (fun i => !r58.v (sbyte s i)) (fun i => L57.O.e0 i) (.e0 s.size) s.size 0 with ⟨a1, a2⟩ | ⟨j, a1, a2, a3, a4, a5⟩
        · exfalso
          have := a1 i (Nat.zero_le _) (by omega)
          exact hno ⟨by simpa using this, fun _ => by omega⟩
        · rw [a5]
          show ((j : Int) == (s.size : Int)) = false
          rw [beq_eq_false_iff_ne]; omega
      | false =>
        have hall := anyN_false.1 hA
        have h0 := (hb 0 q).1 (by simpa using hall 0 q)
        have k1 := (h0.2 rfl).1
        have k2 := (h0.2 rfl).2
        rw [cond_false, decide_eq_false (show ¬ sbyte s 0 < 97 by omega), cond_false, decide_eq_false (show ¬ sbyte s 0 > 122 by omega), cond_false]
        rcases srch_cases (fun i => !r58.v (sbyte s i)) (fun i => L57.O.e0 i) (.e0 s.size) s.size 0 with ⟨a1, a2⟩ | ⟨j, a1, a2, a3, a4, a5⟩
        · rw [a2]; simp
        · exfalso
          have := (hb j (by omega)).1 (by simpa using hall j (by omega))
          rw [this.1] at a3; cases a3
  · rw [decide_eq_true (show (s.size : Int) < 1 by omega), cond_true, decide_eq_false (show ¬ (s.size : Int) ≥ 1 by omega), cond_false]
    cases anyN s.size _ <;> rfl

theorem truck_eq {t : TD} (h : t.nm.size ≤ 9223372036854775807) : r16.v t = r17.v t := by
  unfold r16.v r17.v
  rw [name_eq h]
  rfl

end Go.Proofs.Ytngpbfocjgikaaa

open Go

namespace Go.Proofs.Ytngpbfocjgikaaa

set_option maxHeartbeats 0

set_option maxRecDepth 100000

set_option linter.unusedVariables false

set_option linter.unusedSimpArgs false

def Sorted (i : Nat) (F : Nat → LD) : Prop := ∀ a b, a < b → b < i → (F a).lo ≤ (F b).lo

/-- G is F in another order. -/
def Pm (n : Nat) (F G : Nat → LD) : Prop := ∃ p q : Nat → Nat, ∀ i, i < n → p i < n ∧ q i < n ∧ p (q i) = i ∧ q (p i) = i ∧ G i = F (p i)

theorem Pm.refl (n : Nat) (F : Nat → LD) : Pm n F F := ⟨id, id, fun i h => ⟨h, h, rfl, rfl, rfl⟩⟩

theorem Pm.trans {n : Nat} {F G H : Nat → LD} (h1 : Pm n F G) (h2 : Pm n G H) : Pm n F H := by
  obtain ⟨p1, q1, h1⟩ := h1
  obtain ⟨p2, q2, h2⟩ := h2
  refine ⟨fun i => p1 (p2 i), fun i => q2 (q1 i), fun i hi => ?_⟩
  obtain ⟨a1, a2, a3, a4, a5⟩ := h2 i hi
  obtain ⟨b1, b2, b3, b4, b5⟩ := h1 i hi
  obtain ⟨c1, c2, c3, c4, c5⟩ := h1 (p2 i) a1
  obtain ⟨d1, d2, d3, d4, d5⟩ := h2 (q1 i) b2
  refine ⟨c1, d2, ?_, ?_, ?_⟩
  · show p1 (p2 (q2 (q1 i))) = i
    rw [d3, b3]
  · show q2 (q1 (p1 (p2 i))) = i
    rw [c4, a4]
  · rw [a5, c5]

def swp (F : Nat → LD) (j : Nat) : Nat → LD := fun q => if q = j - 1 then F j else if q = j then F (j - 1) else F q

theorem Pm_swp {n j : Nat} (F : Nat → LD) (h0 : 0 < j) (hj : j < n) : Pm n F (swp F j) := by
  refine ⟨fun q => if q = j - 1 then j else if q = j then j - 1 else q, fun q => if q = j - 1 then j else if q = j then j - 1 else q, fun i hi => ?_⟩
  have e : ∀ i, (fun q => if q = j - 1 then j else if q = j then j - 1 else q) ((fun q => if q = j - 1 then j else if q = j then j - 1 else q) i) = i := by
    intro i
    show (if (if i = j - 1 then j else if i = j then j - 1 else i) = j - 1 then j else if (if i = j - 1 then j else if i = j then j - 1 else i) = j then j - 1 else (if i = j - 1 then j else if i = j then j - 1 else i)) = i
    repeat' split
    all_goals omega
  refine ⟨?_, ?_, e i, e i, ?_⟩
  · show (if i = j - 1 then j else if i = j then j - 1 else i) < n
    split <;> (try split) <;> omega
  · show (if i = j - 1 then j else if i = j then j - 1 else i) < n
    split <;> (try split) <;> omega
  · show swp F j i = F (if i = j - 1 then j else if i = j then j - 1 else i)
    unfold swp
    split
    · rfl
    · split <;> rfl

theorem cmp_lt (s t : LD) : decide (r53.v s t < 0) = decide (s.lo < t.lo) := by
  unfold r53.v r54.v
  have e : ∀ x : Int, r77.v x = false := fun x => by simp [r77.v]
  rw [e, e, cond_false, cond_false]
  by_cases h : s.lo < t.lo
  · rw [decide_eq_true h, cond_true]; rfl
  · rw [decide_eq_false h, cond_false]
    cases decide (s.lo > t.lo) <;> rfl

theorem wrap_pred {n i : Nat} (hn : n ≤ 9223372036854775807) (h : i ≤ n) (h0 : 0 < i) : IntKind.i64.wrap ((i : Int) - 1) = ((i - 1 : Nat) : Int) := by
  rw [IntWalk.i64_in _ (by omega)]
  omega

theorem inner_step {m j : Nat} {F : Nat → LD} (hj : 0 < j) (hb : j ≤ 9223372036854775807) :
    L88b.N (m + 1) F (j : Int) = bif decide ((F j).lo < (F (j - 1)).lo) then L88b.N m (swp F j) ((j - 1 : Nat) : Int) else .e0 F := by
  simp only [L88b.N, wrap_pred hb (Nat.le_refl j) hj, Int.toNat_natCast, Nat.zero_add, cmp_lt]
  rw [decide_eq_true (show (j : Int) > 0 by omega), cond_true]
  have e : (fun (q : Nat) => LD.mk (if q = j - 1 then (F j).nm else if q = j then (F (j - 1)).nm else (F q).nm) (if q = j - 1 then (F j).lo else if q = j then (F (j - 1)).lo else (F q).lo) (if q = j - 1 then (F j).ln else if q = j then (F (j - 1)).ln else (F q).ln) (if q = j - 1 then (F j).ms else if q = j then (F (j - 1)).ms else (F q).ms)) = swp F j := by
    funext q
    unfold swp
    split
    · rfl
    · split <;> rfl
  rw [e]

theorem inner : ∀ (m j : Nat) (F : Nat → LD) (i n : Nat), j < m → j ≤ i → i < n → n ≤ 9223372036854775807 →
    (∀ a b, a < b → b ≤ i → a ≠ j → b ≠ j → (F a).lo ≤ (F b).lo) → (∀ b, j < b → b ≤ i → (F j).lo ≤ (F b).lo) →
    ∃ G, L88b.N m F (j : Int) = .e0 G ∧ Sorted (i + 1) G ∧ Pm n F G := by
  intro m
  induction m with
  | zero => intro j F i n h; omega
  | succ m ih =>
    intro j F i n hm hji hin hn h1 h2
    rcases Nat.eq_zero_or_pos j with e | e
    · subst e
      refine ⟨F, by simp [L88b.N], fun a b hab hb => ?_, .refl _ _⟩
      rcases Nat.eq_zero_or_pos a with q | q
      · subst q; exact h2 b hab (by omega)
      · exact h1 a b hab (by omega) (by omega) (by omega)
    · rw [inner_step e (by omega)]
      by_cases hlt : (F j).lo < (F (j - 1)).lo
      · rw [decide_eq_true hlt, cond_true]
        have w1 : ∀ q, q ≠ j - 1 → q ≠ j → swp F j q = F q := fun q a b => by unfold swp; rw [if_neg a, if_neg b]
        have w2 : swp F j (j - 1) = F j := by unfold swp; rw [if_pos rfl]
        have w3 : swp F j j = F (j - 1) := by unfold swp; rw [if_neg (by omega), if_pos rfl]
        obtain ⟨G, g1, g2, g3⟩ := ih (j - 1) (swp F j) i n (by omega) (by omega) hin hn (fun a b hab hb ha hbj => by
          by_cases qa : a = j
          · subst qa
            rw [w3, w1 b hbj (by omega)]
            exact h1 (a - 1) b (by omega) hb (by omega) (by omega)
          · by_cases qb : b = j
            · subst qb
              rw [w3, w1 a ha qa]
              exact h1 a (b - 1) (by omega) (by omega) qa (by omega)
            · rw [w1 a ha qa, w1 b hbj qb]
              exact h1 a b hab hb qa qb) (fun b hb hbi => by
          rw [w2]
          by_cases qb : b = j
          · subst qb; rw [w3]; omega
          · rw [w1 b (by omega) qb]
            exact h2 b (by omega) hbi)
        exact ⟨G, g1, g2, (Pm_swp F e (by omega)).trans g3⟩
      · rw [decide_eq_false hlt, cond_false]
        refine ⟨F, rfl, fun a b hab hb => ?_, .refl _ _⟩
        by_cases qa : a = j
        · subst qa; exact h2 b hab (by omega)
        · by_cases qb : b = j
          · subst qb
            by_cases q : a = b - 1
            · subst q; omega
            · have := h1 a (b - 1) (by omega) (by omega) qa (by omega)
              omega
          · exact h1 a b hab (by omega) qa qb

theorem outer {n : Nat} (hn : n ≤ 9223372036854775807) : ∀ (m i : Nat) (F : Nat → LD), n - i < m → 1 ≤ i → Sorted (min i n) F → ∃ G, L88a.N n m F (i : Int) = .e0 G ∧ Sorted n G ∧ Pm n F G := by
  intro m
  induction m with
  | zero => intro i F h; omega
  | succ m ih =>
    intro i F hm h1 hs
    simp only [L88a.N]
    by_cases hin : i < n
    · rw [decide_eq_true (show (i : Int) < (n : Int) by omega), cond_true]
      have hs' : ∀ a b, a < b → b < i → (F a).lo ≤ (F b).lo := fun a b hab hb => hs a b hab (by omega)
      obtain ⟨G, g1, g2, g3⟩ := inner (i + 1) i F i n (by omega) (Nat.le_refl _) hin hn (fun a b hab hb ha hbi => hs' a b hab (by omega)) (fun b hb hbi => by omega)
      have e : L88b.run F (i : Int) = .e0 G := by unfold L88b.run; rw [Int.toNat_natCast]; exact g1
      rw [e, wrap_succ hn hin]
      obtain ⟨K, k1, k2, k3⟩ := ih (i + 1) G (by omega) (by omega) (fun a b hab hb => g2 a b hab (by omega))
      exact ⟨K, k1, k2, g3.trans k3⟩
    · rw [decide_eq_false (show ¬ (i : Int) < (n : Int) by omega), cond_false]
      exact ⟨F, rfl, fun a b hab hb => hs a b hab (by omega), .refl _ _⟩

theorem sort_law {n : Nat} (hn : n ≤ 9223372036854775807) (F : Nat → LD) : Sorted n (r52.v n F) ∧ Pm n F (r52.v n F) := by
  obtain ⟨G, g1, g2, g3⟩ := outer hn (n - 1 + 1) 1 F (by omega) (Nat.le_refl _) (fun a b hab hb => by omega)
  have e : r52.v n F = G := by
    unfold r52.v r75.v r88.v L88a.run
    rw [show ((n : Int) - 1).toNat + 1 = n - 1 + 1 by omega, show (1 : Int) = ((1 : Nat) : Int) from rfl, g1]
  rw [e]
  exact ⟨g2, g3⟩

end Go.Proofs.Ytngpbfocjgikaaa

open Go

namespace Go.Proofs.Ytngpbfocjgikaaa

set_option maxHeartbeats 0

set_option maxRecDepth 100000

set_option linter.unusedVariables false

set_option linter.unusedSimpArgs false

variable {n : Nat} {g : Nat → LD}

/-- Numbers of a load that are in range. -/
def LOk (s : LD) : Prop := (0 ≤ s.lo ∧ s.lo ≤ 50000) ∧ (1 ≤ s.ln ∧ s.ln ≤ 50000) ∧ (1 ≤ s.ms ∧ s.ms ≤ 100000000)

theorem ok49 {s : LD} : r49.v s = false ↔ LOk s := by
  have r : ∀ {x a b : Int}, r32.v x a b = true ↔ a ≤ x ∧ x ≤ b := by
    intro x a b
    constructor
    · exact bd_in
    · intro ⟨h1, h2⟩
      unfold r32.v
      rw [decide_eq_true (show x ≥ a from h1), cond_true, decide_eq_true h2]
  unfold r49.v LOk
  rw [← r, ← r, ← r]
  cases r32.v s.lo 0 50000 <;> cases r32.v s.ln 1 50000 <;> cases r32.v s.ms 1 100000000 <;> simp [bnot]

theorem idx_eq (p : Nat → Bool) (n : Nat) (O : Type) (f : O → Int) (hit : Nat → O) (miss : O) (h1 : ∀ i : Nat, f (hit i) = i) (h2 : f miss = -1) :
    decide (f (srch p hit miss 0 n) ≥ 0) = anyN n p := by
  rcases srch_cases p hit miss n 0 with ⟨a1, a2⟩ | ⟨j, a1, a2, a3, a4, a5⟩
  · rw [a2, h2, anyN_false.2 fun i hi => a1 i (Nat.zero_le _) (by omega)]; rfl
  · rw [a5, h1, anyN_true.2 ⟨j, by omega, a3⟩, decide_eq_true (by omega)]

theorem r46a_v (hn : n ≤ 9223372036854775807) : r46a.v n g = anyN n (fun i => r48.v (g i)) := by
  have := search_eq (n := n) (fun i => r48.v (g i)) (fun i => L74aa.O.e0 i) .e1 (N := L74aa.N n g) (fun k i h => by
    simp only [L74aa.N, wrap_succ hn h, Int.toNat_natCast]; rw [decide_eq_true (by omega)]; rfl) (fun k => by simp [L74aa.N]) (n + 1) 0 (Nat.zero_le _) (by omega)
  have e : L74aa.run n g 0 = srch (fun i => r48.v (g i)) (fun i => L74aa.O.e0 i) .e1 0 n := by simpa [L74aa.run] using this
  unfold r46a.v r47a.v r74a.v
  rw [e]
  exact idx_eq _ n L74aa.O (fun o => match o with | .e0 a => a | .e1 => -1) _ _ (fun i => rfl) rfl

theorem r46b_v (hn : n ≤ 9223372036854775807) : r46b.v n g = anyN n (fun i => r49.v (g i)) := by
  have := search_eq (n := n) (fun i => r49.v (g i)) (fun i => L74ba.O.e0 i) .e1 (N := L74ba.N n g) (fun k i h => by
    simp only [L74ba.N, wrap_succ hn h, Int.toNat_natCast]; rw [decide_eq_true (by omega)]; rfl) (fun k => by simp [L74ba.N]) (n + 1) 0 (Nat.zero_le _) (by omega)
  have e : L74ba.run n g 0 = srch (fun i => r49.v (g i)) (fun i => L74ba.O.e0 i) .e1 0 n := by simpa [L74ba.run] using this
  unfold r46b.v r47b.v r74b.v
  rw [e]
  exact idx_eq _ n L74ba.O (fun o => match o with | .e0 a => a | .e1 => -1) _ _ (fun i => rfl) rfl

theorem r46c_v (hn : n ≤ 9223372036854775807) (bed : Int) : r46c.v n g bed = anyN n (fun i => r50.v bed (g i)) := by
  have := search_eq (n := n) (fun i => r50.v bed (g i)) (fun i => L74c.O.e0 i) .e1 (N := L74c.N n g bed) (fun k i h => by
    simp only [L74c.N, wrap_succ hn h, Int.toNat_natCast]; rw [decide_eq_true (by omega)]; rfl) (fun k => by simp [L74c.N]) (n + 1) 0 (Nat.zero_le _) (by omega)
  have e : L74c.run n g bed 0 = srch (fun i => r50.v bed (g i)) (fun i => L74c.O.e0 i) .e1 0 n := by simpa [L74c.run] using this
  unfold r46c.v r47c.v r74c.v
  rw [e]
  exact idx_eq _ n L74c.O (fun o => match o with | .e0 a => a | .e1 => -1) _ _ (fun i => rfl) rfl

theorem L15a_v (hn : n ≤ 9223372036854775807) (hg : ∀ i, (g i).nm.size ≤ 9223372036854775807) : L15a.run n g 0 = bif anyN n (fun i => r48.v (g i)) then .e0 else .e1 := by
  have := search_eq (n := n) (fun i => r48.v (g i)) (fun _ => L15a.O.e0) .e1 (N := L15a.N n g) (fun k i h => by
    simp only [L15a.N, wrap_succ hn h, Int.toNat_natCast]; rw [decide_eq_true (by omega)]
    unfold r48.v
    rw [name_eq (hg i)]
    cases r36.v (g i).nm <;> rfl) (fun k => by simp [L15a.N]) (n + 1) 0 (Nat.zero_le _) (by omega)
  rw [srch_any] at this
  simpa [L15a.run] using this

theorem L15b_v (hn : n ≤ 9223372036854775807) : L15b.run n g 0 = bif anyN n (fun i => r49.v (g i)) then .e0 else .e1 := by
  have := search_eq (n := n) (fun i => r49.v (g i)) (fun _ => L15b.O.e0) .e1 (N := L15b.N n g) (fun k i h => by
    simp only [L15b.N, wrap_succ hn h, Int.toNat_natCast]; rw [decide_eq_true (by omega)]
    unfold r49.v
    rw [show r37.v (g i).lo 0 50000 = r32.v (g i).lo 0 50000 from rfl, show r37.v (g i).ln 1 50000 = r32.v (g i).ln 1 50000 from rfl, show r37.v (g i).ms 1 100000000 = r32.v (g i).ms 1 100000000 from rfl]
    cases r32.v (g i).lo 0 50000 <;> cases r32.v (g i).ln 1 50000 <;> cases r32.v (g i).ms 1 100000000 <;> rfl) (fun k => by simp [L15b.N]) (n + 1) 0 (Nat.zero_le _) (by omega)
  rw [srch_any] at this
  simpa [L15b.run] using this

/-- The name of the i-th load stands before it. -/
def dupB (g : Nat → LD) (i : Nat) : Bool := anyN i (fun k => (g i).nm.toList == (g k).nm.toList)

theorem L15cd_v {i : Nat} (hi : i ≤ 9223372036854775807) : L15cd.run g (i : Int) 0 = bif dupB g i then .e0 else .e1 := by
  have := search_eq (n := i) (fun k => (g i).nm.toList == (g k).nm.toList) (fun _ => L15cd.O.e0) .e1 (N := L15cd.N g i) (fun m k h => by
    simp only [L15cd.N, wrap_succ hi h, Int.toNat_natCast]; rw [decide_eq_true (by omega)]; rfl) (fun k => by simp [L15cd.N]) (i + 1) 0 (Nat.zero_le _) (by omega)
  rw [srch_any] at this
  simpa [L15cd.run, dupB] using this

theorem L15c_v (hn : n ≤ 9223372036854775807) : L15c.run n g 0 = bif anyN n (dupB g) then .e0 else .e1 := by
  have := search_eq (n := n) (dupB g) (fun _ => L15c.O.e0) .e1 (N := L15c.N n g) (fun k i h => by
    simp only [L15c.N, wrap_succ hn h, L15cd_v (g := g) (show i ≤ 9223372036854775807 by omega)]; rw [decide_eq_true (by omega)]
    cases dupB g i <;> rfl) (fun k => by simp [L15c.N]) (n + 1) 0 (Nat.zero_le _) (by omega)
  rw [srch_any] at this
  simpa [L15c.run] using this

theorem anyN_succ (i : Nat) (p : Nat → Bool) : anyN (i + 1) p = (anyN i p || p i) := by
  unfold anyN
  rw [List.range_succ, List.any_append]
  simp

theorem seen_N (hn : n ≤ 9223372036854775807) : ∀ (m i : Nat) (ks : List ByteArray), i ≤ n → n - i < m → (∀ s : ByteArray, hasS ks s = anyN i (fun k => s.toList == (g k).nm.toList)) →
    (∃ d, L35s.N n g m (i : Int) ks = .e0 d ∧ ∃ j, i ≤ j ∧ j < n ∧ dupB g j = true) ∨ (∃ d, L35s.N n g m (i : Int) ks = .e1 d ∧ ∀ j, i ≤ j → j < n → dupB g j = false) := by
  intro m
  induction m with
  | zero => intro i ks _ h; omega
  | succ m ih =>
    intro i ks hi hm hk
    simp only [L35s.N, Int.toNat_natCast]
    rcases Nat.lt_or_ge i n with h | h
    · rw [decide_eq_true (show (i : Int) < n by omega), cond_true, wrap_succ hn h]
      have e : hasS ks (g i).nm = dupB g i := hk _
      cases hd : dupB g i with
      | true =>
        rw [e, hd, cond_true]
        exact .inl ⟨_, rfl, i, Nat.le_refl _, h, hd⟩
      | false =>
        rw [e, hd, cond_false]
        rcases ih (i + 1) (addS ks (g i).nm) h (by omega) (fun s => by
          unfold addS
          rw [e, hd, cond_false, anyN_succ, ← hk s]
          unfold hasS
          rw [List.any_append]
          simp) with ⟨d, q1, j, q2, q3, q4⟩ | ⟨d, q1, q2⟩
        · exact .inl ⟨d, q1, j, by omega, q3, q4⟩
        · refine .inr ⟨d, q1, fun j a b => ?_⟩
          rcases Nat.eq_or_lt_of_le a with e | e
          · subst e; exact hd
          · exact q2 j e b
    · rw [decide_eq_false (show ¬ (i : Int) < n by omega), cond_false]
      exact .inr ⟨_, rfl, fun j a b => by omega⟩

theorem L35s_v (hn : n ≤ 9223372036854775807) : (∃ d, L35s.run n g 0 [] = .e0 d ∧ anyN n (dupB g) = true) ∨ (∃ d, L35s.run n g 0 [] = .e1 d ∧ anyN n (dupB g) = false) := by
  unfold L35s.run
  rw [show ((n : Int) - 0).toNat + 1 = n + 1 by omega]
  rcases seen_N (g := g) hn (n + 1) 0 [] (Nat.zero_le _) (by omega) (fun s => rfl) with ⟨d, q1, j, q2, q3, q4⟩ | ⟨d, q1, q2⟩
  · exact .inl ⟨d, q1, anyN_true.2 ⟨j, q3, q4⟩⟩
  · exact .inr ⟨d, q1, anyN_false.2 fun i hi => q2 i (Nat.zero_le _) hi⟩

theorem L15e_v (hn : n ≤ 9223372036854775807) (e : Int) : L15e.run n g e 0 = bif anyN n (fun i => decide (e ≥ 0) && r50.v e (g i)) then .e0 else .e1 := by
  have := search_eq (n := n) (fun i => decide (e ≥ 0) && r50.v e (g i)) (fun _ => L15e.O.e0) .e1 (N := L15e.N n g e) (fun k i h => by
    simp only [L15e.N, wrap_succ hn h, Int.toNat_natCast]; rw [decide_eq_true (show (i : Int) < n by omega)]
    unfold r50.v
    cases decide (e ≥ 0) <;> cases decide (IntKind.i64.wrap ((g i).lo + (g i).ln) > e) <;> rfl) (fun k => by simp [L15e.N]) (n + 1) 0 (Nat.zero_le _) (by omega)
  rw [srch_any] at this
  simpa [L15e.run] using this

/-- Two loads lie over one another. -/
def ovB (s t : LD) : Bool := decide (s.lo < IntKind.i64.wrap (t.lo + t.ln)) && decide (t.lo < IntKind.i64.wrap (s.lo + s.ln))

theorem ov_iff {s t : LD} (hs : LOk s) (ht : LOk t) : ovB s t = true ↔ s.lo < t.lo + t.ln ∧ t.lo < s.lo + s.ln := by
  unfold ovB
  obtain ⟨s1, s2, s3⟩ := hs
  obtain ⟨t1, t2, t3⟩ := ht
  rw [i64_small (by omega), i64_small (by omega)]
  simp

theorem L15fg_v {i : Nat} (hi : i ≤ 9223372036854775807) : L15fg.run g (i : Int) 0 = bif anyN i (fun k => ovB (g i) (g k)) then .e0 else .e1 := by
  have := search_eq (n := i) (fun k => ovB (g i) (g k)) (fun _ => L15fg.O.e0) .e1 (N := L15fg.N g i) (fun m k h => by
    simp only [L15fg.N, wrap_succ hi h, Int.toNat_natCast]; rw [decide_eq_true (show (k : Int) < i by omega)]
    unfold ovB
    cases decide ((g i).lo < IntKind.i64.wrap ((g k).lo + (g k).ln)) <;> cases decide ((g k).lo < IntKind.i64.wrap ((g i).lo + (g i).ln)) <;> rfl) (fun k => by simp [L15fg.N]) (i + 1) 0 (Nat.zero_le _) (by omega)
  rw [srch_any] at this
  simpa [L15fg.run] using this

theorem L15f_v (hn : n ≤ 9223372036854775807) : L15f.run n g 0 = bif anyN n (fun i => anyN i (fun k => ovB (g i) (g k))) then .e0 else .e1 := by
  have := search_eq (n := n) (fun i => anyN i (fun k => ovB (g i) (g k))) (fun _ => L15f.O.e0) .e1 (N := L15f.N n g) (fun k i h => by
    simp only [L15f.N, wrap_succ hn h, L15fg_v (g := g) (show i ≤ 9223372036854775807 by omega)]; rw [decide_eq_true (by omega)]
    cases anyN i (fun k => ovB (g i) (g k)) <;> rfl) (fun k => by simp [L15f.N]) (n + 1) 0 (Nat.zero_le _) (by omega)
  rw [srch_any] at this
  simpa [L15f.run] using this

theorem srch_any1 {O : Type} (p : Nat → Bool) (a b : O) (n : Nat) : srch p (fun _ => a) b 1 (n - 1) = bif anyN n (fun i => decide (0 < i) && p i) then a else b := by
  rcases srch_cases p (fun _ => a) b (n - 1) 1 with ⟨h1, h2⟩ | ⟨j, h1, h2, h3, h4, h5⟩
  · rw [h2, anyN_false.2 fun i hi => ?_]; rfl
    by_cases e : 0 < i
    · rw [h1 i e (by omega)]; simp
    · rw [decide_eq_false e]; rfl
  · rw [h5, anyN_true.2 ⟨j, by omega, by rw [h3, decide_eq_true (show 0 < j by omega)]; rfl⟩]; rfl

def adjB (F : Nat → LD) (i : Nat) : Bool := decide ((F i).lo < IntKind.i64.wrap ((F (i - 1)).lo + (F (i - 1)).ln))

theorem L35o_v (hn : n ≤ 9223372036854775807) (F : Nat → LD) : L35o.run n F 1 = bif anyN n (fun i => decide (0 < i) && adjB F i) then .e0 else .e1 := by
  by_cases h0 : n = 0
  · subst h0; rfl
  have key : ∀ m i, 0 < i → i ≤ n → n - i < m → L35o.N n F m (i : Int) = srch (adjB F) (fun _ => .e0) .e1 i (n - i) := by
    intro m
    induction m with
    | zero => intro i _ _ h; omega
    | succ m ih =>
      intro i h1 h2 h3
      simp only [L35o.N, Int.toNat_natCast, wrap_pred hn h2 h1, Nat.zero_add]
      by_cases h : i < n
      · rw [decide_eq_true (show (i : Int) < n by omega), wrap_succ hn h, show n - i = (n - (i + 1)) + 1 by omega]
        simp only [srch, cond_true]
        rw [ih (i + 1) (by omega) h (by omega)]
        rfl
      · rw [decide_eq_false (show ¬ (i : Int) < n by omega), show n - i = 0 by omega]
        rfl
  have := key (n - 1 + 1) 1 (by omega) (by omega) (by omega)
  rw [srch_any1] at this
  unfold L35o.run
  rw [show ((n : Int) - 1).toNat + 1 = n - 1 + 1 by omega]
  exact this

/-- Neighbours in the order of their places lie over one another if any two do. -/
theorem over_eq (hn : n ≤ 9223372036854775807) (hg : ∀ i, i < n → LOk (g i)) : anyN n (fun i => decide (0 < i) && adjB (r52.v n g) i) = anyN n (fun i => anyN i (fun k => ovB (g i) (g k))) := by
  obtain ⟨hs, p, q, hp⟩ := sort_law hn g
  have hS : ∀ i, i < n → LOk (r52.v n g i) := fun i hi => by
    obtain ⟨a1, _, _, _, a5⟩ := hp i hi
    rw [a5]; exact hg _ a1
  have pair : ∀ a b, a < n → b < n → a ≠ b → ovB (g a) (g b) = true → anyN n (fun i => anyN i (fun k => ovB (g i) (g k))) = true := by
    intro a b ha hb hab ho
    rcases Nat.lt_or_gt_of_ne hab with h | h
    · refine anyN_true.2 ⟨b, hb, anyN_true.2 ⟨a, h, ?_⟩⟩
      have := (ov_iff (hg a ha) (hg b hb)).1 ho
      exact (ov_iff (hg b hb) (hg a ha)).2 ⟨this.2, this.1⟩
    · exact anyN_true.2 ⟨a, ha, anyN_true.2 ⟨b, h, ho⟩⟩
  cases h : anyN n (fun i => anyN i (fun k => ovB (g i) (g k))) with
  | true =>
    obtain ⟨b, hb, h2⟩ := anyN_true.1 h
    obtain ⟨a, ha, ho⟩ := anyN_true.1 h2
    have key : ∀ u v, u < v → v < n → (r52.v n g v).lo < (r52.v n g u).lo + (r52.v n g u).ln → anyN n (fun i => decide (0 < i) && adjB (r52.v n g) i) = true := by
      intro u v huv hv hlt
      refine anyN_true.2 ⟨u + 1, by omega, ?_⟩
      rw [decide_eq_true (show 0 < u + 1 by omega), Bool.true_and]
      unfold adjB
      rw [Nat.add_sub_cancel]
      obtain ⟨s1, s2, s3⟩ := hS u (by omega)
      rw [i64_small (by omega)]
      refine decide_eq_true ?_
      have : (r52.v n g (u + 1)).lo ≤ (r52.v n g v).lo := by
        rcases Nat.eq_or_lt_of_le huv with e | e
        · rw [show v = u + 1 by omega]; exact Int.le_refl _
        · exact hs (u + 1) v e hv
      omega
    have hv := (ov_iff (hg b hb) (hg a (by omega))).1 ho
    obtain ⟨_, qa, qa2, _, _⟩ := hp a (by omega)
    obtain ⟨_, qb, qb2, _, _⟩ := hp b hb
    have ea : r52.v n g (q a) = g a := by rw [(hp (q a) qa).2.2.2.2, qa2]
    have eb : r52.v n g (q b) = g b := by rw [(hp (q b) qb).2.2.2.2, qb2]
    have hne : q a ≠ q b := fun e => by
      have : p (q a) = p (q b) := by rw [e]
      rw [qa2, qb2] at this
      omega
    rcases Nat.lt_or_gt_of_ne hne with e | e
    · exact key (q a) (q b) e qb (by rw [ea, eb]; exact hv.1)
    · exact key (q b) (q a) e qa (by rw [ea, eb]; exact hv.2)
  | false =>
    refine anyN_false.2 fun i hi => ?_
    cases ha : decide (0 < i) && adjB (r52.v n g) i with
    | false => rfl
    | true =>
      rw [Bool.and_eq_true] at ha
      have h0 := of_decide_eq_true ha.1
      have h1 := of_decide_eq_true ha.2
      obtain ⟨s1, s2, s3⟩ := hS (i - 1) (by omega)
      obtain ⟨t1, t2, t3⟩ := hS i hi
      rw [i64_small (by omega)] at h1
      have hle := hs (i - 1) i (by omega) hi
      obtain ⟨a1, a2, a3, a4, a5⟩ := hp i hi
      obtain ⟨b1, b2, b3, b4, b5⟩ := hp (i - 1) (by omega)
      have hne : p i ≠ p (i - 1) := fun e => by
        have : q (p i) = q (p (i - 1)) := by rw [e]
        rw [a4, b4] at this
        omega
      have := pair (p i) (p (i - 1)) a1 b1 hne ((ov_iff (hg _ a1) (hg _ b1)).2 (by rw [← a5, ← b5]; omega))
      rw [h] at this; cases this

/-- Both checks of loads agree. -/
theorem loads_eq (hn : n ≤ 9223372036854775807) (hg : ∀ i, (g i).nm.size ≤ 9223372036854775807) {bed e : Int} (he : anyN n (fun i => r49.v (g i)) = false → anyN n (fun i => r50.v bed (g i)) = anyN n (fun i => decide (e ≥ 0) && r50.v e (g i))) : r35.v n g bed = r15.v n g e := by
  unfold r35.v r15.v
  rw [r46a_v hn, r46b_v hn, r46c_v hn, L35o_v hn, L15a_v hn hg, L15b_v hn, L15c_v hn, L15e_v hn, L15f_v hn]
  cases decide ((n : Int) > 64)
  · rw [cond_false, cond_false]
    cases anyN n (fun i => r48.v (g i))
    · rw [cond_false, cond_false]
      cases hr : anyN n (fun i => r49.v (g i))
      · rw [cond_false, he hr, over_eq hn (fun i hi => ok49.1 (anyN_false.1 hr i hi))]
        rcases L35s_v (g := g) hn with ⟨d, h1, h2⟩ | ⟨d, h1, h2⟩
        · rw [h1, h2]; rfl
        · rw [h1, h2]
          cases anyN n (fun i => decide (e ≥ 0) && r50.v e (g i))
          · cases anyN n (fun i => anyN i (fun k => ovB (g i) (g k))) <;> rfl
          · rfl
      · rfl
    · rfl
  · rfl

theorem loads_bed (hn : n ≤ 9223372036854775807) (hg : ∀ i, (g i).nm.size ≤ 9223372036854775807) {bed : Int} (h0 : 0 ≤ bed) : r35.v n g bed = r15.v n g bed :=
  loads_eq hn hg fun _ => by rw [decide_eq_true (show bed ≥ 0 from h0)]; simp

theorem loads_any (hn : n ≤ 9223372036854775807) (hg : ∀ i, (g i).nm.size ≤ 9223372036854775807) : r35.v n g 100000 = r15.v n g (-1) :=
  loads_eq hn hg fun h => by
    rw [anyN_false.2 fun i hi => ?_, anyN_false.2 fun i hi => ?_]
    · rfl
    · obtain ⟨s1, s2, s3⟩ := ok49.1 (anyN_false.1 h i hi)
      unfold r50.v
      rw [i64_small (by omega)]
      exact decide_eq_false (by omega)

end Go.Proofs.Ytngpbfocjgikaaa

open Go

namespace Go.Proofs.Ytngpbfocjgikaaa

set_option maxHeartbeats 0

set_option maxRecDepth 100000

set_option linter.unusedVariables false

set_option linter.unusedSimpArgs false

theorem awake_true : r10.v = true := by kernel_rfl

variable {n : Nat} {g : Nat → LD} {t : TD}

theorem sum_N : ∀ (m : Nat) (a i : Int), (match L14a.N n g m a i with | .e0 d => d) = (match L20a.N n g m a i with | .e0 d => d) := by
  intro m
  induction m with
  | zero => intro a i; rfl
  | succ m ih =>
    intro a i
    simp only [L14a.N, L20a.N]
    cases decide (i < (n : Int))
    · rfl
    · exact ih _ _

theorem check_eq (hnm : t.nm.size ≤ 9223372036854775807) (hn : n ≤ 9223372036854775807) (hg : ∀ i, (g i).nm.size ≤ 9223372036854775807) : r18.v t n g = r19.v t n g := by
  unfold r18.v r19.v
  rw [truck_eq hnm]
  by_cases h : r17.v t = 0
  · rw [loads_bed hn hg (by have := (tok ((truck_eq hnm).trans h)).tl; omega)]
  · rw [show (r17.v t == 0) = false by simpa using h]; rfl

theorem many_eq (hq : decide ((n : Int) > 64) = true) (e : Int) : r15.v n g e = 7 := by
  unfold r15.v
  rw [hq]; rfl

theorem checkm_eq (hnm : t.nm.size ≤ 9223372036854775807) (hq : decide ((n : Int) > 64) = true) : r18m.v t = r19.v t n g := by
  unfold r18m.v r19.v
  rw [truck_eq hnm, many_eq hq]

theorem mass_eq (hn : n ≤ 9223372036854775807) (hg : ∀ i, (g i).nm.size ≤ 9223372036854775807) :
    r14.v1 n g = r15.v n g (-1) ∧ r14.v0 n g = bif r15.v n g (-1) == 0 then r20.v n g else 0 := by
  unfold r14.v0 r14.v1
  rw [loads_any hn hg]
  have e : ∀ (o : L14a.O), (match o with | .e0 _ => (0 : Int)) = 0 := fun o => by cases o; rfl
  by_cases h : r15.v n g (-1) = 0
  · rw [h]
    refine ⟨e (L14a.run n g 0 0), ?_⟩
    show (match L14a.run n g 0 0 with | .e0 d => d) = r20.v n g
    unfold r20.v L14a.run L20a.run
    exact sum_N (n := n) (g := g) (((n : Int) - 0).toNat + 1) 0 0
  · rw [show (r15.v n g (-1) == 0) = false by simpa using h]
    exact ⟨rfl, rfl⟩

theorem few_n (h : r11.v t n g = true) : n ≤ 10 ∨ decide ((n : Int) > 64) = true := by
  unfold r11.v at h
  by_cases h1 : (n : Int) > 10
  · by_cases h2 : (n : Int) ≤ 64
    · rw [decide_eq_true h1, decide_eq_true h2] at h
      revert h
      cases decide ((t.nm.size : Int) > 100) <;> (intro h; first | exact absurd h (by decide) | (simp at h))
    · exact .inr (decide_eq_true (by omega))
  · exact .inl (by omega)

theorem r4a_true (hnm : t.nm.size ≤ 9223372036854775807) (hn : n ≤ 9223372036854775807) (hg : ∀ i, (g i).nm.size ≤ 9223372036854775807) : r4a.v t n g = true := by
  obtain ⟨h1, h2⟩ := mass_eq hn hg
  unfold r4a.v
  rw [truck_eq hnm, check_eq hnm hn hg, h1, h2]
  cases r15.v n g (-1) == 0 <;> simp

theorem r4b_true (hnm : t.nm.size ≤ 9223372036854775807) (hq : decide ((n : Int) > 64) = true) : r4b.v t n g = true := by
  unfold r4b.v
  rw [truck_eq hnm, checkm_eq (g := g) hnm hq, many_eq hq]
  simp

end Go.Proofs.Ytngpbfocjgikaaa

open Go

namespace Go.Proofs.Ytngpbfocjgikaaa

open Go.ChangeShapes Go.WideShapes Go.ChangeAt Go.RowKit

set_option maxRecDepth 100000 in
theorem law4 (xs : List AV) (h : FitsA Try.prog 5 [24, 25] xs) : Ret Try.prog 4 xs [] (.bool true) [] := by
  obtain ⟨x0, x1, rfl, h0, h1⟩ := fitsA2 h
  obtain ⟨t, hnm, i0⟩ := arg_truck h0
  obtain ⟨n, g, hn, hg, i1⟩ := arg_loads h1
  have key : Ret Try.prog 4 [t.av, lds n g] [] (.bool true) [] := by
    cases hf : r11.v t n g with
    | false => exact r4c awake_true t hnm n hn g hg hf []
    | true =>
      rcases few_n hf with hs | hq
      · have := r4a awake_true t hnm n (by omega) g hg hf []
        rw [r4a_true hnm hn hg] at this
        exact this
      · have := r4b awake_true t hnm n hn hq g hg hf []
        rw [r4b_true hnm hq] at this
        exact this
  exact key.imp (.cons i0 (.cons i1 .nil))

set_option maxRecDepth 100000 in
theorem truckChecks_lifted (os : Os) (started : os.Started) (H : Type) (enc : TypeId × Value → H) :
    ReturnsInHanded {} Try.checked os 4 .any (Rows.truckChecksSpec.pre6 enc Try.prog Try.f4 Rows.truckChecksRow.domain false) (Rows.truckChecksSpec.post enc Try.prog Try.f4 false true false false) :=
  lifted (C := Try.checked) 5 own started (by kernel_rfl) Try.func4
    (ChangeSpec.witness6 (enc := enc) (C := Try.checked) false ⟨#[], #[.agg #[.string ByteArray.empty, .int .i64 0, .int .i64 0, .int .i64 0, .int .i64 0, .int .i64 0, .int .i64 0, .int .i64 0], .slice none 0 0], []⟩ 8 (by kernel_rfl) (by kernel_rfl) (by kernel_rfl) (by kernel_rfl))
    rfl (fun ds hd => by
      match ds, hd with
      | [_, _], _ => rfl) (rt := 4) (by kernel_rfl) (by kernel_rfl) laidOut (by kernel_rfl) law4

theorem truckChecks_holds : Rows.TruckChecksSaid :=
  OpenClaim.holds_of_wide 4 Try.f4 rfl rfl rfl rfl rfl rfl rfl ⟨rfl, rfl, rfl, rfl, rfl⟩ rfl rfl rfl rfl rfl (by kernel_rfl) Try.func4 (by kernel_rfl)
    (of_decide_eq_true (by kernel_rfl)) (by unfold Func.isWrapper; first | (rw [if_pos (by decide +kernel)]; kernel_rfl) | (rw [if_neg (by decide +kernel)]; exact ⟨rfl, rfl⟩))
    (fun os started H enc _ => truckChecks_lifted os started H enc)

end Go.Proofs.Ytngpbfocjgikaaa
