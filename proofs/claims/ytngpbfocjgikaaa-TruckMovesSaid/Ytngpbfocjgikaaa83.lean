/- Contracts of the functions and plain laws, part 3. Conditions: none. -/
import Derived.Test.Ytngpbfocjgikaaa82
import Derived.Laws.Externs
import Derived.Laws.BitsAllLaws
import Derived.Laws.MathBits

open Go

namespace Go.Proofs.Ytngpbfocjgikaaa

set_option linter.unusedSimpArgs false

set_option linter.unusedVariables false

set_option maxHeartbeats 0

set_option maxRecDepth 100000

noncomputable def r39.v0 (a : Int) (b : Int) : Int := (bif b == 0 then 0 else r62.v0 (bnot (decide (a < 0) == decide (b < 0))) (IntKind.u64.wrap ((r60.v a).tdiv (r61.v (r60.v a) (r60.v b)))) (IntKind.u64.wrap ((r60.v b).tdiv (r61.v (r60.v a) (r60.v b)))))

noncomputable def r39.v1 (a : Int) (b : Int) : Int := (bif b == 0 then 0 else r62.v1 (IntKind.u64.wrap ((r60.v a).tdiv (r61.v (r60.v a) (r60.v b)))) (IntKind.u64.wrap ((r60.v b).tdiv (r61.v (r60.v a) (r60.v b)))))

noncomputable def r39.v2 (a : Int) (b : Int) : Int := (bif b == 0 then 1 else r62.v2 (IntKind.u64.wrap ((r60.v a).tdiv (r61.v (r60.v a) (r60.v b)))) (IntKind.u64.wrap ((r60.v b).tdiv (r61.v (r60.v a) (r60.v b)))))

noncomputable abbrev r39.h0 (a : Int) (b : Int) : AHeap := ([AObj.var (AV.agg [AV.int IntKind.i64 0, AV.int IntKind.i64 0])])

theorem r39 (a : Int) (b : Int) (ha : -9223372036854775808 ≤ a ∧ a ≤ 9223372036854775807) (hb : -9223372036854775808 ≤ b ∧ b ≤ 9223372036854775807) (h : AHeap) : Ret Try.prog 39 ([AV.int IntKind.i64 a, AV.int IntKind.i64 b]) h (AV.tup [(AV.agg ((AV.int IntKind.i64 (r39.v0 a b)) :: ((AV.int IntKind.i64 (r39.v1 a b)) :: []))), (AV.int IntKind.i64 (r39.v2 a b))]) h := by
  cases h1 : b == 0 with
  | true =>
    have h1p := eq_of_beq h1
    exact Ret.of_run1 mix [(AV.agg ((AV.int IntKind.i64 (r39.v0 a b)) :: ((AV.int IntKind.i64 (r39.v1 a b)) :: []))), (AV.int IntKind.i64 (r39.v2 a b))] Try.func39 rfl [.b true] (by simp) (by simp) (kmp (by kernel_rfl) (And.intro h1 (And.intro (And.intro trivial (show (AV.agg [AV.int IntKind.i64 0, AV.int IntKind.i64 0]) = ((AV.agg ((AV.int IntKind.i64 (r39.v0 a b)) :: ((AV.int IntKind.i64 (r39.v1 a b)) :: [])))) by first | (simp only [r39.v0, r39.v1, r39.v2, h1, cond_true, cond_false]; done) | (try unfold r39.v0; try unfold r39.v1; try unfold r39.v2; try simp only [h1, cond_true, cond_false]; try rfl; done) | rfl)) (And.intro (show (AV.int IntKind.i64 1) = ((AV.int IntKind.i64 (r39.v2 a b))) by first | (simp only [r39.v0, r39.v1, r39.v2, h1, cond_true, cond_false]; done) | (try unfold r39.v0; try unfold r39.v1; try unfold r39.v2; try simp only [h1, cond_true, cond_false]; try rfl; done) | rfl) trivial)))) h
  | false =>
    have h1p := ne_of_beq_false h1
    have o0 : (0 : Int) ≤ r60.v a := by first | assumption | omega | (apply size_0 <;> first | assumption | omega) | (simp_all; done)
    have o1 : (0 : Int) ≤ r60.v b := by first | assumption | omega | (apply size_0 <;> first | assumption | omega) | (simp_all; done)
    have o2 : r61.v (r60.v a) (r60.v b) = (0 : Int) → False := by first | assumption | omega | (apply size_z <;> first | assumption | omega) | (simp_all; done)
    exact Ret.of_run1 mix [(AV.agg ((AV.int IntKind.i64 (r39.v0 a b)) :: ((AV.int IntKind.i64 (r39.v1 a b)) :: []))), (AV.int IntKind.i64 (r39.v2 a b))] Try.func39 rfl [.b false, .ret (AV.int IntKind.u64 (r60.v a)) (r39.h0 a b), .ret (AV.int IntKind.u64 (r60.v b)) (r39.h0 a b), .ret (AV.int IntKind.u64 (r61.v (r60.v a) (r60.v b))) (r39.h0 a b), .ret (AV.tup [AV.agg [AV.int IntKind.i64 (r62.v0 (bnot (decide (a < 0) == decide (b < 0))) (IntKind.u64.wrap ((r60.v a).tdiv (r61.v (r60.v a) (r60.v b)))) (IntKind.u64.wrap ((r60.v b).tdiv (r61.v (r60.v a) (r60.v b))))), AV.int IntKind.i64 (r62.v1 (IntKind.u64.wrap ((r60.v a).tdiv (r61.v (r60.v a) (r60.v b)))) (IntKind.u64.wrap ((r60.v b).tdiv (r61.v (r60.v a) (r60.v b)))))], AV.int IntKind.i64 (r62.v2 (IntKind.u64.wrap ((r60.v a).tdiv (r61.v (r60.v a) (r60.v b)))) (IntKind.u64.wrap ((r60.v b).tdiv (r61.v (r60.v a) (r60.v b)))))]) (r39.h0 a b)] (by simp) (by simp) (kmp (by kernel_rfl) (And.intro h1 (And.intro (r60 (a) (r39.h0 a b)) (And.intro (r60 (b) (r39.h0 a b)) (And.intro (r61 (r60.v a) (r60.v b) o0 o1 (r39.h0 a b)) (And.intro o2 (And.intro o2 (And.intro (r62 (bnot (decide (a < 0) == decide (b < 0))) (IntKind.u64.wrap ((r60.v a).tdiv (r61.v (r60.v a) (r60.v b)))) (IntKind.u64.wrap ((r60.v b).tdiv (r61.v (r60.v a) (r60.v b)))) (r39.h0 a b)) (And.intro (And.intro trivial (show (AV.agg [AV.int IntKind.i64 (r62.v0 (bnot (decide (a < 0) == decide (b < 0))) (IntKind.u64.wrap ((r60.v a).tdiv (r61.v (r60.v a) (r60.v b)))) (IntKind.u64.wrap ((r60.v b).tdiv (r61.v (r60.v a) (r60.v b))))), AV.int IntKind.i64 (r62.v1 (IntKind.u64.wrap ((r60.v a).tdiv (r61.v (r60.v a) (r60.v b)))) (IntKind.u64.wrap ((r60.v b).tdiv (r61.v (r60.v a) (r60.v b)))))]) = ((AV.agg ((AV.int IntKind.i64 (r39.v0 a b)) :: ((AV.int IntKind.i64 (r39.v1 a b)) :: [])))) by first | (simp only [r39.v0, r39.v1, r39.v2, h1, cond_true, cond_false]; done) | (try unfold r39.v0; try unfold r39.v1; try unfold r39.v2; try simp only [h1, cond_true, cond_false]; try rfl; done) | rfl)) (And.intro (show (AV.int IntKind.i64 (r62.v2 (IntKind.u64.wrap ((r60.v a).tdiv (r61.v (r60.v a) (r60.v b)))) (IntKind.u64.wrap ((r60.v b).tdiv (r61.v (r60.v a) (r60.v b)))))) = ((AV.int IntKind.i64 (r39.v2 a b))) by first | (simp only [r39.v0, r39.v1, r39.v2, h1, cond_true, cond_false]; done) | (try unfold r39.v0; try unfold r39.v1; try unfold r39.v2; try simp only [h1, cond_true, cond_false]; try rfl; done) | rfl) trivial)))))))))) h

noncomputable def r24.v0 (t : TD) (n : Nat) (g : Nat → LD) : Int := (bif r18.v t n g == 0 then (bif r39.v2 (IntKind.i64.wrap (IntKind.i64.wrap (t.e1 * r42.v t) + r33.v1 n g t.fr)) (r42.v t) == 0 then (bif r39.v2 (IntKind.i64.wrap (IntKind.i64.wrap (IntKind.i64.wrap (t.e0 + r33.v0 n g t.fr) * r42.v t) - r33.v1 n g t.fr)) (r42.v t) == 0 then r39.v0 (IntKind.i64.wrap (IntKind.i64.wrap (IntKind.i64.wrap (t.e0 + r33.v0 n g t.fr) * r42.v t) - r33.v1 n g t.fr)) (r42.v t) else 0) else 0) else 0)

noncomputable def r24.v1 (t : TD) (n : Nat) (g : Nat → LD) : Int := (bif r18.v t n g == 0 then (bif r39.v2 (IntKind.i64.wrap (IntKind.i64.wrap (t.e1 * r42.v t) + r33.v1 n g t.fr)) (r42.v t) == 0 then (bif r39.v2 (IntKind.i64.wrap (IntKind.i64.wrap (IntKind.i64.wrap (t.e0 + r33.v0 n g t.fr) * r42.v t) - r33.v1 n g t.fr)) (r42.v t) == 0 then r39.v1 (IntKind.i64.wrap (IntKind.i64.wrap (IntKind.i64.wrap (t.e0 + r33.v0 n g t.fr) * r42.v t) - r33.v1 n g t.fr)) (r42.v t) else 0) else 0) else 0)

noncomputable def r24.v2 (t : TD) (n : Nat) (g : Nat → LD) : Int := (bif r18.v t n g == 0 then (bif r39.v2 (IntKind.i64.wrap (IntKind.i64.wrap (t.e1 * r42.v t) + r33.v1 n g t.fr)) (r42.v t) == 0 then (bif r39.v2 (IntKind.i64.wrap (IntKind.i64.wrap (IntKind.i64.wrap (t.e0 + r33.v0 n g t.fr) * r42.v t) - r33.v1 n g t.fr)) (r42.v t) == 0 then r39.v0 (IntKind.i64.wrap (IntKind.i64.wrap (t.e1 * r42.v t) + r33.v1 n g t.fr)) (r42.v t) else 0) else 0) else 0)

noncomputable def r24.v3 (t : TD) (n : Nat) (g : Nat → LD) : Int := (bif r18.v t n g == 0 then (bif r39.v2 (IntKind.i64.wrap (IntKind.i64.wrap (t.e1 * r42.v t) + r33.v1 n g t.fr)) (r42.v t) == 0 then (bif r39.v2 (IntKind.i64.wrap (IntKind.i64.wrap (IntKind.i64.wrap (t.e0 + r33.v0 n g t.fr) * r42.v t) - r33.v1 n g t.fr)) (r42.v t) == 0 then r39.v1 (IntKind.i64.wrap (IntKind.i64.wrap (t.e1 * r42.v t) + r33.v1 n g t.fr)) (r42.v t) else 0) else 0) else 0)

noncomputable def r24.v4 (t : TD) (n : Nat) (g : Nat → LD) : Int := (bif r18.v t n g == 0 then (bif r39.v2 (IntKind.i64.wrap (IntKind.i64.wrap (t.e1 * r42.v t) + r33.v1 n g t.fr)) (r42.v t) == 0 then (bif r39.v2 (IntKind.i64.wrap (IntKind.i64.wrap (IntKind.i64.wrap (t.e0 + r33.v0 n g t.fr) * r42.v t) - r33.v1 n g t.fr)) (r42.v t) == 0 then 0 else r39.v2 (IntKind.i64.wrap (IntKind.i64.wrap (IntKind.i64.wrap (t.e0 + r33.v0 n g t.fr) * r42.v t) - r33.v1 n g t.fr)) (r42.v t)) else r39.v2 (IntKind.i64.wrap (IntKind.i64.wrap (t.e1 * r42.v t) + r33.v1 n g t.fr)) (r42.v t)) else r18.v t n g)

noncomputable abbrev r24.h0 (t : TD) (n : Nat) (g : Nat → LD) : AHeap := ([AObj.var (AV.agg [AV.str t.nm, AV.int IntKind.i64 t.tl, AV.int IntKind.i64 t.fr, AV.int IntKind.i64 t.re, AV.int IntKind.i64 t.l0, AV.int IntKind.i64 t.l1, AV.int IntKind.i64 t.e0, AV.int IntKind.i64 t.e1]), AObj.var (AV.agg [AV.int IntKind.i64 0, AV.int IntKind.i64 0, AV.int IntKind.i64 0, AV.int IntKind.i64 0])])

noncomputable abbrev r24.h1 (t : TD) (n : Nat) (g : Nat → LD) : AHeap := ([AObj.var (AV.agg [AV.str t.nm, AV.int IntKind.i64 t.tl, AV.int IntKind.i64 t.fr, AV.int IntKind.i64 t.re, AV.int IntKind.i64 t.l0, AV.int IntKind.i64 t.l1, AV.int IntKind.i64 t.e0, AV.int IntKind.i64 t.e1]), AObj.var (AV.agg [AV.int IntKind.i64 0, AV.int IntKind.i64 0, AV.int IntKind.i64 0, AV.int IntKind.i64 0]), AObj.var (AV.agg [AV.int IntKind.i64 (r39.v0 (IntKind.i64.wrap (IntKind.i64.wrap (t.e1 * r42.v t) + r33.v1 n g t.fr)) (r42.v t)), AV.int IntKind.i64 (r39.v1 (IntKind.i64.wrap (IntKind.i64.wrap (t.e1 * r42.v t) + r33.v1 n g t.fr)) (r42.v t))])])

theorem r24 (t : TD) (hnm : t.nm.size ≤ 9223372036854775807) (n : Nat) (hn : n ≤ 12) (g : Nat → LD) (hg : ∀ (i : Nat), (g i).nm.size ≤ 9223372036854775807) (h : AHeap) : Ret Try.prog 24 ([t.av, lds n g]) h (AV.tup [(AV.agg ((AV.int IntKind.i64 (r24.v0 t n g)) :: ((AV.int IntKind.i64 (r24.v1 t n g)) :: ((AV.int IntKind.i64 (r24.v2 t n g)) :: ((AV.int IntKind.i64 (r24.v3 t n g)) :: []))))), (AV.int IntKind.i64 (r24.v4 t n g))]) h := by
  have o0 : t.nm.size ≤ (9223372036854775807 : Nat) := by first | assumption | omega | (exact hg _) | (exact hg _ (by omega)) | (simp_all; done)
  have o1 : n ≤ (12 : Nat) := by first | assumption | omega | (exact hg _) | (exact hg _ (by omega)) | (simp_all; done)
  have o2 : ∀ (i : Nat), (g i).nm.size ≤ (9223372036854775807 : Nat) := by first | assumption | omega | (exact hg _) | (exact hg _ (by omega)) | (simp_all; done)
  cases h1 : r18.v t n g == 0 with
  | true =>
    have h1p := eq_of_beq h1
    have o3 : n ≤ (9223372036854775807 : Nat) := by first | assumption | omega | (exact hg _) | (exact hg _ (by omega)) | (simp_all; done)
    try have := IntWalk.i64_in (t.e1 * r42.v t) (by omega)
    try have := IntWalk.i64_in (IntKind.i64.wrap (t.e1 * r42.v t) + r33.v1 n g t.fr) (by omega)
    have o4 : (-9223372036854775808 : Int) ≤ IntKind.i64.wrap (IntKind.i64.wrap (t.e1 * r42.v t) + r33.v1 n g t.fr) := by first | assumption | omega | (apply wr_lo <;> first | assumption | omega) | (exact hg _) | (exact hg _ (by omega)) | (simp_all; done)
    have o5 : IntKind.i64.wrap (IntKind.i64.wrap (t.e1 * r42.v t) + r33.v1 n g t.fr) ≤ (9223372036854775807 : Int) := by first | assumption | omega | (apply wr_hi <;> first | assumption | omega) | (exact hg _) | (exact hg _ (by omega)) | (simp_all; done)
    have o6 : (-9223372036854775808 : Int) ≤ r42.v t := by first | assumption | omega | (apply sp_lo <;> first | assumption | omega) | (exact hg _) | (exact hg _ (by omega)) | (simp_all; done)
    have o7 : r42.v t ≤ (9223372036854775807 : Int) := by first | assumption | omega | (apply sp_hi <;> first | assumption | omega) | (exact hg _) | (exact hg _ (by omega)) | (simp_all; done)
    cases h2 : r39.v2 (IntKind.i64.wrap (IntKind.i64.wrap (t.e1 * r42.v t) + r33.v1 n g t.fr)) (r42.v t) == 0 with
    | true =>
      have h2p := eq_of_beq h2
      try have := IntWalk.i64_in (t.e0 + r33.v0 n g t.fr) (by omega)
      try have := IntWalk.i64_in (IntKind.i64.wrap (t.e0 + r33.v0 n g t.fr) * r42.v t) (by omega)
      try have := IntWalk.i64_in (IntKind.i64.wrap (IntKind.i64.wrap (t.e0 + r33.v0 n g t.fr) * r42.v t) - r33.v1 n g t.fr) (by omega)
      have o8 : (-9223372036854775808 : Int) ≤ IntKind.i64.wrap (IntKind.i64.wrap (IntKind.i64.wrap (t.e0 + r33.v0 n g t.fr) * r42.v t) - r33.v1 n g t.fr) := by first | assumption | omega | (apply wr_lo <;> first | assumption | omega) | (exact hg _) | (exact hg _ (by omega)) | (simp_all; done)
      have o9 : IntKind.i64.wrap (IntKind.i64.wrap (IntKind.i64.wrap (t.e0 + r33.v0 n g t.fr) * r42.v t) - r33.v1 n g t.fr) ≤ (9223372036854775807 : Int) := by first | assumption | omega | (apply wr_hi <;> first | assumption | omega) | (exact hg _) | (exact hg _ (by omega)) | (simp_all; done)
      cases h3 : r39.v2 (IntKind.i64.wrap (IntKind.i64.wrap (IntKind.i64.wrap (t.e0 + r33.v0 n g t.fr) * r42.v t) - r33.v1 n g t.fr)) (r42.v t) == 0 with
      | true =>
        have h3p := eq_of_beq h3
        exact Ret.of_run1 mix [(AV.agg ((AV.int IntKind.i64 (r24.v0 t n g)) :: ((AV.int IntKind.i64 (r24.v1 t n g)) :: ((AV.int IntKind.i64 (r24.v2 t n g)) :: ((AV.int IntKind.i64 (r24.v3 t n g)) :: []))))), (AV.int IntKind.i64 (r24.v4 t n g))] Try.func24 rfl [.ret (AV.int IntKind.i64 (r18.v t n g)) (r24.h0 t n g), .b false, .ret (AV.tup [AV.int IntKind.i64 (r33.v0 n g t.fr), AV.int IntKind.i64 (r33.v1 n g t.fr)]) (r24.h0 t n g), .ret (AV.int IntKind.i64 (r42.v t)) (r24.h0 t n g), .ret (AV.int IntKind.i64 (r42.v t)) (r24.h0 t n g), .ret (AV.tup [AV.agg [AV.int IntKind.i64 (r39.v0 (IntKind.i64.wrap (IntKind.i64.wrap (t.e1 * r42.v t) + r33.v1 n g t.fr)) (r42.v t)), AV.int IntKind.i64 (r39.v1 (IntKind.i64.wrap (IntKind.i64.wrap (t.e1 * r42.v t) + r33.v1 n g t.fr)) (r42.v t))], AV.int IntKind.i64 (r39.v2 (IntKind.i64.wrap (IntKind.i64.wrap (t.e1 * r42.v t) + r33.v1 n g t.fr)) (r42.v t))]) (r24.h0 t n g), .b false, .ret (AV.int IntKind.i64 (r42.v t)) (r24.h1 t n g), .ret (AV.int IntKind.i64 (r42.v t)) (r24.h1 t n g), .ret (AV.tup [AV.agg [AV.int IntKind.i64 (r39.v0 (IntKind.i64.wrap (IntKind.i64.wrap (IntKind.i64.wrap (t.e0 + r33.v0 n g t.fr) * r42.v t) - r33.v1 n g t.fr)) (r42.v t)), AV.int IntKind.i64 (r39.v1 (IntKind.i64.wrap (IntKind.i64.wrap (IntKind.i64.wrap (t.e0 + r33.v0 n g t.fr) * r42.v t) - r33.v1 n g t.fr)) (r42.v t))], AV.int IntKind.i64 (r39.v2 (IntKind.i64.wrap (IntKind.i64.wrap (IntKind.i64.wrap (t.e0 + r33.v0 n g t.fr) * r42.v t) - r33.v1 n g t.fr)) (r42.v t))]) (r24.h1 t n g), .b false] (by simp) (by simp) (kmp (by kernel_rfl) (And.intro (r18 (t) o0 (n) o1 (g) o2 (r24.h0 t n g)) (And.intro (show (bnot (r18.v t n g == 0)) = false by rw [h1]; try rfl) (And.intro (r33 (n) (g) o3 (t.fr) (r24.h0 t n g)) (And.intro (And.intro (show (0 : Int) ≤ (1 : Int) by first | decide | exact Int.NonNeg.mk _) (show (1 : Int) < (2 : Int) by first | decide | exact Int.NonNeg.mk _)) (And.intro (r42 (t) (r24.h0 t n g)) (And.intro (PRet.mk (r42 (t) ([])) (by simp)) (And.intro (r42 (t) (r24.h0 t n g)) (And.intro (PRet.mk (r42 (t) ([])) (by simp)) (And.intro (r39 (IntKind.i64.wrap (IntKind.i64.wrap (t.e1 * r42.v t) + r33.v1 n g t.fr)) (r42.v t) (And.intro o4 o5) (And.intro o6 o7) (r24.h0 t n g)) (And.intro (PRet.mk (r39 (IntKind.i64.wrap (IntKind.i64.wrap (t.e1 * r42.v t) + r33.v1 n g t.fr)) (r42.v t) (And.intro o4 o5) (And.intro o6 o7) ([])) (by simp)) (And.intro (show (bnot (r39.v2 (IntKind.i64.wrap (IntKind.i64.wrap (t.e1 * r42.v t) + r33.v1 n g t.fr)) (r42.v t) == 0)) = false by rw [h2]; try rfl) (And.intro (And.intro (show (0 : Int) ≤ (0 : Int) by first | decide | exact Int.NonNeg.mk _) (show (0 : Int) < (2 : Int) by first | decide | exact Int.NonNeg.mk _)) (And.intro (r42 (t) (r24.h1 t n g)) (And.intro (PRet.mk (r42 (t) ([])) (by simp)) (And.intro (r42 (t) (r24.h1 t n g)) (And.intro (PRet.mk (r42 (t) ([])) (by simp)) (And.intro (r39 (IntKind.i64.wrap (IntKind.i64.wrap (IntKind.i64.wrap (t.e0 + r33.v0 n g t.fr) * r42.v t) - r33.v1 n g t.fr)) (r42.v t) (And.intro o8 o9) (And.intro o6 o7) (r24.h1 t n g)) (And.intro (PRet.mk (r39 (IntKind.i64.wrap (IntKind.i64.wrap (IntKind.i64.wrap (t.e0 + r33.v0 n g t.fr) * r42.v t) - r33.v1 n g t.fr)) (r42.v t) (And.intro o8 o9) (And.intro o6 o7) ([])) (by simp)) (And.intro (show (bnot (r39.v2 (IntKind.i64.wrap (IntKind.i64.wrap (IntKind.i64.wrap (t.e0 + r33.v0 n g t.fr) * r42.v t) - r33.v1 n g t.fr)) (r42.v t) == 0)) = false by rw [h3]; try rfl) (And.intro (And.intro trivial (show (AV.agg [AV.int IntKind.i64 (r39.v0 (IntKind.i64.wrap (IntKind.i64.wrap (IntKind.i64.wrap (t.e0 + r33.v0 n g t.fr) * r42.v t) - r33.v1 n g t.fr)) (r42.v t)), AV.int IntKind.i64 (r39.v1 (IntKind.i64.wrap (IntKind.i64.wrap (IntKind.i64.wrap (t.e0 + r33.v0 n g t.fr) * r42.v t) - r33.v1 n g t.fr)) (r42.v t)), AV.int IntKind.i64 (r39.v0 (IntKind.i64.wrap (IntKind.i64.wrap (t.e1 * r42.v t) + r33.v1 n g t.fr)) (r42.v t)), AV.int IntKind.i64 (r39.v1 (IntKind.i64.wrap (IntKind.i64.wrap (t.e1 * r42.v t) + r33.v1 n g t.fr)) (r42.v t))]) = ((AV.agg ((AV.int IntKind.i64 (r24.v0 t n g)) :: ((AV.int IntKind.i64 (r24.v1 t n g)) :: ((AV.int IntKind.i64 (r24.v2 t n g)) :: ((AV.int IntKind.i64 (r24.v3 t n g)) :: [])))))) by first | (simp only [r24.v0, r24.v1, r24.v2, r24.v3, r24.v4, h1, h2, h3, cond_true, cond_false]; done) | (try unfold r24.v0; try unfold r24.v1; try unfold r24.v2; try unfold r24.v3; try unfold r24.v4; try simp only [h1, cond_true, cond_false]; try simp only [h2, cond_true, cond_false]; try simp only [h3, cond_true, cond_false]; try rfl; done) | rfl)) (And.intro (show (AV.int IntKind.i64 0) = ((AV.int IntKind.i64 (r24.v4 t n g))) by first | (simp only [r24.v0, r24.v1, r24.v2, r24.v3, r24.v4, h1, h2, h3, cond_true, cond_false]; done) | (try unfold r24.v0; try unfold r24.v1; try unfold r24.v2; try unfold r24.v3; try unfold r24.v4; try simp only [h1, cond_true, cond_false]; try simp only [h2, cond_true, cond_false]; try simp only [h3, cond_true, cond_false]; try rfl; done) | rfl) trivial)))))))))))))))))))))) h
      | false =>
        have h3p := ne_of_beq_false h3
        exact Ret.of_run1 mix [(AV.agg ((AV.int IntKind.i64 (r24.v0 t n g)) :: ((AV.int IntKind.i64 (r24.v1 t n g)) :: ((AV.int IntKind.i64 (r24.v2 t n g)) :: ((AV.int IntKind.i64 (r24.v3 t n g)) :: []))))), (AV.int IntKind.i64 (r24.v4 t n g))] Try.func24 rfl [.ret (AV.int IntKind.i64 (r18.v t n g)) (r24.h0 t n g), .b false, .ret (AV.tup [AV.int IntKind.i64 (r33.v0 n g t.fr), AV.int IntKind.i64 (r33.v1 n g t.fr)]) (r24.h0 t n g), .ret (AV.int IntKind.i64 (r42.v t)) (r24.h0 t n g), .ret (AV.int IntKind.i64 (r42.v t)) (r24.h0 t n g), .ret (AV.tup [AV.agg [AV.int IntKind.i64 (r39.v0 (IntKind.i64.wrap (IntKind.i64.wrap (t.e1 * r42.v t) + r33.v1 n g t.fr)) (r42.v t)), AV.int IntKind.i64 (r39.v1 (IntKind.i64.wrap (IntKind.i64.wrap (t.e1 * r42.v t) + r33.v1 n g t.fr)) (r42.v t))], AV.int IntKind.i64 (r39.v2 (IntKind.i64.wrap (IntKind.i64.wrap (t.e1 * r42.v t) + r33.v1 n g t.fr)) (r42.v t))]) (r24.h0 t n g), .b false, .ret (AV.int IntKind.i64 (r42.v t)) (r24.h1 t n g), .ret (AV.int IntKind.i64 (r42.v t)) (r24.h1 t n g), .ret (AV.tup [AV.agg [AV.int IntKind.i64 (r39.v0 (IntKind.i64.wrap (IntKind.i64.wrap (IntKind.i64.wrap (t.e0 + r33.v0 n g t.fr) * r42.v t) - r33.v1 n g t.fr)) (r42.v t)), AV.int IntKind.i64 (r39.v1 (IntKind.i64.wrap (IntKind.i64.wrap (IntKind.i64.wrap (t.e0 + r33.v0 n g t.fr) * r42.v t) - r33.v1 n g t.fr)) (r42.v t))], AV.int IntKind.i64 (r39.v2 (IntKind.i64.wrap (IntKind.i64.wrap (IntKind.i64.wrap (t.e0 + r33.v0 n g t.fr) * r42.v t) - r33.v1 n g t.fr)) (r42.v t))]) (r24.h1 t n g), .b true] (by simp) (by simp) (kmp (by kernel_rfl) (And.intro (r18 (t) o0 (n) o1 (g) o2 (r24.h0 t n g)) (And.intro (show (bnot (r18.v t n g == 0)) = false by rw [h1]; try rfl) (And.intro (r33 (n) (g) o3 (t.fr) (r24.h0 t n g)) (And.intro (And.intro (show (0 : Int) ≤ (1 : Int) by first | decide | exact Int.NonNeg.mk _) (show (1 : Int) < (2 : Int) by first | decide | exact Int.NonNeg.mk _)) (And.intro (r42 (t) (r24.h0 t n g)) (And.intro (PRet.mk (r42 (t) ([])) (by simp)) (And.intro (r42 (t) (r24.h0 t n g)) (And.intro (PRet.mk (r42 (t) ([])) (by simp)) (And.intro (r39 (IntKind.i64.wrap (IntKind.i64.wrap (t.e1 * r42.v t) + r33.v1 n g t.fr)) (r42.v t) (And.intro o4 o5) (And.intro o6 o7) (r24.h0 t n g)) (And.intro (PRet.mk (r39 (IntKind.i64.wrap (IntKind.i64.wrap (t.e1 * r42.v t) + r33.v1 n g t.fr)) (r42.v t) (And.intro o4 o5) (And.intro o6 o7) ([])) (by simp)) (And.intro (show (bnot (r39.v2 (IntKind.i64.wrap (IntKind.i64.wrap (t.e1 * r42.v t) + r33.v1 n g t.fr)) (r42.v t) == 0)) = false by rw [h2]; try rfl) (And.intro (And.intro (show (0 : Int) ≤ (0 : Int) by first | decide | exact Int.NonNeg.mk _) (show (0 : Int) < (2 : Int) by first | decide | exact Int.NonNeg.mk _)) (And.intro (r42 (t) (r24.h1 t n g)) (And.intro (PRet.mk (r42 (t) ([])) (by simp)) (And.intro (r42 (t) (r24.h1 t n g)) (And.intro (PRet.mk (r42 (t) ([])) (by simp)) (And.intro (r39 (IntKind.i64.wrap (IntKind.i64.wrap (IntKind.i64.wrap (t.e0 + r33.v0 n g t.fr) * r42.v t) - r33.v1 n g t.fr)) (r42.v t) (And.intro o8 o9) (And.intro o6 o7) (r24.h1 t n g)) (And.intro (PRet.mk (r39 (IntKind.i64.wrap (IntKind.i64.wrap (IntKind.i64.wrap (t.e0 + r33.v0 n g t.fr) * r42.v t) - r33.v1 n g t.fr)) (r42.v t) (And.intro o8 o9) (And.intro o6 o7) ([])) (by simp)) (And.intro (show (bnot (r39.v2 (IntKind.i64.wrap (IntKind.i64.wrap (IntKind.i64.wrap (t.e0 + r33.v0 n g t.fr) * r42.v t) - r33.v1 n g t.fr)) (r42.v t) == 0)) = true by rw [h3]; try rfl) (And.intro (And.intro trivial (show (AV.agg [AV.int IntKind.i64 0, AV.int IntKind.i64 0, AV.int IntKind.i64 0, AV.int IntKind.i64 0]) = ((AV.agg ((AV.int IntKind.i64 (r24.v0 t n g)) :: ((AV.int IntKind.i64 (r24.v1 t n g)) :: ((AV.int IntKind.i64 (r24.v2 t n g)) :: ((AV.int IntKind.i64 (r24.v3 t n g)) :: [])))))) by first | (simp only [r24.v0, r24.v1, r24.v2, r24.v3, r24.v4, h1, h2, h3, cond_true, cond_false]; done) | (try unfold r24.v0; try unfold r24.v1; try unfold r24.v2; try unfold r24.v3; try unfold r24.v4; try simp only [h1, cond_true, cond_false]; try simp only [h2, cond_true, cond_false]; try simp only [h3, cond_true, cond_false]; try rfl; done) | rfl)) (And.intro (show (AV.int IntKind.i64 (r39.v2 (IntKind.i64.wrap (IntKind.i64.wrap (IntKind.i64.wrap (t.e0 + r33.v0 n g t.fr) * r42.v t) - r33.v1 n g t.fr)) (r42.v t))) = ((AV.int IntKind.i64 (r24.v4 t n g))) by first | (simp only [r24.v0, r24.v1, r24.v2, r24.v3, r24.v4, h1, h2, h3, cond_true, cond_false]; done) | (try unfold r24.v0; try unfold r24.v1; try unfold r24.v2; try unfold r24.v3; try unfold r24.v4; try simp only [h1, cond_true, cond_false]; try simp only [h2, cond_true, cond_false]; try simp only [h3, cond_true, cond_false]; try rfl; done) | rfl) trivial)))))))))))))))))))))) h
    | false =>
      have h2p := ne_of_beq_false h2
      exact Ret.of_run1 mix [(AV.agg ((AV.int IntKind.i64 (r24.v0 t n g)) :: ((AV.int IntKind.i64 (r24.v1 t n g)) :: ((AV.int IntKind.i64 (r24.v2 t n g)) :: ((AV.int IntKind.i64 (r24.v3 t n g)) :: []))))), (AV.int IntKind.i64 (r24.v4 t n g))] Try.func24 rfl [.ret (AV.int IntKind.i64 (r18.v t n g)) (r24.h0 t n g), .b false, .ret (AV.tup [AV.int IntKind.i64 (r33.v0 n g t.fr), AV.int IntKind.i64 (r33.v1 n g t.fr)]) (r24.h0 t n g), .ret (AV.int IntKind.i64 (r42.v t)) (r24.h0 t n g), .ret (AV.int IntKind.i64 (r42.v t)) (r24.h0 t n g), .ret (AV.tup [AV.agg [AV.int IntKind.i64 (r39.v0 (IntKind.i64.wrap (IntKind.i64.wrap (t.e1 * r42.v t) + r33.v1 n g t.fr)) (r42.v t)), AV.int IntKind.i64 (r39.v1 (IntKind.i64.wrap (IntKind.i64.wrap (t.e1 * r42.v t) + r33.v1 n g t.fr)) (r42.v t))], AV.int IntKind.i64 (r39.v2 (IntKind.i64.wrap (IntKind.i64.wrap (t.e1 * r42.v t) + r33.v1 n g t.fr)) (r42.v t))]) (r24.h0 t n g), .b true] (by simp) (by simp) (kmp (by kernel_rfl) (And.intro (r18 (t) o0 (n) o1 (g) o2 (r24.h0 t n g)) (And.intro (show (bnot (r18.v t n g == 0)) = false by rw [h1]; try rfl) (And.intro (r33 (n) (g) o3 (t.fr) (r24.h0 t n g)) (And.intro (And.intro (show (0 : Int) ≤ (1 : Int) by first | decide | exact Int.NonNeg.mk _) (show (1 : Int) < (2 : Int) by first | decide | exact Int.NonNeg.mk _)) (And.intro (r42 (t) (r24.h0 t n g)) (And.intro (PRet.mk (r42 (t) ([])) (by simp)) (And.intro (r42 (t) (r24.h0 t n g)) (And.intro (PRet.mk (r42 (t) ([])) (by simp)) (And.intro (r39 (IntKind.i64.wrap (IntKind.i64.wrap (t.e1 * r42.v t) + r33.v1 n g t.fr)) (r42.v t) (And.intro o4 o5) (And.intro o6 o7) (r24.h0 t n g)) (And.intro (PRet.mk (r39 (IntKind.i64.wrap (IntKind.i64.wrap (t.e1 * r42.v t) + r33.v1 n g t.fr)) (r42.v t) (And.intro o4 o5) (And.intro o6 o7) ([])) (by simp)) (And.intro (show (bnot (r39.v2 (IntKind.i64.wrap (IntKind.i64.wrap (t.e1 * r42.v t) + r33.v1 n g t.fr)) (r42.v t) == 0)) = true by rw [h2]; try rfl) (And.intro (And.intro trivial (show (AV.agg [AV.int IntKind.i64 0, AV.int IntKind.i64 0, AV.int IntKind.i64 0, AV.int IntKind.i64 0]) = ((AV.agg ((AV.int IntKind.i64 (r24.v0 t n g)) :: ((AV.int IntKind.i64 (r24.v1 t n g)) :: ((AV.int IntKind.i64 (r24.v2 t n g)) :: ((AV.int IntKind.i64 (r24.v3 t n g)) :: [])))))) by first | (simp only [r24.v0, r24.v1, r24.v2, r24.v3, r24.v4, h1, h2, cond_true, cond_false]; done) | (try unfold r24.v0; try unfold r24.v1; try unfold r24.v2; try unfold r24.v3; try unfold r24.v4; try simp only [h1, cond_true, cond_false]; try simp only [h2, cond_true, cond_false]; try rfl; done) | rfl)) (And.intro (show (AV.int IntKind.i64 (r39.v2 (IntKind.i64.wrap (IntKind.i64.wrap (t.e1 * r42.v t) + r33.v1 n g t.fr)) (r42.v t))) = ((AV.int IntKind.i64 (r24.v4 t n g))) by first | (simp only [r24.v0, r24.v1, r24.v2, r24.v3, r24.v4, h1, h2, cond_true, cond_false]; done) | (try unfold r24.v0; try unfold r24.v1; try unfold r24.v2; try unfold r24.v3; try unfold r24.v4; try simp only [h1, cond_true, cond_false]; try simp only [h2, cond_true, cond_false]; try rfl; done) | rfl) trivial)))))))))))))) h
  | false =>
    have h1p := ne_of_beq_false h1
    exact Ret.of_run1 mix [(AV.agg ((AV.int IntKind.i64 (r24.v0 t n g)) :: ((AV.int IntKind.i64 (r24.v1 t n g)) :: ((AV.int IntKind.i64 (r24.v2 t n g)) :: ((AV.int IntKind.i64 (r24.v3 t n g)) :: []))))), (AV.int IntKind.i64 (r24.v4 t n g))] Try.func24 rfl [.ret (AV.int IntKind.i64 (r18.v t n g)) (r24.h0 t n g), .b true] (by simp) (by simp) (kmp (by kernel_rfl) (And.intro (r18 (t) o0 (n) o1 (g) o2 (r24.h0 t n g)) (And.intro (show (bnot (r18.v t n g == 0)) = true by rw [h1]; try rfl) (And.intro (And.intro trivial (show (AV.agg [AV.int IntKind.i64 0, AV.int IntKind.i64 0, AV.int IntKind.i64 0, AV.int IntKind.i64 0]) = ((AV.agg ((AV.int IntKind.i64 (r24.v0 t n g)) :: ((AV.int IntKind.i64 (r24.v1 t n g)) :: ((AV.int IntKind.i64 (r24.v2 t n g)) :: ((AV.int IntKind.i64 (r24.v3 t n g)) :: [])))))) by first | (simp only [r24.v0, r24.v1, r24.v2, r24.v3, r24.v4, h1, cond_true, cond_false]; done) | (try unfold r24.v0; try unfold r24.v1; try unfold r24.v2; try unfold r24.v3; try unfold r24.v4; try simp only [h1, cond_true, cond_false]; try rfl; done) | rfl)) (And.intro (show (AV.int IntKind.i64 (r18.v t n g)) = ((AV.int IntKind.i64 (r24.v4 t n g))) by first | (simp only [r24.v0, r24.v1, r24.v2, r24.v3, r24.v4, h1, cond_true, cond_false]; done) | (try unfold r24.v0; try unfold r24.v1; try unfold r24.v2; try unfold r24.v3; try unfold r24.v4; try simp only [h1, cond_true, cond_false]; try rfl; done) | rfl) trivial))))) h

noncomputable def r24m.v0 (t : TD) (n : Nat) (g : Nat → LD) : Int := (bif r18m.v t == 0 then (bif r39.v2 (IntKind.i64.wrap (IntKind.i64.wrap (t.e1 * r42.v t) + r33.v1 n g t.fr)) (r42.v t) == 0 then (bif r39.v2 (IntKind.i64.wrap (IntKind.i64.wrap (IntKind.i64.wrap (t.e0 + r33.v0 n g t.fr) * r42.v t) - r33.v1 n g t.fr)) (r42.v t) == 0 then r39.v0 (IntKind.i64.wrap (IntKind.i64.wrap (IntKind.i64.wrap (t.e0 + r33.v0 n g t.fr) * r42.v t) - r33.v1 n g t.fr)) (r42.v t) else 0) else 0) else 0)

noncomputable def r24m.v1 (t : TD) (n : Nat) (g : Nat → LD) : Int := (bif r18m.v t == 0 then (bif r39.v2 (IntKind.i64.wrap (IntKind.i64.wrap (t.e1 * r42.v t) + r33.v1 n g t.fr)) (r42.v t) == 0 then (bif r39.v2 (IntKind.i64.wrap (IntKind.i64.wrap (IntKind.i64.wrap (t.e0 + r33.v0 n g t.fr) * r42.v t) - r33.v1 n g t.fr)) (r42.v t) == 0 then r39.v1 (IntKind.i64.wrap (IntKind.i64.wrap (IntKind.i64.wrap (t.e0 + r33.v0 n g t.fr) * r42.v t) - r33.v1 n g t.fr)) (r42.v t) else 0) else 0) else 0)

noncomputable def r24m.v2 (t : TD) (n : Nat) (g : Nat → LD) : Int := (bif r18m.v t == 0 then (bif r39.v2 (IntKind.i64.wrap (IntKind.i64.wrap (t.e1 * r42.v t) + r33.v1 n g t.fr)) (r42.v t) == 0 then (bif r39.v2 (IntKind.i64.wrap (IntKind.i64.wrap (IntKind.i64.wrap (t.e0 + r33.v0 n g t.fr) * r42.v t) - r33.v1 n g t.fr)) (r42.v t) == 0 then r39.v0 (IntKind.i64.wrap (IntKind.i64.wrap (t.e1 * r42.v t) + r33.v1 n g t.fr)) (r42.v t) else 0) else 0) else 0)

noncomputable def r24m.v3 (t : TD) (n : Nat) (g : Nat → LD) : Int := (bif r18m.v t == 0 then (bif r39.v2 (IntKind.i64.wrap (IntKind.i64.wrap (t.e1 * r42.v t) + r33.v1 n g t.fr)) (r42.v t) == 0 then (bif r39.v2 (IntKind.i64.wrap (IntKind.i64.wrap (IntKind.i64.wrap (t.e0 + r33.v0 n g t.fr) * r42.v t) - r33.v1 n g t.fr)) (r42.v t) == 0 then r39.v1 (IntKind.i64.wrap (IntKind.i64.wrap (t.e1 * r42.v t) + r33.v1 n g t.fr)) (r42.v t) else 0) else 0) else 0)

noncomputable def r24m.v4 (t : TD) (n : Nat) (g : Nat → LD) : Int := (bif r18m.v t == 0 then (bif r39.v2 (IntKind.i64.wrap (IntKind.i64.wrap (t.e1 * r42.v t) + r33.v1 n g t.fr)) (r42.v t) == 0 then (bif r39.v2 (IntKind.i64.wrap (IntKind.i64.wrap (IntKind.i64.wrap (t.e0 + r33.v0 n g t.fr) * r42.v t) - r33.v1 n g t.fr)) (r42.v t) == 0 then 0 else r39.v2 (IntKind.i64.wrap (IntKind.i64.wrap (IntKind.i64.wrap (t.e0 + r33.v0 n g t.fr) * r42.v t) - r33.v1 n g t.fr)) (r42.v t)) else r39.v2 (IntKind.i64.wrap (IntKind.i64.wrap (t.e1 * r42.v t) + r33.v1 n g t.fr)) (r42.v t)) else r18m.v t)

noncomputable abbrev r24m.h0 (t : TD) (n : Nat) (g : Nat → LD) : AHeap := ([AObj.var (AV.agg [AV.str t.nm, AV.int IntKind.i64 t.tl, AV.int IntKind.i64 t.fr, AV.int IntKind.i64 t.re, AV.int IntKind.i64 t.l0, AV.int IntKind.i64 t.l1, AV.int IntKind.i64 t.e0, AV.int IntKind.i64 t.e1]), AObj.var (AV.agg [AV.int IntKind.i64 0, AV.int IntKind.i64 0, AV.int IntKind.i64 0, AV.int IntKind.i64 0])])

noncomputable abbrev r24m.h1 (t : TD) (n : Nat) (g : Nat → LD) : AHeap := ([AObj.var (AV.agg [AV.str t.nm, AV.int IntKind.i64 t.tl, AV.int IntKind.i64 t.fr, AV.int IntKind.i64 t.re, AV.int IntKind.i64 t.l0, AV.int IntKind.i64 t.l1, AV.int IntKind.i64 t.e0, AV.int IntKind.i64 t.e1]), AObj.var (AV.agg [AV.int IntKind.i64 0, AV.int IntKind.i64 0, AV.int IntKind.i64 0, AV.int IntKind.i64 0]), AObj.var (AV.agg [AV.int IntKind.i64 (r39.v0 (IntKind.i64.wrap (IntKind.i64.wrap (t.e1 * r42.v t) + r33.v1 n g t.fr)) (r42.v t)), AV.int IntKind.i64 (r39.v1 (IntKind.i64.wrap (IntKind.i64.wrap (t.e1 * r42.v t) + r33.v1 n g t.fr)) (r42.v t))])])

theorem r24m (t : TD) (hnm : t.nm.size ≤ 9223372036854775807) (n : Nat) (hn : n ≤ 9223372036854775807) (hq : decide ((↑n : Int) > 64) = true) (g : Nat → LD) (h : AHeap) : Ret Try.prog 24 ([t.av, lds n g]) h (AV.tup [(AV.agg ((AV.int IntKind.i64 (r24m.v0 t n g)) :: ((AV.int IntKind.i64 (r24m.v1 t n g)) :: ((AV.int IntKind.i64 (r24m.v2 t n g)) :: ((AV.int IntKind.i64 (r24m.v3 t n g)) :: []))))), (AV.int IntKind.i64 (r24m.v4 t n g))]) h := by
  have o0 : t.nm.size ≤ (9223372036854775807 : Nat) := by first | assumption | omega | (simp_all; done)
  have o1 : n ≤ (9223372036854775807 : Nat) := by first | assumption | omega | (simp_all; done)
  have o2 : decide ((↑n : Int) > (64 : Int)) = true := by first | assumption | omega | (simp_all; done)
  cases h1 : r18m.v t == 0 with
  | true =>
    have h1p := eq_of_beq h1
    try have := IntWalk.i64_in (t.e1 * r42.v t) (by omega)
    try have := IntWalk.i64_in (IntKind.i64.wrap (t.e1 * r42.v t) + r33.v1 n g t.fr) (by omega)
    have o3 : (-9223372036854775808 : Int) ≤ IntKind.i64.wrap (IntKind.i64.wrap (t.e1 * r42.v t) + r33.v1 n g t.fr) := by first | assumption | omega | (apply wr_lo <;> first | assumption | omega) | (simp_all; done)
    have o4 : IntKind.i64.wrap (IntKind.i64.wrap (t.e1 * r42.v t) + r33.v1 n g t.fr) ≤ (9223372036854775807 : Int) := by first | assumption | omega | (apply wr_hi <;> first | assumption | omega) | (simp_all; done)
    have o5 : (-9223372036854775808 : Int) ≤ r42.v t := by first | assumption | omega | (apply sp_lo <;> first | assumption | omega) | (simp_all; done)
    have o6 : r42.v t ≤ (9223372036854775807 : Int) := by first | assumption | omega | (apply sp_hi <;> first | assumption | omega) | (simp_all; done)
    cases h2 : r39.v2 (IntKind.i64.wrap (IntKind.i64.wrap (t.e1 * r42.v t) + r33.v1 n g t.fr)) (r42.v t) == 0 with
    | true =>
      have h2p := eq_of_beq h2
      try have := IntWalk.i64_in (t.e0 + r33.v0 n g t.fr) (by omega)
      try have := IntWalk.i64_in (IntKind.i64.wrap (t.e0 + r33.v0 n g t.fr) * r42.v t) (by omega)
      try have := IntWalk.i64_in (IntKind.i64.wrap (IntKind.i64.wrap (t.e0 + r33.v0 n g t.fr) * r42.v t) - r33.v1 n g t.fr) (by omega)
      have o7 : (-9223372036854775808 : Int) ≤ IntKind.i64.wrap (IntKind.i64.wrap (IntKind.i64.wrap (t.e0 + r33.v0 n g t.fr) * r42.v t) - r33.v1 n g t.fr) := by first | assumption | omega | (apply wr_lo <;> first | assumption | omega) | (simp_all; done)
      have o8 : IntKind.i64.wrap (IntKind.i64.wrap (IntKind.i64.wrap (t.e0 + r33.v0 n g t.fr) * r42.v t) - r33.v1 n g t.fr) ≤ (9223372036854775807 : Int) := by first | assumption | omega | (apply wr_hi <;> first | assumption | omega) | (simp_all; done)
      cases h3 : r39.v2 (IntKind.i64.wrap (IntKind.i64.wrap (IntKind.i64.wrap (t.e0 + r33.v0 n g t.fr) * r42.v t) - r33.v1 n g t.fr)) (r42.v t) == 0 with
      | true =>
        have h3p := eq_of_beq h3
        exact Ret.of_run1 mix [(AV.agg ((AV.int IntKind.i64 (r24m.v0 t n g)) :: ((AV.int IntKind.i64 (r24m.v1 t n g)) :: ((AV.int IntKind.i64 (r24m.v2 t n g)) :: ((AV.int IntKind.i64 (r24m.v3 t n g)) :: []))))), (AV.int IntKind.i64 (r24m.v4 t n g))] Try.func24 rfl [.ret (AV.int IntKind.i64 (r18m.v t)) (r24m.h0 t n g), .b false, .ret (AV.tup [AV.int IntKind.i64 (r33.v0 n g t.fr), AV.int IntKind.i64 (r33.v1 n g t.fr)]) (r24m.h0 t n g), .ret (AV.int IntKind.i64 (r42.v t)) (r24m.h0 t n g), .ret (AV.int IntKind.i64 (r42.v t)) (r24m.h0 t n g), .ret (AV.tup [AV.agg [AV.int IntKind.i64 (r39.v0 (IntKind.i64.wrap (IntKind.i64.wrap (t.e1 * r42.v t) + r33.v1 n g t.fr)) (r42.v t)), AV.int IntKind.i64 (r39.v1 (IntKind.i64.wrap (IntKind.i64.wrap (t.e1 * r42.v t) + r33.v1 n g t.fr)) (r42.v t))], AV.int IntKind.i64 (r39.v2 (IntKind.i64.wrap (IntKind.i64.wrap (t.e1 * r42.v t) + r33.v1 n g t.fr)) (r42.v t))]) (r24m.h0 t n g), .b false, .ret (AV.int IntKind.i64 (r42.v t)) (r24m.h1 t n g), .ret (AV.int IntKind.i64 (r42.v t)) (r24m.h1 t n g), .ret (AV.tup [AV.agg [AV.int IntKind.i64 (r39.v0 (IntKind.i64.wrap (IntKind.i64.wrap (IntKind.i64.wrap (t.e0 + r33.v0 n g t.fr) * r42.v t) - r33.v1 n g t.fr)) (r42.v t)), AV.int IntKind.i64 (r39.v1 (IntKind.i64.wrap (IntKind.i64.wrap (IntKind.i64.wrap (t.e0 + r33.v0 n g t.fr) * r42.v t) - r33.v1 n g t.fr)) (r42.v t))], AV.int IntKind.i64 (r39.v2 (IntKind.i64.wrap (IntKind.i64.wrap (IntKind.i64.wrap (t.e0 + r33.v0 n g t.fr) * r42.v t) - r33.v1 n g t.fr)) (r42.v t))]) (r24m.h1 t n g), .b false] (by simp) (by simp) (kmp (by kernel_rfl) (And.intro (r18m (t) o0 (n) o1 o2 (g) (r24m.h0 t n g)) (And.intro (show (bnot (r18m.v t == 0)) = false by rw [h1]; try rfl) (And.intro (r33 (n) (g) o1 (t.fr) (r24m.h0 t n g)) (And.intro (And.intro (show (0 : Int) ≤ (1 : Int) by first | decide | exact Int.NonNeg.mk _) (show (1 : Int) < (2 : Int) by first | decide | exact Int.NonNeg.mk _)) (And.intro (r42 (t) (r24m.h0 t n g)) (And.intro (PRet.mk (r42 (t) ([])) (by simp)) (And.intro (r42 (t) (r24m.h0 t n g)) (And.intro (PRet.mk (r42 (t) ([])) (by simp)) (And.intro (r39 (IntKind.i64.wrap (IntKind.i64.wrap (t.e1 * r42.v t) + r33.v1 n g t.fr)) (r42.v t) (And.intro o3 o4) (And.intro o5 o6) (r24m.h0 t n g)) (And.intro (PRet.mk (r39 (IntKind.i64.wrap (IntKind.i64.wrap (t.e1 * r42.v t) + r33.v1 n g t.fr)) (r42.v t) (And.intro o3 o4) (And.intro o5 o6) ([])) (by simp)) (And.intro (show (bnot (r39.v2 (IntKind.i64.wrap (IntKind.i64.wrap (t.e1 * r42.v t) + r33.v1 n g t.fr)) (r42.v t) == 0)) = false by rw [h2]; try rfl) (And.intro (And.intro (show (0 : Int) ≤ (0 : Int) by first | decide | exact Int.NonNeg.mk _) (show (0 : Int) < (2 : Int) by first | decide | exact Int.NonNeg.mk _)) (And.intro (r42 (t) (r24m.h1 t n g)) (And.intro (PRet.mk (r42 (t) ([])) (by simp)) (And.intro (r42 (t) (r24m.h1 t n g)) (And.intro (PRet.mk (r42 (t) ([])) (by simp)) (And.intro (r39 (IntKind.i64.wrap (IntKind.i64.wrap (IntKind.i64.wrap (t.e0 + r33.v0 n g t.fr) * r42.v t) - r33.v1 n g t.fr)) (r42.v t) (And.intro o7 o8) (And.intro o5 o6) (r24m.h1 t n g)) (And.intro (PRet.mk (r39 (IntKind.i64.wrap (IntKind.i64.wrap (IntKind.i64.wrap (t.e0 + r33.v0 n g t.fr) * r42.v t) - r33.v1 n g t.fr)) (r42.v t) (And.intro o7 o8) (And.intro o5 o6) ([])) (by simp)) (And.intro (show (bnot (r39.v2 (IntKind.i64.wrap (IntKind.i64.wrap (IntKind.i64.wrap (t.e0 + r33.v0 n g t.fr) * r42.v t) - r33.v1 n g t.fr)) (r42.v t) == 0)) = false by rw [h3]; try rfl) (And.intro (And.intro trivial (show (AV.agg [AV.int IntKind.i64 (r39.v0 (IntKind.i64.wrap (IntKind.i64.wrap (IntKind.i64.wrap (t.e0 + r33.v0 n g t.fr) * r42.v t) - r33.v1 n g t.fr)) (r42.v t)), AV.int IntKind.i64 (r39.v1 (IntKind.i64.wrap (IntKind.i64.wrap (IntKind.i64.wrap (t.e0 + r33.v0 n g t.fr) * r42.v t) - r33.v1 n g t.fr)) (r42.v t)), AV.int IntKind.i64 (r39.v0 (IntKind.i64.wrap (IntKind.i64.wrap (t.e1 * r42.v t) + r33.v1 n g t.fr)) (r42.v t)), AV.int IntKind.i64 (r39.v1 (IntKind.i64.wrap (IntKind.i64.wrap (t.e1 * r42.v t) + r33.v1 n g t.fr)) (r42.v t))]) = ((AV.agg ((AV.int IntKind.i64 (r24m.v0 t n g)) :: ((AV.int IntKind.i64 (r24m.v1 t n g)) :: ((AV.int IntKind.i64 (r24m.v2 t n g)) :: ((AV.int IntKind.i64 (r24m.v3 t n g)) :: [])))))) by first | (simp only [r24m.v0, r24m.v1, r24m.v2, r24m.v3, r24m.v4, h1, h2, h3, cond_true, cond_false]; done) | (try unfold r24m.v0; try unfold r24m.v1; try unfold r24m.v2; try unfold r24m.v3; try unfold r24m.v4; try simp only [h1, cond_true, cond_false]; try simp only [h2, cond_true, cond_false]; try simp only [h3, cond_true, cond_false]; try rfl; done) | rfl)) (And.intro (show (AV.int IntKind.i64 0) = ((AV.int IntKind.i64 (r24m.v4 t n g))) by first | (simp only [r24m.v0, r24m.v1, r24m.v2, r24m.v3, r24m.v4, h1, h2, h3, cond_true, cond_false]; done) | (try unfold r24m.v0; try unfold r24m.v1; try unfold r24m.v2; try unfold r24m.v3; try unfold r24m.v4; try simp only [h1, cond_true, cond_false]; try simp only [h2, cond_true, cond_false]; try simp only [h3, cond_true, cond_false]; try rfl; done) | rfl) trivial)))))))))))))))))))))) h
      | false =>
        have h3p := ne_of_beq_false h3
        exact Ret.of_run1 mix [(AV.agg ((AV.int IntKind.i64 (r24m.v0 t n g)) :: ((AV.int IntKind.i64 (r24m.v1 t n g)) :: ((AV.int IntKind.i64 (r24m.v2 t n g)) :: ((AV.int IntKind.i64 (r24m.v3 t n g)) :: []))))), (AV.int IntKind.i64 (r24m.v4 t n g))] Try.func24 rfl [.ret (AV.int IntKind.i64 (r18m.v t)) (r24m.h0 t n g), .b false, .ret (AV.tup [AV.int IntKind.i64 (r33.v0 n g t.fr), AV.int IntKind.i64 (r33.v1 n g t.fr)]) (r24m.h0 t n g), .ret (AV.int IntKind.i64 (r42.v t)) (r24m.h0 t n g), .ret (AV.int IntKind.i64 (r42.v t)) (r24m.h0 t n g), .ret (AV.tup [AV.agg [AV.int IntKind.i64 (r39.v0 (IntKind.i64.wrap (IntKind.i64.wrap (t.e1 * r42.v t) + r33.v1 n g t.fr)) (r42.v t)), AV.int IntKind.i64 (r39.v1 (IntKind.i64.wrap (IntKind.i64.wrap (t.e1 * r42.v t) + r33.v1 n g t.fr)) (r42.v t))], AV.int IntKind.i64 (r39.v2 (IntKind.i64.wrap (IntKind.i64.wrap (t.e1 * r42.v t) + r33.v1 n g t.fr)) (r42.v t))]) (r24m.h0 t n g), .b false, .ret (AV.int IntKind.i64 (r42.v t)) (r24m.h1 t n g), .ret (AV.int IntKind.i64 (r42.v t)) (r24m.h1 t n g), .ret (AV.tup [AV.agg [AV.int IntKind.i64 (r39.v0 (IntKind.i64.wrap (IntKind.i64.wrap (IntKind.i64.wrap (t.e0 + r33.v0 n g t.fr) * r42.v t) - r33.v1 n g t.fr)) (r42.v t)), AV.int IntKind.i64 (r39.v1 (IntKind.i64.wrap (IntKind.i64.wrap (IntKind.i64.wrap (t.e0 + r33.v0 n g t.fr) * r42.v t) - r33.v1 n g t.fr)) (r42.v t))], AV.int IntKind.i64 (r39.v2 (IntKind.i64.wrap (IntKind.i64.wrap (IntKind.i64.wrap (t.e0 + r33.v0 n g t.fr) * r42.v t) - r33.v1 n g t.fr)) (r42.v t))]) (r24m.h1 t n g), .b true] (by simp) (by simp) (kmp (by kernel_rfl) (And.intro (r18m (t) o0 (n) o1 o2 (g) (r24m.h0 t n g)) (And.intro (show (bnot (r18m.v t == 0)) = false by rw [h1]; try rfl) (And.intro (r33 (n) (g) o1 (t.fr) (r24m.h0 t n g)) (And.intro (And.intro (show (0 : Int) ≤ (1 : Int) by first | decide | exact Int.NonNeg.mk _) (show (1 : Int) < (2 : Int) by first | decide | exact Int.NonNeg.mk _)) (And.intro (r42 (t) (r24m.h0 t n g)) (And.intro (PRet.mk (r42 (t) ([])) (by simp)) (And.intro (r42 (t) (r24m.h0 t n g)) (And.intro (PRet.mk (r42 (t) ([])) (by simp)) (And.intro (r39 (IntKind.i64.wrap (IntKind.i64.wrap (t.e1 * r42.v t) + r33.v1 n g t.fr)) (r42.v t) (And.intro o3 o4) (And.intro o5 o6) (r24m.h0 t n g)) (And.intro (PRet.mk (r39 (IntKind.i64.wrap (IntKind.i64.wrap (t.e1 * r42.v t) + r33.v1 n g t.fr)) (r42.v t) (And.intro o3 o4) (And.intro o5 o6) ([])) (by simp)) (And.intro (show (bnot (r39.v2 (IntKind.i64.wrap (IntKind.i64.wrap (t.e1 * r42.v t) + r33.v1 n g t.fr)) (r42.v t) == 0)) = false by rw [h2]; try rfl) (And.intro (And.intro (show (0 : Int) ≤ (0 : Int) by first | decide | exact Int.NonNeg.mk _) (show (0 : Int) < (2 : Int) by first | decide | exact Int.NonNeg.mk _)) (And.intro (r42 (t) (r24m.h1 t n g)) (And.intro (PRet.mk (r42 (t) ([])) (by simp)) (And.intro (r42 (t) (r24m.h1 t n g)) (And.intro (PRet.mk (r42 (t) ([])) (by simp)) (And.intro (r39 (IntKind.i64.wrap (IntKind.i64.wrap (IntKind.i64.wrap (t.e0 + r33.v0 n g t.fr) * r42.v t) - r33.v1 n g t.fr)) (r42.v t) (And.intro o7 o8) (And.intro o5 o6) (r24m.h1 t n g)) (And.intro (PRet.mk (r39 (IntKind.i64.wrap (IntKind.i64.wrap (IntKind.i64.wrap (t.e0 + r33.v0 n g t.fr) * r42.v t) - r33.v1 n g t.fr)) (r42.v t) (And.intro o7 o8) (And.intro o5 o6) ([])) (by simp)) (And.intro (show (bnot (r39.v2 (IntKind.i64.wrap (IntKind.i64.wrap (IntKind.i64.wrap (t.e0 + r33.v0 n g t.fr) * r42.v t) - r33.v1 n g t.fr)) (r42.v t) == 0)) = true by rw [h3]; try rfl) (And.intro (And.intro trivial (show (AV.agg [AV.int IntKind.i64 0, AV.int IntKind.i64 0, AV.int IntKind.i64 0, AV.int IntKind.i64 0]) = ((AV.agg ((AV.int IntKind.i64 (r24m.v0 t n g)) :: ((AV.int IntKind.i64 (r24m.v1 t n g)) :: ((AV.int IntKind.i64 (r24m.v2 t n g)) :: ((AV.int IntKind.i64 (r24m.v3 t n g)) :: [])))))) by first | (simp only [r24m.v0, r24m.v1, r24m.v2, r24m.v3, r24m.v4, h1, h2, h3, cond_true, cond_false]; done) | (try unfold r24m.v0; try unfold r24m.v1; try unfold r24m.v2; try unfold r24m.v3; try unfold r24m.v4; try simp only [h1, cond_true, cond_false]; try simp only [h2, cond_true, cond_false]; try simp only [h3, cond_true, cond_false]; try rfl; done) | rfl)) (And.intro (show (AV.int IntKind.i64 (r39.v2 (IntKind.i64.wrap (IntKind.i64.wrap (IntKind.i64.wrap (t.e0 + r33.v0 n g t.fr) * r42.v t) - r33.v1 n g t.fr)) (r42.v t))) = ((AV.int IntKind.i64 (r24m.v4 t n g))) by first | (simp only [r24m.v0, r24m.v1, r24m.v2, r24m.v3, r24m.v4, h1, h2, h3, cond_true, cond_false]; done) | (try unfold r24m.v0; try unfold r24m.v1; try unfold r24m.v2; try unfold r24m.v3; try unfold r24m.v4; try simp only [h1, cond_true, cond_false]; try simp only [h2, cond_true, cond_false]; try simp only [h3, cond_true, cond_false]; try rfl; done) | rfl) trivial)))))))))))))))))))))) h
    | false =>
      have h2p := ne_of_beq_false h2
      exact Ret.of_run1 mix [(AV.agg ((AV.int IntKind.i64 (r24m.v0 t n g)) :: ((AV.int IntKind.i64 (r24m.v1 t n g)) :: ((AV.int IntKind.i64 (r24m.v2 t n g)) :: ((AV.int IntKind.i64 (r24m.v3 t n g)) :: []))))), (AV.int IntKind.i64 (r24m.v4 t n g))] Try.func24 rfl [.ret (AV.int IntKind.i64 (r18m.v t)) (r24m.h0 t n g), .b false, .ret (AV.tup [AV.int IntKind.i64 (r33.v0 n g t.fr), AV.int IntKind.i64 (r33.v1 n g t.fr)]) (r24m.h0 t n g), .ret (AV.int IntKind.i64 (r42.v t)) (r24m.h0 t n g), .ret (AV.int IntKind.i64 (r42.v t)) (r24m.h0 t n g), .ret (AV.tup [AV.agg [AV.int IntKind.i64 (r39.v0 (IntKind.i64.wrap (IntKind.i64.wrap (t.e1 * r42.v t) + r33.v1 n g t.fr)) (r42.v t)), AV.int IntKind.i64 (r39.v1 (IntKind.i64.wrap (IntKind.i64.wrap (t.e1 * r42.v t) + r33.v1 n g t.fr)) (r42.v t))], AV.int IntKind.i64 (r39.v2 (IntKind.i64.wrap (IntKind.i64.wrap (t.e1 * r42.v t) + r33.v1 n g t.fr)) (r42.v t))]) (r24m.h0 t n g), .b true] (by simp) (by simp) (kmp (by kernel_rfl) (And.intro (r18m (t) o0 (n) o1 o2 (g) (r24m.h0 t n g)) (And.intro (show (bnot (r18m.v t == 0)) = false by rw [h1]; try rfl) (And.intro (r33 (n) (g) o1 (t.fr) (r24m.h0 t n g)) (And.intro (And.intro (show (0 : Int) ≤ (1 : Int) by first | decide | exact Int.NonNeg.mk _) (show (1 : Int) < (2 : Int) by first | decide | exact Int.NonNeg.mk _)) (And.intro (r42 (t) (r24m.h0 t n g)) (And.intro (PRet.mk (r42 (t) ([])) (by simp)) (And.intro (r42 (t) (r24m.h0 t n g)) (And.intro (PRet.mk (r42 (t) ([])) (by simp)) (And.intro (r39 (IntKind.i64.wrap (IntKind.i64.wrap (t.e1 * r42.v t) + r33.v1 n g t.fr)) (r42.v t) (And.intro o3 o4) (And.intro o5 o6) (r24m.h0 t n g)) (And.intro (PRet.mk (r39 (IntKind.i64.wrap (IntKind.i64.wrap (t.e1 * r42.v t) + r33.v1 n g t.fr)) (r42.v t) (And.intro o3 o4) (And.intro o5 o6) ([])) (by simp)) (And.intro (show (bnot (r39.v2 (IntKind.i64.wrap (IntKind.i64.wrap (t.e1 * r42.v t) + r33.v1 n g t.fr)) (r42.v t) == 0)) = true by rw [h2]; try rfl) (And.intro (And.intro trivial (show (AV.agg [AV.int IntKind.i64 0, AV.int IntKind.i64 0, AV.int IntKind.i64 0, AV.int IntKind.i64 0]) = ((AV.agg ((AV.int IntKind.i64 (r24m.v0 t n g)) :: ((AV.int IntKind.i64 (r24m.v1 t n g)) :: ((AV.int IntKind.i64 (r24m.v2 t n g)) :: ((AV.int IntKind.i64 (r24m.v3 t n g)) :: [])))))) by first | (simp only [r24m.v0, r24m.v1, r24m.v2, r24m.v3, r24m.v4, h1, h2, cond_true, cond_false]; done) | (try unfold r24m.v0; try unfold r24m.v1; try unfold r24m.v2; try unfold r24m.v3; try unfold r24m.v4; try simp only [h1, cond_true, cond_false]; try simp only [h2, cond_true, cond_false]; try rfl; done) | rfl)) (And.intro (show (AV.int IntKind.i64 (r39.v2 (IntKind.i64.wrap (IntKind.i64.wrap (t.e1 * r42.v t) + r33.v1 n g t.fr)) (r42.v t))) = ((AV.int IntKind.i64 (r24m.v4 t n g))) by first | (simp only [r24m.v0, r24m.v1, r24m.v2, r24m.v3, r24m.v4, h1, h2, cond_true, cond_false]; done) | (try unfold r24m.v0; try unfold r24m.v1; try unfold r24m.v2; try unfold r24m.v3; try unfold r24m.v4; try simp only [h1, cond_true, cond_false]; try simp only [h2, cond_true, cond_false]; try rfl; done) | rfl) trivial)))))))))))))) h
  | false =>
    have h1p := ne_of_beq_false h1
    exact Ret.of_run1 mix [(AV.agg ((AV.int IntKind.i64 (r24m.v0 t n g)) :: ((AV.int IntKind.i64 (r24m.v1 t n g)) :: ((AV.int IntKind.i64 (r24m.v2 t n g)) :: ((AV.int IntKind.i64 (r24m.v3 t n g)) :: []))))), (AV.int IntKind.i64 (r24m.v4 t n g))] Try.func24 rfl [.ret (AV.int IntKind.i64 (r18m.v t)) (r24m.h0 t n g), .b true] (by simp) (by simp) (kmp (by kernel_rfl) (And.intro (r18m (t) o0 (n) o1 o2 (g) (r24m.h0 t n g)) (And.intro (show (bnot (r18m.v t == 0)) = true by rw [h1]; try rfl) (And.intro (And.intro trivial (show (AV.agg [AV.int IntKind.i64 0, AV.int IntKind.i64 0, AV.int IntKind.i64 0, AV.int IntKind.i64 0]) = ((AV.agg ((AV.int IntKind.i64 (r24m.v0 t n g)) :: ((AV.int IntKind.i64 (r24m.v1 t n g)) :: ((AV.int IntKind.i64 (r24m.v2 t n g)) :: ((AV.int IntKind.i64 (r24m.v3 t n g)) :: [])))))) by first | (simp only [r24m.v0, r24m.v1, r24m.v2, r24m.v3, r24m.v4, h1, cond_true, cond_false]; done) | (try unfold r24m.v0; try unfold r24m.v1; try unfold r24m.v2; try unfold r24m.v3; try unfold r24m.v4; try simp only [h1, cond_true, cond_false]; try rfl; done) | rfl)) (And.intro (show (AV.int IntKind.i64 (r18m.v t)) = ((AV.int IntKind.i64 (r24m.v4 t n g))) by first | (simp only [r24m.v0, r24m.v1, r24m.v2, r24m.v3, r24m.v4, h1, cond_true, cond_false]; done) | (try unfold r24m.v0; try unfold r24m.v1; try unfold r24m.v2; try unfold r24m.v3; try unfold r24m.v4; try simp only [h1, cond_true, cond_false]; try rfl; done) | rfl) trivial))))) h

end Go.Proofs.Ytngpbfocjgikaaa

open Go

namespace Go.Proofs.Ytngpbfocjgikaaa

set_option maxHeartbeats 0

set_option maxRecDepth 100000

theorem bd_in {x a b : Int} (h : r32.v x a b = true) : a ≤ x ∧ x ≤ b := by
  unfold r32.v at h
  by_cases h1 : x ≥ a
  · rw [decide_eq_true h1, cond_true] at h
    exact ⟨h1, of_decide_eq_true h⟩
  · rw [decide_eq_false h1, cond_false] at h; cases h

/-- The bounds of a truck that is accepted. -/
structure TOk (t : TD) : Prop where
  tl : 1 ≤ t.tl ∧ t.tl ≤ 50000
  fr : -50000 ≤ t.fr ∧ t.fr ≤ 50000
  re : -50000 ≤ t.re ∧ t.re ≤ 50000
  l0 : 1 ≤ t.l0 ∧ t.l0 ≤ 1000000000
  e0 : 0 ≤ t.e0 ∧ t.e0 ≤ 1000000000
  l1 : 1 ≤ t.l1 ∧ t.l1 ≤ 1000000000
  e1 : 0 ≤ t.e1 ∧ t.e1 ≤ 1000000000
  lt : t.fr < t.re

theorem tok {t : TD} (h : r16.v t = 0) : TOk t := by
  unfold r16.v at h
  have st : ∀ {b : Bool} {x y : Int}, (bif b then x else y) = 0 → y ≠ 0 → b = true ∧ x = 0 := by
    intro b x y h hy; cases b
    · exact absurd h hy
    · exact ⟨rfl, h⟩
  obtain ⟨_, h⟩ := st h (by decide)
  obtain ⟨h1, h⟩ := st h (by decide)
  obtain ⟨h2, h⟩ := st h (by decide)
  obtain ⟨h3, h⟩ := st h (by decide)
  obtain ⟨h4, h⟩ := st h (by decide)
  obtain ⟨h5, h⟩ := st h (by decide)
  obtain ⟨h6, h⟩ := st h (by decide)
  obtain ⟨h7, h⟩ := st h (by decide)
  refine ⟨bd_in h1, bd_in h2, bd_in h3, bd_in h4, bd_in h5, bd_in h6, bd_in h7, ?_⟩
  by_cases q : t.fr ≥ t.re
  · rw [decide_eq_true q, cond_true] at h; cases h
  · omega

theorem r18_0 {t : TD} {n : Nat} {g : Nat → LD} (h : r18.v t n g = 0) : r16.v t = 0 ∧ r35.v n g t.tl = 0 := by
  unfold r18.v at h
  by_cases q : r16.v t = 0
  · rw [q] at h; exact ⟨q, h⟩
  · rw [show (r16.v t == 0) = false by simpa using q, cond_false] at h; exact absurd h q

theorem bd_ln {x : Int} (h : r32.v x 1 50000 = true) : 1 ≤ x ∧ x ≤ 50000 := bd_in h

theorem bd_tl {t : TD} {n : Nat} {g : Nat → LD} (h : r18.v t n g = 0) : 1 ≤ t.tl ∧ t.tl ≤ 50000 := (tok (r18_0 h).1).tl

theorem w_tl {t : TD} {n : Nat} {g : Nat → LD} {ln : Int} (h : r18.v t n g = 0) (h2 : r32.v ln 1 50000 = true) : IntKind.i64.wrap (t.tl - ln) ≤ 50000 := by
  have := bd_tl h
  have := bd_ln h2
  rw [i64_small (by omega)]
  omega

theorem w_tlm {t : TD} {ln : Int} (h : r18m.v t = 0) (_h2 : r32.v ln 1 50000 = true) : IntKind.i64.wrap (t.tl - ln) ≤ 50000 := by
  unfold r18m.v at h
  by_cases q : r16.v t = 0
  · rw [q] at h; cases h
  · rw [show (r16.v t == 0) = false by simpa using q, cond_false] at h; exact absurd h q

theorem awk_g (i : Nat) : ([LD.mk (ByteArray.mk #[97]) 2000 1000 8000].getD i default).nm.size ≤ 9223372036854775807 := by
  cases i with
  | zero => decide
  | succ i => exact (show (ByteArray.empty : ByteArray).size ≤ 9223372036854775807 by decide)

end Go.Proofs.Ytngpbfocjgikaaa

open Go

namespace Go.Proofs.Ytngpbfocjgikaaa

set_option linter.unusedSimpArgs false

set_option linter.unusedVariables false

set_option maxHeartbeats 0

set_option maxRecDepth 100000

inductive L12a.O where
  | e0 (a0 : Bool) (a1 : Int) (a2 : Int)

noncomputable def L12a.T (t : TD) (n : Nat) (g : Nat → LD) (ln : Int) (ms : Int) (a13 : Bool) (a15 : Int) (ao2_0 : Int) (ao2_1 : Int) : List AV := mkT 75 [(2, AV.int IntKind.i64 ln), (3, AV.int IntKind.i64 ms), (4, AV.ptr 0 1 8 0 0), (8, AV.ptr 1 1 2 0 0), (11, AV.int IntKind.i64 (r33.v0 n g t.fr)), (12, AV.int IntKind.i64 (r33.v1 n g t.fr)), (13, AV.bool a13), (14, AV.ptr 2 1 2 0 0), (15, AV.int IntKind.i64 a15)]

noncomputable def L12a.H (t : TD) (n : Nat) (g : Nat → LD) (ln : Int) (ms : Int) (a13 : Bool) (a15 : Int) (ao2_0 : Int) (ao2_1 : Int) : AHeap := [AObj.var (AV.agg [AV.str t.nm, AV.int IntKind.i64 t.tl, AV.int IntKind.i64 t.fr, AV.int IntKind.i64 t.re, AV.int IntKind.i64 t.l0, AV.int IntKind.i64 t.l1, AV.int IntKind.i64 t.e0, AV.int IntKind.i64 t.e1]), AObj.var (AV.agg [AV.int IntKind.i64 0, AV.int IntKind.i64 0]), AObj.var (AV.agg [AV.int IntKind.i64 ao2_0, AV.int IntKind.i64 ao2_1])]

def L12a.inv (t : TD) (n : Nat) (g : Nat → LD) (ln : Int) (ms : Int) (a13 : Bool) (a15 : Int) (ao2_0 : Int) (ao2_1 : Int) : Prop := 0 ≤ a15 ∧ a15 ≤ 50001

noncomputable def L12a.mu (t : TD) (n : Nat) (g : Nat → LD) (ln : Int) (ms : Int) (a13 : Bool) (a15 : Int) (ao2_0 : Int) (ao2_1 : Int) : Nat := (50001 - a15).toNat

noncomputable def L12a.E : L12a.O → Exit
  | .e0 a0 a1 a2 => Exit.exit 0

noncomputable def L12a.X (t : TD) (n : Nat) (g : Nat → LD) (ln : Int) (ms : Int) : L12a.O → List AV
  | .e0 a0 a1 a2 => mkT 75 [(8, (AV.ptr 1 1 2 0 0)), (13, (AV.bool a0)), (14, (AV.ptr 2 1 2 0 0))]

noncomputable def L12a.XH (t : TD) (n : Nat) (g : Nat → LD) (ln : Int) (ms : Int) : L12a.O → AHeap
  | .e0 a0 a1 a2 => ((AObj.var (AV.agg [AV.str t.nm, AV.int IntKind.i64 t.tl, AV.int IntKind.i64 t.fr, AV.int IntKind.i64 t.re, AV.int IntKind.i64 t.l0, AV.int IntKind.i64 t.l1, AV.int IntKind.i64 t.e0, AV.int IntKind.i64 t.e1])) :: ((AObj.var (AV.agg [AV.int IntKind.i64 0, AV.int IntKind.i64 0])) :: ((AObj.var (AV.agg ((AV.int IntKind.i64 a1) :: ((AV.int IntKind.i64 a2) :: ([]))))) :: ([]))))

noncomputable def L12a.N (t : TD) (n : Nat) (g : Nat → LD) (ln : Int) (ms : Int) : Nat → Bool → Int → Int → Int → L12a.O
  | 0, a13, _, ao2_0, ao2_1 => .e0 a13 ao2_0 ao2_1
  | k_ + 1, a13, a15, ao2_0, ao2_1 => (bif decide (a15 ≤ IntKind.i64.wrap (t.tl - ln)) then (bif r34.v t (IntKind.i64.wrap (r33.v0 n g t.fr + ms)) (IntKind.i64.wrap (r33.v1 n g t.fr + IntKind.i64.wrap (ms * IntKind.i64.wrap (IntKind.i64.wrap (IntKind.i64.wrap (2 * a15) + ln) - IntKind.i64.wrap (2 * t.fr))))) then (bif a13 then (L12a.N t n g ln ms k_ (a13) (IntKind.i64.wrap (a15 + 1)) (ao2_0) (a15)) else (L12a.N t n g ln ms k_ (true) (IntKind.i64.wrap (a15 + 1)) (a15) (a15))) else (L12a.N t n g ln ms k_ (a13) (IntKind.i64.wrap (a15 + 1)) (ao2_0) (ao2_1))) else (.e0 (a13) (ao2_0) (ao2_1)))

noncomputable def L12a.run (t : TD) (n : Nat) (g : Nat → LD) (ln : Int) (ms : Int) (a13 : Bool) (a15 : Int) (ao2_0 : Int) (ao2_1 : Int) : L12a.O := L12a.N t n g ln ms (((50001 - a15).toNat) + 1) a13 a15 ao2_0 ao2_1

theorem L12a.nx (t : TD) (n : Nat) (g : Nat → LD) (ln : Int) (ms : Int) {k_ : Nat} {z_ : Bool × Int × Int × Int} {h_ : AHeap} (s_ : Bool × Int × Int × Int) (h1 : L12a.inv t n g ln ms s_.1 s_.2.1 s_.2.2.1 s_.2.2.2) (h2 : L12a.mu t n g ln ms s_.1 s_.2.1 s_.2.2.1 s_.2.2.2 < L12a.mu t n g ln ms z_.1 z_.2.1 z_.2.2.1 z_.2.2.2) (h3 : L12a.N t n g ln ms k_ s_.1 s_.2.1 s_.2.2.1 s_.2.2.2 = L12a.N t n g ln ms (k_ + 1) z_.1 z_.2.1 z_.2.2.1 z_.2.2.2) (h4 : PopOk (L12a.H t n g ln ms z_.1 z_.2.1 z_.2.2.1 z_.2.2.2) h_ (L12a.T t n g ln ms s_.1 s_.2.1 s_.2.2.1 s_.2.2.2) (L12a.H t n g ln ms s_.1 s_.2.1 s_.2.2.1 s_.2.2.2)) : LNextP (fun (z_ : Bool × Int × Int × Int) => L12a.T t n g ln ms z_.1 z_.2.1 z_.2.2.1 z_.2.2.2) (fun (z_ : Bool × Int × Int × Int) => L12a.H t n g ln ms z_.1 z_.2.1 z_.2.2.1 z_.2.2.2) (fun (z_ : Bool × Int × Int × Int) => L12a.inv t n g ln ms z_.1 z_.2.1 z_.2.2.1 z_.2.2.2) (fun (z_ : Bool × Int × Int × Int) => L12a.mu t n g ln ms z_.1 z_.2.1 z_.2.2.1 z_.2.2.2) (fun (k_ : Nat) (z_ : Bool × Int × Int × Int) => L12a.N t n g ln ms k_ z_.1 z_.2.1 z_.2.2.1 z_.2.2.2) k_ z_ (L12a.T t n g ln ms s_.1 s_.2.1 s_.2.2.1 s_.2.2.2) h_ := LNextP.mk (Tm := (fun (z_ : Bool × Int × Int × Int) => L12a.T t n g ln ms z_.1 z_.2.1 z_.2.2.1 z_.2.2.2)) (Hp := (fun (z_ : Bool × Int × Int × Int) => L12a.H t n g ln ms z_.1 z_.2.1 z_.2.2.1 z_.2.2.2)) (inv := (fun (z_ : Bool × Int × Int × Int) => L12a.inv t n g ln ms z_.1 z_.2.1 z_.2.2.1 z_.2.2.2)) (mu := (fun (z_ : Bool × Int × Int × Int) => L12a.mu t n g ln ms z_.1 z_.2.1 z_.2.2.1 z_.2.2.2)) (l := (fun (k_ : Nat) (z_ : Bool × Int × Int × Int) => L12a.N t n g ln ms k_ z_.1 z_.2.1 z_.2.2.1 z_.2.2.2)) s_ h1 h2 h3 h4

theorem L12a.en (t : TD) (n : Nat) (g : Nat → LD) (ln : Int) (ms : Int) {k_ : Nat} {z_ : Bool × Int × Int × Int} {h_ : AHeap} (o_ : L12a.O) (h3 : L12a.N t n g ln ms (k_ + 1) z_.1 z_.2.1 z_.2.2.1 z_.2.2.2 = o_) (h4 : PopOk (L12a.H t n g ln ms z_.1 z_.2.1 z_.2.2.1 z_.2.2.2) h_ (L12a.X t n g ln ms o_) (L12a.XH t n g ln ms o_)) : LEndP (fun (z_ : Bool × Int × Int × Int) => L12a.H t n g ln ms z_.1 z_.2.1 z_.2.2.1 z_.2.2.2) (fun (k_ : Nat) (z_ : Bool × Int × Int × Int) => L12a.N t n g ln ms k_ z_.1 z_.2.1 z_.2.2.1 z_.2.2.2) L12a.E (L12a.X t n g ln ms) (L12a.XH t n g ln ms) k_ z_ (L12a.E o_) (L12a.X t n g ln ms o_) h_ := LEndP.mk (Hp := (fun (z_ : Bool × Int × Int × Int) => L12a.H t n g ln ms z_.1 z_.2.1 z_.2.2.1 z_.2.2.2)) (l := (fun (k_ : Nat) (z_ : Bool × Int × Int × Int) => L12a.N t n g ln ms k_ z_.1 z_.2.1 z_.2.2.1 z_.2.2.2)) (oE := L12a.E) (oT := L12a.X t n g ln ms) (oH := L12a.XH t n g ln ms) o_ h3 h4

noncomputable abbrev L12a.h0 (t : TD) (n : Nat) (g : Nat → LD) (ln : Int) (ms : Int) (a13 : Bool) (a15 : Int) (ao2_0 : Int) (ao2_1 : Int) : AHeap := ([AObj.var (AV.agg [AV.str t.nm, AV.int IntKind.i64 t.tl, AV.int IntKind.i64 t.fr, AV.int IntKind.i64 t.re, AV.int IntKind.i64 t.l0, AV.int IntKind.i64 t.l1, AV.int IntKind.i64 t.e0, AV.int IntKind.i64 t.e1]), AObj.var (AV.agg [AV.int IntKind.i64 0, AV.int IntKind.i64 0]), AObj.var (AV.agg [AV.int IntKind.i64 ao2_0, AV.int IntKind.i64 ao2_1])])

theorem L12a.spec (t : TD) (n : Nat) (g : Nat → LD) (ln : Int) (ms : Int) (hw : IntKind.i64.wrap (t.tl - ln) ≤ 50000) (k_ : Nat) (z_ : Bool × Int × Int × Int) (hi_ : L12a.inv t n g ln ms z_.1 z_.2.1 z_.2.2.1 z_.2.2.2) (hm_ : L12a.mu t n g ln ms z_.1 z_.2.1 z_.2.2.1 z_.2.2.2 < k_) : LoopTo Try.prog (loopN Try.f12 0) (L12a.T t n g ln ms z_.1 z_.2.1 z_.2.2.1 z_.2.2.2) (L12a.H t n g ln ms z_.1 z_.2.1 z_.2.2.1 z_.2.2.2) (L12a.E (L12a.N t n g ln ms k_ z_.1 z_.2.1 z_.2.2.1 z_.2.2.2)) (L12a.X t n g ln ms (L12a.N t n g ln ms k_ z_.1 z_.2.1 z_.2.2.1 z_.2.2.2)) (L12a.XH t n g ln ms (L12a.N t n g ln ms k_ z_.1 z_.2.1 z_.2.2.1 z_.2.2.2)) := by
  refine LoopTo.fuelP mix (fun (z_ : Bool × Int × Int × Int) => L12a.T t n g ln ms z_.1 z_.2.1 z_.2.2.1 z_.2.2.2) (fun (z_ : Bool × Int × Int × Int) => L12a.H t n g ln ms z_.1 z_.2.1 z_.2.2.1 z_.2.2.2) (fun (z_ : Bool × Int × Int × Int) => L12a.inv t n g ln ms z_.1 z_.2.1 z_.2.2.1 z_.2.2.2) (fun (z_ : Bool × Int × Int × Int) => L12a.mu t n g ln ms z_.1 z_.2.1 z_.2.2.1 z_.2.2.2) (fun (k_ : Nat) (z_ : Bool × Int × Int × Int) => L12a.N t n g ln ms k_ z_.1 z_.2.1 z_.2.2.1 z_.2.2.2) L12a.E (L12a.X t n g ln ms) (L12a.XH t n g ln ms) (others 75 [2, 3, 4, 8, 11, 12, 13, 14, 15]) (others 75 [8, 9]) (others 75 [8, 13, 14]) ?_ k_ z_ hi_ hm_
  clear hm_ hi_ z_ k_
  intro k_ z_ hinv hmu
  obtain ⟨a13, a15, ao2_0, ao2_1⟩ := z_
  have hinv : 0 ≤ a15 ∧ a15 ≤ 50001 := hinv
  have hmu : ((50001 - a15).toNat) < k_ + 1 := hmu
  cases h1 : decide (a15 ≤ IntKind.i64.wrap (t.tl - ln)) with
  | true =>
    have h1p := of_decide_eq_true h1
    cases h2 : r34.v t (IntKind.i64.wrap (r33.v0 n g t.fr + ms)) (IntKind.i64.wrap (r33.v1 n g t.fr + IntKind.i64.wrap (ms * IntKind.i64.wrap (IntKind.i64.wrap (IntKind.i64.wrap (2 * a15) + ln) - IntKind.i64.wrap (2 * t.fr))))) with
    | true =>
      cases boolIs a13 with
      | true h3 =>
        try have := IntWalk.i64_in (a15 + 1) (by omega)
        have o0 : (0 : Int) ≤ IntKind.i64.wrap (a15 + (1 : Int)) := by first | assumption | omega | (simp_all; done)
        have o1 : IntKind.i64.wrap (a15 + (1 : Int)) ≤ (50001 : Int) := by first | assumption | omega | (simp_all; done)
        have o2 : ((50001 : Int) - IntKind.i64.wrap (a15 + (1 : Int))).toNat < ((50001 : Int) - a15).toNat := by first | assumption | omega | (simp_all; done)
        exact ⟨[.b true, .ret (AV.bool (r34.v t (IntKind.i64.wrap (r33.v0 n g t.fr + ms)) (IntKind.i64.wrap (r33.v1 n g t.fr + IntKind.i64.wrap (ms * IntKind.i64.wrap (IntKind.i64.wrap (IntKind.i64.wrap (2 * a15) + ln) - IntKind.i64.wrap (2 * t.fr))))))) (L12a.h0 t n g ln ms a13 a15 ao2_0 ao2_1), .b false, .b false], kmp (by kernel_rfl) (And.intro h1 (And.intro (r34 (t) (IntKind.i64.wrap (r33.v0 n g t.fr + ms)) (IntKind.i64.wrap (r33.v1 n g t.fr + IntKind.i64.wrap (ms * IntKind.i64.wrap (IntKind.i64.wrap (IntKind.i64.wrap (2 * a15) + ln) - IntKind.i64.wrap (2 * t.fr))))) (L12a.h0 t n g ln ms a13 a15 ao2_0 ao2_1)) (And.intro (show (bnot (r34.v t (IntKind.i64.wrap (r33.v0 n g t.fr + ms)) (IntKind.i64.wrap (r33.v1 n g t.fr + IntKind.i64.wrap (ms * IntKind.i64.wrap (IntKind.i64.wrap (IntKind.i64.wrap (2 * a15) + ln) - IntKind.i64.wrap (2 * t.fr))))))) = false by rw [h2]; try rfl) (And.intro (show (bnot a13) = false by rw [h3]; try rfl) (L12a.nx t n g ln ms (k_ := k_) (z_ := (a13, a15, ao2_0, ao2_1)) ((a13, IntKind.i64.wrap (a15 + 1), ao2_0, a15)) (And.intro o0 o1) o2 (by first | (simp only [L12a.N, h1, h2, h3, cond_true, cond_false]; done) | (try unfold L12a.N; try simp only [h1, cond_true, cond_false]; try simp only [h2, cond_true, cond_false]; try simp only [h3, cond_true, cond_false]; try rfl; done)) PopOk.same)))))⟩
      | false h3 =>
        try have := IntWalk.i64_in (a15 + 1) (by omega)
        have o0 : (0 : Int) ≤ IntKind.i64.wrap (a15 + (1 : Int)) := by first | assumption | omega | (simp_all; done)
        have o1 : IntKind.i64.wrap (a15 + (1 : Int)) ≤ (50001 : Int) := by first | assumption | omega | (simp_all; done)
        have o2 : ((50001 : Int) - IntKind.i64.wrap (a15 + (1 : Int))).toNat < ((50001 : Int) - a15).toNat := by first | assumption | omega | (simp_all; done)
        exact ⟨[.b true, .ret (AV.bool (r34.v t (IntKind.i64.wrap (r33.v0 n g t.fr + ms)) (IntKind.i64.wrap (r33.v1 n g t.fr + IntKind.i64.wrap (ms * IntKind.i64.wrap (IntKind.i64.wrap (IntKind.i64.wrap (2 * a15) + ln) - IntKind.i64.wrap (2 * t.fr))))))) (L12a.h0 t n g ln ms a13 a15 ao2_0 ao2_1), .b false, .b true], kmp (by kernel_rfl) (And.intro h1 (And.intro (r34 (t) (IntKind.i64.wrap (r33.v0 n g t.fr + ms)) (IntKind.i64.wrap (r33.v1 n g t.fr + IntKind.i64.wrap (ms * IntKind.i64.wrap (IntKind.i64.wrap (IntKind.i64.wrap (2 * a15) + ln) - IntKind.i64.wrap (2 * t.fr))))) (L12a.h0 t n g ln ms a13 a15 ao2_0 ao2_1)) (And.intro (show (bnot (r34.v t (IntKind.i64.wrap (r33.v0 n g t.fr + ms)) (IntKind.i64.wrap (r33.v1 n g t.fr + IntKind.i64.wrap (ms * IntKind.i64.wrap (IntKind.i64.wrap (IntKind.i64.wrap (2 * a15) + ln) - IntKind.i64.wrap (2 * t.fr))))))) = false by rw [h2]; try rfl) (And.intro (show (bnot a13) = true by rw [h3]; try rfl) (L12a.nx t n g ln ms (k_ := k_) (z_ := (a13, a15, ao2_0, ao2_1)) ((true, IntKind.i64.wrap (a15 + 1), a15, a15)) (And.intro o0 o1) o2 (by first | (simp only [L12a.N, h1, h2, h3, cond_true, cond_false]; done) | (try unfold L12a.N; try simp only [h1, cond_true, cond_false]; try simp only [h2, cond_true, cond_false]; try simp only [h3, cond_true, cond_false]; try rfl; done)) PopOk.same)))))⟩
    | false =>
      try have := IntWalk.i64_in (a15 + 1) (by omega)
      have o0 : (0 : Int) ≤ IntKind.i64.wrap (a15 + (1 : Int)) := by first | assumption | omega | (simp_all; done)
      have o1 : IntKind.i64.wrap (a15 + (1 : Int)) ≤ (50001 : Int) := by first | assumption | omega | (simp_all; done)
      have o2 : ((50001 : Int) - IntKind.i64.wrap (a15 + (1 : Int))).toNat < ((50001 : Int) - a15).toNat := by first | assumption | omega | (simp_all; done)
      exact ⟨[.b true, .ret (AV.bool (r34.v t (IntKind.i64.wrap (r33.v0 n g t.fr + ms)) (IntKind.i64.wrap (r33.v1 n g t.fr + IntKind.i64.wrap (ms * IntKind.i64.wrap (IntKind.i64.wrap (IntKind.i64.wrap (2 * a15) + ln) - IntKind.i64.wrap (2 * t.fr))))))) (L12a.h0 t n g ln ms a13 a15 ao2_0 ao2_1), .b true], kmp (by kernel_rfl) (And.intro h1 (And.intro (r34 (t) (IntKind.i64.wrap (r33.v0 n g t.fr + ms)) (IntKind.i64.wrap (r33.v1 n g t.fr + IntKind.i64.wrap (ms * IntKind.i64.wrap (IntKind.i64.wrap (IntKind.i64.wrap (2 * a15) + ln) - IntKind.i64.wrap (2 * t.fr))))) (L12a.h0 t n g ln ms a13 a15 ao2_0 ao2_1)) (And.intro (show (bnot (r34.v t (IntKind.i64.wrap (r33.v0 n g t.fr + ms)) (IntKind.i64.wrap (r33.v1 n g t.fr + IntKind.i64.wrap (ms * IntKind.i64.wrap (IntKind.i64.wrap (IntKind.i64.wrap (2 * a15) + ln) - IntKind.i64.wrap (2 * t.fr))))))) = true by rw [h2]; try rfl) (L12a.nx t n g ln ms (k_ := k_) (z_ := (a13, a15, ao2_0, ao2_1)) ((a13, IntKind.i64.wrap (a15 + 1), ao2_0, ao2_1)) (And.intro o0 o1) o2 (by first | (simp only [L12a.N, h1, h2, cond_true, cond_false]; done) | (try unfold L12a.N; try simp only [h1, cond_true, cond_false]; try simp only [h2, cond_true, cond_false]; try rfl; done)) PopOk.same))))⟩
  | false =>
    have h1p := of_decide_eq_false h1
    exact ⟨[.b false], kmp (by kernel_rfl) (And.intro h1 (L12a.en t n g ln ms (k_ := k_) (z_ := (a13, a15, ao2_0, ao2_1)) (.e0 (a13) (ao2_0) (ao2_1) : L12a.O) (by first | (simp only [L12a.N, h1, cond_true, cond_false]; done) | (try unfold L12a.N; try simp only [h1, cond_true, cond_false]; try rfl; done)) PopOk.same))⟩

theorem L12a.e0 (t : TD) (n : Nat) (g : Nat → LD) (ln : Int) (ms : Int) (hw : IntKind.i64.wrap (t.tl - ln) ≤ 50000) (a13 : Bool) (a15 : Int) (ao2_0 : Int) (ao2_1 : Int) (hinv : L12a.inv t n g ln ms a13 a15 ao2_0 ao2_1) (a0 : Bool) (a1 : Int) (a2 : Int) (hN : L12a.run t n g ln ms a13 a15 ao2_0 ao2_1 = (.e0 a0 a1 a2 : L12a.O)) : LoopTo Try.prog (loopN Try.f12 0) (L12a.T t n g ln ms a13 a15 ao2_0 ao2_1) (L12a.H t n g ln ms a13 a15 ao2_0 ao2_1) (Exit.exit 0) (L12a.X t n g ln ms (.e0 a0 a1 a2 : L12a.O)) (L12a.XH t n g ln ms (.e0 a0 a1 a2 : L12a.O)) := by
  have h_ := L12a.spec t n g ln ms hw (((50001 - a15).toNat) + 1) (a13, a15, ao2_0, ao2_1) hinv (Nat.lt_succ_self _)
  unfold L12a.run at hN
  simp only [hN] at h_
  exact h_

noncomputable def r12.v0 (t : TD) (n : Nat) (g : Nat → LD) (ln : Int) (ms : Int) : Int := (bif r18.v t n g == 0 then (bif r32.v ln 1 50000 then (bif r32.v ms 1 100000000 then (match L12a.run t n g ln ms false 0 0 0 with | .e0 h4d0 h4d1 h4d2 => (bif h4d0 then h4d1 else 0) ) else 0) else 0) else 0)

noncomputable def r12.v1 (t : TD) (n : Nat) (g : Nat → LD) (ln : Int) (ms : Int) : Int := (bif r18.v t n g == 0 then (bif r32.v ln 1 50000 then (bif r32.v ms 1 100000000 then (match L12a.run t n g ln ms false 0 0 0 with | .e0 h4d0 h4d1 h4d2 => (bif h4d0 then h4d2 else 0) ) else 0) else 0) else 0)

noncomputable def r12.v2 (t : TD) (n : Nat) (g : Nat → LD) (ln : Int) (ms : Int) : Int := (bif r18.v t n g == 0 then (bif r32.v ln 1 50000 then (bif r32.v ms 1 100000000 then (match L12a.run t n g ln ms false 0 0 0 with | .e0 h4d0 h4d1 h4d2 => (bif h4d0 then 0 else 9) ) else 6) else 6) else r18.v t n g)

noncomputable abbrev r12.h0 (t : TD) (n : Nat) (g : Nat → LD) (ln : Int) (ms : Int) : AHeap := ([AObj.var (AV.agg [AV.str t.nm, AV.int IntKind.i64 t.tl, AV.int IntKind.i64 t.fr, AV.int IntKind.i64 t.re, AV.int IntKind.i64 t.l0, AV.int IntKind.i64 t.l1, AV.int IntKind.i64 t.e0, AV.int IntKind.i64 t.e1]), AObj.var (AV.agg [AV.int IntKind.i64 0, AV.int IntKind.i64 0])])

theorem r12 (t : TD) (hnm : t.nm.size ≤ 9223372036854775807) (n : Nat) (hn : n ≤ 12) (g : Nat → LD) (hg : ∀ (i : Nat), (g i).nm.size ≤ 9223372036854775807) (ln : Int) (ms : Int) (h : AHeap) : Ret Try.prog 12 ([t.av, lds n g, AV.int IntKind.i64 ln, AV.int IntKind.i64 ms]) h (AV.tup [(AV.agg ((AV.int IntKind.i64 (r12.v0 t n g ln ms)) :: ((AV.int IntKind.i64 (r12.v1 t n g ln ms)) :: []))), (AV.int IntKind.i64 (r12.v2 t n g ln ms))]) h := by
  have o0 : t.nm.size ≤ (9223372036854775807 : Nat) := by first | assumption | omega | (exact hg _) | (exact hg _ (by omega)) | (simp_all; done)
  have o1 : n ≤ (12 : Nat) := by first | assumption | omega | (exact hg _) | (exact hg _ (by omega)) | (simp_all; done)
  have o2 : ∀ (i : Nat), (g i).nm.size ≤ (9223372036854775807 : Nat) := by first | assumption | omega | (exact hg _) | (exact hg _ (by omega)) | (simp_all; done)
  cases h1 : r18.v t n g == 0 with
  | true =>
    have h1p := eq_of_beq h1
    cases h2 : r32.v ln 1 50000 with
    | true =>
      cases h3 : r32.v ms 1 100000000 with
      | true =>
        have o3 : n ≤ (9223372036854775807 : Nat) := by first | assumption | omega | (exact hg _) | (exact hg _ (by omega)) | (simp_all; done)
        try have := IntWalk.i64_in (t.tl - ln) (by omega)
        have o4 : IntKind.i64.wrap (t.tl - ln) ≤ (50000 : Int) := by first | assumption | omega | (apply w_tl <;> first | assumption | omega) | (apply w_tlm <;> first | assumption | omega) | (exact hg _) | (exact hg _ (by omega)) | (simp_all; done)
        cases h4 : L12a.run t n g ln ms false 0 0 0 with
        | e0 h4d0 h4d1 h4d2 =>
          cases boolIs h4d0 with
          | true h5 =>
            exact Ret.of_run1 mix [(AV.agg ((AV.int IntKind.i64 (r12.v0 t n g ln ms)) :: ((AV.int IntKind.i64 (r12.v1 t n g ln ms)) :: []))), (AV.int IntKind.i64 (r12.v2 t n g ln ms))] Try.func12 rfl [.ret (AV.int IntKind.i64 (r18.v t n g)) (r12.h0 t n g ln ms), .b false, .ret (AV.bool (r32.v ln 1 50000)) (r12.h0 t n g ln ms), .b false, .b false, .ret (AV.bool (r32.v ms 1 100000000)) (r12.h0 t n g ln ms), .b false, .b false, .b false, .ret (AV.tup [AV.int IntKind.i64 (r33.v0 n g t.fr), AV.int IntKind.i64 (r33.v1 n g t.fr)]) (r12.h0 t n g ln ms), .loop (others 75 [2, 3, 4, 8, 11, 12, 13, 14, 15]) (Exit.exit 0) (L12a.X t n g ln ms (L12a.O.e0 h4d0 h4d1 h4d2)) (L12a.XH t n g ln ms (L12a.O.e0 h4d0 h4d1 h4d2)), .b false] (by simp) (by simp) (kmp (by kernel_rfl) (And.intro (r18 (t) o0 (n) o1 (g) o2 (r12.h0 t n g ln ms)) (And.intro (show (bnot (r18.v t n g == 0)) = false by rw [h1]; try rfl) (And.intro (r32 (ln) (1) (50000) (r12.h0 t n g ln ms)) (And.intro (show (bnot (r32.v ln 1 50000)) = false by rw [h2]; try rfl) (And.intro (show (bnot (r32.v ln 1 50000)) = false by rw [h2]; try rfl) (And.intro (r32 (ms) (1) (100000000) (r12.h0 t n g ln ms)) (And.intro (show (bnot (r32.v ln 1 50000)) = false by rw [h2]; try rfl) (And.intro (show (bnot (r32.v ln 1 50000)) = false by rw [h2]; try rfl) (And.intro (show (bnot (r32.v ms 1 100000000)) = false by rw [h3]; try rfl) (And.intro (r33 (n) (g) o3 (t.fr) (r12.h0 t n g ln ms)) (And.intro (L12a.e0 (t) (n) (g) (ln) (ms) o4 (false) (0) (0) (0) (And.intro (show (0 : Int) ≤ (0 : Int) by first | decide | exact Int.NonNeg.mk _) (show (0 : Int) ≤ (50001 : Int) by first | decide | exact Int.NonNeg.mk _)) h4d0 h4d1 h4d2 h4) (And.intro (show (bnot h4d0) = false by rw [h5]; try rfl) (And.intro (And.intro trivial (show (AV.agg [AV.int IntKind.i64 h4d1, AV.int IntKind.i64 h4d2]) = ((AV.agg ((AV.int IntKind.i64 (r12.v0 t n g ln ms)) :: ((AV.int IntKind.i64 (r12.v1 t n g ln ms)) :: [])))) by first | (simp only [r12.v0, r12.v1, r12.v2, h1, h2, h3, h5, h4, cond_true, cond_false]; done) | (try unfold r12.v0; try unfold r12.v1; try unfold r12.v2; try simp only [h1, cond_true, cond_false]; try simp only [h2, cond_true, cond_false]; try simp only [h3, cond_true, cond_false]; try simp only [h5, cond_true, cond_false]; try simp only [h4, cond_true, cond_false]; try rfl; done) | rfl)) (And.intro (show (AV.int IntKind.i64 0) = ((AV.int IntKind.i64 (r12.v2 t n g ln ms))) by first | (simp only [r12.v0, r12.v1, r12.v2, h1, h2, h3, h5, h4, cond_true, cond_false]; done) | (try unfold r12.v0; try unfold r12.v1; try unfold r12.v2; try simp only [h1, cond_true, cond_false]; try simp only [h2, cond_true, cond_false]; try simp only [h3, cond_true, cond_false]; try simp only [h5, cond_true, cond_false]; try simp only [h4, cond_true, cond_false]; try rfl; done) | rfl) trivial))))))))))))))) h
          | false h5 =>
            exact Ret.of_run1 mix [(AV.agg ((AV.int IntKind.i64 (r12.v0 t n g ln ms)) :: ((AV.int IntKind.i64 (r12.v1 t n g ln ms)) :: []))), (AV.int IntKind.i64 (r12.v2 t n g ln ms))] Try.func12 rfl [.ret (AV.int IntKind.i64 (r18.v t n g)) (r12.h0 t n g ln ms), .b false, .ret (AV.bool (r32.v ln 1 50000)) (r12.h0 t n g ln ms), .b false, .b false, .ret (AV.bool (r32.v ms 1 100000000)) (r12.h0 t n g ln ms), .b false, .b false, .b false, .ret (AV.tup [AV.int IntKind.i64 (r33.v0 n g t.fr), AV.int IntKind.i64 (r33.v1 n g t.fr)]) (r12.h0 t n g ln ms), .loop (others 75 [2, 3, 4, 8, 11, 12, 13, 14, 15]) (Exit.exit 0) (L12a.X t n g ln ms (L12a.O.e0 h4d0 h4d1 h4d2)) (L12a.XH t n g ln ms (L12a.O.e0 h4d0 h4d1 h4d2)), .b true] (by simp) (by simp) (kmp (by kernel_rfl) (And.intro (r18 (t) o0 (n) o1 (g) o2 (r12.h0 t n g ln ms)) (And.intro (show (bnot (r18.v t n g == 0)) = false by rw [h1]; try rfl) (And.intro (r32 (ln) (1) (50000) (r12.h0 t n g ln ms)) (And.intro (show (bnot (r32.v ln 1 50000)) = false by rw [h2]; try rfl) (And.intro (show (bnot (r32.v ln 1 50000)) = false by rw [h2]; try rfl) (And.intro (r32 (ms) (1) (100000000) (r12.h0 t n g ln ms)) (And.intro (show (bnot (r32.v ln 1 50000)) = false by rw [h2]; try rfl) (And.intro (show (bnot (r32.v ln 1 50000)) = false by rw [h2]; try rfl) (And.intro (show (bnot (r32.v ms 1 100000000)) = false by rw [h3]; try rfl) (And.intro (r33 (n) (g) o3 (t.fr) (r12.h0 t n g ln ms)) (And.intro (L12a.e0 (t) (n) (g) (ln) (ms) o4 (false) (0) (0) (0) (And.intro (show (0 : Int) ≤ (0 : Int) by first | decide | exact Int.NonNeg.mk _) (show (0 : Int) ≤ (50001 : Int) by first | decide | exact Int.NonNeg.mk _)) h4d0 h4d1 h4d2 h4) (And.intro (show (bnot h4d0) = true by rw [h5]; try rfl) (And.intro (And.intro trivial (show (AV.agg [AV.int IntKind.i64 0, AV.int IntKind.i64 0]) = ((AV.agg ((AV.int IntKind.i64 (r12.v0 t n g ln ms)) :: ((AV.int IntKind.i64 (r12.v1 t n g ln ms)) :: [])))) by first | (simp only [r12.v0, r12.v1, r12.v2, h1, h2, h3, h5, h4, cond_true, cond_false]; done) | (try unfold r12.v0; try unfold r12.v1; try unfold r12.v2; try simp only [h1, cond_true, cond_false]; try simp only [h2, cond_true, cond_false]; try simp only [h3, cond_true, cond_false]; try simp only [h5, cond_true, cond_false]; try simp only [h4, cond_true, cond_false]; try rfl; done) | rfl)) (And.intro (show (AV.int IntKind.i64 9) = ((AV.int IntKind.i64 (r12.v2 t n g ln ms))) by first | (simp only [r12.v0, r12.v1, r12.v2, h1, h2, h3, h5, h4, cond_true, cond_false]; done) | (try unfold r12.v0; try unfold r12.v1; try unfold r12.v2; try simp only [h1, cond_true, cond_false]; try simp only [h2, cond_true, cond_false]; try simp only [h3, cond_true, cond_false]; try simp only [h5, cond_true, cond_false]; try simp only [h4, cond_true, cond_false]; try rfl; done) | rfl) trivial))))))))))))))) h
      | false =>
        exact Ret.of_run1 mix [(AV.agg ((AV.int IntKind.i64 (r12.v0 t n g ln ms)) :: ((AV.int IntKind.i64 (r12.v1 t n g ln ms)) :: []))), (AV.int IntKind.i64 (r12.v2 t n g ln ms))] Try.func12 rfl [.ret (AV.int IntKind.i64 (r18.v t n g)) (r12.h0 t n g ln ms), .b false, .ret (AV.bool (r32.v ln 1 50000)) (r12.h0 t n g ln ms), .b false, .b false, .ret (AV.bool (r32.v ms 1 100000000)) (r12.h0 t n g ln ms), .b false, .b false, .b true] (by simp) (by simp) (kmp (by kernel_rfl) (And.intro (r18 (t) o0 (n) o1 (g) o2 (r12.h0 t n g ln ms)) (And.intro (show (bnot (r18.v t n g == 0)) = false by rw [h1]; try rfl) (And.intro (r32 (ln) (1) (50000) (r12.h0 t n g ln ms)) (And.intro (show (bnot (r32.v ln 1 50000)) = false by rw [h2]; try rfl) (And.intro (show (bnot (r32.v ln 1 50000)) = false by rw [h2]; try rfl) (And.intro (r32 (ms) (1) (100000000) (r12.h0 t n g ln ms)) (And.intro (show (bnot (r32.v ln 1 50000)) = false by rw [h2]; try rfl) (And.intro (show (bnot (r32.v ln 1 50000)) = false by rw [h2]; try rfl) (And.intro (show (bnot (r32.v ms 1 100000000)) = true by rw [h3]; try rfl) (And.intro (And.intro trivial (show (AV.agg [AV.int IntKind.i64 0, AV.int IntKind.i64 0]) = ((AV.agg ((AV.int IntKind.i64 (r12.v0 t n g ln ms)) :: ((AV.int IntKind.i64 (r12.v1 t n g ln ms)) :: [])))) by first | (simp only [r12.v0, r12.v1, r12.v2, h1, h2, h3, cond_true, cond_false]; done) | (try unfold r12.v0; try unfold r12.v1; try unfold r12.v2; try simp only [h1, cond_true, cond_false]; try simp only [h2, cond_true, cond_false]; try simp only [h3, cond_true, cond_false]; try rfl; done) | rfl)) (And.intro (show (AV.int IntKind.i64 6) = ((AV.int IntKind.i64 (r12.v2 t n g ln ms))) by first | (simp only [r12.v0, r12.v1, r12.v2, h1, h2, h3, cond_true, cond_false]; done) | (try unfold r12.v0; try unfold r12.v1; try unfold r12.v2; try simp only [h1, cond_true, cond_false]; try simp only [h2, cond_true, cond_false]; try simp only [h3, cond_true, cond_false]; try rfl; done) | rfl) trivial)))))))))))) h
    | false =>
      exact Ret.of_run1 mix [(AV.agg ((AV.int IntKind.i64 (r12.v0 t n g ln ms)) :: ((AV.int IntKind.i64 (r12.v1 t n g ln ms)) :: []))), (AV.int IntKind.i64 (r12.v2 t n g ln ms))] Try.func12 rfl [.ret (AV.int IntKind.i64 (r18.v t n g)) (r12.h0 t n g ln ms), .b false, .ret (AV.bool (r32.v ln 1 50000)) (r12.h0 t n g ln ms), .b true, .b true, .b true, .b true, .b true] (by simp) (by simp) (kmp (by kernel_rfl) (And.intro (r18 (t) o0 (n) o1 (g) o2 (r12.h0 t n g ln ms)) (And.intro (show (bnot (r18.v t n g == 0)) = false by rw [h1]; try rfl) (And.intro (r32 (ln) (1) (50000) (r12.h0 t n g ln ms)) (And.intro (show (bnot (r32.v ln 1 50000)) = true by rw [h2]; try rfl) (And.intro (show (bnot (r32.v ln 1 50000)) = true by rw [h2]; try rfl) (And.intro (show (bnot (r32.v ln 1 50000)) = true by rw [h2]; try rfl) (And.intro (show (bnot (r32.v ln 1 50000)) = true by rw [h2]; try rfl) (And.intro (rfl : true = true) (And.intro (And.intro trivial (show (AV.agg [AV.int IntKind.i64 0, AV.int IntKind.i64 0]) = ((AV.agg ((AV.int IntKind.i64 (r12.v0 t n g ln ms)) :: ((AV.int IntKind.i64 (r12.v1 t n g ln ms)) :: [])))) by first | (simp only [r12.v0, r12.v1, r12.v2, h1, h2, cond_true, cond_false]; done) | (try unfold r12.v0; try unfold r12.v1; try unfold r12.v2; try simp only [h1, cond_true, cond_false]; try simp only [h2, cond_true, cond_false]; try rfl; done) | rfl)) (And.intro (show (AV.int IntKind.i64 6) = ((AV.int IntKind.i64 (r12.v2 t n g ln ms))) by first | (simp only [r12.v0, r12.v1, r12.v2, h1, h2, cond_true, cond_false]; done) | (try unfold r12.v0; try unfold r12.v1; try unfold r12.v2; try simp only [h1, cond_true, cond_false]; try simp only [h2, cond_true, cond_false]; try rfl; done) | rfl) trivial))))))))))) h
  | false =>
    have h1p := ne_of_beq_false h1
    exact Ret.of_run1 mix [(AV.agg ((AV.int IntKind.i64 (r12.v0 t n g ln ms)) :: ((AV.int IntKind.i64 (r12.v1 t n g ln ms)) :: []))), (AV.int IntKind.i64 (r12.v2 t n g ln ms))] Try.func12 rfl [.ret (AV.int IntKind.i64 (r18.v t n g)) (r12.h0 t n g ln ms), .b true] (by simp) (by simp) (kmp (by kernel_rfl) (And.intro (r18 (t) o0 (n) o1 (g) o2 (r12.h0 t n g ln ms)) (And.intro (show (bnot (r18.v t n g == 0)) = true by rw [h1]; try rfl) (And.intro (And.intro trivial (show (AV.agg [AV.int IntKind.i64 0, AV.int IntKind.i64 0]) = ((AV.agg ((AV.int IntKind.i64 (r12.v0 t n g ln ms)) :: ((AV.int IntKind.i64 (r12.v1 t n g ln ms)) :: [])))) by first | (simp only [r12.v0, r12.v1, r12.v2, h1, cond_true, cond_false]; done) | (try unfold r12.v0; try unfold r12.v1; try unfold r12.v2; try simp only [h1, cond_true, cond_false]; try rfl; done) | rfl)) (And.intro (show (AV.int IntKind.i64 (r18.v t n g)) = ((AV.int IntKind.i64 (r12.v2 t n g ln ms))) by first | (simp only [r12.v0, r12.v1, r12.v2, h1, cond_true, cond_false]; done) | (try unfold r12.v0; try unfold r12.v1; try unfold r12.v2; try simp only [h1, cond_true, cond_false]; try rfl; done) | rfl) trivial))))) h

noncomputable def r31.v0 : ByteArray := ByteArray.mk #[116]

theorem r31 (h : AHeap) : Ret Try.prog 31 ([]) h (AV.agg ((AV.str r31.v0) :: ((AV.int IntKind.i64 6000) :: ((AV.int IntKind.i64 0) :: ((AV.int IntKind.i64 5000) :: ((AV.int IntKind.i64 10000) :: ((AV.int IntKind.i64 15000) :: ((AV.int IntKind.i64 2000) :: ((AV.int IntKind.i64 1000) :: []))))))))) h := by
  exact Ret.of_run1 mix [(AV.agg ((AV.str r31.v0) :: ((AV.int IntKind.i64 6000) :: ((AV.int IntKind.i64 0) :: ((AV.int IntKind.i64 5000) :: ((AV.int IntKind.i64 10000) :: ((AV.int IntKind.i64 15000) :: ((AV.int IntKind.i64 2000) :: ((AV.int IntKind.i64 1000) :: [])))))))))] Try.func31 rfl [] (by simp) (by simp) (kmp (by kernel_rfl) (And.intro (And.intro trivial (show (AV.agg [AV.str (ByteArray.mk #[116]), AV.int IntKind.i64 6000, AV.int IntKind.i64 0, AV.int IntKind.i64 5000, AV.int IntKind.i64 10000, AV.int IntKind.i64 15000, AV.int IntKind.i64 2000, AV.int IntKind.i64 1000]) = ((AV.agg ((AV.str r31.v0) :: ((AV.int IntKind.i64 6000) :: ((AV.int IntKind.i64 0) :: ((AV.int IntKind.i64 5000) :: ((AV.int IntKind.i64 10000) :: ((AV.int IntKind.i64 15000) :: ((AV.int IntKind.i64 2000) :: ((AV.int IntKind.i64 1000) :: [])))))))))) by first | (simp only [r31.v0, cond_true, cond_false]; done) | (try unfold r31.v0; try rfl; done) | rfl)) trivial)) h

noncomputable def r10.v : Bool := r13.v0 (TD.mk r31.v0 6000 0 5000 10000 15000 2000 1000) 1 fun (i : Nat) => [LD.mk (ByteArray.mk #[97]) 2000 1000 8000].getD i default

noncomputable abbrev r10.h0 : AHeap := ([AObj.var (AV.agg [AV.int IntKind.i64 6000, AV.int IntKind.i64 1, AV.int IntKind.i64 5000, AV.int IntKind.i64 1])])

noncomputable abbrev r10.h1 : AHeap := ([AObj.var (AV.agg [AV.int IntKind.i64 6000, AV.int IntKind.i64 1, AV.int IntKind.i64 5000, AV.int IntKind.i64 1]), AObj.var (AV.agg [AV.int IntKind.i64 2500, AV.int IntKind.i64 4500])])

theorem r10 (h : AHeap) : Ret Try.prog 10 ([]) h (AV.bool r10.v) h := by
  have o0 : ∀ (i : Nat), ([LD.mk (ByteArray.mk #[(97 : UInt8)]) (2000 : Int) (1000 : Int) (8000 : Int)].getD i default).nm.size ≤ (9223372036854775807 : Nat) := by first | assumption | omega | (apply awk_g <;> first | assumption | omega) | (simp_all; done)
  exact Ret.of_run1 mix [(AV.bool r10.v)] Try.func10 rfl [.ret (AV.agg [AV.str r31.v0, AV.int IntKind.i64 6000, AV.int IntKind.i64 0, AV.int IntKind.i64 5000, AV.int IntKind.i64 10000, AV.int IntKind.i64 15000, AV.int IntKind.i64 2000, AV.int IntKind.i64 1000]) ([]), .fret ([AV.agg [AV.str r31.v0, AV.int IntKind.i64 6000, AV.int IntKind.i64 0, AV.int IntKind.i64 5000, AV.int IntKind.i64 10000, AV.int IntKind.i64 15000, AV.int IntKind.i64 2000, AV.int IntKind.i64 1000], AV.sl 4 1 fun (i : Nat) => ([LD.mk (ByteArray.mk #[97]) 2000 1000 8000].getD i default).av]) ([]) (AV.tup [AV.agg [AV.int IntKind.i64 6000, AV.int IntKind.i64 1, AV.int IntKind.i64 5000, AV.int IntKind.i64 1], AV.int IntKind.i64 0]) ([]), .ret (AV.agg [AV.str r31.v0, AV.int IntKind.i64 6000, AV.int IntKind.i64 0, AV.int IntKind.i64 5000, AV.int IntKind.i64 10000, AV.int IntKind.i64 15000, AV.int IntKind.i64 2000, AV.int IntKind.i64 1000]) (r10.h0), .fret ([AV.agg [AV.str r31.v0, AV.int IntKind.i64 6000, AV.int IntKind.i64 0, AV.int IntKind.i64 5000, AV.int IntKind.i64 10000, AV.int IntKind.i64 15000, AV.int IntKind.i64 2000, AV.int IntKind.i64 1000], AV.sl 4 1 fun (i : Nat) => ([LD.mk (ByteArray.mk #[97]) 2000 1000 8000].getD i default).av, AV.int IntKind.i64 1000, AV.int IntKind.i64 10000]) (r10.h0) (AV.tup [AV.agg [AV.int IntKind.i64 2500, AV.int IntKind.i64 4500], AV.int IntKind.i64 0]) (r10.h0), .ret (AV.agg [AV.str r31.v0, AV.int IntKind.i64 6000, AV.int IntKind.i64 0, AV.int IntKind.i64 5000, AV.int IntKind.i64 10000, AV.int IntKind.i64 15000, AV.int IntKind.i64 2000, AV.int IntKind.i64 1000]) (r10.h1), .fret ([AV.agg [AV.str r31.v0, AV.int IntKind.i64 6000, AV.int IntKind.i64 0, AV.int IntKind.i64 5000, AV.int IntKind.i64 10000, AV.int IntKind.i64 15000, AV.int IntKind.i64 2000, AV.int IntKind.i64 1000], AV.sl 4 1 fun (i : Nat) => ([LD.mk (ByteArray.mk #[97]) 2000 1000 8000].getD i default).av]) (r10.h1) (AV.tup [AV.bool (r13.v0 (TD.mk r31.v0 6000 0 5000 10000 15000 2000 1000) 1 fun (i : Nat) => [LD.mk (ByteArray.mk #[97]) 2000 1000 8000].getD i default), AV.int IntKind.i64 0]) (r10.h1), .b true, .b true, .b true, .b true, .b true, .b true, .b true, .b true, .b true, .b true, .b true, .b true, .b true, .b true, .b true, .b true, .b true, .b true] (by simp) (by simp) (kmp (by kernel_rfl) (And.intro (r31 ([])) (And.intro (show Weak 0 ([AV.agg [AV.str r31.v0, AV.int IntKind.i64 6000, AV.int IntKind.i64 0, AV.int IntKind.i64 5000, AV.int IntKind.i64 10000, AV.int IntKind.i64 15000, AV.int IntKind.i64 2000, AV.int IntKind.i64 1000], AV.sl 4 1 fun (a : Nat) => (Col.ofList [AV.agg [AV.str (ByteArray.mk #[97]), AV.int IntKind.i64 2000, AV.int IntKind.i64 1000, AV.int IntKind.i64 8000]]).get a]) ([]) ([AV.agg [AV.str r31.v0, AV.int IntKind.i64 6000, AV.int IntKind.i64 0, AV.int IntKind.i64 5000, AV.int IntKind.i64 10000, AV.int IntKind.i64 15000, AV.int IntKind.i64 2000, AV.int IntKind.i64 1000], AV.sl 4 1 fun (i : Nat) => ([LD.mk (ByteArray.mk #[97]) 2000 1000 8000].getD i default).av]) ([]) from Weak.same (And.intro (Or.inl rfl) (And.intro (same_recs (av := LD.av) [LD.mk (ByteArray.mk #[97]) 2000 1000 8000] rfl (fun i hi => by rcases i with _ | _ | _ | _ | _ | _ | _ | _ | i <;> first | rfl | (exact absurd hi (by omega)))) trivial))) (And.intro (r24 (TD.mk r31.v0 6000 0 5000 10000 15000 2000 1000) (show (1 : Nat) ≤ (9223372036854775807 : Nat) by first | decide | exact Int.NonNeg.mk _) (1) (show (1 : Nat) ≤ (12 : Nat) by first | decide | exact Int.NonNeg.mk _) (fun (i : Nat) => [LD.mk (ByteArray.mk #[97]) 2000 1000 8000].getD i default) o0 ([])) (And.intro (r31 (r10.h0)) (And.intro (show Weak 1 ([AV.agg [AV.str r31.v0, AV.int IntKind.i64 6000, AV.int IntKind.i64 0, AV.int IntKind.i64 5000, AV.int IntKind.i64 10000, AV.int IntKind.i64 15000, AV.int IntKind.i64 2000, AV.int IntKind.i64 1000], AV.sl 4 1 fun (a : Nat) => (Col.ofList [AV.agg [AV.str (ByteArray.mk #[97]), AV.int IntKind.i64 2000, AV.int IntKind.i64 1000, AV.int IntKind.i64 8000]]).get a, AV.int IntKind.i64 1000, AV.int IntKind.i64 10000]) (r10.h0) ([AV.agg [AV.str r31.v0, AV.int IntKind.i64 6000, AV.int IntKind.i64 0, AV.int IntKind.i64 5000, AV.int IntKind.i64 10000, AV.int IntKind.i64 15000, AV.int IntKind.i64 2000, AV.int IntKind.i64 1000], AV.sl 4 1 fun (i : Nat) => ([LD.mk (ByteArray.mk #[97]) 2000 1000 8000].getD i default).av, AV.int IntKind.i64 1000, AV.int IntKind.i64 10000]) (r10.h0) from Weak.same (And.intro (Or.inl rfl) (And.intro (same_recs (av := LD.av) [LD.mk (ByteArray.mk #[97]) 2000 1000 8000] rfl (fun i hi => by rcases i with _ | _ | _ | _ | _ | _ | _ | _ | i <;> first | rfl | (exact absurd hi (by omega)))) (And.intro (Or.inl rfl) (And.intro (Or.inl rfl) trivial))))) (And.intro (r12 (TD.mk r31.v0 6000 0 5000 10000 15000 2000 1000) (show (1 : Nat) ≤ (9223372036854775807 : Nat) by first | decide | exact Int.NonNeg.mk _) (1) (show (1 : Nat) ≤ (12 : Nat) by first | decide | exact Int.NonNeg.mk _) (fun (i : Nat) => [LD.mk (ByteArray.mk #[97]) 2000 1000 8000].getD i default) o0 (1000) (10000) (r10.h0)) (And.intro (r31 (r10.h1)) (And.intro (show Weak 2 ([AV.agg [AV.str r31.v0, AV.int IntKind.i64 6000, AV.int IntKind.i64 0, AV.int IntKind.i64 5000, AV.int IntKind.i64 10000, AV.int IntKind.i64 15000, AV.int IntKind.i64 2000, AV.int IntKind.i64 1000], AV.sl 4 1 fun (a : Nat) => (Col.ofList [AV.agg [AV.str (ByteArray.mk #[97]), AV.int IntKind.i64 2000, AV.int IntKind.i64 1000, AV.int IntKind.i64 8000]]).get a]) (r10.h1) ([AV.agg [AV.str r31.v0, AV.int IntKind.i64 6000, AV.int IntKind.i64 0, AV.int IntKind.i64 5000, AV.int IntKind.i64 10000, AV.int IntKind.i64 15000, AV.int IntKind.i64 2000, AV.int IntKind.i64 1000], AV.sl 4 1 fun (i : Nat) => ([LD.mk (ByteArray.mk #[97]) 2000 1000 8000].getD i default).av]) (r10.h1) from Weak.same (And.intro (Or.inl rfl) (And.intro (same_recs (av := LD.av) [LD.mk (ByteArray.mk #[97]) 2000 1000 8000] rfl (fun i hi => by rcases i with _ | _ | _ | _ | _ | _ | _ | _ | i <;> first | rfl | (exact absurd hi (by omega)))) trivial))) (And.intro (r13 (TD.mk r31.v0 6000 0 5000 10000 15000 2000 1000) (show (1 : Nat) ≤ (9223372036854775807 : Nat) by first | decide | exact Int.NonNeg.mk _) (1) (show (1 : Nat) ≤ (12 : Nat) by first | decide | exact Int.NonNeg.mk _) (fun (i : Nat) => [LD.mk (ByteArray.mk #[97]) 2000 1000 8000].getD i default) o0 (r10.h1)) (And.intro (rfl : true = true) (And.intro (rfl : true = true) (And.intro (rfl : true = true) (And.intro (rfl : true = true) (And.intro (rfl : true = true) (And.intro (rfl : true = true) (And.intro (rfl : true = true) (And.intro (rfl : true = true) (And.intro (rfl : true = true) (And.intro (rfl : true = true) (And.intro (rfl : true = true) (And.intro (rfl : true = true) (And.intro (rfl : true = true) (And.intro (rfl : true = true) (And.intro (rfl : true = true) (And.intro (rfl : true = true) (And.intro (rfl : true = true) (And.intro (rfl : true = true) (And.intro (show (AV.bool (r13.v0 (TD.mk r31.v0 6000 0 5000 10000 15000 2000 1000) 1 fun (i : Nat) => [LD.mk (ByteArray.mk #[97]) 2000 1000 8000].getD i default)) = ((AV.bool r10.v)) by first | (simp only [r10.v, cond_true, cond_false]; done) | (try unfold r10.v; try rfl; done) | rfl) trivial))))))))))))))))))))))))))))) h

end Go.Proofs.Ytngpbfocjgikaaa

open Go

namespace Go.Proofs.Ytngpbfocjgikaaa

set_option linter.unusedSimpArgs false

set_option linter.unusedVariables false

set_option maxHeartbeats 0

set_option maxRecDepth 100000

noncomputable def r19.v (t : TD) (n : Nat) (g : Nat → LD) : Int := (bif r17.v t == 0 then r15.v n g t.tl else r17.v t)

noncomputable abbrev r19.h0 (t : TD) (n : Nat) (g : Nat → LD) : AHeap := ([AObj.var (AV.agg [AV.str t.nm, AV.int IntKind.i64 t.tl, AV.int IntKind.i64 t.fr, AV.int IntKind.i64 t.re, AV.int IntKind.i64 t.l0, AV.int IntKind.i64 t.l1, AV.int IntKind.i64 t.e0, AV.int IntKind.i64 t.e1])])

theorem r19 (t : TD) (hnm : t.nm.size ≤ 9223372036854775807) (n : Nat) (hn : n ≤ 9223372036854775807) (g : Nat → LD) (hg : ∀ (i : Nat), (g i).nm.size ≤ 9223372036854775807) (h : AHeap) : Ret Try.prog 19 ([t.av, lds n g]) h (AV.int IntKind.i64 (r19.v t n g)) h := by
  have o0 : t.nm.size ≤ (9223372036854775807 : Nat) := by first | assumption | omega | (exact hg _) | (exact hg _ (by omega)) | (simp_all; done)
  cases h1 : r17.v t == 0 with
  | true =>
    have h1p := eq_of_beq h1
    have o1 : n ≤ (9223372036854775807 : Nat) := by first | assumption | omega | (exact hg _) | (exact hg _ (by omega)) | (simp_all; done)
    have o2 : ∀ (i : Nat), (g i).nm.size ≤ (9223372036854775807 : Nat) := by first | assumption | omega | (exact hg _) | (exact hg _ (by omega)) | (simp_all; done)
    exact Ret.of_run1 mix [(AV.int IntKind.i64 (r19.v t n g))] Try.func19 rfl [.ret (AV.int IntKind.i64 (r17.v t)) (r19.h0 t n g), .b false, .ret (AV.int IntKind.i64 (r15.v n g t.tl)) (r19.h0 t n g)] (by simp) (by simp) (kmp (by kernel_rfl) (And.intro (r17 (t) o0 (r19.h0 t n g)) (And.intro (show (bnot (r17.v t == 0)) = false by rw [h1]; try rfl) (And.intro (r15 (n) (g) o1 o2 (t.tl) (r19.h0 t n g)) (And.intro (show (AV.int IntKind.i64 (r15.v n g t.tl)) = ((AV.int IntKind.i64 (r19.v t n g))) by first | (simp only [r19.v, h1, cond_true, cond_false]; done) | (try unfold r19.v; try simp only [h1, cond_true, cond_false]; try rfl; done) | rfl) trivial))))) h
  | false =>
    have h1p := ne_of_beq_false h1
    exact Ret.of_run1 mix [(AV.int IntKind.i64 (r19.v t n g))] Try.func19 rfl [.ret (AV.int IntKind.i64 (r17.v t)) (r19.h0 t n g), .b true] (by simp) (by simp) (kmp (by kernel_rfl) (And.intro (r17 (t) o0 (r19.h0 t n g)) (And.intro (show (bnot (r17.v t == 0)) = true by rw [h1]; try rfl) (And.intro (show (AV.int IntKind.i64 (r17.v t)) = ((AV.int IntKind.i64 (r19.v t n g))) by first | (simp only [r19.v, h1, cond_true, cond_false]; done) | (try unfold r19.v; try simp only [h1, cond_true, cond_false]; try rfl; done) | rfl) trivial)))) h

end Go.Proofs.Ytngpbfocjgikaaa

open Go

namespace Go.Proofs.Ytngpbfocjgikaaa

set_option maxHeartbeats 0

set_option maxRecDepth 100000

set_option linter.unusedVariables false

set_option linter.unusedSimpArgs false

noncomputable def okR (i : Nat) (c : Int) : Bool := r55.v c && !(decide (c ≥ 65) && decide (c ≤ 90)) && (decide (0 < i) || r56.v c)

theorem L36_run {s : ByteArray} (hs : s.size ≤ 9223372036854775807) : L36.run s 0 = srch (fun i => !okR i (sbyte s i)) (fun _ => L36.O.e0) .e1 0 s.size := by
  have := search_eq (n := s.size) (fun i => !okR i (sbyte s i)) (fun _ => L36.O.e0) .e1 (N := L36.N s) (fun k i h => by
    simp only [L36.N, wrap_succ hs h, Int.toNat_natCast]; rw [decide_eq_true (by omega)]
    unfold okR
    have e : ((i : Int) == 0) = !decide (0 < i) := by
      rcases Nat.eq_zero_or_pos i with q | q
      · subst q; rfl
      · rw [decide_eq_true q]; simp; omega
    rw [e]
    cases r55.v (sbyte s i) <;> cases decide (sbyte s i ≥ 65) <;> cases decide (sbyte s i ≤ 90) <;> cases decide (0 < i) <;> cases r56.v (sbyte s i) <;> rfl) (fun k => by simp [L36.N]) (s.size + 1) 0 (Nat.zero_le _) (by omega)
  simpa [L36.run, L36.mu] using this

theorem L57_run {s : ByteArray} (hs : s.size ≤ 9223372036854775807) : L57.run s 0 = srch (fun i => !r58.v (sbyte s i)) (fun i => L57.O.e0 i) (.e0 s.size) 0 s.size := by
  have := search_eq (n := s.size) (fun i => !r58.v (sbyte s i)) (fun i => L57.O.e0 i) (.e0 s.size) (N := L57.N s) (fun k i h => by
    simp only [L57.N, wrap_succ hs h, Int.toNat_natCast]; rw [decide_eq_true (by omega)]
    cases r58.v (sbyte s i) <;> rfl) (fun k => by simp [L57.N]) (s.size + 1) 0 (Nat.zero_le _) (by omega)
  simpa [L57.run, L57.mu] using this

theorem r58_all : ((List.range 256).all fun c => (r58.v (c : Int) == okR 1 (c : Int)) && ((decide ((c : Int) ≥ 97) && decide ((c : Int) ≤ 122)) == okR 0 (c : Int))) = true := by kernel_rfl

theorem r58_ok {c : Int} (h0 : 0 ≤ c) (h1 : c ≤ 255) : r58.v c = okR 1 c ∧ (decide (c ≥ 97) && decide (c ≤ 122)) = okR 0 c := by
  have := List.all_eq_true.1 r58_all c.toNat (List.mem_range.2 (by omega))
  have e : ((c.toNat : Nat) : Int) = c := Int.toNat_of_nonneg h0
  rw [e, Bool.and_eq_true] at this
  exact ⟨eq_of_beq this.1, eq_of_beq this.2⟩

theorem okR_pos {i : Nat} (h : 0 < i) (c : Int) : okR i c = okR 1 c := by
  unfold okR; rw [decide_eq_true h]; rfl

theorem okR_01 {c : Int} (h : okR 0 c = true) : okR 1 c = true := by
  unfold okR at h ⊢
  revert h
  cases r55.v c <;> cases decide (c ≥ 65) <;> cases decide (c ≤ 90) <;> simp

theorem name_eq {s : ByteArray} (hs : s.size ≤ 9223372036854775807) : r38.v s = r36.v s := by
  unfold r38.v r36.v r57.v
  rw [L36_run hs, L57_run hs, srch_any]
  have h1 : (s.toList == (ByteArray.mk #[]).toList) = decide ((s.size : Int) < 1) := by
    cases h : (s.toList == (ByteArray.mk #[]).toList) with
    | true => rw [str_eq h]; rfl
    | false => have := str_pos h; exact (decide_eq_false (by omega)).symm
  rw [h1]
  have hc := sbyte_bd s
  rcases Nat.lt_or_ge 0 s.size with q | q
  · rw [decide_eq_false (show ¬ (s.size : Int) < 1 by omega), cond_false, decide_eq_true (show (s.size : Int) ≥ 1 by omega), cond_true]
    have hb : ∀ i, i < s.size → (okR i (sbyte s i) = true ↔ r58.v (sbyte s i) = true ∧ (i = 0 → sbyte s 0 ≥ 97 ∧ sbyte s 0 ≤ 122)) := by
      intro i hi
      obtain ⟨a1, a2⟩ := r58_ok (hc i).1 (hc i).2
      rcases Nat.eq_zero_or_pos i with e | e
      · subst e
        rw [a1]
        constructor
        · intro h
          refine ⟨okR_01 h, fun _ => ?_⟩
          rw [← a2, Bool.and_eq_true] at h
          exact ⟨of_decide_eq_true h.1, of_decide_eq_true h.2⟩
        · intro ⟨_, h⟩
          rw [← a2, decide_eq_true (h rfl).1, decide_eq_true (h rfl).2]; rfl
      · rw [okR_pos e, a1]
        exact ⟨fun h => ⟨h, fun h => by omega⟩, fun h => h.1⟩
    by_cases hsz : (s.size : Int) > 24
    · rw [decide_eq_true hsz, cond_true, decide_eq_false (show ¬ (s.size : Int) ≤ 24 by omega)]
      cases anyN s.size _ <;> rfl
    · rw [decide_eq_false hsz, cond_false, decide_eq_true (show (s.size : Int) ≤ 24 by omega)]
      cases hA : anyN s.size (fun i => !okR i (sbyte s i)) with
      | true =>
        obtain ⟨i, hi, hp⟩ := anyN_true.1 hA
        have hno : ¬ (okR i (sbyte s i) = true) := by simpa using hp
        rw [hb i hi] at hno
        rw [cond_true]
        show _ = false
        by_cases k1 : sbyte s 0 < 97
        · rw [decide_eq_true k1]; rfl
        rw [decide_eq_false k1, cond_false]
        by_cases k2 : sbyte s 0 > 122
        · rw [decide_eq_true k2]; rfl
        rw [decide_eq_false k2, cond_false]
        rcases srch_cases (fun i => !r58.v (sbyte s i)) (fun i => L57.O.e0 i) (.e0 s.size) s.size 0 with ⟨a1, a2⟩ | ⟨j, a1, a2, a3, a4, a5⟩
        · exfalso
          have := a1 i (Nat.zero_le _) (by omega)
          exact hno ⟨by simpa using this, fun _ => by omega⟩
        · rw [a5]
          show ((j : Int) == (s.size : Int)) = false
          rw [beq_eq_false_iff_ne]; omega
      | false =>
        have hall := anyN_false.1 hA
        have h0 := (hb 0 q).1 (by simpa using hall 0 q)
        have k1 := (h0.2 rfl).1
        have k2 := (h0.2 rfl).2
        rw [cond_false, decide_eq_false (show ¬ sbyte s 0 < 97 by omega), cond_false, decide_eq_false (show ¬ sbyte s 0 > 122 by omega), cond_false]
        rcases srch_cases (fun i => !r58.v (sbyte s i)) (fun i => L57.O.e0 i) (.e0 s.size) s.size 0 with ⟨a1, a2⟩ | ⟨j, a1, a2, a3, a4, a5⟩
        · rw [a2]; simp
        · exfalso
          have := (hb j (by omega)).1 (by simpa using hall j (by omega))
          rw [this.1] at a3; cases a3
  · rw [decide_eq_true (show (s.size : Int) < 1 by omega), cond_true, decide_eq_false (show ¬ (s.size : Int) ≥ 1 by omega), cond_false]
    cases anyN s.size _ <;> rfl

theorem truck_eq {t : TD} (h : t.nm.size ≤ 9223372036854775807) : r16.v t = r17.v t := by
  unfold r16.v r17.v
  rw [name_eq h]
  rfl

end Go.Proofs.Ytngpbfocjgikaaa

open Go

namespace Go.Proofs.Ytngpbfocjgikaaa

set_option maxHeartbeats 0

set_option maxRecDepth 100000

set_option linter.unusedVariables false

set_option linter.unusedSimpArgs false

end Go.Proofs.Ytngpbfocjgikaaa

open Go

namespace Go.Proofs.Ytngpbfocjgikaaa

set_option maxHeartbeats 0

set_option maxRecDepth 100000

set_option linter.unusedVariables false

set_option linter.unusedSimpArgs false

variable {n : Nat} {g : Nat → LD}

/-- Numbers of a load that are in range. -/
def LOk (s : LD) : Prop := (0 ≤ s.lo ∧ s.lo ≤ 50000) ∧ (1 ≤ s.ln ∧ s.ln ≤ 50000) ∧ (1 ≤ s.ms ∧ s.ms ≤ 100000000)

theorem ok49 {s : LD} : r49.v s = false ↔ LOk s := by
  have r : ∀ {x a b : Int}, r32.v x a b = true ↔ a ≤ x ∧ x ≤ b := by
    intro x a b
    constructor
    · exact bd_in
    · intro ⟨h1, h2⟩
      unfold r32.v
      rw [decide_eq_true (show x ≥ a from h1), cond_true, decide_eq_true h2]
  unfold r49.v LOk
  rw [← r, ← r, ← r]
  cases r32.v s.lo 0 50000 <;> cases r32.v s.ln 1 50000 <;> cases r32.v s.ms 1 100000000 <;> simp [bnot]

theorem idx_eq (p : Nat → Bool) (n : Nat) (O : Type) (f : O → Int) (hit : Nat → O) (miss : O) (h1 : ∀ i : Nat, f (hit i) = i) (h2 : f miss = -1) :
    decide (f (srch p hit miss 0 n) ≥ 0) = anyN n p := by
  rcases srch_cases p hit miss n 0 with ⟨a1, a2⟩ | ⟨j, a1, a2, a3, a4, a5⟩
  · rw [a2, h2, anyN_false.2 fun i hi => a1 i (Nat.zero_le _) (by omega)]; rfl
  · rw [a5, h1, anyN_true.2 ⟨j, by omega, a3⟩, decide_eq_true (by omega)]

theorem r46a_v (hn : n ≤ 9223372036854775807) : r46a.v n g = anyN n (fun i => r48.v (g i)) := by
  have := search_eq (n := n) (fun i => r48.v (g i)) (fun i => L74aa.O.e0 i) .e1 (N := L74aa.N n g) (fun k i h => by
    simp only [L74aa.N, wrap_succ hn h, Int.toNat_natCast]; rw [decide_eq_true (by omega)]; rfl) (fun k => by simp [L74aa.N]) (n + 1) 0 (Nat.zero_le _) (by omega)
  have e : L74aa.run n g 0 = srch (fun i => r48.v (g i)) (fun i => L74aa.O.e0 i) .e1 0 n := by simpa [L74aa.run] using this
  unfold r46a.v r47a.v r74a.v
  rw [e]
  exact idx_eq _ n L74aa.O (fun o => match o with | .e0 a => a | .e1 => -1) _ _ (fun i => rfl) rfl

theorem r46b_v (hn : n ≤ 9223372036854775807) : r46b.v n g = anyN n (fun i => r49.v (g i)) := by
  have := search_eq (n := n) (fun i => r49.v (g i)) (fun i => L74ba.O.e0 i) .e1 (N := L74ba.N n g) (fun k i h => by
    simp only [L74ba.N, wrap_succ hn h, Int.toNat_natCast]; rw [decide_eq_true (by omega)]; rfl) (fun k => by simp [L74ba.N]) (n + 1) 0 (Nat.zero_le _) (by omega)
  have e : L74ba.run n g 0 = srch (fun i => r49.v (g i)) (fun i => L74ba.O.e0 i) .e1 0 n := by simpa [L74ba.run] using this
  unfold r46b.v r47b.v r74b.v
  rw [e]
  exact idx_eq _ n L74ba.O (fun o => match o with | .e0 a => a | .e1 => -1) _ _ (fun i => rfl) rfl

theorem r46c_v (hn : n ≤ 9223372036854775807) (bed : Int) : r46c.v n g bed = anyN n (fun i => r50.v bed (g i)) := by
  have := search_eq (n := n) (fun i => r50.v bed (g i)) (fun i => L74c.O.e0 i) .e1 (N := L74c.N n g bed) (fun k i h => by
    simp only [L74c.N, wrap_succ hn h, Int.toNat_natCast]; rw [decide_eq_true (by omega)]; rfl) (fun k => by simp [L74c.N]) (n + 1) 0 (Nat.zero_le _) (by omega)
  have e : L74c.run n g bed 0 = srch (fun i => r50.v bed (g i)) (fun i => L74c.O.e0 i) .e1 0 n := by simpa [L74c.run] using this
  unfold r46c.v r47c.v r74c.v
  rw [e]
  exact idx_eq _ n L74c.O (fun o => match o with | .e0 a => a | .e1 => -1) _ _ (fun i => rfl) rfl

end Go.Proofs.Ytngpbfocjgikaaa

open Go

namespace Go.Proofs.Ytngpbfocjgikaaa

set_option maxHeartbeats 0

set_option maxRecDepth 100000

set_option linter.unusedVariables false

set_option linter.unusedSimpArgs false

theorem awake_true : r10.v = true := by kernel_rfl

variable {n : Nat} {g : Nat → LD} {t : TD}

theorem many_eq (hq : decide ((n : Int) > 64) = true) (e : Int) : r15.v n g e = 7 := by
  unfold r15.v
  rw [hq]; rfl

theorem checkm_eq (hnm : t.nm.size ≤ 9223372036854775807) (hq : decide ((n : Int) > 64) = true) : r18m.v t = r19.v t n g := by
  unfold r18m.v r19.v
  rw [truck_eq hnm, many_eq hq]

theorem few_n (h : r11.v t n g = true) : n ≤ 10 ∨ decide ((n : Int) > 64) = true := by
  unfold r11.v at h
  by_cases h1 : (n : Int) > 10
  · by_cases h2 : (n : Int) ≤ 64
    · rw [decide_eq_true h1, decide_eq_true h2] at h
      revert h
      cases decide ((t.nm.size : Int) > 100) <;> (intro h; first | exact absurd h (by decide) | (simp at h))
    · exact .inr (decide_eq_true (by omega))
  · exact .inl (by omega)

end Go.Proofs.Ytngpbfocjgikaaa

open Go

namespace Go.Proofs.Ytngpbfocjgikaaa

set_option maxHeartbeats 0

set_option maxRecDepth 100000

theorem us3 {m : IdMap} {Mut : Mu} {w : World} {us : Array Value} {k : IntKind} {x y b : Int} (h : RelL m Mut w [AV.int k x, AV.int k y, AV.int k b] us) : us = #[.int k x, .int k y, .int k b] := by
  have hs : us.size = 3 := h.1.symm
  obtain ⟨l⟩ := us
  match l, hs with
  | [u0, u1, u2], _ =>
    have h0 := (h.2 0 _ u0 rfl rfl).inv_int
    have h1 := (h.2 1 _ u1 rfl rfl).inv_int
    have h2 := (h.2 2 _ u2 rfl rfl).inv_int
    rw [h0, h1, h2]

def sub64E : Array Value → Sem Value := fun args => do
  let (x, y, b) ← Extern.MathBitsCarry.three "Sub64" args
  pure (Extern.MathBitsCarry.pair ((x + Extern.MathBitsCarry.m64 - y - b) % Extern.MathBitsCarry.m64) (if x < y + b then 1 else 0))

def add64E : Array Value → Sem Value := fun args => do
  let (x, y, c) ← Extern.MathBitsCarry.three "Add64" args
  pure (Extern.MathBitsCarry.pair ((x + y + c) % Extern.MathBitsCarry.m64) ((x + y + c) / Extern.MathBitsCarry.m64))

theorem pair_rel {m : IdMap} {Mut : Mu} {w : World} {a b : Int} {x y : Nat} (h1 : a = x) (h2 : b = y) : RelV m Mut w (.tup [.int .u64 a, .int .u64 b]) (Extern.MathBitsCarry.pair x y) := by
  subst h1; subst h2
  refine .tup _ _ rfl fun i a v ha hv => ?_
  match i, ha, hv with
  | 0, ha, hv => cases ha; cases hv; exact .int _ _
  | 1, ha, hv => cases ha; cases hv; exact .int _ _

theorem e84 (x y b : Int) (hx : 0 ≤ x) (hy : 0 ≤ y) (hy2 : y ≤ 18446744073709551615) (hb0 : 0 ≤ b) (hb : b ≤ 1) (hyb : y + b ≤ x + 18446744073709551616) :
    ERet Try.prog 84 [AV.int .u64 x, AV.int .u64 y, AV.int .u64 b] (AV.tup [AV.int .u64 ((x - y - b) % 18446744073709551616), AV.int .u64 (if x < y + b then 1 else 0)]) := by
  intro m Mut w us hr
  obtain rfl := us3 hr
  obtain ⟨x, rfl⟩ := Int.eq_ofNat_of_zero_le hx
  obtain ⟨y, rfl⟩ := Int.eq_ofNat_of_zero_le hy
  obtain ⟨b, rfl⟩ := Int.eq_ofNat_of_zero_le hb0
  have hrun : (sub64E #[.int .u64 x, .int .u64 y, .int .u64 b]).run Try.prog w = .ok (Extern.MathBitsCarry.pair ((x + Extern.MathBitsCarry.m64 - y - b) % Extern.MathBitsCarry.m64) (if x < y + b then 1 else 0)) w := by
    have : b = 0 ∨ b = 1 := by omega
    rcases this with rfl | rfl <;> rfl
  refine ⟨_, by
    rw [run_callFunc_extern Try.func84 (by kernel_rfl) (by kernel_rfl) (by kernel_rfl) (e := sub64E) (by kernel_rfl), hrun]
    rfl, pair_rel ?_ ?_⟩
  · show _ = (((x + 18446744073709551616 - y - b) % 18446744073709551616 : Nat) : Int)
    omega
  · split <;> split <;> omega

theorem e82 (x y c : Int) (hx : 0 ≤ x) (hy : 0 ≤ y) (hc0 : 0 ≤ c) (hc : c ≤ 1) :
    ERet Try.prog 82 [AV.int .u64 x, AV.int .u64 y, AV.int .u64 c] (AV.tup [AV.int .u64 ((x + y + c) % 18446744073709551616), AV.int .u64 ((x + y + c) / 18446744073709551616)]) := by
  intro m Mut w us hr
  obtain rfl := us3 hr
  obtain ⟨x, rfl⟩ := Int.eq_ofNat_of_zero_le hx
  obtain ⟨y, rfl⟩ := Int.eq_ofNat_of_zero_le hy
  obtain ⟨c, rfl⟩ := Int.eq_ofNat_of_zero_le hc0
  have hrun : (add64E #[.int .u64 x, .int .u64 y, .int .u64 c]).run Try.prog w = .ok (Extern.MathBitsCarry.pair ((x + y + c) % Extern.MathBitsCarry.m64) ((x + y + c) / Extern.MathBitsCarry.m64)) w := by
    have : c = 0 ∨ c = 1 := by omega
    rcases this with rfl | rfl <;> rfl
  refine ⟨_, by
    rw [run_callFunc_extern Try.func82 (by kernel_rfl) (by kernel_rfl) (by kernel_rfl) (e := add64E) (by kernel_rfl), hrun]
    rfl, pair_rel ?_ ?_⟩
  · show _ = (((x + y + c) % 18446744073709551616 : Nat) : Int)
    omega
  · show _ = (((x + y + c) / 18446744073709551616 : Nat) : Int)
    omega

end Go.Proofs.Ytngpbfocjgikaaa

open Go

namespace Go.Proofs.Ytngpbfocjgikaaa

set_option linter.unusedSimpArgs false

set_option linter.unusedVariables false

set_option maxHeartbeats 0

set_option maxRecDepth 100000

theorem ite_0 {p : Prop} [Decidable p] : 0 ≤ (if p then (1 : Int) else 0) := by split <;> omega

theorem ite_1 {p : Prop} [Decidable p] : (if p then (1 : Int) else 0) ≤ 1 := by split <;> omega

theorem ite_2 {p : Prop} [Decidable p] {x y : Int} (h : y ≤ 18446744073709551615) (h0 : 0 ≤ x) : y + (if p then (1 : Int) else 0) ≤ x + 18446744073709551616 := by split <;> omega

noncomputable def r85.v (x : Int) : Int := (bif decide (x < 0) then IntKind.u64.wrap (0 - IntKind.u64.wrap x) else IntKind.u64.wrap x)

theorem r85 (x : Int) (h : AHeap) : Ret Try.prog 85 ([AV.int IntKind.i64 x]) h (AV.int IntKind.u64 (r85.v x)) h := by
  cases h1 : decide (x < 0) with
  | true =>
    have h1p := of_decide_eq_true h1
    exact Ret.of_run1 mix [(AV.int IntKind.u64 (r85.v x))] Try.func85 rfl [.b true] (by simp) (by simp) (kmp (by kernel_rfl) (And.intro h1 (And.intro (show (AV.int IntKind.u64 (IntKind.u64.wrap (0 - IntKind.u64.wrap x))) = ((AV.int IntKind.u64 (r85.v x))) by first | (simp only [r85.v, h1, cond_true, cond_false]; done) | (try unfold r85.v; try simp only [h1, cond_true, cond_false]; try rfl; done) | rfl) trivial))) h
  | false =>
    have h1p := of_decide_eq_false h1
    exact Ret.of_run1 mix [(AV.int IntKind.u64 (r85.v x))] Try.func85 rfl [.b false] (by simp) (by simp) (kmp (by kernel_rfl) (And.intro h1 (And.intro (show (AV.int IntKind.u64 (IntKind.u64.wrap x)) = ((AV.int IntKind.u64 (r85.v x))) by first | (simp only [r85.v, h1, cond_true, cond_false]; done) | (try unfold r85.v; try simp only [h1, cond_true, cond_false]; try rfl; done) | rfl) trivial))) h

noncomputable def r68.v (xh : Int) (xl : Int) : Bool := (bif xh == 0 then xl == 0 else false)

theorem r68 (xh : Int) (xl : Int) (ng : Bool) (h : AHeap) : Ret Try.prog 68 ([AV.agg [AV.int IntKind.u64 xh, AV.int IntKind.u64 xl, AV.bool ng]]) h (AV.bool (r68.v xh xl)) h := by
  cases h1 : xh == 0 with
  | true =>
    have h1p := eq_of_beq h1
    exact Ret.of_run1 mix [(AV.bool (r68.v xh xl))] Try.func68 rfl [.b true, .b true, .b true, .b true] (by simp) (by simp) (kmp (by kernel_rfl) (And.intro h1 (And.intro h1 (And.intro h1 (And.intro h1 (And.intro (show (AV.bool (xl == 0)) = ((AV.bool (r68.v xh xl))) by first | (simp only [r68.v, h1, cond_true, cond_false]; done) | (try unfold r68.v; try simp only [h1, cond_true, cond_false]; try rfl; done) | rfl) trivial)))))) h
  | false =>
    have h1p := ne_of_beq_false h1
    exact Ret.of_run1 mix [(AV.bool (r68.v xh xl))] Try.func68 rfl [.b false, .b false, .b false, .b false] (by simp) (by simp) (kmp (by kernel_rfl) (And.intro h1 (And.intro h1 (And.intro h1 (And.intro h1 (And.intro (show (AV.bool false) = ((AV.bool (r68.v xh xl))) by first | (simp only [r68.v, h1, cond_true, cond_false]; done) | (try unfold r68.v; try simp only [h1, cond_true, cond_false]; try rfl; done) | rfl) trivial)))))) h

noncomputable def r99.v (xh : Int) (xl : Int) (i : Int) : Int := (bif decide (i ≥ 64) then IntKind.u64.wrap (↑(BitVec.ofInt 64 (xh.fdiv (2 ^ min (IntKind.i64.wrap (i - 64)).toNat 64)) &&& BitVec.ofInt 64 1).toNat : Int) else IntKind.u64.wrap (↑(BitVec.ofInt 64 (xl.fdiv (2 ^ min i.toNat 64)) &&& BitVec.ofInt 64 1).toNat : Int))

theorem r99 (xh : Int) (xl : Int) (ng : Bool) (i : Int) (h0 : 0 ≤ i) (h1 : i ≤ 127) (h : AHeap) : Ret Try.prog 99 ([AV.agg [AV.int IntKind.u64 xh, AV.int IntKind.u64 xl, AV.bool ng], AV.int IntKind.i64 i]) h (AV.int IntKind.u64 (r99.v xh xl i)) h := by
  cases h1 : decide (i ≥ 64) with
  | true =>
    have h1p := of_decide_eq_true h1
    try have := IntWalk.i64_in (i - 64) (by omega)
    have o0 : (0 : Int) ≤ IntKind.i64.wrap (i - (64 : Int)) := by first | assumption | omega | (simp_all; done)
    exact Ret.of_run1 mix [(AV.int IntKind.u64 (r99.v xh xl i))] Try.func99 rfl [.b true] (by simp) (by simp) (kmp (by kernel_rfl) (And.intro h1 (And.intro o0 (And.intro (show (AV.int IntKind.u64 (IntKind.u64.wrap (↑(BitVec.ofInt 64 (xh.fdiv (2 ^ min (IntKind.i64.wrap (i - 64)).toNat 64)) &&& BitVec.ofInt 64 1).toNat : Int))) = ((AV.int IntKind.u64 (r99.v xh xl i))) by first | (simp only [r99.v, h1, cond_true, cond_false]; done) | (try unfold r99.v; try simp only [h1, cond_true, cond_false]; try rfl; done) | rfl) trivial)))) h
  | false =>
    have h1p := of_decide_eq_false h1
    have o1 : (0 : Int) ≤ i := by first | assumption | omega | (simp_all; done)
    exact Ret.of_run1 mix [(AV.int IntKind.u64 (r99.v xh xl i))] Try.func99 rfl [.b false] (by simp) (by simp) (kmp (by kernel_rfl) (And.intro h1 (And.intro o1 (And.intro (show (AV.int IntKind.u64 (IntKind.u64.wrap (↑(BitVec.ofInt 64 (xl.fdiv (2 ^ min i.toNat 64)) &&& BitVec.ofInt 64 1).toNat : Int))) = ((AV.int IntKind.u64 (r99.v xh xl i))) by first | (simp only [r99.v, h1, cond_true, cond_false]; done) | (try unfold r99.v; try simp only [h1, cond_true, cond_false]; try rfl; done) | rfl) trivial)))) h

noncomputable def r83.v (xh : Int) (xl : Int) (yh : Int) (yl : Int) : Bool := (bif decide (xh > yh) then true else (bif xh == yh then decide (xl > yl) else false))

theorem r83 (xh : Int) (xl : Int) (xn : Bool) (yh : Int) (yl : Int) (yn : Bool) (h : AHeap) : Ret Try.prog 83 ([AV.agg [AV.int IntKind.u64 xh, AV.int IntKind.u64 xl, AV.bool xn], AV.agg [AV.int IntKind.u64 yh, AV.int IntKind.u64 yl, AV.bool yn]]) h (AV.bool (r83.v xh xl yh yl)) h := by
  cases h1 : decide (xh > yh) with
  | true =>
    have h1p := of_decide_eq_true h1
    exact Ret.of_run1 mix [(AV.bool (r83.v xh xl yh yl))] Try.func83 rfl [.b true, .b true, .b true, .b true, .b true, .b true, .b true, .b true] (by simp) (by simp) (kmp (by kernel_rfl) (And.intro h1 (And.intro h1 (And.intro h1 (And.intro h1 (And.intro h1 (And.intro h1 (And.intro h1 (And.intro h1 (And.intro (show (AV.bool true) = ((AV.bool (r83.v xh xl yh yl))) by first | (simp only [r83.v, h1, cond_true, cond_false]; done) | (try unfold r83.v; try simp only [h1, cond_true, cond_false]; try rfl; done) | rfl) trivial)))))))))) h
  | false =>
    have h1p := of_decide_eq_false h1
    cases h2 : xh == yh with
    | true =>
      have h2p := eq_of_beq h2
      exact Ret.of_run1 mix [(AV.bool (r83.v xh xl yh yl))] Try.func83 rfl [.b false, .b false, .b false, .b false, .b false, .b false, .b true, .b true, .b true, .b true, .b true, .b false, .b true, .b false] (by simp) (by simp) (kmp (by kernel_rfl) (And.intro h1 (And.intro h1 (And.intro h1 (And.intro h1 (And.intro h1 (And.intro h1 (And.intro h2 (And.intro h2 (And.intro h2 (And.intro h2 (And.intro h2 (And.intro h1 (And.intro h2 (And.intro h1 (And.intro (show (AV.bool (decide (xl > yl))) = ((AV.bool (r83.v xh xl yh yl))) by first | (simp only [r83.v, h1, h2, cond_true, cond_false]; done) | (try unfold r83.v; try simp only [h1, cond_true, cond_false]; try simp only [h2, cond_true, cond_false]; try rfl; done) | rfl) trivial)))))))))))))))) h
    | false =>
      have h2p := ne_of_beq_false h2
      exact Ret.of_run1 mix [(AV.bool (r83.v xh xl yh yl))] Try.func83 rfl [.b false, .b false, .b false, .b false, .b false, .b false, .b false, .b false, .b false, .b false, .b false, .b false, .b false, .b false] (by simp) (by simp) (kmp (by kernel_rfl) (And.intro h1 (And.intro h1 (And.intro h1 (And.intro h1 (And.intro h1 (And.intro h1 (And.intro h2 (And.intro h2 (And.intro h2 (And.intro h2 (And.intro h2 (And.intro h1 (And.intro h2 (And.intro h1 (And.intro (show (AV.bool false) = ((AV.bool (r83.v xh xl yh yl))) by first | (simp only [r83.v, h1, h2, cond_true, cond_false]; done) | (try unfold r83.v; try simp only [h1, cond_true, cond_false]; try simp only [h2, cond_true, cond_false]; try rfl; done) | rfl) trivial)))))))))))))))) h

noncomputable def r65.v0 (xh : Int) (xl : Int) (yh : Int) (yl : Int) : Int := (xh - yh - if xl < yl + 0 then 1 else 0) % 18446744073709551616

noncomputable def r65.v1 (xl : Int) (yl : Int) : Int := (xl - yl - 0) % 18446744073709551616

noncomputable abbrev r65.h0 (xh : Int) (xl : Int) (yh : Int) (yl : Int) : AHeap := ([AObj.var (AV.agg [AV.int IntKind.u64 xh, AV.int IntKind.u64 xl, AV.bool false]), AObj.var (AV.agg [AV.int IntKind.u64 yh, AV.int IntKind.u64 yl, AV.bool true]), AObj.var (AV.agg [AV.int IntKind.u64 0, AV.int IntKind.u64 0, AV.bool false])])

theorem r65 (xh : Int) (xl : Int) (yh : Int) (yl : Int) (b1 : 0 ≤ xh) (b2 : 0 ≤ xl) (b3 : 0 ≤ yh) (b4 : yh ≤ 18446744073709551615) (b5 : 0 ≤ yl) (b6 : yl ≤ 18446744073709551615) (hq : r83.v yh yl xh xl = false) (h : AHeap) : Ret Try.prog 65 ([AV.agg [AV.int IntKind.u64 xh, AV.int IntKind.u64 xl, AV.bool false], AV.agg [AV.int IntKind.u64 yh, AV.int IntKind.u64 yl, AV.bool true]]) h (AV.agg ((AV.int IntKind.u64 (r65.v0 xh xl yh yl)) :: ((AV.int IntKind.u64 (r65.v1 xl yl)) :: ((AV.bool false) :: [])))) h := by
  have o0 : (0 : Int) ≤ xl := by first | assumption | omega | (simp_all; done)
  have o1 : (0 : Int) ≤ yl := by first | assumption | omega | (simp_all; done)
  have o2 : yl ≤ (18446744073709551615 : Int) := by first | assumption | omega | (simp_all; done)
  have o3 : yl + (0 : Int) ≤ xl + (18446744073709551616 : Int) := by first | assumption | omega | (simp_all; done)
  have o4 : (0 : Int) ≤ xh := by first | assumption | omega | (simp_all; done)
  have o5 : (0 : Int) ≤ yh := by first | assumption | omega | (simp_all; done)
  have o6 : yh ≤ (18446744073709551615 : Int) := by first | assumption | omega | (simp_all; done)
  have o7 : (0 : Int) ≤ if xl < yl + (0 : Int) then (1 : Int) else (0 : Int) := by first | assumption | omega | (apply ite_0 <;> first | assumption | omega) | (simp_all; done)
  have o8 : (if xl < yl + (0 : Int) then (1 : Int) else (0 : Int)) ≤ (1 : Int) := by first | assumption | omega | (apply ite_1 <;> first | assumption | omega) | (simp_all; done)
  have o9 : (yh + if xl < yl + (0 : Int) then (1 : Int) else (0 : Int)) ≤ xh + (18446744073709551616 : Int) := by first | assumption | omega | (apply ite_2 <;> first | assumption | omega) | (simp_all; done)
  exact Ret.of_run1 mix [(AV.agg ((AV.int IntKind.u64 (r65.v0 xh xl yh yl)) :: ((AV.int IntKind.u64 (r65.v1 xl yl)) :: ((AV.bool false) :: []))))] Try.func65 rfl [.b false, .ret (AV.bool (r83.v yh yl xh xl)) (r65.h0 xh xl yh yl), .b false, .ret (AV.tup [AV.int IntKind.u64 ((xl - yl - 0) % 18446744073709551616), AV.int IntKind.u64 (if xl < yl + 0 then 1 else 0)]) (r65.h0 xh xl yh yl), .ret (AV.tup [AV.int IntKind.u64 ((xh - yh - if xl < yl + 0 then 1 else 0) % 18446744073709551616), AV.int IntKind.u64 (if xh < yh + if xl < yl + 0 then 1 else 0 then 1 else 0)]) (r65.h0 xh xl yh yl)] (by simp) (by simp) (kmp (by kernel_rfl) (And.intro (rfl : false = false) (And.intro (r83 (yh) (yl) (true) (xh) (xl) (false) (r65.h0 xh xl yh yl)) (And.intro hq (And.intro (e84 (xl) (yl) (0) o0 o1 o2 (show (0 : Int) ≤ (0 : Int) by first | decide | exact Int.NonNeg.mk _) (show (0 : Int) ≤ (1 : Int) by first | decide | exact Int.NonNeg.mk _) o3) (And.intro (e84 (xh) (yh) (if xl < yl + 0 then 1 else 0) o4 o5 o6 o7 o8 o9) (And.intro (And.intro trivial (show (AV.agg [AV.int IntKind.u64 ((xh - yh - if xl < yl + 0 then 1 else 0) % 18446744073709551616), AV.int IntKind.u64 ((xl - yl - 0) % 18446744073709551616), AV.bool false]) = ((AV.agg ((AV.int IntKind.u64 (r65.v0 xh xl yh yl)) :: ((AV.int IntKind.u64 (r65.v1 xl yl)) :: ((AV.bool false) :: []))))) by first | (simp only [r65.v0, r65.v1, cond_true, cond_false]; done) | (try unfold r65.v0; try unfold r65.v1; try rfl; done) | rfl)) trivial))))))) h

noncomputable def r73.v0 (x : Int) (y : Int) : Int := IntKind.u64.wrap (IntKind.u64.wrap (IntKind.u64.wrap (x.fdiv 4294967296 * y.fdiv 4294967296) + (IntKind.u64.wrap (IntKind.u64.wrap (x.fdiv 4294967296 * IntKind.u64.wrap (↑(BitVec.ofInt 64 y &&& BitVec.ofInt 64 4294967295).toNat : Int)) + (IntKind.u64.wrap (IntKind.u64.wrap (↑(BitVec.ofInt 64 x &&& BitVec.ofInt 64 4294967295).toNat : Int) * IntKind.u64.wrap (↑(BitVec.ofInt 64 y &&& BitVec.ofInt 64 4294967295).toNat : Int))).fdiv 4294967296)).fdiv 4294967296) + (IntKind.u64.wrap (IntKind.u64.wrap (↑(BitVec.ofInt 64 (IntKind.u64.wrap (IntKind.u64.wrap (x.fdiv 4294967296 * IntKind.u64.wrap (↑(BitVec.ofInt 64 y &&& BitVec.ofInt 64 4294967295).toNat : Int)) + (IntKind.u64.wrap (IntKind.u64.wrap (↑(BitVec.ofInt 64 x &&& BitVec.ofInt 64 4294967295).toNat : Int) * IntKind.u64.wrap (↑(BitVec.ofInt 64 y &&& BitVec.ofInt 64 4294967295).toNat : Int))).fdiv 4294967296)) &&& BitVec.ofInt 64 4294967295).toNat : Int) + IntKind.u64.wrap (IntKind.u64.wrap (↑(BitVec.ofInt 64 x &&& BitVec.ofInt 64 4294967295).toNat : Int) * y.fdiv 4294967296))).fdiv 4294967296)

noncomputable def r73.v1 (x : Int) (y : Int) : Int := IntKind.u64.wrap (x * y)

theorem r73 (x : Int) (y : Int) (h : AHeap) : Ret Try.prog 73 ([AV.int IntKind.u64 x, AV.int IntKind.u64 y]) h (AV.tup [(AV.int IntKind.u64 (r73.v0 x y)), (AV.int IntKind.u64 (r73.v1 x y))]) h := by
  exact Ret.of_run1 mix [(AV.int IntKind.u64 (r73.v0 x y)), (AV.int IntKind.u64 (r73.v1 x y))] Try.func73 rfl [] (by simp) (by simp) (kmp (by kernel_rfl) (And.intro (show Int.NonNeg (32 : Int) by first | decide | exact Int.NonNeg.mk _) (And.intro (show Int.NonNeg (32 : Int) by first | decide | exact Int.NonNeg.mk _) (And.intro (show Int.NonNeg (32 : Int) by first | decide | exact Int.NonNeg.mk _) (And.intro (show Int.NonNeg (32 : Int) by first | decide | exact Int.NonNeg.mk _) (And.intro (show Int.NonNeg (32 : Int) by first | decide | exact Int.NonNeg.mk _) (And.intro (show (AV.int IntKind.u64 (IntKind.u64.wrap (IntKind.u64.wrap (IntKind.u64.wrap (x.fdiv 4294967296 * y.fdiv 4294967296) + (IntKind.u64.wrap (IntKind.u64.wrap (x.fdiv 4294967296 * IntKind.u64.wrap (↑(BitVec.ofInt 64 y &&& BitVec.ofInt 64 4294967295).toNat : Int)) + (IntKind.u64.wrap (IntKind.u64.wrap (↑(BitVec.ofInt 64 x &&& BitVec.ofInt 64 4294967295).toNat : Int) * IntKind.u64.wrap (↑(BitVec.ofInt 64 y &&& BitVec.ofInt 64 4294967295).toNat : Int))).fdiv 4294967296)).fdiv 4294967296) + (IntKind.u64.wrap (IntKind.u64.wrap (↑(BitVec.ofInt 64 (IntKind.u64.wrap (IntKind.u64.wrap (x.fdiv 4294967296 * IntKind.u64.wrap (↑(BitVec.ofInt 64 y &&& BitVec.ofInt 64 4294967295).toNat : Int)) + (IntKind.u64.wrap (IntKind.u64.wrap (↑(BitVec.ofInt 64 x &&& BitVec.ofInt 64 4294967295).toNat : Int) * IntKind.u64.wrap (↑(BitVec.ofInt 64 y &&& BitVec.ofInt 64 4294967295).toNat : Int))).fdiv 4294967296)) &&& BitVec.ofInt 64 4294967295).toNat : Int) + IntKind.u64.wrap (IntKind.u64.wrap (↑(BitVec.ofInt 64 x &&& BitVec.ofInt 64 4294967295).toNat : Int) * y.fdiv 4294967296))).fdiv 4294967296))) = ((AV.int IntKind.u64 (r73.v0 x y))) by first | (simp only [r73.v0, r73.v1, cond_true, cond_false]; done) | (try unfold r73.v0; try unfold r73.v1; try rfl; done) | rfl) (And.intro (show (AV.int IntKind.u64 (IntKind.u64.wrap (x * y))) = ((AV.int IntKind.u64 (r73.v1 x y))) by first | (simp only [r73.v0, r73.v1, cond_true, cond_false]; done) | (try unfold r73.v0; try unfold r73.v1; try rfl; done) | rfl) trivial)))))))) h

noncomputable def r66.v0 (x : Int) (y : Int) : Int := r73.v0 (r85.v x) (r85.v y)

noncomputable def r66.v1 (x : Int) (y : Int) : Int := r73.v1 (r85.v x) (r85.v y)

noncomputable def r66.v2 (x : Int) (y : Int) : Bool := bnot (decide (x < 0) == decide (y < 0))

noncomputable abbrev r66.h0 (x : Int) (y : Int) : AHeap := ([AObj.var (AV.agg [AV.int IntKind.u64 0, AV.int IntKind.u64 0, AV.bool false])])

theorem r66 (x : Int) (y : Int) (h : AHeap) : Ret Try.prog 66 ([AV.int IntKind.i64 x, AV.int IntKind.i64 y]) h (AV.agg ((AV.int IntKind.u64 (r66.v0 x y)) :: ((AV.int IntKind.u64 (r66.v1 x y)) :: ((AV.bool (r66.v2 x y)) :: [])))) h := by
  exact Ret.of_run1 mix [(AV.agg ((AV.int IntKind.u64 (r66.v0 x y)) :: ((AV.int IntKind.u64 (r66.v1 x y)) :: ((AV.bool (r66.v2 x y)) :: []))))] Try.func66 rfl [.ret (AV.int IntKind.u64 (r85.v x)) (r66.h0 x y), .ret (AV.int IntKind.u64 (r85.v y)) (r66.h0 x y), .ret (AV.tup [AV.int IntKind.u64 (r73.v0 (r85.v x) (r85.v y)), AV.int IntKind.u64 (r73.v1 (r85.v x) (r85.v y))]) (r66.h0 x y)] (by simp) (by simp) (kmp (by kernel_rfl) (And.intro (r85 (x) (r66.h0 x y)) (And.intro (r85 (y) (r66.h0 x y)) (And.intro (r73 (r85.v x) (r85.v y) (r66.h0 x y)) (And.intro (And.intro trivial (show (AV.agg [AV.int IntKind.u64 (r73.v0 (r85.v x) (r85.v y)), AV.int IntKind.u64 (r73.v1 (r85.v x) (r85.v y)), AV.bool (bnot (decide (x < 0) == decide (y < 0)))]) = ((AV.agg ((AV.int IntKind.u64 (r66.v0 x y)) :: ((AV.int IntKind.u64 (r66.v1 x y)) :: ((AV.bool (r66.v2 x y)) :: []))))) by first | (simp only [r66.v0, r66.v1, r66.v2, cond_true, cond_false]; done) | (try unfold r66.v0; try unfold r66.v1; try unfold r66.v2; try rfl; done) | rfl)) trivial))))) h

noncomputable def r63.v0 (x : Int) : Int := r66.v0 x 1

noncomputable def r63.v1 (x : Int) : Int := r66.v1 x 1

noncomputable def r63.v2 (x : Int) : Bool := r66.v2 x 1

theorem r63 (x : Int) (h : AHeap) : Ret Try.prog 63 ([AV.int IntKind.i64 x]) h (AV.agg ((AV.int IntKind.u64 (r63.v0 x)) :: ((AV.int IntKind.u64 (r63.v1 x)) :: ((AV.bool (r63.v2 x)) :: [])))) h := by
  exact Ret.of_run1 mix [(AV.agg ((AV.int IntKind.u64 (r63.v0 x)) :: ((AV.int IntKind.u64 (r63.v1 x)) :: ((AV.bool (r63.v2 x)) :: []))))] Try.func63 rfl [.ret (AV.agg [AV.int IntKind.u64 (r66.v0 x 1), AV.int IntKind.u64 (r66.v1 x 1), AV.bool (r66.v2 x 1)]) ([AObj.var (AV.agg [AV.int IntKind.u64 0, AV.int IntKind.u64 0, AV.bool false])])] (by simp) (by simp) (kmp (by kernel_rfl) (And.intro (r66 (x) (1) ([AObj.var (AV.agg [AV.int IntKind.u64 0, AV.int IntKind.u64 0, AV.bool false])])) (And.intro (And.intro trivial (show (AV.agg [AV.int IntKind.u64 (r66.v0 x 1), AV.int IntKind.u64 (r66.v1 x 1), AV.bool (r66.v2 x 1)]) = ((AV.agg ((AV.int IntKind.u64 (r63.v0 x)) :: ((AV.int IntKind.u64 (r63.v1 x)) :: ((AV.bool (r63.v2 x)) :: []))))) by first | (simp only [r63.v0, r63.v1, r63.v2, cond_true, cond_false]; done) | (try unfold r63.v0; try unfold r63.v1; try unfold r63.v2; try rfl; done) | rfl)) trivial))) h

end Go.Proofs.Ytngpbfocjgikaaa

open Go

namespace Go.Proofs.Ytngpbfocjgikaaa

set_option linter.unusedSimpArgs false

set_option linter.unusedVariables false

set_option maxHeartbeats 0

set_option maxRecDepth 100000

theorem u_lo (x : Int) : 0 ≤ IntKind.u64.wrap x := by rw [IntKind.wrap_u64]; omega

theorem r65_lo0 (a b c d : Int) : 0 ≤ r65.v0 a b c d := by unfold r65.v0; exact Int.emod_nonneg _ (by decide)

theorem r65_lo1 (b d : Int) : 0 ≤ r65.v1 b d := by unfold r65.v1; exact Int.emod_nonneg _ (by decide)

inductive L81a.O where
  | e0 (a0 : Int) (a1 : Int) (a2 : Int) (a3 : Int)

noncomputable def L81a.T (xh : Int) (xl : Int) (xn : Bool) (yh : Int) (yl : Int) (yn : Bool) (i : Int) (qh : Int) (ql : Int) (rh : Int) (rl : Int) : List AV := mkT 58 [(2, AV.ptr 0 1 3 0 0), (3, AV.ptr 1 1 3 0 0), (4, AV.ptr 2 1 3 0 0), (5, AV.ptr 3 1 3 0 0), (6, AV.ptr 4 1 3 0 0), (7, AV.ptr 5 1 3 0 0), (8, AV.int IntKind.i64 i)]

noncomputable def L81a.H (xh : Int) (xl : Int) (xn : Bool) (yh : Int) (yl : Int) (yn : Bool) (i : Int) (qh : Int) (ql : Int) (rh : Int) (rl : Int) : AHeap := [AObj.var (AV.agg [AV.int IntKind.u64 xh, AV.int IntKind.u64 xl, AV.bool xn]), AObj.var (AV.agg [AV.int IntKind.u64 yh, AV.int IntKind.u64 yl, AV.bool yn]), AObj.var (AV.agg [AV.int IntKind.u64 0, AV.int IntKind.u64 0, AV.bool false]), AObj.var (AV.agg [AV.int IntKind.u64 0, AV.int IntKind.u64 0, AV.bool false]), AObj.var (AV.agg [AV.int IntKind.u64 qh, AV.int IntKind.u64 ql, AV.bool false]), AObj.var (AV.agg [AV.int IntKind.u64 rh, AV.int IntKind.u64 rl, AV.bool false])]

def L81a.inv (xh : Int) (xl : Int) (xn : Bool) (yh : Int) (yl : Int) (yn : Bool) (i : Int) (qh : Int) (ql : Int) (rh : Int) (rl : Int) : Prop := ((-1 ≤ i ∧ i ≤ 127) ∧ 0 ≤ rh) ∧ 0 ≤ rl

noncomputable def L81a.mu (xh : Int) (xl : Int) (xn : Bool) (yh : Int) (yl : Int) (yn : Bool) (i : Int) (qh : Int) (ql : Int) (rh : Int) (rl : Int) : Nat := (i + 1).toNat

noncomputable def L81a.E : L81a.O → Exit
  | .e0 a0 a1 a2 a3 => Exit.exit 0

noncomputable def L81a.X (xh : Int) (xl : Int) (xn : Bool) (yh : Int) (yl : Int) (yn : Bool) : L81a.O → List AV
  | .e0 a0 a1 a2 a3 => mkT 58 [(4, (AV.ptr 2 1 3 0 0)), (5, (AV.ptr 3 1 3 0 0)), (6, (AV.ptr 4 1 3 0 0)), (7, (AV.ptr 5 1 3 0 0))]

noncomputable def L81a.XH (xh : Int) (xl : Int) (xn : Bool) (yh : Int) (yl : Int) (yn : Bool) : L81a.O → AHeap
  | .e0 a0 a1 a2 a3 => ((AObj.var (AV.agg [AV.int IntKind.u64 xh, AV.int IntKind.u64 xl, AV.bool xn])) :: ((AObj.var (AV.agg [AV.int IntKind.u64 yh, AV.int IntKind.u64 yl, AV.bool yn])) :: ((AObj.var (AV.agg [AV.int IntKind.u64 0, AV.int IntKind.u64 0, AV.bool false])) :: ((AObj.var (AV.agg [AV.int IntKind.u64 0, AV.int IntKind.u64 0, AV.bool false])) :: ((AObj.var (AV.agg ((AV.int IntKind.u64 a0) :: ((AV.int IntKind.u64 a1) :: ([AV.bool false]))))) :: ((AObj.var (AV.agg ((AV.int IntKind.u64 a2) :: ((AV.int IntKind.u64 a3) :: ([AV.bool false]))))) :: ([])))))))

noncomputable def L81a.N (xh : Int) (xl : Int) (yh : Int) (yl : Int) : Nat → Int → Int → Int → Int → Int → L81a.O
  | 0, _, qh, ql, rh, rl => .e0 qh ql rh rl
  | k_ + 1, i, qh, ql, rh, rl => (bif decide (i ≥ 0) then (bif r83.v yh yl (IntKind.u64.wrap (↑(BitVec.ofInt 64 (IntKind.u64.wrap (rh * 2)) ||| BitVec.ofInt 64 (rl.fdiv 9223372036854775808)).toNat : Int)) (IntKind.u64.wrap (↑(BitVec.ofInt 64 (IntKind.u64.wrap (rl * 2)) ||| BitVec.ofInt 64 (r99.v xh xl i)).toNat : Int)) then (L81a.N xh xl yh yl k_ (IntKind.i64.wrap (i - 1)) (IntKind.u64.wrap (↑(BitVec.ofInt 64 (IntKind.u64.wrap (qh * 2)) ||| BitVec.ofInt 64 (ql.fdiv 9223372036854775808)).toNat : Int)) (IntKind.u64.wrap (ql * 2)) (IntKind.u64.wrap (↑(BitVec.ofInt 64 (IntKind.u64.wrap (rh * 2)) ||| BitVec.ofInt 64 (rl.fdiv 9223372036854775808)).toNat : Int)) (IntKind.u64.wrap (↑(BitVec.ofInt 64 (IntKind.u64.wrap (rl * 2)) ||| BitVec.ofInt 64 (r99.v xh xl i)).toNat : Int))) else (L81a.N xh xl yh yl k_ (IntKind.i64.wrap (i - 1)) (IntKind.u64.wrap (↑(BitVec.ofInt 64 (IntKind.u64.wrap (qh * 2)) ||| BitVec.ofInt 64 (ql.fdiv 9223372036854775808)).toNat : Int)) (IntKind.u64.wrap (↑(BitVec.ofInt 64 (IntKind.u64.wrap (ql * 2)) ||| BitVec.ofInt 64 1).toNat : Int)) (r65.v0 (IntKind.u64.wrap (↑(BitVec.ofInt 64 (IntKind.u64.wrap (rh * 2)) ||| BitVec.ofInt 64 (rl.fdiv 9223372036854775808)).toNat : Int)) (IntKind.u64.wrap (↑(BitVec.ofInt 64 (IntKind.u64.wrap (rl * 2)) ||| BitVec.ofInt 64 (r99.v xh xl i)).toNat : Int)) yh yl) (r65.v1 (IntKind.u64.wrap (↑(BitVec.ofInt 64 (IntKind.u64.wrap (rl * 2)) ||| BitVec.ofInt 64 (r99.v xh xl i)).toNat : Int)) yl))) else (.e0 (qh) (ql) (rh) (rl)))

noncomputable def L81a.run (xh : Int) (xl : Int) (yh : Int) (yl : Int) (i : Int) (qh : Int) (ql : Int) (rh : Int) (rl : Int) : L81a.O := L81a.N xh xl yh yl (((i + 1).toNat) + 1) i qh ql rh rl

theorem L81a.nx (xh : Int) (xl : Int) (xn : Bool) (yh : Int) (yl : Int) (yn : Bool) {k_ : Nat} {z_ : Int × Int × Int × Int × Int} {h_ : AHeap} (s_ : Int × Int × Int × Int × Int) (h1 : L81a.inv xh xl xn yh yl yn s_.1 s_.2.1 s_.2.2.1 s_.2.2.2.1 s_.2.2.2.2) (h2 : L81a.mu xh xl xn yh yl yn s_.1 s_.2.1 s_.2.2.1 s_.2.2.2.1 s_.2.2.2.2 < L81a.mu xh xl xn yh yl yn z_.1 z_.2.1 z_.2.2.1 z_.2.2.2.1 z_.2.2.2.2) (h3 : L81a.N xh xl yh yl k_ s_.1 s_.2.1 s_.2.2.1 s_.2.2.2.1 s_.2.2.2.2 = L81a.N xh xl yh yl (k_ + 1) z_.1 z_.2.1 z_.2.2.1 z_.2.2.2.1 z_.2.2.2.2) (h4 : PopOk (L81a.H xh xl xn yh yl yn z_.1 z_.2.1 z_.2.2.1 z_.2.2.2.1 z_.2.2.2.2) h_ (L81a.T xh xl xn yh yl yn s_.1 s_.2.1 s_.2.2.1 s_.2.2.2.1 s_.2.2.2.2) (L81a.H xh xl xn yh yl yn s_.1 s_.2.1 s_.2.2.1 s_.2.2.2.1 s_.2.2.2.2)) : LNextP (fun (z_ : Int × Int × Int × Int × Int) => L81a.T xh xl xn yh yl yn z_.1 z_.2.1 z_.2.2.1 z_.2.2.2.1 z_.2.2.2.2) (fun (z_ : Int × Int × Int × Int × Int) => L81a.H xh xl xn yh yl yn z_.1 z_.2.1 z_.2.2.1 z_.2.2.2.1 z_.2.2.2.2) (fun (z_ : Int × Int × Int × Int × Int) => L81a.inv xh xl xn yh yl yn z_.1 z_.2.1 z_.2.2.1 z_.2.2.2.1 z_.2.2.2.2) (fun (z_ : Int × Int × Int × Int × Int) => L81a.mu xh xl xn yh yl yn z_.1 z_.2.1 z_.2.2.1 z_.2.2.2.1 z_.2.2.2.2) (fun (k_ : Nat) (z_ : Int × Int × Int × Int × Int) => L81a.N xh xl yh yl k_ z_.1 z_.2.1 z_.2.2.1 z_.2.2.2.1 z_.2.2.2.2) k_ z_ (L81a.T xh xl xn yh yl yn s_.1 s_.2.1 s_.2.2.1 s_.2.2.2.1 s_.2.2.2.2) h_ := LNextP.mk (Tm := (fun (z_ : Int × Int × Int × Int × Int) => L81a.T xh xl xn yh yl yn z_.1 z_.2.1 z_.2.2.1 z_.2.2.2.1 z_.2.2.2.2)) (Hp := (fun (z_ : Int × Int × Int × Int × Int) => L81a.H xh xl xn yh yl yn z_.1 z_.2.1 z_.2.2.1 z_.2.2.2.1 z_.2.2.2.2)) (inv := (fun (z_ : Int × Int × Int × Int × Int) => L81a.inv xh xl xn yh yl yn z_.1 z_.2.1 z_.2.2.1 z_.2.2.2.1 z_.2.2.2.2)) (mu := (fun (z_ : Int × Int × Int × Int × Int) => L81a.mu xh xl xn yh yl yn z_.1 z_.2.1 z_.2.2.1 z_.2.2.2.1 z_.2.2.2.2)) (l := (fun (k_ : Nat) (z_ : Int × Int × Int × Int × Int) => L81a.N xh xl yh yl k_ z_.1 z_.2.1 z_.2.2.1 z_.2.2.2.1 z_.2.2.2.2)) s_ h1 h2 h3 h4

theorem L81a.en (xh : Int) (xl : Int) (xn : Bool) (yh : Int) (yl : Int) (yn : Bool) {k_ : Nat} {z_ : Int × Int × Int × Int × Int} {h_ : AHeap} (o_ : L81a.O) (h3 : L81a.N xh xl yh yl (k_ + 1) z_.1 z_.2.1 z_.2.2.1 z_.2.2.2.1 z_.2.2.2.2 = o_) (h4 : PopOk (L81a.H xh xl xn yh yl yn z_.1 z_.2.1 z_.2.2.1 z_.2.2.2.1 z_.2.2.2.2) h_ (L81a.X xh xl xn yh yl yn o_) (L81a.XH xh xl xn yh yl yn o_)) : LEndP (fun (z_ : Int × Int × Int × Int × Int) => L81a.H xh xl xn yh yl yn z_.1 z_.2.1 z_.2.2.1 z_.2.2.2.1 z_.2.2.2.2) (fun (k_ : Nat) (z_ : Int × Int × Int × Int × Int) => L81a.N xh xl yh yl k_ z_.1 z_.2.1 z_.2.2.1 z_.2.2.2.1 z_.2.2.2.2) L81a.E (L81a.X xh xl xn yh yl yn) (L81a.XH xh xl xn yh yl yn) k_ z_ (L81a.E o_) (L81a.X xh xl xn yh yl yn o_) h_ := LEndP.mk (Hp := (fun (z_ : Int × Int × Int × Int × Int) => L81a.H xh xl xn yh yl yn z_.1 z_.2.1 z_.2.2.1 z_.2.2.2.1 z_.2.2.2.2)) (l := (fun (k_ : Nat) (z_ : Int × Int × Int × Int × Int) => L81a.N xh xl yh yl k_ z_.1 z_.2.1 z_.2.2.1 z_.2.2.2.1 z_.2.2.2.2)) (oE := L81a.E) (oT := L81a.X xh xl xn yh yl yn) (oH := L81a.XH xh xl xn yh yl yn) o_ h3 h4

noncomputable abbrev L81a.h0 (xh : Int) (xl : Int) (xn : Bool) (yh : Int) (yl : Int) (yn : Bool) (i : Int) (qh : Int) (ql : Int) (rh : Int) (rl : Int) : AHeap := ([AObj.var (AV.agg [AV.int IntKind.u64 xh, AV.int IntKind.u64 xl, AV.bool xn]), AObj.var (AV.agg [AV.int IntKind.u64 yh, AV.int IntKind.u64 yl, AV.bool yn]), AObj.var (AV.agg [AV.int IntKind.u64 0, AV.int IntKind.u64 0, AV.bool false]), AObj.var (AV.agg [AV.int IntKind.u64 0, AV.int IntKind.u64 0, AV.bool false]), AObj.var (AV.agg [AV.int IntKind.u64 qh, AV.int IntKind.u64 ql, AV.bool false]), AObj.var (AV.agg [AV.int IntKind.u64 rh, AV.int IntKind.u64 rl, AV.bool false])])

noncomputable abbrev L81a.h1 (xh : Int) (xl : Int) (xn : Bool) (yh : Int) (yl : Int) (yn : Bool) (i : Int) (qh : Int) (ql : Int) (rh : Int) (rl : Int) : AHeap := ([AObj.var (AV.agg [AV.int IntKind.u64 xh, AV.int IntKind.u64 xl, AV.bool xn]), AObj.var (AV.agg [AV.int IntKind.u64 yh, AV.int IntKind.u64 yl, AV.bool yn]), AObj.var (AV.agg [AV.int IntKind.u64 0, AV.int IntKind.u64 0, AV.bool false]), AObj.var (AV.agg [AV.int IntKind.u64 0, AV.int IntKind.u64 0, AV.bool false]), AObj.var (AV.agg [AV.int IntKind.u64 (IntKind.u64.wrap (↑(BitVec.ofInt 64 (IntKind.u64.wrap (qh * 2)) ||| BitVec.ofInt 64 (ql.fdiv 9223372036854775808)).toNat : Int)), AV.int IntKind.u64 (IntKind.u64.wrap (ql * 2)), AV.bool false]), AObj.var (AV.agg [AV.int IntKind.u64 (IntKind.u64.wrap (↑(BitVec.ofInt 64 (IntKind.u64.wrap (rh * 2)) ||| BitVec.ofInt 64 (rl.fdiv 9223372036854775808)).toNat : Int)), AV.int IntKind.u64 (IntKind.u64.wrap (↑(BitVec.ofInt 64 (IntKind.u64.wrap (rl * 2)) ||| BitVec.ofInt 64 (r99.v xh xl i)).toNat : Int)), AV.bool false])])

theorem L81a.spec (xh : Int) (xl : Int) (xn : Bool) (yh : Int) (yl : Int) (yn : Bool) (b3 : 0 ≤ yh) (b4 : yh ≤ 18446744073709551615) (b5 : 0 ≤ yl) (b6 : yl ≤ 18446744073709551615) (k_ : Nat) (z_ : Int × Int × Int × Int × Int) (hi_ : L81a.inv xh xl xn yh yl yn z_.1 z_.2.1 z_.2.2.1 z_.2.2.2.1 z_.2.2.2.2) (hm_ : L81a.mu xh xl xn yh yl yn z_.1 z_.2.1 z_.2.2.1 z_.2.2.2.1 z_.2.2.2.2 < k_) : LoopTo Try.prog (loopN Try.f81 0) (L81a.T xh xl xn yh yl yn z_.1 z_.2.1 z_.2.2.1 z_.2.2.2.1 z_.2.2.2.2) (L81a.H xh xl xn yh yl yn z_.1 z_.2.1 z_.2.2.1 z_.2.2.2.1 z_.2.2.2.2) (L81a.E (L81a.N xh xl yh yl k_ z_.1 z_.2.1 z_.2.2.1 z_.2.2.2.1 z_.2.2.2.2)) (L81a.X xh xl xn yh yl yn (L81a.N xh xl yh yl k_ z_.1 z_.2.1 z_.2.2.1 z_.2.2.2.1 z_.2.2.2.2)) (L81a.XH xh xl xn yh yl yn (L81a.N xh xl yh yl k_ z_.1 z_.2.1 z_.2.2.1 z_.2.2.2.1 z_.2.2.2.2)) := by
  refine LoopTo.fuelP mix (fun (z_ : Int × Int × Int × Int × Int) => L81a.T xh xl xn yh yl yn z_.1 z_.2.1 z_.2.2.1 z_.2.2.2.1 z_.2.2.2.2) (fun (z_ : Int × Int × Int × Int × Int) => L81a.H xh xl xn yh yl yn z_.1 z_.2.1 z_.2.2.1 z_.2.2.2.1 z_.2.2.2.2) (fun (z_ : Int × Int × Int × Int × Int) => L81a.inv xh xl xn yh yl yn z_.1 z_.2.1 z_.2.2.1 z_.2.2.2.1 z_.2.2.2.2) (fun (z_ : Int × Int × Int × Int × Int) => L81a.mu xh xl xn yh yl yn z_.1 z_.2.1 z_.2.2.1 z_.2.2.2.1 z_.2.2.2.2) (fun (k_ : Nat) (z_ : Int × Int × Int × Int × Int) => L81a.N xh xl yh yl k_ z_.1 z_.2.1 z_.2.2.1 z_.2.2.2.1 z_.2.2.2.2) L81a.E (L81a.X xh xl xn yh yl yn) (L81a.XH xh xl xn yh yl yn) (others 58 [2, 3, 4, 5, 6, 7, 8]) (others 58 [4, 5]) (others 58 [4, 5, 6, 7]) ?_ k_ z_ hi_ hm_
  clear hm_ hi_ z_ k_
  intro k_ z_ hinv hmu
  obtain ⟨i, qh, ql, rh, rl⟩ := z_
  have hinv : ((-1 ≤ i ∧ i ≤ 127) ∧ 0 ≤ rh) ∧ 0 ≤ rl := hinv
  have hmu : ((i + 1).toNat) < k_ + 1 := hmu
  cases h1 : decide (i ≥ 0) with
  | true =>
    have h1p := of_decide_eq_true h1
    have o0 : (0 : Int) ≤ i := by first | assumption | omega | (simp_all; done)
    have o1 : i ≤ (127 : Int) := by first | assumption | omega | (simp_all; done)
    cases h2 : r83.v yh yl (IntKind.u64.wrap (↑(BitVec.ofInt 64 (IntKind.u64.wrap (rh * 2)) ||| BitVec.ofInt 64 (rl.fdiv 9223372036854775808)).toNat : Int)) (IntKind.u64.wrap (↑(BitVec.ofInt 64 (IntKind.u64.wrap (rl * 2)) ||| BitVec.ofInt 64 (r99.v xh xl i)).toNat : Int)) with
    | true =>
      try have := IntWalk.i64_in (i - 1) (by omega)
      have o2 : (-1 : Int) ≤ IntKind.i64.wrap (i - (1 : Int)) := by first | assumption | omega | (simp_all; done)
      have o3 : IntKind.i64.wrap (i - (1 : Int)) ≤ (127 : Int) := by first | assumption | omega | (simp_all; done)
      try have := IntWalk.u64_in (rh * 2) (by omega)
      try have := IntWalk.u64_in ((↑(BitVec.ofInt 64 (IntKind.u64.wrap (rh * 2)) ||| BitVec.ofInt 64 (rl.fdiv 9223372036854775808)).toNat : Int)) (by omega)
      have o4 : (0 : Int) ≤ IntKind.u64.wrap (↑(BitVec.ofInt (64 : Nat) (IntKind.u64.wrap (rh * (2 : Int))) ||| BitVec.ofInt (64 : Nat) (rl.fdiv (9223372036854775808 : Int))).toNat : Int) := by first | assumption | omega | (apply u_lo <;> first | assumption | omega) | (simp_all; done)
      try have := IntWalk.u64_in (rl * 2) (by omega)
      try have := IntWalk.u64_in ((↑(BitVec.ofInt 64 (IntKind.u64.wrap (rl * 2)) ||| BitVec.ofInt 64 (r99.v xh xl i)).toNat : Int)) (by omega)
      have o5 : (0 : Int) ≤ IntKind.u64.wrap (↑(BitVec.ofInt (64 : Nat) (IntKind.u64.wrap (rl * (2 : Int))) ||| BitVec.ofInt (64 : Nat) (r99.v xh xl i)).toNat : Int) := by first | assumption | omega | (apply u_lo <;> first | assumption | omega) | (simp_all; done)
      have o6 : (IntKind.i64.wrap (i - (1 : Int)) + (1 : Int)).toNat < (i + (1 : Int)).toNat := by first | assumption | omega | (simp_all; done)
      exact ⟨[.b true, .ret (AV.int IntKind.u64 (r99.v xh xl i)) (L81a.h0 xh xl xn yh yl yn i qh ql rh rl), .ret (AV.bool (r83.v yh yl (IntKind.u64.wrap (↑(BitVec.ofInt 64 (IntKind.u64.wrap (rh * 2)) ||| BitVec.ofInt 64 (rl.fdiv 9223372036854775808)).toNat : Int)) (IntKind.u64.wrap (↑(BitVec.ofInt 64 (IntKind.u64.wrap (rl * 2)) ||| BitVec.ofInt 64 (r99.v xh xl i)).toNat : Int)))) (L81a.h1 xh xl xn yh yl yn i qh ql rh rl), .b false], kmp (by kernel_rfl) (And.intro h1 (And.intro (show Int.NonNeg (1 : Int) by first | decide | exact Int.NonNeg.mk _) (And.intro (show Int.NonNeg (63 : Int) by first | decide | exact Int.NonNeg.mk _) (And.intro (show Int.NonNeg (1 : Int) by first | decide | exact Int.NonNeg.mk _) (And.intro (r99 (xh) (xl) (xn) (i) o0 o1 (L81a.h0 xh xl xn yh yl yn i qh ql rh rl)) (And.intro (show Int.NonNeg (1 : Int) by first | decide | exact Int.NonNeg.mk _) (And.intro (show Int.NonNeg (63 : Int) by first | decide | exact Int.NonNeg.mk _) (And.intro (show Int.NonNeg (1 : Int) by first | decide | exact Int.NonNeg.mk _) (And.intro (r83 (yh) (yl) (yn) (IntKind.u64.wrap (↑(BitVec.ofInt 64 (IntKind.u64.wrap (rh * 2)) ||| BitVec.ofInt 64 (rl.fdiv 9223372036854775808)).toNat : Int)) (IntKind.u64.wrap (↑(BitVec.ofInt 64 (IntKind.u64.wrap (rl * 2)) ||| BitVec.ofInt 64 (r99.v xh xl i)).toNat : Int)) (false) (L81a.h1 xh xl xn yh yl yn i qh ql rh rl)) (And.intro (show (bnot (r83.v yh yl (IntKind.u64.wrap (↑(BitVec.ofInt 64 (IntKind.u64.wrap (rh * 2)) ||| BitVec.ofInt 64 (rl.fdiv 9223372036854775808)).toNat : Int)) (IntKind.u64.wrap (↑(BitVec.ofInt 64 (IntKind.u64.wrap (rl * 2)) ||| BitVec.ofInt 64 (r99.v xh xl i)).toNat : Int)))) = false by rw [h2]; try rfl) (L81a.nx xh xl xn yh yl yn (k_ := k_) (z_ := (i, qh, ql, rh, rl)) ((IntKind.i64.wrap (i - 1), IntKind.u64.wrap (↑(BitVec.ofInt 64 (IntKind.u64.wrap (qh * 2)) ||| BitVec.ofInt 64 (ql.fdiv 9223372036854775808)).toNat : Int), IntKind.u64.wrap (ql * 2), IntKind.u64.wrap (↑(BitVec.ofInt 64 (IntKind.u64.wrap (rh * 2)) ||| BitVec.ofInt 64 (rl.fdiv 9223372036854775808)).toNat : Int), IntKind.u64.wrap (↑(BitVec.ofInt 64 (IntKind.u64.wrap (rl * 2)) ||| BitVec.ofInt 64 (r99.v xh xl i)).toNat : Int))) (And.intro (And.intro (And.intro o2 o3) o4) o5) o6 (by first | (simp only [L81a.N, h1, h2, cond_true, cond_false]; done) | (try unfold L81a.N; try simp only [h1, cond_true, cond_false]; try simp only [h2, cond_true, cond_false]; try rfl; done)) PopOk.same)))))))))))⟩
    | false =>
      try have := IntWalk.u64_in (rh * 2) (by omega)
      try have := IntWalk.u64_in ((↑(BitVec.ofInt 64 (IntKind.u64.wrap (rh * 2)) ||| BitVec.ofInt 64 (rl.fdiv 9223372036854775808)).toNat : Int)) (by omega)
      have o4 : (0 : Int) ≤ IntKind.u64.wrap (↑(BitVec.ofInt (64 : Nat) (IntKind.u64.wrap (rh * (2 : Int))) ||| BitVec.ofInt (64 : Nat) (rl.fdiv (9223372036854775808 : Int))).toNat : Int) := by first | assumption | omega | (apply u_lo <;> first | assumption | omega) | (simp_all; done)
      try have := IntWalk.u64_in (rl * 2) (by omega)
      try have := IntWalk.u64_in ((↑(BitVec.ofInt 64 (IntKind.u64.wrap (rl * 2)) ||| BitVec.ofInt 64 (r99.v xh xl i)).toNat : Int)) (by omega)
      have o5 : (0 : Int) ≤ IntKind.u64.wrap (↑(BitVec.ofInt (64 : Nat) (IntKind.u64.wrap (rl * (2 : Int))) ||| BitVec.ofInt (64 : Nat) (r99.v xh xl i)).toNat : Int) := by first | assumption | omega | (apply u_lo <;> first | assumption | omega) | (simp_all; done)
      have o7 : (0 : Int) ≤ yh := by first | assumption | omega | (simp_all; done)
      have o8 : yh ≤ (18446744073709551615 : Int) := by first | assumption | omega | (simp_all; done)
      have o9 : (0 : Int) ≤ yl := by first | assumption | omega | (simp_all; done)
      have o10 : yl ≤ (18446744073709551615 : Int) := by first | assumption | omega | (simp_all; done)
      have o11 : r83.v yh yl (IntKind.u64.wrap (↑(BitVec.ofInt (64 : Nat) (IntKind.u64.wrap (rh * (2 : Int))) ||| BitVec.ofInt (64 : Nat) (rl.fdiv (9223372036854775808 : Int))).toNat : Int)) (IntKind.u64.wrap (↑(BitVec.ofInt (64 : Nat) (IntKind.u64.wrap (rl * (2 : Int))) ||| BitVec.ofInt (64 : Nat) (r99.v xh xl i)).toNat : Int)) = false := by first | assumption | omega | (simp_all; done)
      try have := IntWalk.i64_in (i - 1) (by omega)
      have o2 : (-1 : Int) ≤ IntKind.i64.wrap (i - (1 : Int)) := by first | assumption | omega | (simp_all; done)
      have o3 : IntKind.i64.wrap (i - (1 : Int)) ≤ (127 : Int) := by first | assumption | omega | (simp_all; done)
      have o12 : (0 : Int) ≤ r65.v0 (IntKind.u64.wrap (↑(BitVec.ofInt (64 : Nat) (IntKind.u64.wrap (rh * (2 : Int))) ||| BitVec.ofInt (64 : Nat) (rl.fdiv (9223372036854775808 : Int))).toNat : Int)) (IntKind.u64.wrap (↑(BitVec.ofInt (64 : Nat) (IntKind.u64.wrap (rl * (2 : Int))) ||| BitVec.ofInt (64 : Nat) (r99.v xh xl i)).toNat : Int)) yh yl := by first | assumption | omega | (apply r65_lo0 <;> first | assumption | omega) | (simp_all; done)
      have o13 : (0 : Int) ≤ r65.v1 (IntKind.u64.wrap (↑(BitVec.ofInt (64 : Nat) (IntKind.u64.wrap (rl * (2 : Int))) ||| BitVec.ofInt (64 : Nat) (r99.v xh xl i)).toNat : Int)) yl := by first | assumption | omega | (apply r65_lo1 <;> first | assumption | omega) | (simp_all; done)
      have o6 : (IntKind.i64.wrap (i - (1 : Int)) + (1 : Int)).toNat < (i + (1 : Int)).toNat := by first | assumption | omega | (simp_all; done)
      exact ⟨[.b true, .ret (AV.int IntKind.u64 (r99.v xh xl i)) (L81a.h0 xh xl xn yh yl yn i qh ql rh rl), .ret (AV.bool (r83.v yh yl (IntKind.u64.wrap (↑(BitVec.ofInt 64 (IntKind.u64.wrap (rh * 2)) ||| BitVec.ofInt 64 (rl.fdiv 9223372036854775808)).toNat : Int)) (IntKind.u64.wrap (↑(BitVec.ofInt 64 (IntKind.u64.wrap (rl * 2)) ||| BitVec.ofInt 64 (r99.v xh xl i)).toNat : Int)))) (L81a.h1 xh xl xn yh yl yn i qh ql rh rl), .b true, .ret (AV.agg [AV.int IntKind.u64 (r65.v0 (IntKind.u64.wrap (↑(BitVec.ofInt 64 (IntKind.u64.wrap (rh * 2)) ||| BitVec.ofInt 64 (rl.fdiv 9223372036854775808)).toNat : Int)) (IntKind.u64.wrap (↑(BitVec.ofInt 64 (IntKind.u64.wrap (rl * 2)) ||| BitVec.ofInt 64 (r99.v xh xl i)).toNat : Int)) yh yl), AV.int IntKind.u64 (r65.v1 (IntKind.u64.wrap (↑(BitVec.ofInt 64 (IntKind.u64.wrap (rl * 2)) ||| BitVec.ofInt 64 (r99.v xh xl i)).toNat : Int)) yl), AV.bool false]) (L81a.h1 xh xl xn yh yl yn i qh ql rh rl)], kmp (by kernel_rfl) (And.intro h1 (And.intro (show Int.NonNeg (1 : Int) by first | decide | exact Int.NonNeg.mk _) (And.intro (show Int.NonNeg (63 : Int) by first | decide | exact Int.NonNeg.mk _) (And.intro (show Int.NonNeg (1 : Int) by first | decide | exact Int.NonNeg.mk _) (And.intro (r99 (xh) (xl) (xn) (i) o0 o1 (L81a.h0 xh xl xn yh yl yn i qh ql rh rl)) (And.intro (show Int.NonNeg (1 : Int) by first | decide | exact Int.NonNeg.mk _) (And.intro (show Int.NonNeg (63 : Int) by first | decide | exact Int.NonNeg.mk _) (And.intro (show Int.NonNeg (1 : Int) by first | decide | exact Int.NonNeg.mk _) (And.intro (r83 (yh) (yl) (yn) (IntKind.u64.wrap (↑(BitVec.ofInt 64 (IntKind.u64.wrap (rh * 2)) ||| BitVec.ofInt 64 (rl.fdiv 9223372036854775808)).toNat : Int)) (IntKind.u64.wrap (↑(BitVec.ofInt 64 (IntKind.u64.wrap (rl * 2)) ||| BitVec.ofInt 64 (r99.v xh xl i)).toNat : Int)) (false) (L81a.h1 xh xl xn yh yl yn i qh ql rh rl)) (And.intro (show (bnot (r83.v yh yl (IntKind.u64.wrap (↑(BitVec.ofInt 64 (IntKind.u64.wrap (rh * 2)) ||| BitVec.ofInt 64 (rl.fdiv 9223372036854775808)).toNat : Int)) (IntKind.u64.wrap (↑(BitVec.ofInt 64 (IntKind.u64.wrap (rl * 2)) ||| BitVec.ofInt 64 (r99.v xh xl i)).toNat : Int)))) = true by rw [h2]; try rfl) (And.intro (r65 (IntKind.u64.wrap (↑(BitVec.ofInt 64 (IntKind.u64.wrap (rh * 2)) ||| BitVec.ofInt 64 (rl.fdiv 9223372036854775808)).toNat : Int)) (IntKind.u64.wrap (↑(BitVec.ofInt 64 (IntKind.u64.wrap (rl * 2)) ||| BitVec.ofInt 64 (r99.v xh xl i)).toNat : Int)) (yh) (yl) o4 o5 o7 o8 o9 o10 o11 (L81a.h1 xh xl xn yh yl yn i qh ql rh rl)) (L81a.nx xh xl xn yh yl yn (k_ := k_) (z_ := (i, qh, ql, rh, rl)) ((IntKind.i64.wrap (i - 1), IntKind.u64.wrap (↑(BitVec.ofInt 64 (IntKind.u64.wrap (qh * 2)) ||| BitVec.ofInt 64 (ql.fdiv 9223372036854775808)).toNat : Int), IntKind.u64.wrap (↑(BitVec.ofInt 64 (IntKind.u64.wrap (ql * 2)) ||| BitVec.ofInt 64 1).toNat : Int), r65.v0 (IntKind.u64.wrap (↑(BitVec.ofInt 64 (IntKind.u64.wrap (rh * 2)) ||| BitVec.ofInt 64 (rl.fdiv 9223372036854775808)).toNat : Int)) (IntKind.u64.wrap (↑(BitVec.ofInt 64 (IntKind.u64.wrap (rl * 2)) ||| BitVec.ofInt 64 (r99.v xh xl i)).toNat : Int)) yh yl, r65.v1 (IntKind.u64.wrap (↑(BitVec.ofInt 64 (IntKind.u64.wrap (rl * 2)) ||| BitVec.ofInt 64 (r99.v xh xl i)).toNat : Int)) yl)) (And.intro (And.intro (And.intro o2 o3) o12) o13) o6 (by first | (simp only [L81a.N, h1, h2, cond_true, cond_false]; done) | (try unfold L81a.N; try simp only [h1, cond_true, cond_false]; try simp only [h2, cond_true, cond_false]; try rfl; done)) PopOk.same))))))))))))⟩
  | false =>
    have h1p := of_decide_eq_false h1
    exact ⟨[.b false], kmp (by kernel_rfl) (And.intro h1 (L81a.en xh xl xn yh yl yn (k_ := k_) (z_ := (i, qh, ql, rh, rl)) (.e0 (qh) (ql) (rh) (rl) : L81a.O) (by first | (simp only [L81a.N, h1, cond_true, cond_false]; done) | (try unfold L81a.N; try simp only [h1, cond_true, cond_false]; try rfl; done)) PopOk.same))⟩

theorem L81a.e0 (xh : Int) (xl : Int) (xn : Bool) (yh : Int) (yl : Int) (yn : Bool) (b3 : 0 ≤ yh) (b4 : yh ≤ 18446744073709551615) (b5 : 0 ≤ yl) (b6 : yl ≤ 18446744073709551615) (i : Int) (qh : Int) (ql : Int) (rh : Int) (rl : Int) (hinv : L81a.inv xh xl xn yh yl yn i qh ql rh rl) (a0 : Int) (a1 : Int) (a2 : Int) (a3 : Int) (hN : L81a.run xh xl yh yl i qh ql rh rl = (.e0 a0 a1 a2 a3 : L81a.O)) : LoopTo Try.prog (loopN Try.f81 0) (L81a.T xh xl xn yh yl yn i qh ql rh rl) (L81a.H xh xl xn yh yl yn i qh ql rh rl) (Exit.exit 0) (L81a.X xh xl xn yh yl yn (.e0 a0 a1 a2 a3 : L81a.O)) (L81a.XH xh xl xn yh yl yn (.e0 a0 a1 a2 a3 : L81a.O)) := by
  have h_ := L81a.spec xh xl xn yh yl yn b3 b4 b5 b6 (((i + 1).toNat) + 1) (i, qh, ql, rh, rl) hinv (Nat.lt_succ_self _)
  unfold L81a.run at hN
  simp only [hN] at h_
  exact h_

noncomputable def r81.v0 (xh : Int) (xl : Int) (yh : Int) (yl : Int) : Int := (match L81a.run xh xl yh yl 127 0 0 0 0 with | .e0 h1d0 h1d1 h1d2 h1d3 => h1d0 )

noncomputable def r81.v1 (xh : Int) (xl : Int) (yh : Int) (yl : Int) : Int := (match L81a.run xh xl yh yl 127 0 0 0 0 with | .e0 h1d0 h1d1 h1d2 h1d3 => h1d1 )

noncomputable def r81.v2 (xh : Int) (xl : Int) (yh : Int) (yl : Int) : Bool := (match L81a.run xh xl yh yl 127 0 0 0 0 with | .e0 h1d0 h1d1 h1d2 h1d3 => false )

noncomputable def r81.v3 (xh : Int) (xl : Int) (yh : Int) (yl : Int) : Int := (match L81a.run xh xl yh yl 127 0 0 0 0 with | .e0 h1d0 h1d1 h1d2 h1d3 => h1d2 )

noncomputable def r81.v4 (xh : Int) (xl : Int) (yh : Int) (yl : Int) : Int := (match L81a.run xh xl yh yl 127 0 0 0 0 with | .e0 h1d0 h1d1 h1d2 h1d3 => h1d3 )

noncomputable def r81.v5 (xh : Int) (xl : Int) (yh : Int) (yl : Int) : Bool := (match L81a.run xh xl yh yl 127 0 0 0 0 with | .e0 h1d0 h1d1 h1d2 h1d3 => false )

theorem r81 (xh : Int) (xl : Int) (xn : Bool) (yh : Int) (yl : Int) (yn : Bool) (b3 : 0 ≤ yh) (b4 : yh ≤ 18446744073709551615) (b5 : 0 ≤ yl) (b6 : yl ≤ 18446744073709551615) (h : AHeap) : Ret Try.prog 81 ([AV.agg [AV.int IntKind.u64 xh, AV.int IntKind.u64 xl, AV.bool xn], AV.agg [AV.int IntKind.u64 yh, AV.int IntKind.u64 yl, AV.bool yn]]) h (AV.tup [(AV.agg ((AV.int IntKind.u64 (r81.v0 xh xl yh yl)) :: ((AV.int IntKind.u64 (r81.v1 xh xl yh yl)) :: ((AV.bool (r81.v2 xh xl yh yl)) :: [])))), (AV.agg ((AV.int IntKind.u64 (r81.v3 xh xl yh yl)) :: ((AV.int IntKind.u64 (r81.v4 xh xl yh yl)) :: ((AV.bool (r81.v5 xh xl yh yl)) :: []))))]) h := by
  have o0 : (0 : Int) ≤ yh := by first | assumption | omega | (simp_all; done)
  have o1 : yh ≤ (18446744073709551615 : Int) := by first | assumption | omega | (simp_all; done)
  have o2 : (0 : Int) ≤ yl := by first | assumption | omega | (simp_all; done)
  have o3 : yl ≤ (18446744073709551615 : Int) := by first | assumption | omega | (simp_all; done)
  cases h1 : L81a.run xh xl yh yl 127 0 0 0 0 with
  | e0 h1d0 h1d1 h1d2 h1d3 =>
    exact Ret.of_run1 mix [(AV.agg ((AV.int IntKind.u64 (r81.v0 xh xl yh yl)) :: ((AV.int IntKind.u64 (r81.v1 xh xl yh yl)) :: ((AV.bool (r81.v2 xh xl yh yl)) :: [])))), (AV.agg ((AV.int IntKind.u64 (r81.v3 xh xl yh yl)) :: ((AV.int IntKind.u64 (r81.v4 xh xl yh yl)) :: ((AV.bool (r81.v5 xh xl yh yl)) :: []))))] Try.func81 rfl [.loop (others 58 [2, 3, 4, 5, 6, 7, 8]) (Exit.exit 0) (L81a.X xh xl xn yh yl yn (L81a.O.e0 h1d0 h1d1 h1d2 h1d3)) (L81a.XH xh xl xn yh yl yn (L81a.O.e0 h1d0 h1d1 h1d2 h1d3))] (by simp) (by simp) (kmp (by kernel_rfl) (And.intro (L81a.e0 (xh) (xl) (xn) (yh) (yl) (yn) o0 o1 o2 o3 (127) (0) (0) (0) (0) (And.intro (And.intro (And.intro (show (-1 : Int) ≤ (127 : Int) by first | decide | exact Int.NonNeg.mk _) (show (127 : Int) ≤ (127 : Int) by first | decide | exact Int.NonNeg.mk _)) (show (0 : Int) ≤ (0 : Int) by first | decide | exact Int.NonNeg.mk _)) (show (0 : Int) ≤ (0 : Int) by first | decide | exact Int.NonNeg.mk _)) h1d0 h1d1 h1d2 h1d3 h1) (And.intro (And.intro trivial (show (AV.agg [AV.int IntKind.u64 h1d0, AV.int IntKind.u64 h1d1, AV.bool false]) = ((AV.agg ((AV.int IntKind.u64 (r81.v0 xh xl yh yl)) :: ((AV.int IntKind.u64 (r81.v1 xh xl yh yl)) :: ((AV.bool (r81.v2 xh xl yh yl)) :: []))))) by first | (simp only [r81.v0, r81.v1, r81.v2, r81.v3, r81.v4, r81.v5, h1, cond_true, cond_false]; done) | (try unfold r81.v0; try unfold r81.v1; try unfold r81.v2; try unfold r81.v3; try unfold r81.v4; try unfold r81.v5; try simp only [h1, cond_true, cond_false]; try rfl; done) | rfl)) (And.intro (And.intro trivial (show (AV.agg [AV.int IntKind.u64 h1d2, AV.int IntKind.u64 h1d3, AV.bool false]) = ((AV.agg ((AV.int IntKind.u64 (r81.v3 xh xl yh yl)) :: ((AV.int IntKind.u64 (r81.v4 xh xl yh yl)) :: ((AV.bool (r81.v5 xh xl yh yl)) :: []))))) by first | (simp only [r81.v0, r81.v1, r81.v2, r81.v3, r81.v4, r81.v5, h1, cond_true, cond_false]; done) | (try unfold r81.v0; try unfold r81.v1; try unfold r81.v2; try unfold r81.v3; try unfold r81.v4; try unfold r81.v5; try simp only [h1, cond_true, cond_false]; try rfl; done) | rfl)) trivial)))) h

end Go.Proofs.Ytngpbfocjgikaaa

open Go

namespace Go.Proofs.Ytngpbfocjgikaaa

set_option maxHeartbeats 0

set_option maxRecDepth 100000

set_option linter.unusedVariables false

set_option linter.unusedSimpArgs false

theorem or_nat (a b : Nat) (ha : a < 18446744073709551616) (hb : b < 18446744073709551616) : IntKind.u64.wrap (↑(BitVec.ofInt 64 (a : Int) ||| BitVec.ofInt 64 (b : Int)).toNat : Int) = ((a ||| b : Nat) : Int) := u64_or_nat a b ha hb

theorem u64_two (a : Nat) (ha : a < 9223372036854775808) : IntKind.u64.wrap ((a : Int) * 2) = ((2 * a : Nat) : Int) := by
  rw [IntWalk.u64_in _ (by omega)]; omega

theorem or_bit (a b : Nat) (ha : a < 9223372036854775808) (hb : b ≤ 1) : IntKind.u64.wrap (↑(BitVec.ofInt 64 (IntKind.u64.wrap ((a : Int) * 2)) ||| BitVec.ofInt 64 (b : Int)).toNat : Int) = ((2 * a + b : Nat) : Int) := by
  rw [u64_two a ha, or_nat (2 * a) b (by omega) (by omega)]
  have := Nat.two_pow_add_eq_or_of_lt (i := 1) (b := b) (by omega) a
  rw [Nat.pow_one] at this
  rw [← this]

theorem hi_zero (a : Nat) (ha : a < 9223372036854775808) : IntKind.u64.wrap (↑(BitVec.ofInt 64 (IntKind.u64.wrap ((0 : Int) * 2)) ||| BitVec.ofInt 64 ((a : Int).fdiv 9223372036854775808)).toNat : Int) = 0 := by
  have e : (a : Int).fdiv 9223372036854775808 = 0 := by
    rw [Int.fdiv_eq_ediv_of_nonneg _ (by decide)]; omega
  rw [e]
  rfl

theorem bit99 (X i : Nat) (hX : X < 18446744073709551616) (hi : i ≤ 127) : r99.v 0 (X : Int) (i : Int) = ((X / 2 ^ i % 2 : Nat) : Int) := by
  unfold r99.v
  by_cases h : i < 64
  · rw [decide_eq_false (show ¬ (i : Int) ≥ 64 by omega), cond_false, Int.toNat_natCast, Nat.min_eq_left (by omega)]
    have e : (X : Int).fdiv (2 ^ i) = ((X / 2 ^ i : Nat) : Int) := by
      rw [Int.fdiv_eq_ediv_of_nonneg _ (Int.pow_nonneg (by decide)), Int.natCast_ediv]
      simp
    rw [e]
    have hle : X / 2 ^ i < 18446744073709551616 := Nat.lt_of_le_of_lt (Nat.div_le_self _ _) hX
    have := u64_and_nat (X / 2 ^ i) 1 hle (by decide)
    rw [Nat.and_one_is_mod] at this
    exact this
  · rw [decide_eq_true (show (i : Int) ≥ 64 by omega), cond_true]
    have e : X / 2 ^ i = 0 := Nat.div_eq_of_lt (Nat.lt_of_lt_of_le hX (Nat.pow_le_pow_right (n := 2) (by decide) (show 64 ≤ i by omega)))
    rw [e, show ∀ x : Int, (0 : Int).fdiv x = 0 from fun x => Int.zero_fdiv x]
    rfl

theorem div_step {X Y k : Nat} (hY : 0 < Y) :
    (X / 2 ^ k = 2 * (X / 2 ^ (k + 1)) + X / 2 ^ k % 2) ∧
    (2 * (X / 2 ^ (k + 1) % Y) + X / 2 ^ k % 2 < Y → X / 2 ^ k / Y = 2 * (X / 2 ^ (k + 1) / Y) ∧ X / 2 ^ k % Y = 2 * (X / 2 ^ (k + 1) % Y) + X / 2 ^ k % 2) ∧
    (Y ≤ 2 * (X / 2 ^ (k + 1) % Y) + X / 2 ^ k % 2 → X / 2 ^ k / Y = 2 * (X / 2 ^ (k + 1) / Y) + 1 ∧ X / 2 ^ k % Y = 2 * (X / 2 ^ (k + 1) % Y) + X / 2 ^ k % 2 - Y) := by
  have e : X / 2 ^ (k + 1) = X / 2 ^ k / 2 := by rw [Nat.pow_succ, Nat.div_div_eq_div_mul]
  rw [e]
  generalize X / 2 ^ k = B
  have h1 := Nat.div_add_mod (B / 2) Y
  have h2 := Nat.mod_lt (B / 2) hY
  generalize B / 2 / Y = q at *
  generalize B / 2 % Y = r at *
  have h3 : B = 2 * (B / 2) + B % 2 := by omega
  refine ⟨h3, fun h => ?_, fun h => ?_⟩
  · refine (Nat.div_mod_unique hY).2 ⟨?_, h⟩
    have : Y * (2 * q) = 2 * (Y * q) := by rw [Nat.mul_left_comm]
    omega
  · refine (Nat.div_mod_unique hY).2 ⟨?_, by omega⟩
    have : Y * (2 * q + 1) = 2 * (Y * q) + Y := by rw [Nat.mul_add, Nat.mul_one, Nat.mul_left_comm]
    omega

theorem divide_N {X Y : Nat} (hX : X < 18446744073709551616) (hY : 0 < Y) (hY2 : Y ≤ 9223372036854775808) : ∀ (m s : Nat), s ≤ 128 → s < m →
    L81a.N 0 (X : Int) 0 (Y : Int) m ((s : Int) - 1) 0 ((X / 2 ^ s / Y : Nat) : Int) 0 ((X / 2 ^ s % Y : Nat) : Int) = .e0 0 ((X / Y : Nat) : Int) 0 ((X % Y : Nat) : Int) := by
  intro m
  induction m with
  | zero => intro s _ h; omega
  | succ m ih =>
    intro s hs hm
    cases s with
    | zero =>
      simp only [L81a.N]
      rw [decide_eq_false (show ¬ ((0 : Nat) : Int) - 1 ≥ 0 by omega), cond_false, Nat.pow_zero, Nat.div_one]
    | succ k =>
      have ek : ((k + 1 : Nat) : Int) - 1 = (k : Int) := by omega
      rw [ek]
      simp only [L81a.N]
      obtain ⟨d1, d2, d3⟩ := div_step (X := X) (k := k) hY
      have hA : X / 2 ^ (k + 1) < 9223372036854775808 := by
        have h2 : X / 2 ^ (k + 1) ≤ X / 2 ^ 1 := Nat.div_le_div_left (Nat.pow_le_pow_right (by decide) (by omega)) (by decide)
        rw [Nat.pow_one] at h2
        omega
      have hq : X / 2 ^ (k + 1) / Y < 9223372036854775808 := Nat.lt_of_le_of_lt (Nat.div_le_self _ _) hA
      have hr : X / 2 ^ (k + 1) % Y < Y := Nat.mod_lt _ hY
      have hb : X / 2 ^ k % 2 ≤ 1 := by omega
      rw [decide_eq_true (show (k : Int) ≥ 0 by omega), cond_true, bit99 X k hX (by omega), or_bit _ _ (by omega) hb, hi_zero _ (show X / 2 ^ (k + 1) % Y < 9223372036854775808 by omega), hi_zero _ hq, u64_two _ hq,
        show IntKind.i64.wrap ((k : Int) - 1) = (k : Int) - 1 from i64_small (by omega)]
      have e83 : r83.v 0 (Y : Int) 0 ((2 * (X / 2 ^ (k + 1) % Y) + X / 2 ^ k % 2 : Nat) : Int) = decide ((Y : Int) > ((2 * (X / 2 ^ (k + 1) % Y) + X / 2 ^ k % 2 : Nat) : Int)) := by
        unfold r83.v; rfl
      rw [e83]
      by_cases h : 2 * (X / 2 ^ (k + 1) % Y) + X / 2 ^ k % 2 < Y
      · obtain ⟨f1, f2⟩ := d2 h
        rw [decide_eq_true (show (Y : Int) > ((2 * (X / 2 ^ (k + 1) % Y) + X / 2 ^ k % 2 : Nat) : Int) by omega), cond_true, ← f1, ← f2]
        exact ih k (by omega) (by omega)
      · obtain ⟨f1, f2⟩ := d3 (by omega)
        rw [decide_eq_false (show ¬ (Y : Int) > ((2 * (X / 2 ^ (k + 1) % Y) + X / 2 ^ k % 2 : Nat) : Int) by omega), cond_false]
        have o1 := or_nat (2 * (X / 2 ^ (k + 1) / Y)) 1 (by omega) (by decide)
        have o2 := Nat.two_pow_add_eq_or_of_lt (i := 1) (b := 1) (by decide) (X / 2 ^ (k + 1) / Y)
        rw [Nat.pow_one] at o2
        rw [← o2, ← f1] at o1
        have e0 : r65.v0 0 ((2 * (X / 2 ^ (k + 1) % Y) + X / 2 ^ k % 2 : Nat) : Int) 0 (Y : Int) = 0 := by
          unfold r65.v0
          rw [if_neg (by omega)]; rfl
        have e1 : r65.v1 ((2 * (X / 2 ^ (k + 1) % Y) + X / 2 ^ k % 2 : Nat) : Int) (Y : Int) = ((X / 2 ^ k % Y : Nat) : Int) := by
          unfold r65.v1
          rw [f2]; omega
        rw [e0, e1]
        have o3 : IntKind.u64.wrap (↑(BitVec.ofInt 64 ((2 * (X / 2 ^ (k + 1) / Y) : Nat) : Int) ||| BitVec.ofInt 64 1).toNat : Int) = ((X / 2 ^ k / Y : Nat) : Int) := o1
        rw [o3]
        exact ih k (by omega) (by omega)

/-- Of numbers of 64 bits: quotient and remainder. -/
theorem c81 (x : Int) (xn : Bool) (y : Int) (yn : Bool) (b1 : 0 ≤ x) (b2 : x ≤ 18446744073709551615) (b3 : 0 < y) (b4 : y ≤ 9223372036854775808) (h : AHeap) :
    Ret Try.prog 81 [AV.agg [AV.int .u64 0, AV.int .u64 x, AV.bool xn], AV.agg [AV.int .u64 0, AV.int .u64 y, AV.bool yn]] h
      (AV.tup [AV.agg [AV.int .u64 0, AV.int .u64 (x / y), AV.bool false], AV.agg [AV.int .u64 0, AV.int .u64 (x % y), AV.bool false]]) h := by
  obtain ⟨X, rfl⟩ := Int.eq_ofNat_of_zero_le b1
  obtain ⟨Y, rfl⟩ := Int.eq_ofNat_of_zero_le (Int.le_of_lt b3)
  have e : L81a.run 0 (X : Int) 0 (Y : Int) 127 0 0 0 0 = .e0 0 ((X / Y : Nat) : Int) 0 ((X % Y : Nat) : Int) := by
    unfold L81a.run
    have := divide_N (X := X) (Y := Y) (by omega) (by omega) (by omega) (((127 : Int) + 1).toNat + 1) 128 (Nat.le_refl _) (by decide)
    have z : X / 2 ^ 128 = 0 := Nat.div_eq_of_lt (Nat.lt_of_lt_of_le (show X < 2 ^ 64 by omega) (Nat.pow_le_pow_right (by decide) (by decide)))
    rw [z, Nat.zero_div, Nat.zero_mod] at this
    exact this
  have r := r81 0 (X : Int) xn 0 (Y : Int) yn (Int.le_refl _) (by decide) (by omega) (by omega) h
  unfold r81.v0 r81.v1 r81.v2 r81.v3 r81.v4 r81.v5 at r
  rw [e] at r
  rw [Int.natCast_ediv, Int.natCast_emod] at r
  exact r

end Go.Proofs.Ytngpbfocjgikaaa

open Go

namespace Go.Proofs.Ytngpbfocjgikaaa

set_option maxHeartbeats 0

set_option maxRecDepth 100000

set_option linter.unusedVariables false

set_option linter.unusedSimpArgs false

theorem c68 (b : Int) (ng : Bool) (h : AHeap) : Ret Try.prog 68 [AV.agg [AV.int .u64 0, AV.int .u64 b, AV.bool ng]] h (AV.bool (b == 0)) h := r68 0 b ng h

theorem and32 (z : Int) (h0 : 0 ≤ z) (h1 : z < 18446744073709551616) : IntKind.u64.wrap (↑(BitVec.ofInt 64 z &&& BitVec.ofInt 64 4294967295).toNat : Int) = z % 4294967296 := and_low32 z h0 h1

theorem r73_v0 (x y : Int) (hx0 : 0 ≤ x) (hx : x < 18446744073709551616) (hy0 : 0 ≤ y) (hy : y < 18446744073709551616) : r73.v0 x y = x * y / 18446744073709551616 := by
  unfold r73.v0
  have w (n : Int) : 0 ≤ IntKind.u64.wrap n ∧ IntKind.u64.wrap n < 18446744073709551616 := by rw [IntKind.wrap_u64]; omega
  rw [and32 x hx0 hx, and32 y hy0 hy, and32 _ (w _).1 (w _).2]
  simp only [Int.fdiv_eq_ediv_of_nonneg _ (show (0 : Int) ≤ 4294967296 by decide), IntKind.wrap_u64]
  exact mul64_arith x y hx0 hx hy0 hy

theorem size85 {x : Int} (h : -9223372036854775808 ≤ x ∧ x ≤ 9223372036854775807) : r85.v x = (x.natAbs : Int) := size_v h

theorem c63 (x : Int) (hx : -9223372036854775808 ≤ x ∧ x ≤ 9223372036854775807) (h : AHeap) :
    Ret Try.prog 63 [AV.int .i64 x] h (AV.agg [AV.int .u64 0, AV.int .u64 (x.natAbs : Int), AV.bool (decide (x < 0))]) h := by
  have r := r63 x h
  have e1 : r85.v 1 = 1 := size85 (by decide)
  have a0 : r63.v0 x = 0 := by
    unfold r63.v0 r66.v0
    rw [size85 hx, e1, r73_v0 _ _ (by omega) (by omega) (by decide) (by decide)]
    omega
  have a1 : r63.v1 x = (x.natAbs : Int) := by
    unfold r63.v1 r66.v1 r73.v1
    rw [size85 hx, e1, IntWalk.u64_in _ (by omega)]
    omega
  have a2 : r63.v2 x = decide (x < 0) := by
    unfold r63.v2 r66.v2
    by_cases q : x < 0
    · rw [decide_eq_true q]; rfl
    · rw [decide_eq_false q]; rfl
  rw [a0, a1, a2] at r
  exact r

/-- The greatest common divisor. -/
def gc (a b : Int) : Int := (Nat.gcd a.toNat b.toNat : Int)

theorem gc_pos {a b : Int} (h : 0 < a) : 0 < gc a b := by
  have := Nat.gcd_pos_of_pos_left b.toNat (m := a.toNat) (by omega)
  unfold gc; omega

theorem gc_le {a b : Int} (h : 0 < a) (h2 : a ≤ 9223372036854775808) : gc a b ≤ 9223372036854775808 := by
  have := Nat.gcd_le_left b.toNat (m := a.toNat) (by omega)
  unfold gc; omega

theorem em_0 {a b : Int} (h0 : 0 ≤ b) (h : ¬ b = 0) : 0 ≤ a % b := Int.emod_nonneg _ h

theorem em_lt {a b : Int} (h0 : 0 ≤ b) (h : ¬ b = 0) : (a % b).toNat < b.toNat := by
  have := Int.emod_lt_of_pos a (show 0 < b by omega)
  have := Int.emod_nonneg a h
  omega

theorem em_hi {a b : Int} (h0 : 0 ≤ b) (h : ¬ b = 0) (h1 : b ≤ 9223372036854775808) : a % b ≤ 9223372036854775808 := by
  have := Int.emod_lt_of_pos a (show 0 < b by omega)
  omega

end Go.Proofs.Ytngpbfocjgikaaa

open Go

namespace Go.Proofs.Ytngpbfocjgikaaa

set_option linter.unusedSimpArgs false

set_option linter.unusedVariables false

set_option maxHeartbeats 0

set_option maxRecDepth 100000

inductive L80a.O where
  | e0 (a0 : Int) (a1 : Int)

noncomputable def L80a.T (a : Int) (b : Int) : List AV := mkT 23 [(2, AV.ptr 0 1 3 0 0), (3, AV.ptr 1 1 3 0 0), (4, AV.ptr 2 1 3 0 0)]

noncomputable def L80a.H (a : Int) (b : Int) : AHeap := [AObj.var (AV.agg [AV.int IntKind.u64 0, AV.int IntKind.u64 a, AV.bool false]), AObj.var (AV.agg [AV.int IntKind.u64 0, AV.int IntKind.u64 b, AV.bool false]), AObj.var (AV.agg [AV.int IntKind.u64 0, AV.int IntKind.u64 0, AV.bool false])]

def L80a.inv (a : Int) (b : Int) : Prop := (0 ≤ a ∧ a ≤ 18446744073709551615) ∧ 0 ≤ b ∧ b ≤ 9223372036854775808

noncomputable def L80a.mu (a : Int) (b : Int) : Nat := b.toNat

noncomputable def L80a.E : L80a.O → Exit
  | .e0 a0 a1 => Exit.exit 0

noncomputable def L80a.X : L80a.O → List AV
  | .e0 a0 a1 => mkT 23 [(2, (AV.ptr 0 1 3 0 0)), (4, (AV.ptr 2 1 3 0 0))]

noncomputable def L80a.XH : L80a.O → AHeap
  | .e0 a0 a1 => ((AObj.var (AV.agg ((AV.int IntKind.u64 0) :: ((AV.int IntKind.u64 a0) :: ([AV.bool false]))))) :: ((AObj.var (AV.agg ((AV.int IntKind.u64 0) :: ((AV.int IntKind.u64 a1) :: ([AV.bool false]))))) :: ([AObj.var (AV.agg [AV.int IntKind.u64 0, AV.int IntKind.u64 0, AV.bool false])])))

noncomputable def L80a.N : Nat → Int → Int → L80a.O
  | 0, a, b => .e0 a b
  | k_ + 1, a, b => (bif b == 0 then (.e0 (a) (b)) else (L80a.N k_ (b) (a % b)))

noncomputable def L80a.run (a : Int) (b : Int) : L80a.O := L80a.N ((b.toNat) + 1) a b

theorem L80a.nx {k_ : Nat} {z_ : Int × Int} {h_ : AHeap} (s_ : Int × Int) (h1 : L80a.inv s_.1 s_.2) (h2 : L80a.mu s_.1 s_.2 < L80a.mu z_.1 z_.2) (h3 : L80a.N k_ s_.1 s_.2 = L80a.N (k_ + 1) z_.1 z_.2) (h4 : PopOk (L80a.H z_.1 z_.2) h_ (L80a.T s_.1 s_.2) (L80a.H s_.1 s_.2)) : LNextP (fun (z_ : Int × Int) => L80a.T z_.1 z_.2) (fun (z_ : Int × Int) => L80a.H z_.1 z_.2) (fun (z_ : Int × Int) => L80a.inv z_.1 z_.2) (fun (z_ : Int × Int) => L80a.mu z_.1 z_.2) (fun (k_ : Nat) (z_ : Int × Int) => L80a.N k_ z_.1 z_.2) k_ z_ (L80a.T s_.1 s_.2) h_ := LNextP.mk (Tm := (fun (z_ : Int × Int) => L80a.T z_.1 z_.2)) (Hp := (fun (z_ : Int × Int) => L80a.H z_.1 z_.2)) (inv := (fun (z_ : Int × Int) => L80a.inv z_.1 z_.2)) (mu := (fun (z_ : Int × Int) => L80a.mu z_.1 z_.2)) (l := (fun (k_ : Nat) (z_ : Int × Int) => L80a.N k_ z_.1 z_.2)) s_ h1 h2 h3 h4

theorem L80a.en {k_ : Nat} {z_ : Int × Int} {h_ : AHeap} (o_ : L80a.O) (h3 : L80a.N (k_ + 1) z_.1 z_.2 = o_) (h4 : PopOk (L80a.H z_.1 z_.2) h_ (L80a.X o_) (L80a.XH o_)) : LEndP (fun (z_ : Int × Int) => L80a.H z_.1 z_.2) (fun (k_ : Nat) (z_ : Int × Int) => L80a.N k_ z_.1 z_.2) L80a.E (L80a.X) (L80a.XH) k_ z_ (L80a.E o_) (L80a.X o_) h_ := LEndP.mk (Hp := (fun (z_ : Int × Int) => L80a.H z_.1 z_.2)) (l := (fun (k_ : Nat) (z_ : Int × Int) => L80a.N k_ z_.1 z_.2)) (oE := L80a.E) (oT := L80a.X) (oH := L80a.XH) o_ h3 h4

noncomputable abbrev L80a.h0 (a : Int) (b : Int) : AHeap := ([AObj.var (AV.agg [AV.int IntKind.u64 0, AV.int IntKind.u64 a, AV.bool false]), AObj.var (AV.agg [AV.int IntKind.u64 0, AV.int IntKind.u64 b, AV.bool false]), AObj.var (AV.agg [AV.int IntKind.u64 0, AV.int IntKind.u64 0, AV.bool false])])

theorem L80a.spec (k_ : Nat) (z_ : Int × Int) (hi_ : L80a.inv z_.1 z_.2) (hm_ : L80a.mu z_.1 z_.2 < k_) : LoopTo Try.prog (loopN Try.f80 0) (L80a.T z_.1 z_.2) (L80a.H z_.1 z_.2) (L80a.E (L80a.N k_ z_.1 z_.2)) (L80a.X (L80a.N k_ z_.1 z_.2)) (L80a.XH (L80a.N k_ z_.1 z_.2)) := by
  refine LoopTo.fuelP mix (fun (z_ : Int × Int) => L80a.T z_.1 z_.2) (fun (z_ : Int × Int) => L80a.H z_.1 z_.2) (fun (z_ : Int × Int) => L80a.inv z_.1 z_.2) (fun (z_ : Int × Int) => L80a.mu z_.1 z_.2) (fun (k_ : Nat) (z_ : Int × Int) => L80a.N k_ z_.1 z_.2) L80a.E (L80a.X) (L80a.XH) (others 23 [2, 3, 4]) (others 23 [4]) (others 23 [2, 4]) ?_ k_ z_ hi_ hm_
  clear hm_ hi_ z_ k_
  intro k_ z_ hinv hmu
  obtain ⟨a, b⟩ := z_
  have hinv : (0 ≤ a ∧ a ≤ 18446744073709551615) ∧ 0 ≤ b ∧ b ≤ 9223372036854775808 := hinv
  have hmu : (b.toNat) < k_ + 1 := hmu
  cases h1 : b == 0 with
  | true =>
    have h1p := eq_of_beq h1
    exact ⟨[.ret (AV.bool (b == 0)) (L80a.h0 a b), .b false], kmp (by kernel_rfl) (And.intro (c68 (b) (false) (L80a.h0 a b)) (And.intro (show (bnot (b == 0)) = false by rw [h1]; try rfl) (L80a.en (k_ := k_) (z_ := (a, b)) (.e0 (a) (b) : L80a.O) (by first | (simp only [L80a.N, h1, cond_true, cond_false]; done) | (try unfold L80a.N; try simp only [h1, cond_true, cond_false]; try rfl; done)) PopOk.same)))⟩
  | false =>
    have h1p := ne_of_beq_false h1
    have o0 : (0 : Int) ≤ a := by first | assumption | omega | (simp_all; done)
    have o1 : a ≤ (18446744073709551615 : Int) := by first | assumption | omega | (simp_all; done)
    have o2 : (0 : Int) < b := by first | assumption | omega | (simp_all; done)
    have o3 : b ≤ (9223372036854775808 : Int) := by first | assumption | omega | (simp_all; done)
    have o4 : (0 : Int) ≤ b := by first | assumption | omega | (simp_all; done)
    have o5 : b ≤ (18446744073709551615 : Int) := by first | assumption | omega | (simp_all; done)
    have o6 : (0 : Int) ≤ a % b := by first | assumption | omega | (apply em_0 <;> first | assumption | omega) | (simp_all; done)
    have o7 : a % b ≤ (9223372036854775808 : Int) := by first | assumption | omega | (apply em_hi <;> first | assumption | omega) | (simp_all; done)
    have o8 : (a % b).toNat < b.toNat := by first | assumption | omega | (apply em_lt <;> first | assumption | omega) | (simp_all; done)
    exact ⟨[.ret (AV.bool (b == 0)) (L80a.h0 a b), .b true, .ret (AV.tup [AV.agg [AV.int IntKind.u64 0, AV.int IntKind.u64 (a / b), AV.bool false], AV.agg [AV.int IntKind.u64 0, AV.int IntKind.u64 (a % b), AV.bool false]]) (L80a.h0 a b)], kmp (by kernel_rfl) (And.intro (c68 (b) (false) (L80a.h0 a b)) (And.intro (show (bnot (b == 0)) = true by rw [h1]; try rfl) (And.intro (c81 (a) (false) (b) (false) o0 o1 o2 o3 (L80a.h0 a b)) (L80a.nx (k_ := k_) (z_ := (a, b)) (h_ := [AObj.var (AV.agg [AV.int IntKind.u64 0, AV.int IntKind.u64 b, AV.bool false]), AObj.var (AV.agg [AV.int IntKind.u64 0, AV.int IntKind.u64 (a % b), AV.bool false]), AObj.var (AV.agg [AV.int IntKind.u64 0, AV.int IntKind.u64 0, AV.bool false]), AObj.var (AV.agg [AV.int IntKind.u64 0, AV.int IntKind.u64 (a / b), AV.bool false]), AObj.var (AV.agg [AV.int IntKind.u64 0, AV.int IntKind.u64 (a % b), AV.bool false])]) ((b, a % b)) (And.intro (And.intro o4 o5) (And.intro o6 o7)) o8 (by first | (simp only [L80a.N, h1, cond_true, cond_false]; done) | (try unfold L80a.N; try simp only [h1, cond_true, cond_false]; try rfl; done)) (PopOk.popLow _ rfl rfl (by simp [L80a.T, L80a.X, L80a.H, L80a.XH]) (by simp [L80a.T, L80a.X, L80a.H, L80a.XH]))))))⟩

theorem L80a.e0 (a : Int) (b : Int) (hinv : L80a.inv a b) (a0 : Int) (a1 : Int) (hN : L80a.run a b = (.e0 a0 a1 : L80a.O)) : LoopTo Try.prog (loopN Try.f80 0) (L80a.T a b) (L80a.H a b) (Exit.exit 0) (L80a.X (.e0 a0 a1 : L80a.O)) (L80a.XH (.e0 a0 a1 : L80a.O)) := by
  have h_ := L80a.spec ((b.toNat) + 1) (a, b) hinv (Nat.lt_succ_self _)
  unfold L80a.run at hN
  simp only [hN] at h_
  exact h_

noncomputable def r80.v0 (a : Int) (b : Int) : Int := (match L80a.run a b with | .e0 h1d0 h1d1 => 0 )

noncomputable def r80.v1 (a : Int) (b : Int) : Int := (match L80a.run a b with | .e0 h1d0 h1d1 => h1d0 )

noncomputable def r80.v2 (a : Int) (b : Int) : Bool := (match L80a.run a b with | .e0 h1d0 h1d1 => false )

theorem r80 (a : Int) (b : Int) (h0 : 0 ≤ a) (h1 : a ≤ 18446744073709551615) (h2 : 0 ≤ b) (h3 : b ≤ 9223372036854775808) (h : AHeap) : Ret Try.prog 80 ([AV.agg [AV.int IntKind.u64 0, AV.int IntKind.u64 a, AV.bool false], AV.agg [AV.int IntKind.u64 0, AV.int IntKind.u64 b, AV.bool false]]) h (AV.agg ((AV.int IntKind.u64 (r80.v0 a b)) :: ((AV.int IntKind.u64 (r80.v1 a b)) :: ((AV.bool (r80.v2 a b)) :: [])))) h := by
  have o0 : (0 : Int) ≤ a := by first | assumption | omega | (simp_all; done)
  have o1 : a ≤ (18446744073709551615 : Int) := by first | assumption | omega | (simp_all; done)
  have o2 : (0 : Int) ≤ b := by first | assumption | omega | (simp_all; done)
  have o3 : b ≤ (9223372036854775808 : Int) := by first | assumption | omega | (simp_all; done)
  cases h1 : L80a.run a b with
  | e0 h1d0 h1d1 =>
    exact Ret.of_run1 mix [(AV.agg ((AV.int IntKind.u64 (r80.v0 a b)) :: ((AV.int IntKind.u64 (r80.v1 a b)) :: ((AV.bool (r80.v2 a b)) :: []))))] Try.func80 rfl [.loop (others 23 [2, 3, 4]) (Exit.exit 0) (L80a.X (L80a.O.e0 h1d0 h1d1)) (L80a.XH (L80a.O.e0 h1d0 h1d1))] (by simp) (by simp) (kmp (by kernel_rfl) (And.intro (L80a.e0 (a) (b) (And.intro (And.intro o0 o1) (And.intro o2 o3)) h1d0 h1d1 h1) (And.intro (And.intro trivial (show (AV.agg [AV.int IntKind.u64 0, AV.int IntKind.u64 h1d0, AV.bool false]) = ((AV.agg ((AV.int IntKind.u64 (r80.v0 a b)) :: ((AV.int IntKind.u64 (r80.v1 a b)) :: ((AV.bool (r80.v2 a b)) :: []))))) by first | (simp only [r80.v0, r80.v1, r80.v2, h1, cond_true, cond_false]; done) | (try unfold r80.v0; try unfold r80.v1; try unfold r80.v2; try simp only [h1, cond_true, cond_false]; try rfl; done) | rfl)) trivial))) h

end Go.Proofs.Ytngpbfocjgikaaa

open Go

namespace Go.Proofs.Ytngpbfocjgikaaa

set_option maxHeartbeats 0

set_option maxRecDepth 100000

set_option linter.unusedVariables false

set_option linter.unusedSimpArgs false

theorem common_N : ∀ (m a b : Nat), b < m → L80a.N m (a : Int) (b : Int) = .e0 ((Nat.gcd a b : Nat) : Int) 0 := by
  intro m
  induction m with
  | zero => intro a b h; omega
  | succ m ih =>
    intro a b h
    simp only [L80a.N]
    by_cases hb : b = 0
    · subst hb; simp
    · rw [show ((b : Int) == 0) = false by simp; omega, cond_false, ← Int.natCast_emod, ih b (a % b) (by have := Nat.mod_lt a (Nat.pos_of_ne_zero hb); omega)]
      rw [Nat.gcd_comm a b, Nat.gcd_rec b a, Nat.gcd_comm]

theorem c80 (a b : Int) (h0 : 0 ≤ a) (h1 : a ≤ 18446744073709551615) (h2 : 0 ≤ b) (h3 : b ≤ 9223372036854775808) (h : AHeap) :
    Ret Try.prog 80 [AV.agg [AV.int .u64 0, AV.int .u64 a, AV.bool false], AV.agg [AV.int .u64 0, AV.int .u64 b, AV.bool false]] h (AV.agg [AV.int .u64 0, AV.int .u64 (gc a b), AV.bool false]) h := by
  have r := r80 a b h0 h1 h2 h3 h
  obtain ⟨A, rfl⟩ := Int.eq_ofNat_of_zero_le h0
  obtain ⟨B, rfl⟩ := Int.eq_ofNat_of_zero_le h2
  have e : L80a.run (A : Int) (B : Int) = .e0 ((Nat.gcd A B : Nat) : Int) 0 := by
    unfold L80a.run
    exact common_N _ A B (by omega)
  unfold r80.v0 r80.v1 r80.v2 at r
  rw [e] at r
  exact r

theorem na_le {x : Int} (hx : -9223372036854775808 ≤ x ∧ x ≤ 9223372036854775807) : ((x.natAbs : Nat) : Int) ≤ 9223372036854775808 := by omega

theorem na_0 {x : Int} : 0 ≤ ((x.natAbs : Nat) : Int) := by omega

theorem na_pos {x : Int} (h : ¬ x = 0) : 0 < ((x.natAbs : Nat) : Int) := by omega

end Go.Proofs.Ytngpbfocjgikaaa

open Go

namespace Go.Proofs.Ytngpbfocjgikaaa

set_option linter.unusedSimpArgs false

set_option linter.unusedVariables false

set_option maxHeartbeats 0

set_option maxRecDepth 100000

noncomputable def r64.v0 (a : Int) (nn : Bool) (d : Int) : Int := (bif decide (a / gc d a ≥ 1000000000000000000) then 0 else (bif decide (d / gc d a ≥ 1000000000000000000) then 0 else (bif nn then IntKind.i64.wrap (0 - IntKind.i64.wrap (a / gc d a)) else IntKind.i64.wrap (a / gc d a))))

noncomputable def r64.v1 (a : Int) (d : Int) : Int := (bif decide (a / gc d a ≥ 1000000000000000000) then 0 else (bif decide (d / gc d a ≥ 1000000000000000000) then 0 else IntKind.i64.wrap (d / gc d a)))

noncomputable def r64.v2 (a : Int) (d : Int) : Int := (bif decide (a / gc d a ≥ 1000000000000000000) then 6 else (bif decide (d / gc d a ≥ 1000000000000000000) then 6 else 0))

noncomputable abbrev r64.h0 (a : Int) (nn : Bool) (d : Int) : AHeap := ([AObj.var (AV.agg [AV.int IntKind.u64 0, AV.int IntKind.u64 a, AV.bool nn]), AObj.var (AV.agg [AV.int IntKind.u64 0, AV.int IntKind.u64 d, AV.bool false]), AObj.var (AV.agg [AV.int IntKind.i64 0, AV.int IntKind.i64 0])])

noncomputable abbrev r64.h1 (a : Int) (nn : Bool) (d : Int) : AHeap := ([AObj.var (AV.agg [AV.int IntKind.u64 0, AV.int IntKind.u64 a, AV.bool nn]), AObj.var (AV.agg [AV.int IntKind.u64 0, AV.int IntKind.u64 d, AV.bool false]), AObj.var (AV.agg [AV.int IntKind.i64 0, AV.int IntKind.i64 0]), AObj.var (AV.agg [AV.int IntKind.u64 0, AV.int IntKind.u64 (gc d a), AV.bool false])])

noncomputable abbrev r64.h2 (a : Int) (nn : Bool) (d : Int) : AHeap := ([AObj.var (AV.agg [AV.int IntKind.u64 0, AV.int IntKind.u64 a, AV.bool nn]), AObj.var (AV.agg [AV.int IntKind.u64 0, AV.int IntKind.u64 d, AV.bool false]), AObj.var (AV.agg [AV.int IntKind.i64 0, AV.int IntKind.i64 0]), AObj.var (AV.agg [AV.int IntKind.u64 0, AV.int IntKind.u64 (gc d a), AV.bool false]), AObj.var (AV.agg [AV.int IntKind.u64 0, AV.int IntKind.u64 (a / gc d a), AV.bool false]), AObj.var (AV.agg [AV.int IntKind.u64 0, AV.int IntKind.u64 (a % gc d a), AV.bool false])])

theorem r64 (a : Int) (nn : Bool) (d : Int) (h0 : 0 ≤ a) (h1 : a ≤ 9223372036854775808) (h2 : 0 < d) (h3 : d ≤ 9223372036854775808) (h : AHeap) : Ret Try.prog 64 ([AV.agg [AV.int IntKind.u64 0, AV.int IntKind.u64 a, AV.bool nn], AV.agg [AV.int IntKind.u64 0, AV.int IntKind.u64 d, AV.bool false]]) h (AV.tup [(AV.agg ((AV.int IntKind.i64 (r64.v0 a nn d)) :: ((AV.int IntKind.i64 (r64.v1 a d)) :: []))), (AV.int IntKind.i64 (r64.v2 a d))]) h := by
  have o0 : (0 : Int) ≤ d := by first | assumption | omega | (simp_all; done)
  have o1 : d ≤ (18446744073709551615 : Int) := by first | assumption | omega | (simp_all; done)
  have o2 : (0 : Int) ≤ a := by first | assumption | omega | (simp_all; done)
  have o3 : a ≤ (9223372036854775808 : Int) := by first | assumption | omega | (simp_all; done)
  have o4 : a ≤ (18446744073709551615 : Int) := by first | assumption | omega | (simp_all; done)
  have o5 : (0 : Int) < gc d a := by first | assumption | omega | (apply gc_pos <;> first | assumption | omega) | (simp_all; done)
  have o6 : gc d a ≤ (9223372036854775808 : Int) := by first | assumption | omega | (apply gc_le <;> first | assumption | omega) | (simp_all; done)
  cases h1 : decide (a / gc d a ≥ 1000000000000000000) with
  | true =>
    have h1p := of_decide_eq_true h1
    exact Ret.of_run1 mix [(AV.agg ((AV.int IntKind.i64 (r64.v0 a nn d)) :: ((AV.int IntKind.i64 (r64.v1 a d)) :: []))), (AV.int IntKind.i64 (r64.v2 a d))] Try.func64 rfl [.ret (AV.agg [AV.int IntKind.u64 0, AV.int IntKind.u64 (gc d a), AV.bool false]) (r64.h0 a nn d), .ret (AV.tup [AV.agg [AV.int IntKind.u64 0, AV.int IntKind.u64 (a / gc d a), AV.bool false], AV.agg [AV.int IntKind.u64 0, AV.int IntKind.u64 (a % gc d a), AV.bool false]]) (r64.h1 a nn d), .ret (AV.tup [AV.agg [AV.int IntKind.u64 0, AV.int IntKind.u64 (d / gc d a), AV.bool false], AV.agg [AV.int IntKind.u64 0, AV.int IntKind.u64 (d % gc d a), AV.bool false]]) (r64.h2 a nn d), .b false, .b false, .b false, .b false, .b true, .b true, .b true, .b true, .b true, .b true, .b true, .b true, .b true] (by simp) (by simp) (kmp (by kernel_rfl) (And.intro (c80 (d) (a) o0 o1 o2 o3 (r64.h0 a nn d)) (And.intro (c81 (a) (nn) (gc d a) (false) o2 o4 o5 o6 (r64.h1 a nn d)) (And.intro (c81 (d) (false) (gc d a) (false) o0 o1 o5 o6 (r64.h2 a nn d)) (And.intro (rfl : false = false) (And.intro (rfl : false = false) (And.intro (rfl : false = false) (And.intro (rfl : false = false) (And.intro h1 (And.intro h1 (And.intro h1 (And.intro h1 (And.intro (rfl : true = true) (And.intro (rfl : true = true) (And.intro (rfl : true = true) (And.intro (rfl : true = true) (And.intro (rfl : true = true) (And.intro (And.intro trivial (show (AV.agg [AV.int IntKind.i64 0, AV.int IntKind.i64 0]) = ((AV.agg ((AV.int IntKind.i64 (r64.v0 a nn d)) :: ((AV.int IntKind.i64 (r64.v1 a d)) :: [])))) by first | (simp only [r64.v0, r64.v1, r64.v2, h1, cond_true, cond_false]; done) | (try unfold r64.v0; try unfold r64.v1; try unfold r64.v2; try simp only [h1, cond_true, cond_false]; try rfl; done) | rfl)) (And.intro (show (AV.int IntKind.i64 6) = ((AV.int IntKind.i64 (r64.v2 a d))) by first | (simp only [r64.v0, r64.v1, r64.v2, h1, cond_true, cond_false]; done) | (try unfold r64.v0; try unfold r64.v1; try unfold r64.v2; try simp only [h1, cond_true, cond_false]; try rfl; done) | rfl) trivial))))))))))))))))))) h
  | false =>
    have h1p := of_decide_eq_false h1
    cases h2 : decide (d / gc d a ≥ 1000000000000000000) with
    | true =>
      have h2p := of_decide_eq_true h2
      exact Ret.of_run1 mix [(AV.agg ((AV.int IntKind.i64 (r64.v0 a nn d)) :: ((AV.int IntKind.i64 (r64.v1 a d)) :: []))), (AV.int IntKind.i64 (r64.v2 a d))] Try.func64 rfl [.ret (AV.agg [AV.int IntKind.u64 0, AV.int IntKind.u64 (gc d a), AV.bool false]) (r64.h0 a nn d), .ret (AV.tup [AV.agg [AV.int IntKind.u64 0, AV.int IntKind.u64 (a / gc d a), AV.bool false], AV.agg [AV.int IntKind.u64 0, AV.int IntKind.u64 (a % gc d a), AV.bool false]]) (r64.h1 a nn d), .ret (AV.tup [AV.agg [AV.int IntKind.u64 0, AV.int IntKind.u64 (d / gc d a), AV.bool false], AV.agg [AV.int IntKind.u64 0, AV.int IntKind.u64 (d % gc d a), AV.bool false]]) (r64.h2 a nn d), .b false, .b false, .b false, .b false, .b false, .b false, .b false, .b false, .b false, .b false, .b false, .b false, .b true] (by simp) (by simp) (kmp (by kernel_rfl) (And.intro (c80 (d) (a) o0 o1 o2 o3 (r64.h0 a nn d)) (And.intro (c81 (a) (nn) (gc d a) (false) o2 o4 o5 o6 (r64.h1 a nn d)) (And.intro (c81 (d) (false) (gc d a) (false) o0 o1 o5 o6 (r64.h2 a nn d)) (And.intro (rfl : false = false) (And.intro (rfl : false = false) (And.intro (rfl : false = false) (And.intro (rfl : false = false) (And.intro h1 (And.intro h1 (And.intro h1 (And.intro h1 (And.intro (rfl : false = false) (And.intro (rfl : false = false) (And.intro (rfl : false = false) (And.intro (rfl : false = false) (And.intro h2 (And.intro (And.intro trivial (show (AV.agg [AV.int IntKind.i64 0, AV.int IntKind.i64 0]) = ((AV.agg ((AV.int IntKind.i64 (r64.v0 a nn d)) :: ((AV.int IntKind.i64 (r64.v1 a d)) :: [])))) by first | (simp only [r64.v0, r64.v1, r64.v2, h1, h2, cond_true, cond_false]; done) | (try unfold r64.v0; try unfold r64.v1; try unfold r64.v2; try simp only [h1, cond_true, cond_false]; try simp only [h2, cond_true, cond_false]; try rfl; done) | rfl)) (And.intro (show (AV.int IntKind.i64 6) = ((AV.int IntKind.i64 (r64.v2 a d))) by first | (simp only [r64.v0, r64.v1, r64.v2, h1, h2, cond_true, cond_false]; done) | (try unfold r64.v0; try unfold r64.v1; try unfold r64.v2; try simp only [h1, cond_true, cond_false]; try simp only [h2, cond_true, cond_false]; try rfl; done) | rfl) trivial))))))))))))))))))) h
    | false =>
      have h2p := of_decide_eq_false h2
      cases boolIs nn with
      | true h3 =>
        exact Ret.of_run1 mix [(AV.agg ((AV.int IntKind.i64 (r64.v0 a nn d)) :: ((AV.int IntKind.i64 (r64.v1 a d)) :: []))), (AV.int IntKind.i64 (r64.v2 a d))] Try.func64 rfl [.ret (AV.agg [AV.int IntKind.u64 0, AV.int IntKind.u64 (gc d a), AV.bool false]) (r64.h0 a nn d), .ret (AV.tup [AV.agg [AV.int IntKind.u64 0, AV.int IntKind.u64 (a / gc d a), AV.bool false], AV.agg [AV.int IntKind.u64 0, AV.int IntKind.u64 (a % gc d a), AV.bool false]]) (r64.h1 a nn d), .ret (AV.tup [AV.agg [AV.int IntKind.u64 0, AV.int IntKind.u64 (d / gc d a), AV.bool false], AV.agg [AV.int IntKind.u64 0, AV.int IntKind.u64 (d % gc d a), AV.bool false]]) (r64.h2 a nn d), .b false, .b false, .b false, .b false, .b false, .b false, .b false, .b false, .b false, .b false, .b false, .b false, .b false, .b true] (by simp) (by simp) (kmp (by kernel_rfl) (And.intro (c80 (d) (a) o0 o1 o2 o3 (r64.h0 a nn d)) (And.intro (c81 (a) (nn) (gc d a) (false) o2 o4 o5 o6 (r64.h1 a nn d)) (And.intro (c81 (d) (false) (gc d a) (false) o0 o1 o5 o6 (r64.h2 a nn d)) (And.intro (rfl : false = false) (And.intro (rfl : false = false) (And.intro (rfl : false = false) (And.intro (rfl : false = false) (And.intro h1 (And.intro h1 (And.intro h1 (And.intro h1 (And.intro (rfl : false = false) (And.intro (rfl : false = false) (And.intro (rfl : false = false) (And.intro (rfl : false = false) (And.intro h2 (And.intro h3 (And.intro (And.intro trivial (show (AV.agg [AV.int IntKind.i64 (IntKind.i64.wrap (0 - IntKind.i64.wrap (a / gc d a))), AV.int IntKind.i64 (IntKind.i64.wrap (d / gc d a))]) = ((AV.agg ((AV.int IntKind.i64 (r64.v0 a nn d)) :: ((AV.int IntKind.i64 (r64.v1 a d)) :: [])))) by first | (simp only [r64.v0, r64.v1, r64.v2, h1, h2, h3, cond_true, cond_false]; done) | (try unfold r64.v0; try unfold r64.v1; try unfold r64.v2; try simp only [h1, cond_true, cond_false]; try simp only [h2, cond_true, cond_false]; try simp only [h3, cond_true, cond_false]; try rfl; done) | rfl)) (And.intro (show (AV.int IntKind.i64 0) = ((AV.int IntKind.i64 (r64.v2 a d))) by first | (simp only [r64.v0, r64.v1, r64.v2, h1, h2, h3, cond_true, cond_false]; done) | (try unfold r64.v0; try unfold r64.v1; try unfold r64.v2; try simp only [h1, cond_true, cond_false]; try simp only [h2, cond_true, cond_false]; try simp only [h3, cond_true, cond_false]; try rfl; done) | rfl) trivial)))))))))))))))))))) h
      | false h3 =>
        exact Ret.of_run1 mix [(AV.agg ((AV.int IntKind.i64 (r64.v0 a nn d)) :: ((AV.int IntKind.i64 (r64.v1 a d)) :: []))), (AV.int IntKind.i64 (r64.v2 a d))] Try.func64 rfl [.ret (AV.agg [AV.int IntKind.u64 0, AV.int IntKind.u64 (gc d a), AV.bool false]) (r64.h0 a nn d), .ret (AV.tup [AV.agg [AV.int IntKind.u64 0, AV.int IntKind.u64 (a / gc d a), AV.bool false], AV.agg [AV.int IntKind.u64 0, AV.int IntKind.u64 (a % gc d a), AV.bool false]]) (r64.h1 a nn d), .ret (AV.tup [AV.agg [AV.int IntKind.u64 0, AV.int IntKind.u64 (d / gc d a), AV.bool false], AV.agg [AV.int IntKind.u64 0, AV.int IntKind.u64 (d % gc d a), AV.bool false]]) (r64.h2 a nn d), .b false, .b false, .b false, .b false, .b false, .b false, .b false, .b false, .b false, .b false, .b false, .b false, .b false, .b false] (by simp) (by simp) (kmp (by kernel_rfl) (And.intro (c80 (d) (a) o0 o1 o2 o3 (r64.h0 a nn d)) (And.intro (c81 (a) (nn) (gc d a) (false) o2 o4 o5 o6 (r64.h1 a nn d)) (And.intro (c81 (d) (false) (gc d a) (false) o0 o1 o5 o6 (r64.h2 a nn d)) (And.intro (rfl : false = false) (And.intro (rfl : false = false) (And.intro (rfl : false = false) (And.intro (rfl : false = false) (And.intro h1 (And.intro h1 (And.intro h1 (And.intro h1 (And.intro (rfl : false = false) (And.intro (rfl : false = false) (And.intro (rfl : false = false) (And.intro (rfl : false = false) (And.intro h2 (And.intro h3 (And.intro (And.intro trivial (show (AV.agg [AV.int IntKind.i64 (IntKind.i64.wrap (a / gc d a)), AV.int IntKind.i64 (IntKind.i64.wrap (d / gc d a))]) = ((AV.agg ((AV.int IntKind.i64 (r64.v0 a nn d)) :: ((AV.int IntKind.i64 (r64.v1 a d)) :: [])))) by first | (simp only [r64.v0, r64.v1, r64.v2, h1, h2, h3, cond_true, cond_false]; done) | (try unfold r64.v0; try unfold r64.v1; try unfold r64.v2; try simp only [h1, cond_true, cond_false]; try simp only [h2, cond_true, cond_false]; try simp only [h3, cond_true, cond_false]; try rfl; done) | rfl)) (And.intro (show (AV.int IntKind.i64 0) = ((AV.int IntKind.i64 (r64.v2 a d))) by first | (simp only [r64.v0, r64.v1, r64.v2, h1, h2, h3, cond_true, cond_false]; done) | (try unfold r64.v0; try unfold r64.v1; try unfold r64.v2; try simp only [h1, cond_true, cond_false]; try simp only [h2, cond_true, cond_false]; try simp only [h3, cond_true, cond_false]; try rfl; done) | rfl) trivial)))))))))))))))))))) h

noncomputable def r40.v0 (a : Int) (b : Int) : Int := (bif b == 0 then 0 else r64.v0 (↑a.natAbs : Int) (bnot (decide (a < 0) == decide (b < 0))) (↑b.natAbs : Int))

noncomputable def r40.v1 (a : Int) (b : Int) : Int := (bif b == 0 then 0 else r64.v1 (↑a.natAbs : Int) (↑b.natAbs : Int))

noncomputable def r40.v2 (a : Int) (b : Int) : Int := (bif b == 0 then 1 else r64.v2 (↑a.natAbs : Int) (↑b.natAbs : Int))

noncomputable abbrev r40.h0 (a : Int) (b : Int) : AHeap := ([AObj.var (AV.agg [AV.int IntKind.i64 0, AV.int IntKind.i64 0])])

theorem r40 (a : Int) (b : Int) (ha : -9223372036854775808 ≤ a ∧ a ≤ 9223372036854775807) (hb : -9223372036854775808 ≤ b ∧ b ≤ 9223372036854775807) (h : AHeap) : Ret Try.prog 40 ([AV.int IntKind.i64 a, AV.int IntKind.i64 b]) h (AV.tup [(AV.agg ((AV.int IntKind.i64 (r40.v0 a b)) :: ((AV.int IntKind.i64 (r40.v1 a b)) :: []))), (AV.int IntKind.i64 (r40.v2 a b))]) h := by
  cases h1 : b == 0 with
  | true =>
    have h1p := eq_of_beq h1
    exact Ret.of_run1 mix [(AV.agg ((AV.int IntKind.i64 (r40.v0 a b)) :: ((AV.int IntKind.i64 (r40.v1 a b)) :: []))), (AV.int IntKind.i64 (r40.v2 a b))] Try.func40 rfl [.b true] (by simp) (by simp) (kmp (by kernel_rfl) (And.intro h1 (And.intro (And.intro trivial (show (AV.agg [AV.int IntKind.i64 0, AV.int IntKind.i64 0]) = ((AV.agg ((AV.int IntKind.i64 (r40.v0 a b)) :: ((AV.int IntKind.i64 (r40.v1 a b)) :: [])))) by first | (simp only [r40.v0, r40.v1, r40.v2, h1, cond_true, cond_false]; done) | (try unfold r40.v0; try unfold r40.v1; try unfold r40.v2; try simp only [h1, cond_true, cond_false]; try rfl; done) | rfl)) (And.intro (show (AV.int IntKind.i64 1) = ((AV.int IntKind.i64 (r40.v2 a b))) by first | (simp only [r40.v0, r40.v1, r40.v2, h1, cond_true, cond_false]; done) | (try unfold r40.v0; try unfold r40.v1; try unfold r40.v2; try simp only [h1, cond_true, cond_false]; try rfl; done) | rfl) trivial)))) h
  | false =>
    have h1p := ne_of_beq_false h1
    have o0 : (-9223372036854775808 : Int) ≤ a := by first | assumption | omega | (simp_all; done)
    have o1 : a ≤ (9223372036854775807 : Int) := by first | assumption | omega | (simp_all; done)
    have o2 : (-9223372036854775808 : Int) ≤ b := by first | assumption | omega | (simp_all; done)
    have o3 : b ≤ (9223372036854775807 : Int) := by first | assumption | omega | (simp_all; done)
    have o4 : (0 : Int) ≤ (↑a.natAbs : Int) := by first | assumption | omega | (apply na_0 <;> first | assumption | omega) | (simp_all; done)
    have o5 : (↑a.natAbs : Int) ≤ (9223372036854775808 : Int) := by first | assumption | omega | (apply na_le <;> first | assumption | omega) | (simp_all; done)
    have o6 : (0 : Int) < (↑b.natAbs : Int) := by first | assumption | omega | (apply na_pos <;> first | assumption | omega) | (simp_all; done)
    have o7 : (↑b.natAbs : Int) ≤ (9223372036854775808 : Int) := by first | assumption | omega | (apply na_le <;> first | assumption | omega) | (simp_all; done)
    exact Ret.of_run1 mix [(AV.agg ((AV.int IntKind.i64 (r40.v0 a b)) :: ((AV.int IntKind.i64 (r40.v1 a b)) :: []))), (AV.int IntKind.i64 (r40.v2 a b))] Try.func40 rfl [.b false, .ret (AV.agg [AV.int IntKind.u64 0, AV.int IntKind.u64 (↑a.natAbs : Int), AV.bool (decide (a < 0))]) (r40.h0 a b), .ret (AV.agg [AV.int IntKind.u64 0, AV.int IntKind.u64 (↑b.natAbs : Int), AV.bool (decide (b < 0))]) (r40.h0 a b), .ret (AV.tup [AV.agg [AV.int IntKind.i64 (r64.v0 (↑a.natAbs : Int) (bnot (decide (a < 0) == decide (b < 0))) (↑b.natAbs : Int)), AV.int IntKind.i64 (r64.v1 (↑a.natAbs : Int) (↑b.natAbs : Int))], AV.int IntKind.i64 (r64.v2 (↑a.natAbs : Int) (↑b.natAbs : Int))]) ([AObj.var (AV.agg [AV.int IntKind.i64 0, AV.int IntKind.i64 0]), AObj.var (AV.agg [AV.int IntKind.u64 0, AV.int IntKind.u64 (↑a.natAbs : Int), AV.bool (bnot (decide (a < 0) == decide (b < 0)))]), AObj.var (AV.agg [AV.int IntKind.u64 0, AV.int IntKind.u64 (↑b.natAbs : Int), AV.bool false])])] (by simp) (by simp) (kmp (by kernel_rfl) (And.intro h1 (And.intro (c63 (a) (And.intro o0 o1) (r40.h0 a b)) (And.intro (c63 (b) (And.intro o2 o3) (r40.h0 a b)) (And.intro (r64 ((↑a.natAbs : Int)) (bnot (decide (a < 0) == decide (b < 0))) ((↑b.natAbs : Int)) o4 o5 o6 o7 ([AObj.var (AV.agg [AV.int IntKind.i64 0, AV.int IntKind.i64 0]), AObj.var (AV.agg [AV.int IntKind.u64 0, AV.int IntKind.u64 (↑a.natAbs : Int), AV.bool (bnot (decide (a < 0) == decide (b < 0)))]), AObj.var (AV.agg [AV.int IntKind.u64 0, AV.int IntKind.u64 (↑b.natAbs : Int), AV.bool false])])) (And.intro (And.intro trivial (show (AV.agg [AV.int IntKind.i64 (r64.v0 (↑a.natAbs : Int) (bnot (decide (a < 0) == decide (b < 0))) (↑b.natAbs : Int)), AV.int IntKind.i64 (r64.v1 (↑a.natAbs : Int) (↑b.natAbs : Int))]) = ((AV.agg ((AV.int IntKind.i64 (r40.v0 a b)) :: ((AV.int IntKind.i64 (r40.v1 a b)) :: [])))) by first | (simp only [r40.v0, r40.v1, r40.v2, h1, cond_true, cond_false]; done) | (try unfold r40.v0; try unfold r40.v1; try unfold r40.v2; try simp only [h1, cond_true, cond_false]; try rfl; done) | rfl)) (And.intro (show (AV.int IntKind.i64 (r64.v2 (↑a.natAbs : Int) (↑b.natAbs : Int))) = ((AV.int IntKind.i64 (r40.v2 a b))) by first | (simp only [r40.v0, r40.v1, r40.v2, h1, cond_true, cond_false]; done) | (try unfold r40.v0; try unfold r40.v1; try unfold r40.v2; try simp only [h1, cond_true, cond_false]; try rfl; done) | rfl) trivial))))))) h

end Go.Proofs.Ytngpbfocjgikaaa

open Go

namespace Go.Proofs.Ytngpbfocjgikaaa

set_option maxHeartbeats 0

set_option maxRecDepth 100000

set_option linter.unusedVariables false

set_option linter.unusedSimpArgs false

variable {n : Nat} {g : Nat → LD} {t : TD}

/-- Mass and moment of one more load. -/
noncomputable def addL (fr : Int) (a : Int × Int) (s : LD) : Int × Int :=
  (IntKind.i64.wrap (a.1 + s.ms), IntKind.i64.wrap (a.2 + IntKind.i64.wrap (s.ms * IntKind.i64.wrap (IntKind.i64.wrap (IntKind.i64.wrap (2 * s.lo) + s.ln) - IntKind.i64.wrap (2 * fr)))))

noncomputable def sm (g : Nat → LD) (fr : Int) : Nat → Int × Int
  | 0 => (0, 0)
  | i + 1 => addL fr (sm g fr i) (g i)

theorem L33_N (hn : n ≤ 9223372036854775807) (fr : Int) : ∀ (m i : Nat), i ≤ n → n - i < m → L33a.N n g fr m (sm g fr i).1 (sm g fr i).2 (i : Int) = .e0 (sm g fr n).1 (sm g fr n).2 := by
  intro m
  induction m with
  | zero => intro i _ h; omega
  | succ m ih =>
    intro i hi hm
    simp only [L33a.N, Int.toNat_natCast]
    rcases Nat.lt_or_ge i n with h | h
    · rw [decide_eq_true (show (i : Int) < (n : Int) by omega), cond_true, wrap_succ hn h]
      exact ih (i + 1) h (by omega)
    · rw [decide_eq_false (show ¬ (i : Int) < (n : Int) by omega), cond_false, show i = n by omega]

theorem r33_sm (hn : n ≤ 9223372036854775807) (fr : Int) : r33.v0 n g fr = (sm g fr n).1 ∧ r33.v1 n g fr = (sm g fr n).2 := by
  have e : L33a.run n g fr 0 0 0 = .e0 (sm g fr n).1 (sm g fr n).2 := by
    unfold L33a.run
    rw [show ((n : Int) - 0).toNat + 1 = n + 1 by omega]
    exact L33_N hn fr (n + 1) 0 (Nat.zero_le _) (by omega)
  unfold r33.v0 r33.v1
  rw [e]
  exact ⟨rfl, rfl⟩

theorem mulb {m x A B : Int} (h1 : 0 ≤ m) (h2 : m ≤ A) (h3 : -B ≤ x) (h4 : x ≤ B) : -(A * B) ≤ m * x ∧ m * x ≤ A * B := by
  have hB : 0 ≤ B := by omega
  rcases Int.le_total 0 x with h | h
  · have e1 := Int.mul_nonneg h1 h
    have e2 := Int.mul_le_mul_of_nonneg_right h2 h
    have e3 := Int.mul_le_mul_of_nonneg_left h4 (show 0 ≤ A by omega)
    omega
  · have h' : 0 ≤ -x := by omega
    have e1 := Int.mul_nonneg h1 h'
    have e2 := Int.mul_le_mul_of_nonneg_right h2 h'
    have e3 := Int.mul_le_mul_of_nonneg_left (show -x ≤ B by omega) (show 0 ≤ A by omega)
    rw [Int.mul_neg] at e1 e2
    omega

theorem arm_eq {lo ln fr : Int} (h1 : 0 ≤ lo ∧ lo ≤ 50000) (h2 : 1 ≤ ln ∧ ln ≤ 50000) (h3 : -50000 ≤ fr ∧ fr ≤ 50000) :
    IntKind.i64.wrap (IntKind.i64.wrap (IntKind.i64.wrap (2 * lo) + ln) - IntKind.i64.wrap (2 * fr)) = 2 * lo + ln - 2 * fr := by
  rw [i64_small (x := 2 * lo) (by omega), i64_small (x := 2 * fr) (by omega), i64_small (x := 2 * lo + ln) (by omega), i64_small (by omega)]

theorem addL_eq {fr : Int} {a : Int × Int} {s : LD} (hs : LOk s) (hf : -50000 ≤ fr ∧ fr ≤ 50000) (h1 : 0 ≤ a.1 ∧ a.1 ≤ 2000000000) (h2 : -500000000000000 ≤ a.2 ∧ a.2 ≤ 500000000000000) :
    addL fr a s = (a.1 + s.ms, a.2 + s.ms * (2 * s.lo + s.ln - 2 * fr)) ∧ -25000000000000 ≤ s.ms * (2 * s.lo + s.ln - 2 * fr) ∧ s.ms * (2 * s.lo + s.ln - 2 * fr) ≤ 25000000000000 := by
  obtain ⟨s1, s2, s3⟩ := hs
  unfold addL
  rw [arm_eq s1 s2 hf]
  have := mulb (m := s.ms) (x := 2 * s.lo + s.ln - 2 * fr) (A := 100000000) (B := 250000) (by omega) s3.2 (by omega) (by omega)
  generalize hp : s.ms * (2 * s.lo + s.ln - 2 * fr) = p at *
  rw [i64_small (x := p) (by omega), i64_small (x := a.2 + p) (by omega), i64_small (by omega)]
  exact ⟨rfl, by omega, by omega⟩

theorem sm_bd {fr : Int} (hf : -50000 ≤ fr ∧ fr ≤ 50000) : ∀ i : Nat, i ≤ 12 → (∀ j, j < i → LOk (g j)) →
    (0 ≤ (sm g fr i).1 ∧ (sm g fr i).1 ≤ i * 100000000) ∧ (-(i * 25000000000000) ≤ (sm g fr i).2 ∧ (sm g fr i).2 ≤ i * 25000000000000) := by
  intro i
  induction i with
  | zero => intro _ _; exact ⟨⟨Int.le_refl _, Int.le_refl _⟩, ⟨Int.le_refl _, Int.le_refl _⟩⟩
  | succ i ih =>
    intro hi h
    obtain ⟨⟨a1, a2⟩, a3, a4⟩ := ih (by omega) fun j hj => h j (by omega)
    obtain ⟨e1, e2, e3⟩ := addL_eq (h i (by omega)) hf (a := sm g fr i) (by omega) (by omega)
    have hm := (h i (by omega)).2.2
    show (0 ≤ (addL fr (sm g fr i) (g i)).1 ∧ (addL fr (sm g fr i) (g i)).1 ≤ ((i + 1 : Nat) : Int) * 100000000) ∧ (-(((i + 1 : Nat) : Int) * 25000000000000) ≤ (addL fr (sm g fr i) (g i)).2 ∧ (addL fr (sm g fr i) (g i)).2 ≤ ((i + 1 : Nat) : Int) * 25000000000000)
    rw [e1]
    refine ⟨⟨?_, ?_⟩, ?_, ?_⟩ <;> simp only <;> omega

end Go.Proofs.Ytngpbfocjgikaaa

open Go

namespace Go.Proofs.Ytngpbfocjgikaaa

set_option maxHeartbeats 0

set_option maxRecDepth 100000

set_option linter.unusedVariables false

set_option linter.unusedSimpArgs false

variable {n : Nat} {g : Nat → LD} {t : TD}

/-- Both make the same fraction. -/
theorem new_eq {a b : Int} (ha : -9223372036854775808 ≤ a ∧ a ≤ 9223372036854775807) (hb : -9223372036854775808 ≤ b ∧ b ≤ 9223372036854775807) :
    r39.v0 a b = r40.v0 a b ∧ r39.v1 a b = r40.v1 a b ∧ r39.v2 a b = r40.v2 a b := by
  unfold r39.v0 r39.v1 r39.v2 r40.v0 r40.v1 r40.v2
  by_cases h0 : b = 0
  · subst h0; exact ⟨rfl, rfl, rfl⟩
  · have e0 : (b == 0) = false := by simpa using h0
    rw [e0, cond_false, cond_false, cond_false, cond_false, cond_false, cond_false, size_v ha, size_v hb, gcd_v]
    have eg : gc (b.natAbs : Int) (a.natAbs : Int) = ((Nat.gcd a.natAbs b.natAbs : Nat) : Int) := by
      unfold gc
      rw [Int.toNat_natCast, Int.toNat_natCast, Nat.gcd_comm]
    have hp : 0 < Nat.gcd a.natAbs b.natAbs := Nat.gcd_pos_of_pos_right _ (by omega)
    have q1 : ∀ x : Nat, (x : Int) ≤ 9223372036854775808 → IntKind.u64.wrap ((x : Int).tdiv ((Nat.gcd a.natAbs b.natAbs : Nat) : Int)) = (x : Int) / ((Nat.gcd a.natAbs b.natAbs : Nat) : Int) := by
      intro x hx
      have h1 : 0 ≤ (x : Int) / ((Nat.gcd a.natAbs b.natAbs : Nat) : Int) := Int.ediv_nonneg (by omega) (by omega)
      have h2 : (x : Int) / ((Nat.gcd a.natAbs b.natAbs : Nat) : Int) ≤ x := Int.ediv_le_self _ (by omega)
      rw [Int.tdiv_eq_ediv_of_nonneg (by omega), IntWalk.u64_in _ (by omega)]
    rw [q1 _ (na_le ha), q1 _ (na_le hb)]
    unfold r64.v0 r64.v1 r64.v2 r62.v0 r62.v1 r62.v2
    rw [eg]
    exact ⟨rfl, rfl, rfl⟩

/-- Of small numbers there is a fraction. -/
theorem new_ok {a b : Int} (ha : -900000000000000000 ≤ a ∧ a ≤ 900000000000000000) (hb : 0 < b ∧ b ≤ 900000000000000000) : r39.v2 a b = 0 := by
  rw [(new_eq (a := a) (b := b) (by omega) (by omega)).2.2]
  unfold r40.v2
  rw [show (b == 0) = false by simp; omega, cond_false]
  unfold r64.v2
  have hp := gc_pos (a := (b.natAbs : Int)) (b := (a.natAbs : Int)) (by omega)
  have h1 : (a.natAbs : Int) / gc (b.natAbs : Int) (a.natAbs : Int) ≤ a.natAbs := Int.ediv_le_self _ (by omega)
  have h2 : (b.natAbs : Int) / gc (b.natAbs : Int) (a.natAbs : Int) ≤ b.natAbs := Int.ediv_le_self _ (by omega)
  rw [decide_eq_false (by omega), decide_eq_false (by omega)]
  rfl

end Go.Proofs.Ytngpbfocjgikaaa

open Go

namespace Go.Proofs.Ytngpbfocjgikaaa

set_option linter.unusedSimpArgs false

set_option linter.unusedVariables false

set_option maxHeartbeats 0

set_option maxRecDepth 100000

end Go.Proofs.Ytngpbfocjgikaaa

open Go

namespace Go.Proofs.Ytngpbfocjgikaaa

set_option maxHeartbeats 0

set_option maxRecDepth 100000

set_option linter.unusedVariables false

set_option linter.unusedSimpArgs false

end Go.Proofs.Ytngpbfocjgikaaa

open Go

namespace Go.Proofs.Ytngpbfocjgikaaa

set_option linter.unusedSimpArgs false

set_option linter.unusedVariables false

set_option maxHeartbeats 0

set_option maxRecDepth 100000

end Go.Proofs.Ytngpbfocjgikaaa

open Go

namespace Go.Proofs.Ytngpbfocjgikaaa

set_option linter.unusedSimpArgs false

set_option linter.unusedVariables false

set_option maxHeartbeats 0

set_option maxRecDepth 100000

end Go.Proofs.Ytngpbfocjgikaaa

open Go

namespace Go.Proofs.Ytngpbfocjgikaaa

set_option maxHeartbeats 0

set_option maxRecDepth 100000

set_option linter.unusedVariables false

set_option linter.unusedSimpArgs false

variable {n : Nat} {g : Nat → LD} {t : TD}

theorem span_bd (ht : TOk t) : 0 < 2 * (t.re - t.fr) ∧ 2 * (t.re - t.fr) ≤ 200000 := by
  have hfr := ht.fr
  have hre := ht.re
  have hlt := ht.lt
  omega

theorem den_bd {a s : Int} (hs : 0 < s ∧ s ≤ 200000) : 0 ≤ r40.v1 a s ∧ r40.v1 a s ≤ 200000 := by
  unfold r40.v1
  rw [show (s == 0) = false by simp; omega, cond_false]
  unfold r64.v1
  have hp := gc_pos (a := (s.natAbs : Int)) (b := (a.natAbs : Int)) (by omega)
  have h2 : (s.natAbs : Int) / gc (s.natAbs : Int) (a.natAbs : Int) ≤ s.natAbs := Int.ediv_le_self _ (by omega)
  have h3 : 0 ≤ (s.natAbs : Int) / gc (s.natAbs : Int) (a.natAbs : Int) := Int.ediv_nonneg (by omega) (by omega)
  generalize (s.natAbs : Int) / gc (s.natAbs : Int) (a.natAbs : Int) = q at *
  cases decide ((a.natAbs : Int) / gc (s.natAbs : Int) (a.natAbs : Int) ≥ 1000000000000000000)
  · cases decide (q ≥ 1000000000000000000)
    · rw [cond_false, cond_false, i64_small (by omega)]; omega
    · exact (show (0 : Int) ≤ 0 ∧ (0 : Int) ≤ 200000 by decide)
  · exact (show (0 : Int) ≤ 0 ∧ (0 : Int) ≤ 200000 by decide)

end Go.Proofs.Ytngpbfocjgikaaa

open Go

namespace Go.Proofs.Ytngpbfocjgikaaa

set_option linter.unusedSimpArgs false

set_option linter.unusedVariables false

set_option maxHeartbeats 0

set_option maxRecDepth 100000

end Go.Proofs.Ytngpbfocjgikaaa

open Go

namespace Go.Proofs.Ytngpbfocjgikaaa

set_option linter.unusedSimpArgs false

set_option linter.unusedVariables false

set_option maxHeartbeats 0

set_option maxRecDepth 100000

end Go.Proofs.Ytngpbfocjgikaaa

open Go

namespace Go.Proofs.Ytngpbfocjgikaaa

set_option linter.unusedSimpArgs false

set_option linter.unusedVariables false

set_option maxHeartbeats 0

set_option maxRecDepth 100000

end Go.Proofs.Ytngpbfocjgikaaa

open Go

namespace Go.Proofs.Ytngpbfocjgikaaa

set_option linter.unusedSimpArgs false

set_option linter.unusedVariables false

set_option maxHeartbeats 0

set_option maxRecDepth 100000

end Go.Proofs.Ytngpbfocjgikaaa

open Go

namespace Go.Proofs.Ytngpbfocjgikaaa

set_option linter.unusedSimpArgs false

set_option linter.unusedVariables false

set_option maxHeartbeats 0

set_option maxRecDepth 100000

end Go.Proofs.Ytngpbfocjgikaaa

open Go

namespace Go.Proofs.Ytngpbfocjgikaaa

set_option linter.unusedSimpArgs false

set_option linter.unusedVariables false

set_option maxHeartbeats 0

set_option maxRecDepth 100000

end Go.Proofs.Ytngpbfocjgikaaa

open Go

namespace Go.Proofs.Ytngpbfocjgikaaa

set_option maxHeartbeats 0

set_option maxRecDepth 100000

set_option linter.unusedVariables false

set_option linter.unusedSimpArgs false

variable {n : Nat} {g : Nat → LD} {t : TD}

theorem r35_0 (hn : n ≤ 9223372036854775807) {bed : Int} (h : r35.v n g bed = 0) : (∀ i, i < n → LOk (g i)) ∧ ∀ i, i < n → r50.v bed (g i) = false := by
  unfold r35.v at h
  rw [r46a_v hn, r46b_v hn, r46c_v hn] at h
  have st : ∀ {b : Bool} {x y : Int}, (bif b then x else y) = 0 → x ≠ 0 → b = false ∧ y = 0 := by
    intro b x y h hx; cases b
    · exact ⟨rfl, h⟩
    · exact absurd h hx
  obtain ⟨_, h⟩ := st h (by decide)
  obtain ⟨_, h⟩ := st h (by decide)
  obtain ⟨h1, h⟩ := st h (by decide)
  refine ⟨fun i hi => ok49.1 (anyN_false.1 h1 i hi), ?_⟩
  split at h
  · cases h
  · obtain ⟨h2, _⟩ := st h (by decide)
    exact anyN_false.1 h2

end Go.Proofs.Ytngpbfocjgikaaa

open Go

namespace Go.Proofs.Ytngpbfocjgikaaa

set_option maxHeartbeats 0

set_option maxRecDepth 100000

set_option linter.unusedVariables false

set_option linter.unusedSimpArgs false

end Go.Proofs.Ytngpbfocjgikaaa

open Go

namespace Go.Proofs.Ytngpbfocjgikaaa

set_option maxHeartbeats 0

set_option maxRecDepth 100000

set_option linter.unusedVariables false

set_option linter.unusedSimpArgs false

variable {n : Nat} {g : Nat → LD} {t : TD}

/-- The reference's fraction, of small numbers: in lowest terms. -/
theorem new_val {a b : Int} (ha : -900000000000000000 ≤ a ∧ a ≤ 900000000000000000) (hb : 0 < b ∧ b ≤ 900000000000000000) :
    r40.v0 a b = a / (Int.gcd a b : Int) ∧ r40.v1 a b = b / (Int.gcd a b : Int) := by
  have eg : gc (b.natAbs : Int) (a.natAbs : Int) = (Int.gcd a b : Int) := by
    unfold gc Int.gcd
    rw [Int.toNat_natCast, Int.toNat_natCast, Nat.gcd_comm]
  have hp : (0 : Int) < (Int.gcd a b : Int) := by
    have : 0 < Int.gcd a b := Int.gcd_pos_of_ne_zero_right a (by omega)
    omega
  have h1 : (a.natAbs : Int) / (Int.gcd a b : Int) ≤ a.natAbs := Int.ediv_le_self _ (by omega)
  have h2 : (b.natAbs : Int) / (Int.gcd a b : Int) ≤ b.natAbs := Int.ediv_le_self _ (by omega)
  have h3 : 0 ≤ (a.natAbs : Int) / (Int.gcd a b : Int) := Int.ediv_nonneg (by omega) (by omega)
  have h4 : 0 ≤ (b.natAbs : Int) / (Int.gcd a b : Int) := Int.ediv_nonneg (by omega) (by omega)
  have eb : (b.natAbs : Int) = b := by omega
  unfold r40.v0 r40.v1
  rw [show (b == 0) = false by simp; omega, cond_false, cond_false]
  unfold r64.v0 r64.v1
  rw [eg, decide_eq_false (by omega), decide_eq_false (by omega), cond_false, cond_false, cond_false, cond_false, i64_small (x := (a.natAbs : Int) / (Int.gcd a b : Int)) (by omega), i64_small (x := (b.natAbs : Int) / (Int.gcd a b : Int)) (by omega), eb]
  refine ⟨?_, rfl⟩
  rw [decide_eq_false (show ¬ b < 0 by omega)]
  by_cases q : a < 0
  · rw [decide_eq_true q]
    show IntKind.i64.wrap (0 - (a.natAbs : Int) / (Int.gcd a b : Int)) = _
    rw [i64_small (by omega), show (a.natAbs : Int) = -a by omega, Int.neg_ediv_of_dvd (Int.gcd_dvd_left a b)]
    omega
  · rw [decide_eq_false q]
    show (a.natAbs : Int) / (Int.gcd a b : Int) = _
    rw [show (a.natAbs : Int) = a by omega]

/-- Both axle loads times the span. -/
noncomputable def rearN (t : TD) (n : Nat) (g : Nat → LD) : Int := t.e1 * (2 * (t.re - t.fr)) + (sm g t.fr n).2

noncomputable def frontN (t : TD) (n : Nat) (g : Nat → LD) : Int := (t.e0 + (sm g t.fr n).1) * (2 * (t.re - t.fr)) - (sm g t.fr n).2

structure NB (t : TD) (n : Nat) (g : Nat → LD) : Prop where
  s : 0 < 2 * (t.re - t.fr) ∧ 2 * (t.re - t.fr) ≤ 200000
  e : 0 ≤ t.e1 * (2 * (t.re - t.fr)) ∧ t.e1 * (2 * (t.re - t.fr)) ≤ 200000000000000
  e0 : 0 ≤ t.e0 * (2 * (t.re - t.fr)) ∧ t.e0 * (2 * (t.re - t.fr)) ≤ 200000000000000
  m : 0 ≤ (sm g t.fr n).1 ∧ (sm g t.fr n).1 ≤ 1200000000
  ms : 0 ≤ (sm g t.fr n).1 * (2 * (t.re - t.fr)) ∧ (sm g t.fr n).1 * (2 * (t.re - t.fr)) ≤ 240000000000000
  mo : -300000000000000 ≤ (sm g t.fr n).2 ∧ (sm g t.fr n).2 ≤ 300000000000000
  ef : frontN t n g = t.e0 * (2 * (t.re - t.fr)) + (sm g t.fr n).1 * (2 * (t.re - t.fr)) - (sm g t.fr n).2

theorem nb (ht : TOk t) (hn : n ≤ 12) (hg : ∀ i, i < n → LOk (g i)) : NB t n g := by
  obtain ⟨⟨a1, a2⟩, a3, a4⟩ := sm_bd (g := g) ht.fr n hn hg
  have hs := span_bd ht
  have m0 := mulb (m := t.e0) (x := 2 * (t.re - t.fr)) (A := 1000000000) (B := 200000) ht.e0.1 ht.e0.2 (by omega) (by omega)
  have m1 := mulb (m := t.e1) (x := 2 * (t.re - t.fr)) (A := 1000000000) (B := 200000) ht.e1.1 ht.e1.2 (by omega) (by omega)
  have m2 := mulb (m := (sm g t.fr n).1) (x := 2 * (t.re - t.fr)) (A := 1200000000) (B := 200000) a1 (by omega) (by omega) (by omega)
  refine ⟨hs, ⟨Int.mul_nonneg ht.e1.1 (by omega), by omega⟩, ⟨Int.mul_nonneg ht.e0.1 (by omega), by omega⟩, ⟨a1, by omega⟩, ⟨Int.mul_nonneg a1 (by omega), by omega⟩, ⟨by omega, by omega⟩, ?_⟩
  unfold frontN
  rw [Int.add_mul]

theorem w_rear (ht : TOk t) (hn : n ≤ 12) (hg : ∀ i, i < n → LOk (g i)) : IntKind.i64.wrap (IntKind.i64.wrap (t.e1 * (2 * (t.re - t.fr))) + (sm g t.fr n).2) = rearN t n g := by
  have b := nb ht hn hg
  have h1 := b.e; have h2 := b.mo
  unfold rearN
  rw [i64_small (x := t.e1 * (2 * (t.re - t.fr))) (by omega), i64_small (by omega)]

theorem w_front (ht : TOk t) (hn : n ≤ 12) (hg : ∀ i, i < n → LOk (g i)) : IntKind.i64.wrap (IntKind.i64.wrap (IntKind.i64.wrap (t.e0 + (sm g t.fr n).1) * (2 * (t.re - t.fr))) - (sm g t.fr n).2) = frontN t n g := by
  have b := nb ht hn hg
  have h1 := b.e0; have h2 := b.mo; have h3 := b.m; have h4 := b.ms; have h5 := ht.e0
  rw [i64_small (x := t.e0 + (sm g t.fr n).1) (by omega), Int.add_mul, i64_small (x := t.e0 * (2 * (t.re - t.fr)) + (sm g t.fr n).1 * (2 * (t.re - t.fr))) (by omega), i64_small (by omega), b.ef]

theorem rear_bd (ht : TOk t) (hn : n ≤ 12) (hg : ∀ i, i < n → LOk (g i)) : -900000000000000000 ≤ rearN t n g ∧ rearN t n g ≤ 900000000000000000 := by
  have b := nb ht hn hg
  have h1 := b.e; have h2 := b.mo
  unfold rearN
  omega

theorem front_bd (ht : TOk t) (hn : n ≤ 12) (hg : ∀ i, i < n → LOk (g i)) : -900000000000000000 ≤ frontN t n g ∧ frontN t n g ≤ 900000000000000000 := by
  have b := nb ht hn hg
  have h1 := b.e0; have h2 := b.mo; have h3 := b.ms
  rw [b.ef]
  omega

theorem r42_eq (ht : TOk t) : r42.v t = 2 * (t.re - t.fr) := by
  have hfr := ht.fr
  have hre := ht.re
  unfold r42.v
  rw [i64_small (x := t.re - t.fr) (by omega), i64_small (by omega)]

theorem r24_eq (h : r18.v t n g = 0) (ht : TOk t) (hn : n ≤ 12) (hg : ∀ i, i < n → LOk (g i)) : r24.v4 t n g = 0 ∧ r24.v0 t n g = r39.v0 (frontN t n g) (2 * (t.re - t.fr)) ∧ r24.v1 t n g = r39.v1 (frontN t n g) (2 * (t.re - t.fr)) ∧
    r24.v2 t n g = r39.v0 (rearN t n g) (2 * (t.re - t.fr)) ∧ r24.v3 t n g = r39.v1 (rearN t n g) (2 * (t.re - t.fr)) := by
  obtain ⟨s0, s1⟩ := r33_sm (n := n) (g := g) (by omega) t.fr
  have hs := span_bd ht
  unfold r24.v0 r24.v1 r24.v2 r24.v3 r24.v4
  rw [r42_eq ht, s0, s1, w_rear ht hn hg, w_front ht hn hg, h, new_ok (rear_bd ht hn hg) (by omega), new_ok (front_bd ht hn hg) (by omega)]
  exact ⟨rfl, rfl, rfl, rfl, rfl⟩

theorem beq_of {x y : Int} (h : x = y) : (x == y) = true := by simpa using h

theorem few_70 (h : r11.v t n g = true) : n ≤ 70 := by
  unfold r11.v at h
  by_cases h1 : (n : Int) > 70
  · rw [decide_eq_true (show (n : Int) > 10 by omega), decide_eq_false (show ¬ (n : Int) ≤ 64 by omega), decide_eq_true h1] at h
    revert h
    cases decide ((t.nm.size : Int) > 100) <;> (intro h; simp at h)
  · omega

end Go.Proofs.Ytngpbfocjgikaaa

open Go

namespace Go.Proofs.Ytngpbfocjgikaaa

set_option linter.unusedSimpArgs false

set_option linter.unusedVariables false

set_option maxHeartbeats 0

set_option maxRecDepth 100000

theorem c73 (x y : Int) (hx : 0 ≤ x) (hy : 0 ≤ y) (hx2 : x ≤ 18446744073709551615) (hy2 : y ≤ 18446744073709551615) (hxy : x * y ≤ 18446744073709551615) (h : AHeap) :
    Ret Try.prog 73 [AV.int .u64 x, AV.int .u64 y] h (AV.tup [AV.int .u64 0, AV.int .u64 (x * y)]) h := by
  have r := r73 x y h
  have h0 := Int.mul_nonneg hx hy
  have a0 : r73.v0 x y = 0 := by rw [r73_v0 _ _ hx (by omega) hy (by omega)]; omega
  have a1 : r73.v1 x y = x * y := by unfold r73.v1; rw [IntWalk.u64_in _ (by omega)]
  rw [a0, a1] at r
  exact r

theorem size_le {a : Int} (h0 : -9223372036854775808 ≤ a) (h1 : a ≤ 9223372036854775807) : r60.v a ≤ 18446744073709551615 := by rw [size_v ⟨h0, h1⟩]; omega

noncomputable def r71.v0 (a : Int) (b : Int) : Bool := bnot (decide (a < 0) == decide (b < 0))

noncomputable def r71.v2 (a : Int) (b : Int) : Int := r60.v a * r60.v b

noncomputable abbrev r71.h0 (a : Int) (b : Int) : AHeap := ([AObj.var (AV.agg [AV.bool false, AV.int IntKind.u64 0, AV.int IntKind.u64 0])])

theorem r71 (a : Int) (b : Int) (a0 : -9223372036854775808 ≤ a) (a1 : a ≤ 9223372036854775807) (b0 : -9223372036854775808 ≤ b) (b1 : b ≤ 9223372036854775807) (hab : r60.v a * r60.v b ≤ 18446744073709551615) (h : AHeap) : Ret Try.prog 71 ([AV.int IntKind.i64 a, AV.int IntKind.i64 b]) h (AV.agg ((AV.bool (r71.v0 a b)) :: ((AV.int IntKind.u64 0) :: ((AV.int IntKind.u64 (r71.v2 a b)) :: [])))) h := by
  have o0 : (0 : Int) ≤ r60.v a := by first | assumption | omega | (apply size_0 <;> first | assumption | omega) | (simp_all; done)
  have o1 : (0 : Int) ≤ r60.v b := by first | assumption | omega | (apply size_0 <;> first | assumption | omega) | (simp_all; done)
  have o2 : r60.v a ≤ (18446744073709551615 : Int) := by first | assumption | omega | (apply size_le <;> first | assumption | omega) | (simp_all; done)
  have o3 : r60.v b ≤ (18446744073709551615 : Int) := by first | assumption | omega | (apply size_le <;> first | assumption | omega) | (simp_all; done)
  have o4 : r60.v a * r60.v b ≤ (18446744073709551615 : Int) := by first | assumption | omega | (simp_all; done)
  exact Ret.of_run1 mix [(AV.agg ((AV.bool (r71.v0 a b)) :: ((AV.int IntKind.u64 0) :: ((AV.int IntKind.u64 (r71.v2 a b)) :: []))))] Try.func71 rfl [.ret (AV.int IntKind.u64 (r60.v a)) (r71.h0 a b), .ret (AV.int IntKind.u64 (r60.v b)) (r71.h0 a b), .ret (AV.tup [AV.int IntKind.u64 0, AV.int IntKind.u64 (r60.v a * r60.v b)]) (r71.h0 a b)] (by simp) (by simp) (kmp (by kernel_rfl) (And.intro (r60 (a) (r71.h0 a b)) (And.intro (r60 (b) (r71.h0 a b)) (And.intro (c73 (r60.v a) (r60.v b) o0 o1 o2 o3 o4 (r71.h0 a b)) (And.intro (And.intro trivial (show (AV.agg [AV.bool (bnot (decide (a < 0) == decide (b < 0))), AV.int IntKind.u64 0, AV.int IntKind.u64 (r60.v a * r60.v b)]) = ((AV.agg ((AV.bool (r71.v0 a b)) :: ((AV.int IntKind.u64 0) :: ((AV.int IntKind.u64 (r71.v2 a b)) :: []))))) by first | (simp only [r71.v0, r71.v2, cond_true, cond_false]; done) | (try unfold r71.v0; try unfold r71.v2; try rfl; done) | rfl)) trivial))))) h

noncomputable def r108.v (x : Int) : Bool := x != x

theorem r108 (x : Int) (h : AHeap) : Ret Try.prog 108 ([AV.int IntKind.u64 x]) h (AV.bool (r108.v x)) h := by
  exact Ret.of_run1 mix [(AV.bool (r108.v x))] Try.func108 rfl [] (by simp) (by simp) (kmp (by kernel_rfl) (And.intro (show (AV.bool (x != x)) = ((AV.bool (r108.v x))) by first | (simp only [r108.v, cond_true, cond_false]; done) | (try unfold r108.v; try rfl; done) | rfl) trivial)) h

noncomputable def r101.v (x : Int) (y : Int) : Int := (bif r108.v x then (bif r108.v y then 0 else -1) else (bif r108.v y then 1 else (bif decide (x < y) then -1 else (bif decide (x > y) then 1 else 0))))

theorem r101 (x : Int) (y : Int) (h : AHeap) : Ret Try.prog 101 ([AV.int IntKind.u64 x, AV.int IntKind.u64 y]) h (AV.int IntKind.i64 (r101.v x y)) h := by
  cases h1 : r108.v x with
  | true =>
    cases h2 : r108.v y with
    | true =>
      exact Ret.of_run1 mix [(AV.int IntKind.i64 (r101.v x y))] Try.func101 rfl [.ret (AV.bool (r108.v x)) ([]), .ret (AV.bool (r108.v y)) ([]), .b true, .b true] (by simp) (by simp) (kmp (by kernel_rfl) (And.intro (r108 (x) ([])) (And.intro (r108 (y) ([])) (And.intro h1 (And.intro h2 (And.intro (show (AV.int IntKind.i64 0) = ((AV.int IntKind.i64 (r101.v x y))) by first | (simp only [r101.v, h1, h2, cond_true, cond_false]; done) | (try unfold r101.v; try simp only [h1, cond_true, cond_false]; try simp only [h2, cond_true, cond_false]; try rfl; done) | rfl) trivial)))))) h
    | false =>
      exact Ret.of_run1 mix [(AV.int IntKind.i64 (r101.v x y))] Try.func101 rfl [.ret (AV.bool (r108.v x)) ([]), .ret (AV.bool (r108.v y)) ([]), .b true, .b false] (by simp) (by simp) (kmp (by kernel_rfl) (And.intro (r108 (x) ([])) (And.intro (r108 (y) ([])) (And.intro h1 (And.intro h2 (And.intro (show (AV.int IntKind.i64 (-1)) = ((AV.int IntKind.i64 (r101.v x y))) by first | (simp only [r101.v, h1, h2, cond_true, cond_false]; done) | (try unfold r101.v; try simp only [h1, cond_true, cond_false]; try simp only [h2, cond_true, cond_false]; try rfl; done) | rfl) trivial)))))) h
  | false =>
    cases h2 : r108.v y with
    | true =>
      exact Ret.of_run1 mix [(AV.int IntKind.i64 (r101.v x y))] Try.func101 rfl [.ret (AV.bool (r108.v x)) ([]), .ret (AV.bool (r108.v y)) ([]), .b false, .b true] (by simp) (by simp) (kmp (by kernel_rfl) (And.intro (r108 (x) ([])) (And.intro (r108 (y) ([])) (And.intro h1 (And.intro h2 (And.intro (show (AV.int IntKind.i64 1) = ((AV.int IntKind.i64 (r101.v x y))) by first | (simp only [r101.v, h1, h2, cond_true, cond_false]; done) | (try unfold r101.v; try simp only [h1, cond_true, cond_false]; try simp only [h2, cond_true, cond_false]; try rfl; done) | rfl) trivial)))))) h
    | false =>
      cases h3 : decide (x < y) with
      | true =>
        have h3p := of_decide_eq_true h3
        exact Ret.of_run1 mix [(AV.int IntKind.i64 (r101.v x y))] Try.func101 rfl [.ret (AV.bool (r108.v x)) ([]), .ret (AV.bool (r108.v y)) ([]), .b false, .b false, .b true] (by simp) (by simp) (kmp (by kernel_rfl) (And.intro (r108 (x) ([])) (And.intro (r108 (y) ([])) (And.intro h1 (And.intro h2 (And.intro h3 (And.intro (show (AV.int IntKind.i64 (-1)) = ((AV.int IntKind.i64 (r101.v x y))) by first | (simp only [r101.v, h1, h2, h3, cond_true, cond_false]; done) | (try unfold r101.v; try simp only [h1, cond_true, cond_false]; try simp only [h2, cond_true, cond_false]; try simp only [h3, cond_true, cond_false]; try rfl; done) | rfl) trivial))))))) h
      | false =>
        have h3p := of_decide_eq_false h3
        cases h4 : decide (x > y) with
        | true =>
          have h4p := of_decide_eq_true h4
          exact Ret.of_run1 mix [(AV.int IntKind.i64 (r101.v x y))] Try.func101 rfl [.ret (AV.bool (r108.v x)) ([]), .ret (AV.bool (r108.v y)) ([]), .b false, .b false, .b false, .b true] (by simp) (by simp) (kmp (by kernel_rfl) (And.intro (r108 (x) ([])) (And.intro (r108 (y) ([])) (And.intro h1 (And.intro h2 (And.intro h3 (And.intro h4 (And.intro (show (AV.int IntKind.i64 1) = ((AV.int IntKind.i64 (r101.v x y))) by first | (simp only [r101.v, h1, h2, h3, h4, cond_true, cond_false]; done) | (try unfold r101.v; try simp only [h1, cond_true, cond_false]; try simp only [h2, cond_true, cond_false]; try simp only [h3, cond_true, cond_false]; try simp only [h4, cond_true, cond_false]; try rfl; done) | rfl) trivial)))))))) h
        | false =>
          have h4p := of_decide_eq_false h4
          exact Ret.of_run1 mix [(AV.int IntKind.i64 (r101.v x y))] Try.func101 rfl [.ret (AV.bool (r108.v x)) ([]), .ret (AV.bool (r108.v y)) ([]), .b false, .b false, .b false, .b false] (by simp) (by simp) (kmp (by kernel_rfl) (And.intro (r108 (x) ([])) (And.intro (r108 (y) ([])) (And.intro h1 (And.intro h2 (And.intro h3 (And.intro h4 (And.intro (show (AV.int IntKind.i64 0) = ((AV.int IntKind.i64 (r101.v x y))) by first | (simp only [r101.v, h1, h2, h3, h4, cond_true, cond_false]; done) | (try unfold r101.v; try simp only [h1, cond_true, cond_false]; try simp only [h2, cond_true, cond_false]; try simp only [h3, cond_true, cond_false]; try simp only [h4, cond_true, cond_false]; try rfl; done) | rfl) trivial)))))))) h

noncomputable def r100.v (x : Int) (y : Int) : Int := (bif [x, y].getD 0 0 == 0 then (bif [x, y].getD 1 0 == 0 then 0 else y) else x)

theorem r100 (x : Int) (y : Int) (h : AHeap) : Ret Try.prog 100 ([AV.sl 1 2 fun (i : Nat) => AV.int IntKind.i64 ([x, y].getD i 0)]) h (AV.int IntKind.i64 (r100.v x y)) h := by
  cases h1 : [x, y].getD 0 0 == 0 with
  | true =>
    have h1p := eq_of_beq h1
    cases h2 : [x, y].getD 1 0 == 0 with
    | true =>
      have h2p := eq_of_beq h2
      exact Ret.of_run1 mix [(AV.int IntKind.i64 (r100.v x y))] Try.func100 rfl [.rounds 3, .b true, .b false, .b true, .b false, .b false] (by simp) (by simp) (kmp (by kernel_rfl) (And.intro (rfl : true = true) (And.intro (And.intro (show (0 : Int) ≤ (0 : Int) by first | decide | exact Int.NonNeg.mk _) (show (0 : Int) < (2 : Int) by first | decide | exact Int.NonNeg.mk _)) (And.intro (show (bnot ([x, y].getD 0 0 == 0)) = false by rw [h1]; try rfl) (And.intro (rfl : true = true) (And.intro (And.intro (show (0 : Int) ≤ (1 : Int) by first | decide | exact Int.NonNeg.mk _) (show (1 : Int) < (2 : Int) by first | decide | exact Int.NonNeg.mk _)) (And.intro (show (bnot ([x, y].getD 1 0 == 0)) = false by rw [h2]; try rfl) (And.intro (rfl : false = false) (And.intro (show (AV.int IntKind.i64 0) = ((AV.int IntKind.i64 (r100.v x y))) by first | (simp only [r100.v, h1, h2, cond_true, cond_false]; done) | (try unfold r100.v; try simp only [h1, cond_true, cond_false]; try simp only [h2, cond_true, cond_false]; try rfl; done) | rfl) trivial))))))))) h
    | false =>
      have h2p := ne_of_beq_false h2
      exact Ret.of_run1 mix [(AV.int IntKind.i64 (r100.v x y))] Try.func100 rfl [.rounds 3, .b true, .b false, .b true, .b true] (by simp) (by simp) (kmp (by kernel_rfl) (And.intro (rfl : true = true) (And.intro (And.intro (show (0 : Int) ≤ (0 : Int) by first | decide | exact Int.NonNeg.mk _) (show (0 : Int) < (2 : Int) by first | decide | exact Int.NonNeg.mk _)) (And.intro (show (bnot ([x, y].getD 0 0 == 0)) = false by rw [h1]; try rfl) (And.intro (rfl : true = true) (And.intro (And.intro (show (0 : Int) ≤ (1 : Int) by first | decide | exact Int.NonNeg.mk _) (show (1 : Int) < (2 : Int) by first | decide | exact Int.NonNeg.mk _)) (And.intro (show (bnot ([x, y].getD 1 0 == 0)) = true by rw [h2]; try rfl) (And.intro (show (AV.int IntKind.i64 y) = ((AV.int IntKind.i64 (r100.v x y))) by first | (simp only [r100.v, h1, h2, cond_true, cond_false]; done) | (try unfold r100.v; try simp only [h1, cond_true, cond_false]; try simp only [h2, cond_true, cond_false]; try rfl; done) | rfl) trivial)))))))) h
  | false =>
    have h1p := ne_of_beq_false h1
    exact Ret.of_run1 mix [(AV.int IntKind.i64 (r100.v x y))] Try.func100 rfl [.rounds 3, .b true, .b true] (by simp) (by simp) (kmp (by kernel_rfl) (And.intro (rfl : true = true) (And.intro (And.intro (show (0 : Int) ≤ (0 : Int) by first | decide | exact Int.NonNeg.mk _) (show (0 : Int) < (2 : Int) by first | decide | exact Int.NonNeg.mk _)) (And.intro (show (bnot ([x, y].getD 0 0 == 0)) = true by rw [h1]; try rfl) (And.intro (show (AV.int IntKind.i64 x) = ((AV.int IntKind.i64 (r100.v x y))) by first | (simp only [r100.v, h1, cond_true, cond_false]; done) | (try unfold r100.v; try simp only [h1, cond_true, cond_false]; try rfl; done) | rfl) trivial))))) h

noncomputable def r86.v (x : Int) (y : Int) : Int := r100.v 0 (r101.v x y)

noncomputable abbrev r86.h0 (x : Int) (y : Int) (n1 : Bool) (n2 : Bool) : AHeap := ([AObj.var (AV.agg [AV.bool n1, AV.int IntKind.u64 0, AV.int IntKind.u64 x]), AObj.var (AV.agg [AV.bool n2, AV.int IntKind.u64 0, AV.int IntKind.u64 y])])

theorem r86 (x : Int) (y : Int) (n1 : Bool) (n2 : Bool) (h : AHeap) : Ret Try.prog 86 ([AV.agg [AV.bool n1, AV.int IntKind.u64 0, AV.int IntKind.u64 x], AV.agg [AV.bool n2, AV.int IntKind.u64 0, AV.int IntKind.u64 y]]) h (AV.int IntKind.i64 (r86.v x y)) h := by
  exact Ret.of_run1 mix [(AV.int IntKind.i64 (r86.v x y))] Try.func86 rfl [.ret (AV.int IntKind.i64 0) (r86.h0 x y n1 n2), .ret (AV.int IntKind.i64 (r101.v x y)) (r86.h0 x y n1 n2), .ret (AV.int IntKind.i64 (r100.v 0 (r101.v x y))) (r86.h0 x y n1 n2)] (by simp) (by simp) (kmp (by kernel_rfl) (And.intro (r101 (0) (0) (r86.h0 x y n1 n2)) (And.intro (r101 (x) (y) (r86.h0 x y n1 n2)) (And.intro (r100 (0) (r101.v x y) (r86.h0 x y n1 n2)) (And.intro (show (AV.int IntKind.i64 (r100.v 0 (r101.v x y))) = ((AV.int IntKind.i64 (r86.v x y))) by first | (simp only [r86.v, cond_true, cond_false]; done) | (try unfold r86.v; try rfl; done) | rfl) trivial))))) h

noncomputable def r70.v0 (x : Int) (y : Int) (n1 : Bool) (n2 : Bool) : Bool := (bif n1 == n2 then n1 else (bif decide (r86.v x y < 0) then n2 else n1))

noncomputable def r70.v1 (x : Int) (y : Int) (n1 : Bool) (n2 : Bool) : Int := (bif n1 == n2 then IntKind.u64.wrap (0 + (x + y + 0) / 18446744073709551616) else (bif decide (r86.v x y < 0) then IntKind.u64.wrap (0 - if y < x + 0 then 1 else 0) else IntKind.u64.wrap (0 - if x < y + 0 then 1 else 0)))

noncomputable def r70.v2 (x : Int) (y : Int) (n1 : Bool) (n2 : Bool) : Int := (bif n1 == n2 then (x + y + 0) % 18446744073709551616 else (bif decide (r86.v x y < 0) then (y - x - 0) % 18446744073709551616 else (x - y - 0) % 18446744073709551616))

noncomputable abbrev r70.h0 (x : Int) (y : Int) (n1 : Bool) (n2 : Bool) : AHeap := ([AObj.var (AV.agg [AV.bool n1, AV.int IntKind.u64 0, AV.int IntKind.u64 x]), AObj.var (AV.agg [AV.bool n2, AV.int IntKind.u64 0, AV.int IntKind.u64 y]), AObj.var (AV.agg [AV.bool false, AV.int IntKind.u64 0, AV.int IntKind.u64 0])])

theorem r70 (x : Int) (y : Int) (n1 : Bool) (n2 : Bool) (x0 : 0 ≤ x) (x1 : x ≤ 18446744073709551615) (y0 : 0 ≤ y) (y1 : y ≤ 18446744073709551615) (h : AHeap) : Ret Try.prog 70 ([AV.agg [AV.bool n1, AV.int IntKind.u64 0, AV.int IntKind.u64 x], AV.agg [AV.bool n2, AV.int IntKind.u64 0, AV.int IntKind.u64 y]]) h (AV.agg ((AV.bool (r70.v0 x y n1 n2)) :: ((AV.int IntKind.u64 (r70.v1 x y n1 n2)) :: ((AV.int IntKind.u64 (r70.v2 x y n1 n2)) :: [])))) h := by
  cases h1 : n1 == n2 with
  | true =>
    have o0 : (0 : Int) ≤ x := by first | assumption | omega | (simp_all; done)
    have o1 : (0 : Int) ≤ y := by first | assumption | omega | (simp_all; done)
    exact Ret.of_run1 mix [(AV.agg ((AV.bool (r70.v0 x y n1 n2)) :: ((AV.int IntKind.u64 (r70.v1 x y n1 n2)) :: ((AV.int IntKind.u64 (r70.v2 x y n1 n2)) :: []))))] Try.func70 rfl [.b true, .ret (AV.tup [AV.int IntKind.u64 ((x + y + 0) % 18446744073709551616), AV.int IntKind.u64 ((x + y + 0) / 18446744073709551616)]) (r70.h0 x y n1 n2)] (by simp) (by simp) (kmp (by kernel_rfl) (And.intro h1 (And.intro (e82 (x) (y) (0) o0 o1 (show (0 : Int) ≤ (0 : Int) by first | decide | exact Int.NonNeg.mk _) (show (0 : Int) ≤ (1 : Int) by first | decide | exact Int.NonNeg.mk _)) (And.intro (And.intro trivial (show (AV.agg [AV.bool n1, AV.int IntKind.u64 (IntKind.u64.wrap (0 + (x + y + 0) / 18446744073709551616)), AV.int IntKind.u64 ((x + y + 0) % 18446744073709551616)]) = ((AV.agg ((AV.bool (r70.v0 x y n1 n2)) :: ((AV.int IntKind.u64 (r70.v1 x y n1 n2)) :: ((AV.int IntKind.u64 (r70.v2 x y n1 n2)) :: []))))) by first | (simp only [r70.v0, r70.v1, r70.v2, h1, cond_true, cond_false]; done) | (try unfold r70.v0; try unfold r70.v1; try unfold r70.v2; try simp only [h1, cond_true, cond_false]; try rfl; done) | rfl)) trivial)))) h
  | false =>
    cases h2 : decide (r86.v x y < 0) with
    | true =>
      have h2p := of_decide_eq_true h2
      have o1 : (0 : Int) ≤ y := by first | assumption | omega | (simp_all; done)
      have o0 : (0 : Int) ≤ x := by first | assumption | omega | (simp_all; done)
      have o2 : x ≤ (18446744073709551615 : Int) := by first | assumption | omega | (simp_all; done)
      have o3 : x + (0 : Int) ≤ y + (18446744073709551616 : Int) := by first | assumption | omega | (simp_all; done)
      exact Ret.of_run1 mix [(AV.agg ((AV.bool (r70.v0 x y n1 n2)) :: ((AV.int IntKind.u64 (r70.v1 x y n1 n2)) :: ((AV.int IntKind.u64 (r70.v2 x y n1 n2)) :: []))))] Try.func70 rfl [.b false, .ret (AV.int IntKind.i64 (r86.v x y)) (r70.h0 x y n1 n2), .b true, .ret (AV.tup [AV.int IntKind.u64 ((y - x - 0) % 18446744073709551616), AV.int IntKind.u64 (if y < x + 0 then 1 else 0)]) ([AObj.var (AV.agg [AV.bool n2, AV.int IntKind.u64 0, AV.int IntKind.u64 y]), AObj.var (AV.agg [AV.bool n1, AV.int IntKind.u64 0, AV.int IntKind.u64 x]), AObj.var (AV.agg [AV.bool false, AV.int IntKind.u64 0, AV.int IntKind.u64 0])])] (by simp) (by simp) (kmp (by kernel_rfl) (And.intro h1 (And.intro (r86 (x) (y) (n1) (n2) (r70.h0 x y n1 n2)) (And.intro h2 (And.intro (e84 (y) (x) (0) o1 o0 o2 (show (0 : Int) ≤ (0 : Int) by first | decide | exact Int.NonNeg.mk _) (show (0 : Int) ≤ (1 : Int) by first | decide | exact Int.NonNeg.mk _) o3) (And.intro (And.intro trivial (show (AV.agg [AV.bool n2, AV.int IntKind.u64 (IntKind.u64.wrap (0 - if y < x + 0 then 1 else 0)), AV.int IntKind.u64 ((y - x - 0) % 18446744073709551616)]) = ((AV.agg ((AV.bool (r70.v0 x y n1 n2)) :: ((AV.int IntKind.u64 (r70.v1 x y n1 n2)) :: ((AV.int IntKind.u64 (r70.v2 x y n1 n2)) :: []))))) by first | (simp only [r70.v0, r70.v1, r70.v2, h1, h2, cond_true, cond_false]; done) | (try unfold r70.v0; try unfold r70.v1; try unfold r70.v2; try simp only [h1, cond_true, cond_false]; try simp only [h2, cond_true, cond_false]; try rfl; done) | rfl)) trivial)))))) h
    | false =>
      have h2p := of_decide_eq_false h2
      have o0 : (0 : Int) ≤ x := by first | assumption | omega | (simp_all; done)
      have o1 : (0 : Int) ≤ y := by first | assumption | omega | (simp_all; done)
      have o4 : y ≤ (18446744073709551615 : Int) := by first | assumption | omega | (simp_all; done)
      have o5 : y + (0 : Int) ≤ x + (18446744073709551616 : Int) := by first | assumption | omega | (simp_all; done)
      exact Ret.of_run1 mix [(AV.agg ((AV.bool (r70.v0 x y n1 n2)) :: ((AV.int IntKind.u64 (r70.v1 x y n1 n2)) :: ((AV.int IntKind.u64 (r70.v2 x y n1 n2)) :: []))))] Try.func70 rfl [.b false, .ret (AV.int IntKind.i64 (r86.v x y)) (r70.h0 x y n1 n2), .b false, .ret (AV.tup [AV.int IntKind.u64 ((x - y - 0) % 18446744073709551616), AV.int IntKind.u64 (if x < y + 0 then 1 else 0)]) (r70.h0 x y n1 n2)] (by simp) (by simp) (kmp (by kernel_rfl) (And.intro h1 (And.intro (r86 (x) (y) (n1) (n2) (r70.h0 x y n1 n2)) (And.intro h2 (And.intro (e84 (x) (y) (0) o0 o1 o4 (show (0 : Int) ≤ (0 : Int) by first | decide | exact Int.NonNeg.mk _) (show (0 : Int) ≤ (1 : Int) by first | decide | exact Int.NonNeg.mk _) o5) (And.intro (And.intro trivial (show (AV.agg [AV.bool n1, AV.int IntKind.u64 (IntKind.u64.wrap (0 - if x < y + 0 then 1 else 0)), AV.int IntKind.u64 ((x - y - 0) % 18446744073709551616)]) = ((AV.agg ((AV.bool (r70.v0 x y n1 n2)) :: ((AV.int IntKind.u64 (r70.v1 x y n1 n2)) :: ((AV.int IntKind.u64 (r70.v2 x y n1 n2)) :: []))))) by first | (simp only [r70.v0, r70.v1, r70.v2, h1, h2, cond_true, cond_false]; done) | (try unfold r70.v0; try unfold r70.v1; try unfold r70.v2; try simp only [h1, cond_true, cond_false]; try simp only [h2, cond_true, cond_false]; try rfl; done) | rfl)) trivial)))))) h

noncomputable def r87.v0 (x : Int) (d : Int) : Int := IntKind.u64.wrap (x.tdiv d)

noncomputable def r87.v1 (x : Int) (d : Int) : Int := x.tmod d

theorem r87 (x : Int) (d : Int) (q1 : (d == 0) = false) (q2 : decide (d ≤ 0) = false) (h : AHeap) : Ret Try.prog 87 ([AV.int IntKind.u64 0, AV.int IntKind.u64 x, AV.int IntKind.u64 d]) h (AV.tup [(AV.int IntKind.u64 (r87.v0 x d)), (AV.int IntKind.u64 (r87.v1 x d))]) h := by
  have o0 : d = (0 : Int) → False := by first | assumption | omega | (simp_all; done)
  exact Ret.of_run1 mix [(AV.int IntKind.u64 (r87.v0 x d)), (AV.int IntKind.u64 (r87.v1 x d))] Try.func87 rfl [.b false, .b false, .b true] (by simp) (by simp) (kmp (by kernel_rfl) (And.intro q1 (And.intro q2 (And.intro (rfl : true = true) (And.intro o0 (And.intro o0 (And.intro (show (AV.int IntKind.u64 (IntKind.u64.wrap (x.tdiv d))) = ((AV.int IntKind.u64 (r87.v0 x d))) by first | (simp only [r87.v0, r87.v1, cond_true, cond_false]; done) | (try unfold r87.v0; try unfold r87.v1; try rfl; done) | rfl) (And.intro (show (AV.int IntKind.u64 (x.tmod d)) = ((AV.int IntKind.u64 (r87.v1 x d))) by first | (simp only [r87.v0, r87.v1, cond_true, cond_false]; done) | (try unfold r87.v0; try unfold r87.v1; try rfl; done) | rfl) trivial)))))))) h

theorem c87 (z x d : Int) (hz : z = 0) (d0 : 0 < d) (h : AHeap) : Ret Try.prog 87 [AV.int .u64 z, AV.int .u64 x, AV.int .u64 d] h (AV.tup [AV.int .u64 (r87.v0 x d), AV.int .u64 (r87.v1 x d)]) h := by
  subst hz
  exact r87 x d (by simp; omega) (decide_eq_false (by omega)) h

noncomputable def r72.v0 (x : Int) (d : Int) : Int := r87.v0 x d

noncomputable def r72.v1 (x : Int) (d : Int) : Int := r87.v1 x d

noncomputable def r72.v2 (d : Int) : Bool := decide (0 < d)

theorem r72 (x : Int) (d : Int) (ng : Bool) (x0 : 0 ≤ x) (x1 : x ≤ 18446744073709551615) (d0 : 0 < d) (d1 : d ≤ 18446744073709551615) (h : AHeap) : Ret Try.prog 72 ([AV.agg [AV.bool ng, AV.int IntKind.u64 0, AV.int IntKind.u64 x], AV.int IntKind.u64 d]) h (AV.tup [(AV.int IntKind.u64 (r72.v0 x d)), (AV.int IntKind.u64 (r72.v1 x d)), (AV.bool (r72.v2 d))]) h := by
  have o0 : d = (0 : Int) → False := by first | assumption | omega | (simp_all; done)
  have o1 : Int.tmod (0 : Int) d = (0 : Int) := by first | assumption | omega | (simp_all; done)
  have o2 : (0 : Int) < d := by first | assumption | omega | (simp_all; done)
  exact Ret.of_run1 mix [(AV.int IntKind.u64 (r72.v0 x d)), (AV.int IntKind.u64 (r72.v1 x d)), (AV.bool (r72.v2 d))] Try.func72 rfl [.ret (AV.tup [AV.int IntKind.u64 (r87.v0 x d), AV.int IntKind.u64 (r87.v1 x d)]) ([AObj.var (AV.agg [AV.bool ng, AV.int IntKind.u64 0, AV.int IntKind.u64 x])])] (by simp) (by simp) (kmp (by kernel_rfl) (And.intro o0 (And.intro (c87 (Int.tmod 0 d) (x) (d) o1 o2 ([AObj.var (AV.agg [AV.bool ng, AV.int IntKind.u64 0, AV.int IntKind.u64 x])])) (And.intro (show (AV.int IntKind.u64 (r87.v0 x d)) = ((AV.int IntKind.u64 (r72.v0 x d))) by first | (simp only [r72.v0, r72.v1, r72.v2, cond_true, cond_false]; done) | (try unfold r72.v0; try unfold r72.v1; try unfold r72.v2; try rfl; done) | rfl) (And.intro (show (AV.int IntKind.u64 (r87.v1 x d)) = ((AV.int IntKind.u64 (r72.v1 x d))) by first | (simp only [r72.v0, r72.v1, r72.v2, cond_true, cond_false]; done) | (try unfold r72.v0; try unfold r72.v1; try unfold r72.v2; try rfl; done) | rfl) (And.intro (show (AV.bool (decide (0 < d))) = ((AV.bool (r72.v2 d))) by first | (simp only [r72.v0, r72.v1, r72.v2, cond_true, cond_false]; done) | (try unfold r72.v0; try unfold r72.v1; try unfold r72.v2; try rfl; done) | rfl) trivial)))))) h

noncomputable def r69.v (a : Int) (d : Int) : Bool := (bif decide (d ≥ 1) then (bif decide (d < 1000000000000000000) then (bif decide (a > -1000000000000000000) then (bif decide (a < 1000000000000000000) then r61.v (r60.v a) (IntKind.u64.wrap d) == 1 else false) else false) else false) else false)

noncomputable abbrev r69.h0 (a : Int) (d : Int) : AHeap := ([AObj.var (AV.agg [AV.int IntKind.i64 a, AV.int IntKind.i64 d])])

theorem r69 (a : Int) (d : Int) (a0 : -9223372036854775808 ≤ a) (a1 : a ≤ 9223372036854775807) (h : AHeap) : Ret Try.prog 69 ([AV.agg [AV.int IntKind.i64 a, AV.int IntKind.i64 d]]) h (AV.bool (r69.v a d)) h := by
  cases h1 : decide (d ≥ 1) with
  | true =>
    have h1p := of_decide_eq_true h1
    cases h2 : decide (d < 1000000000000000000) with
    | true =>
      have h2p := of_decide_eq_true h2
      cases h3 : decide (a > -1000000000000000000) with
      | true =>
        have h3p := of_decide_eq_true h3
        cases h4 : decide (a < 1000000000000000000) with
        | true =>
          have h4p := of_decide_eq_true h4
          have o0 : (0 : Int) ≤ r60.v a := by first | assumption | omega | (apply size_0 <;> first | assumption | omega) | (simp_all; done)
          try have := IntWalk.u64_in (d) (by omega)
          have o1 : (0 : Int) ≤ IntKind.u64.wrap d := by first | assumption | omega | (simp_all; done)
          exact Ret.of_run1 mix [(AV.bool (r69.v a d))] Try.func69 rfl [.b true, .b true, .b true, .b true, .b true, .b true, .b true, .b true, .b true, .b true, .b true, .b true, .b true, .b true, .b true, .ret (AV.int IntKind.u64 (r60.v a)) (r69.h0 a d), .b true, .b true, .b true, .b true, .ret (AV.int IntKind.u64 (r61.v (r60.v a) (IntKind.u64.wrap d))) (r69.h0 a d), .b true, .b true] (by simp) (by simp) (kmp (by kernel_rfl) (And.intro h1 (And.intro h1 (And.intro h1 (And.intro h1 (And.intro h2 (And.intro h2 (And.intro h2 (And.intro h2 (And.intro h3 (And.intro h3 (And.intro h3 (And.intro h3 (And.intro h4 (And.intro h4 (And.intro h4 (And.intro (r60 (a) (r69.h0 a d)) (And.intro h4 (And.intro h4 (And.intro h4 (And.intro h4 (And.intro (r61 (r60.v a) (IntKind.u64.wrap d) o0 o1 (r69.h0 a d)) (And.intro h4 (And.intro h4 (And.intro (show (AV.bool (r61.v (r60.v a) (IntKind.u64.wrap d) == 1)) = ((AV.bool (r69.v a d))) by first | (simp only [r69.v, h1, h2, h3, h4, cond_true, cond_false]; done) | (try unfold r69.v; try simp only [h1, cond_true, cond_false]; try simp only [h2, cond_true, cond_false]; try simp only [h3, cond_true, cond_false]; try simp only [h4, cond_true, cond_false]; try rfl; done) | rfl) trivial))))))))))))))))))))))))) h
        | false =>
          have h4p := of_decide_eq_false h4
          exact Ret.of_run1 mix [(AV.bool (r69.v a d))] Try.func69 rfl [.b true, .b true, .b true, .b true, .b true, .b true, .b true, .b true, .b true, .b true, .b true, .b true, .b false, .b false, .b false, .b false, .b false, .b false, .b false, .b false, .b false] (by simp) (by simp) (kmp (by kernel_rfl) (And.intro h1 (And.intro h1 (And.intro h1 (And.intro h1 (And.intro h2 (And.intro h2 (And.intro h2 (And.intro h2 (And.intro h3 (And.intro h3 (And.intro h3 (And.intro h3 (And.intro h4 (And.intro h4 (And.intro h4 (And.intro h4 (And.intro h4 (And.intro h4 (And.intro h4 (And.intro h4 (And.intro h4 (And.intro (show (AV.bool false) = ((AV.bool (r69.v a d))) by first | (simp only [r69.v, h1, h2, h3, h4, cond_true, cond_false]; done) | (try unfold r69.v; try simp only [h1, cond_true, cond_false]; try simp only [h2, cond_true, cond_false]; try simp only [h3, cond_true, cond_false]; try simp only [h4, cond_true, cond_false]; try rfl; done) | rfl) trivial))))))))))))))))))))))) h
      | false =>
        have h3p := of_decide_eq_false h3
        exact Ret.of_run1 mix [(AV.bool (r69.v a d))] Try.func69 rfl [.b true, .b true, .b true, .b true, .b true, .b true, .b true, .b true, .b false, .b false, .b false, .b false, .b false, .b false, .b false, .b false, .b false, .b false, .b false, .b false, .b false] (by simp) (by simp) (kmp (by kernel_rfl) (And.intro h1 (And.intro h1 (And.intro h1 (And.intro h1 (And.intro h2 (And.intro h2 (And.intro h2 (And.intro h2 (And.intro h3 (And.intro h3 (And.intro h3 (And.intro h3 (And.intro (rfl : false = false) (And.intro (rfl : false = false) (And.intro (rfl : false = false) (And.intro (rfl : false = false) (And.intro (rfl : false = false) (And.intro (rfl : false = false) (And.intro (rfl : false = false) (And.intro (rfl : false = false) (And.intro (rfl : false = false) (And.intro (show (AV.bool false) = ((AV.bool (r69.v a d))) by first | (simp only [r69.v, h1, h2, h3, cond_true, cond_false]; done) | (try unfold r69.v; try simp only [h1, cond_true, cond_false]; try simp only [h2, cond_true, cond_false]; try simp only [h3, cond_true, cond_false]; try rfl; done) | rfl) trivial))))))))))))))))))))))) h
    | false =>
      have h2p := of_decide_eq_false h2
      exact Ret.of_run1 mix [(AV.bool (r69.v a d))] Try.func69 rfl [.b true, .b true, .b true, .b true, .b false, .b false, .b false, .b false, .b false, .b false, .b false, .b false, .b false, .b false, .b false, .b false, .b false, .b false, .b false, .b false, .b false] (by simp) (by simp) (kmp (by kernel_rfl) (And.intro h1 (And.intro h1 (And.intro h1 (And.intro h1 (And.intro h2 (And.intro h2 (And.intro h2 (And.intro h2 (And.intro (rfl : false = false) (And.intro (rfl : false = false) (And.intro (rfl : false = false) (And.intro (rfl : false = false) (And.intro (rfl : false = false) (And.intro (rfl : false = false) (And.intro (rfl : false = false) (And.intro (rfl : false = false) (And.intro (rfl : false = false) (And.intro (rfl : false = false) (And.intro (rfl : false = false) (And.intro (rfl : false = false) (And.intro (rfl : false = false) (And.intro (show (AV.bool false) = ((AV.bool (r69.v a d))) by first | (simp only [r69.v, h1, h2, cond_true, cond_false]; done) | (try unfold r69.v; try simp only [h1, cond_true, cond_false]; try simp only [h2, cond_true, cond_false]; try rfl; done) | rfl) trivial))))))))))))))))))))))) h
  | false =>
    have h1p := of_decide_eq_false h1
    exact Ret.of_run1 mix [(AV.bool (r69.v a d))] Try.func69 rfl [.b false, .b false, .b false, .b false, .b false, .b false, .b false, .b false, .b false, .b false, .b false, .b false, .b false, .b false, .b false, .b false, .b false, .b false, .b false, .b false, .b false] (by simp) (by simp) (kmp (by kernel_rfl) (And.intro h1 (And.intro h1 (And.intro h1 (And.intro h1 (And.intro (rfl : false = false) (And.intro (rfl : false = false) (And.intro (rfl : false = false) (And.intro (rfl : false = false) (And.intro (rfl : false = false) (And.intro (rfl : false = false) (And.intro (rfl : false = false) (And.intro (rfl : false = false) (And.intro (rfl : false = false) (And.intro (rfl : false = false) (And.intro (rfl : false = false) (And.intro (rfl : false = false) (And.intro (rfl : false = false) (And.intro (rfl : false = false) (And.intro (rfl : false = false) (And.intro (rfl : false = false) (And.intro (rfl : false = false) (And.intro (show (AV.bool false) = ((AV.bool (r69.v a d))) by first | (simp only [r69.v, h1, cond_true, cond_false]; done) | (try unfold r69.v; try simp only [h1, cond_true, cond_false]; try rfl; done) | rfl) trivial))))))))))))))))))))))) h

end Go.Proofs.Ytngpbfocjgikaaa

open Go

namespace Go.Proofs.Ytngpbfocjgikaaa

set_option maxHeartbeats 0

set_option maxRecDepth 100000

set_option linter.unusedVariables false

set_option linter.unusedSimpArgs false

theorem r61_gc {a b : Int} (ha : 0 ≤ a) (hb : 0 ≤ b) : r61.v a b = gc a b := by
  obtain ⟨A, rfl⟩ := Int.eq_ofNat_of_zero_le ha
  obtain ⟨B, rfl⟩ := Int.eq_ofNat_of_zero_le hb
  rw [gcd_v]
  unfold gc
  rw [Int.toNat_natCast, Int.toNat_natCast]

theorem cmp86 (x y : Int) : decide (r86.v x y < 0) = decide (x < y) := by
  have f : ∀ z, r108.v z = false := fun z => by unfold r108.v; simp
  unfold r86.v r100.v r101.v
  rw [f, f]
  by_cases h : x < y
  · rw [decide_eq_true h]; rfl
  · rw [decide_eq_false h]
    by_cases h2 : x > y
    · rw [decide_eq_true h2]; rfl
    · rw [decide_eq_false h2]; rfl

/-- The product. -/
theorem c71 (a b : Int) (a0 : -9223372036854775807 ≤ a) (a1 : a ≤ 9223372036854775807) (b0 : 0 ≤ b) (b1 : b ≤ 9223372036854775807) (h0 : -9000000000000000000 ≤ a * b) (h1 : a * b ≤ 9000000000000000000) (h : AHeap) :
    Ret Try.prog 71 [AV.int .i64 a, AV.int .i64 b] h (AV.agg [AV.bool (decide (a < 0)), AV.int .u64 0, AV.int .u64 (((a * b).natAbs : Nat) : Int)]) h := by
  have ea : r60.v a = (a.natAbs : Int) := size_v (by omega)
  have eb : r60.v b = (b.natAbs : Int) := size_v (by omega)
  have em : (a.natAbs : Int) * (b.natAbs : Int) = (((a * b).natAbs : Nat) : Int) := by rw [Int.natAbs_mul]; simp
  have r := r71 a b (by omega) a1 (by omega) b1 (by rw [ea, eb, em]; omega) h
  have e0 : r71.v0 a b = decide (a < 0) := by
    unfold r71.v0
    rw [decide_eq_false (show ¬ b < 0 by omega)]
    cases decide (a < 0) <;> rfl
  have e2 : r71.v2 a b = (((a * b).natAbs : Nat) : Int) := by unfold r71.v2; rw [ea, eb, em]
  rw [e0, e2] at r
  exact r

def sgB (n1 n2 : Bool) (x y : Int) : Bool := bif n1 == n2 then n1 else bif decide (x < y) then n2 else n1

def sgV (n1 n2 : Bool) (x y : Int) : Int := bif n1 == n2 then x + y else bif decide (x < y) then y - x else x - y

/-- The sum. -/
theorem c70 (x y : Int) (n1 n2 : Bool) (x0 : 0 ≤ x) (x1 : x ≤ 9000000000000000000) (y0 : 0 ≤ y) (y1 : y ≤ 9000000000000000000) (h : AHeap) :
    Ret Try.prog 70 [AV.agg [AV.bool n1, AV.int .u64 0, AV.int .u64 x], AV.agg [AV.bool n2, AV.int .u64 0, AV.int .u64 y]] h (AV.agg [AV.bool (sgB n1 n2 x y), AV.int .u64 0, AV.int .u64 (sgV n1 n2 x y)]) h := by
  have r := r70 x y n1 n2 x0 (by omega) y0 (by omega) h
  have e0 : r70.v0 x y n1 n2 = sgB n1 n2 x y := by unfold r70.v0 sgB; rw [cmp86]
  have e1 : r70.v1 x y n1 n2 = 0 := by
    unfold r70.v1
    rw [cmp86]
    cases n1 == n2
    · by_cases h : x < y
      · rw [decide_eq_true h, cond_false, cond_true, if_neg (by omega)]; rfl
      · rw [decide_eq_false h, cond_false, cond_false, if_neg (by omega)]; rfl
    · rw [cond_true, show (0 + (x + y + 0) / 18446744073709551616 : Int) = 0 by omega]; rfl
  have e2 : r70.v2 x y n1 n2 = sgV n1 n2 x y := by
    unfold r70.v2 sgV
    rw [cmp86]
    cases n1 == n2
    · by_cases h : x < y
      · rw [decide_eq_true h, cond_false, cond_true, cond_false, cond_true]; omega
      · rw [decide_eq_false h, cond_false, cond_false, cond_false, cond_false]; omega
    · rw [cond_true, cond_true]; omega
  rw [e0, e1, e2] at r
  exact r

/-- Signed sums. -/
theorem sg_sum (a b : Int) : sgV (decide (a < 0)) (decide (b < 0)) (a.natAbs : Int) (b.natAbs : Int) = ((a + b).natAbs : Int) ∧ (a + b ≠ 0 → sgB (decide (a < 0)) (decide (b < 0)) (a.natAbs : Int) (b.natAbs : Int) = decide (a + b < 0)) := by
  unfold sgV sgB
  by_cases h1 : a < 0 <;> by_cases h2 : b < 0
  · rw [decide_eq_true h1, decide_eq_true h2, decide_eq_true (show a + b < 0 by omega)]
    exact ⟨by rw [show ((true == true) = true) from rfl, cond_true]; omega, fun _ => rfl⟩
  · rw [decide_eq_true h1, decide_eq_false h2]
    rw [show ((true == false) = false) from rfl, cond_false, cond_false]
    by_cases h3 : (a.natAbs : Int) < (b.natAbs : Int)
    · rw [decide_eq_true h3, cond_true, cond_true]
      exact ⟨by omega, fun _ => (decide_eq_false (by omega)).symm⟩
    · rw [decide_eq_false h3, cond_false, cond_false]
      exact ⟨by omega, fun _ => (decide_eq_true (by omega)).symm⟩
  · rw [decide_eq_false h1, decide_eq_true h2]
    rw [show ((false == true) = false) from rfl, cond_false, cond_false]
    by_cases h3 : (a.natAbs : Int) < (b.natAbs : Int)
    · rw [decide_eq_true h3, cond_true, cond_true]
      exact ⟨by omega, fun _ => (decide_eq_true (by omega)).symm⟩
    · rw [decide_eq_false h3, cond_false, cond_false]
      exact ⟨by omega, fun _ => (decide_eq_false (by omega)).symm⟩
  · rw [decide_eq_false h1, decide_eq_false h2, decide_eq_false (show ¬ a + b < 0 by omega)]
    exact ⟨by rw [show ((false == false) = true) from rfl, cond_true]; omega, fun _ => rfl⟩

/-- Quotient and remainder. -/
theorem c72 (x d : Int) (ng : Bool) (x0 : 0 ≤ x) (x1 : x ≤ 18446744073709551615) (d0 : 0 < d) (d1 : d ≤ 18446744073709551615) (h : AHeap) :
    Ret Try.prog 72 [AV.agg [AV.bool ng, AV.int .u64 0, AV.int .u64 x], AV.int .u64 d] h (AV.tup [AV.int .u64 (x / d), AV.int .u64 (x % d), AV.bool true]) h := by
  have r := r72 x d ng x0 x1 d0 d1 h
  have h1 : x / d ≤ x := Int.ediv_le_self _ x0
  have h2 : 0 ≤ x / d := Int.ediv_nonneg x0 (by omega)
  have e0 : r72.v0 x d = x / d := by unfold r72.v0 r87.v0; rw [Int.tdiv_eq_ediv_of_nonneg x0, IntWalk.u64_in _ (by omega)]
  have e1 : r72.v1 x d = x % d := by unfold r72.v1 r87.v1; rw [Int.tmod_eq_emod_of_nonneg x0]
  have e2 : r72.v2 d = true := by unfold r72.v2; exact decide_eq_true d0
  rw [e0, e1, e2] at r
  exact r

/-- The greatest common divisor, of small numbers. -/
theorem c61 (a b : Int) (ha : 0 ≤ a) (hb : 0 ≤ b) (h : AHeap) : Ret Try.prog 61 [AV.int .u64 a, AV.int .u64 b] h (AV.int .u64 (gc a b)) h := by
  have r := r61 a b ha hb h
  rwa [r61_gc ha hb] at r

/-- A fraction in lowest terms is one. -/
theorem valid_red {a d : Int} (h : Int.gcd a d = 1) (ha : -900000000000000000 ≤ a ∧ a ≤ 900000000000000000) (hd : 0 < d ∧ d ≤ 900000000000000000) : r69.v a d = true := by
  unfold r69.v
  rw [decide_eq_true (show d ≥ 1 by omega), decide_eq_true (show d < 1000000000000000000 by omega), decide_eq_true (show a > -1000000000000000000 by omega), decide_eq_true (show a < 1000000000000000000 by omega)]
  simp only [cond_true]
  rw [size_v (by omega), IntWalk.u64_in _ (by omega), r61_gc (by omega) (by omega)]
  have e : gc (a.natAbs : Int) d = ((Int.gcd a d : Nat) : Int) := by
    unfold gc Int.gcd
    rw [Int.toNat_natCast, show d.toNat = d.natAbs by omega]
  rw [e, h]
  rfl

end Go.Proofs.Ytngpbfocjgikaaa

open Go

namespace Go.Proofs.Ytngpbfocjgikaaa

set_option maxHeartbeats 0

set_option maxRecDepth 100000

set_option linter.unusedVariables false

set_option linter.unusedSimpArgs false

/-- Two fractions whose sum stays small. -/
structure S45 (an ad bn bd : Int) : Prop where
  a : 0 < ad ∧ ad ≤ 100000000
  b : 0 < bd ∧ bd ≤ 100000000
  an' : -900000000000000000 ≤ an ∧ an ≤ 900000000000000000
  bn' : -900000000000000000 ≤ bn ∧ bn ≤ 900000000000000000
  p1 : -400000000000000000 ≤ an * (bd / gc ad bd) ∧ an * (bd / gc ad bd) ≤ 400000000000000000
  p2 : -400000000000000000 ≤ bn * (ad / gc ad bd) ∧ bn * (ad / gc ad bd) ≤ 400000000000000000

def t45 (an ad bn bd : Int) : Int := an * (bd / gc ad bd) + bn * (ad / gc ad bd)

def h45 (an ad bn bd : Int) : Int := gc (((t45 an ad bn bd).natAbs : Int) % gc ad bd) (gc ad bd)

theorem gc_dvd_l {a b : Int} (ha : 0 ≤ a) : gc a b ∣ a := by
  obtain ⟨A, rfl⟩ := Int.eq_ofNat_of_zero_le ha
  unfold gc
  rw [Int.toNat_natCast]
  exact Int.natCast_dvd_natCast.2 (Nat.gcd_dvd_left _ _)

theorem gc_dvd_r {a b : Int} (hb : 0 ≤ b) : gc a b ∣ b := by
  obtain ⟨B, rfl⟩ := Int.eq_ofNat_of_zero_le hb
  unfold gc
  rw [Int.toNat_natCast]
  exact Int.natCast_dvd_natCast.2 (Nat.gcd_dvd_right _ _)

theorem gc_pos_r {a b : Int} (h : 0 < b) : 0 < gc a b := by
  have := Nat.gcd_pos_of_pos_right a.toNat (n := b.toNat) (by omega)
  unfold gc; omega

theorem dvd_bd {d x : Int} (h : d ∣ x) (hx : 0 < x) : d ≤ x := Int.le_of_dvd hx h

theorem quo_bd {d x : Int} (hd : 0 < d) (h : d ∣ x) (hx : 0 < x) : 1 ≤ x / d ∧ x / d ≤ x := by
  obtain ⟨c, rfl⟩ := h
  have hc : 0 < c := by
    rcases Int.lt_trichotomy c 0 with q | q | q
    · have := Int.mul_neg_of_pos_of_neg hd q; omega
    · subst q; omega
    · exact q
  rw [Int.mul_ediv_cancel_left _ (by omega)]
  have := Int.mul_le_mul_of_nonneg_right (show 1 ≤ d by omega) (show 0 ≤ c by omega)
  omega

namespace S45

variable {an ad bn bd : Int} (s : S45 an ad bn bd)
include s

theorem g_pos : 0 < gc ad bd ∧ gc ad bd ≤ 100000000 := by
  have h1 := gc_pos_r (a := ad) s.b.1
  have h2 := dvd_bd (gc_dvd_r (a := ad) (b := bd) (by have := s.b; omega)) s.b.1
  have := s.b
  omega

theorem a_bd : 1 ≤ ad / gc ad bd ∧ ad / gc ad bd ≤ 100000000 := by
  have := quo_bd s.g_pos.1 (gc_dvd_l (a := ad) (b := bd) (by have := s.a; omega)) s.a.1
  have := s.a
  omega

theorem b_bd : 1 ≤ bd / gc ad bd ∧ bd / gc ad bd ≤ 100000000 := by
  have := quo_bd s.g_pos.1 (gc_dvd_r (a := ad) (b := bd) (by have := s.b; omega)) s.b.1
  have := s.b
  omega

theorem t_bd : -800000000000000000 ≤ t45 an ad bn bd ∧ t45 an ad bn bd ≤ 800000000000000000 := by
  have h1 := s.p1; have h2 := s.p2
  unfold t45
  omega

theorem h_pos : 0 < h45 an ad bn bd ∧ h45 an ad bn bd ≤ 100000000 ∧ h45 an ad bn bd ∣ bd ∧ h45 an ad bn bd ∣ gc ad bd := by
  have g := s.g_pos
  have h1 : 0 < h45 an ad bn bd := gc_pos_r g.1
  have h2 : h45 an ad bn bd ∣ gc ad bd := gc_dvd_r (by omega)
  have h3 := dvd_bd h2 g.1
  exact ⟨h1, by omega, Int.dvd_trans h2 (gc_dvd_r (by have := s.b; omega)), h2⟩

theorem ad_ : IntKind.u64.wrap ad = ad := IntWalk.u64_in _ (by have := s.a; omega)

theorem bd_ : IntKind.u64.wrap bd = bd := IntWalk.u64_in _ (by have := s.b; omega)

theorem g_ : IntKind.i64.wrap (gc ad bd) = gc ad bd := i64_small (by have := s.g_pos; omega)

theorem gu_ : IntKind.u64.wrap (gc ad bd) = gc ad bd := IntWalk.u64_in _ (by have := s.g_pos; omega)

theorem a_ : IntKind.i64.wrap (ad.tdiv (gc ad bd)) = ad / gc ad bd := by
  rw [Int.tdiv_eq_ediv_of_nonneg (by have := s.a; omega)]
  exact i64_small (by have := s.a_bd; omega)

theorem b_ : IntKind.i64.wrap (bd.tdiv (gc ad bd)) = bd / gc ad bd := by
  rw [Int.tdiv_eq_ediv_of_nonneg (by have := s.b; omega)]
  exact i64_small (by have := s.b_bd; omega)

theorem ua_ : IntKind.u64.wrap (ad / gc ad bd) = ad / gc ad bd := IntWalk.u64_in _ (by have := s.a_bd; omega)

theorem sign1 : decide (an * (bd / gc ad bd) < 0) = decide (an < 0) := by
  have h := s.b_bd
  by_cases q : an < 0
  · rw [decide_eq_true q, decide_eq_true (Int.mul_neg_of_neg_of_pos q (by omega))]
  · rw [decide_eq_false q, decide_eq_false (by have := Int.mul_nonneg (show 0 ≤ an by omega) (show 0 ≤ bd / gc ad bd by omega); omega)]

theorem sign2 : decide (bn * (ad / gc ad bd) < 0) = decide (bn < 0) := by
  have h := s.a_bd
  by_cases q : bn < 0
  · rw [decide_eq_true q, decide_eq_true (Int.mul_neg_of_neg_of_pos q (by omega))]
  · rw [decide_eq_false q, decide_eq_false (by have := Int.mul_nonneg (show 0 ≤ bn by omega) (show 0 ≤ ad / gc ad bd by omega); omega)]

theorem t_ : sgV (decide (an < 0)) (decide (bn < 0)) (((an * (bd / gc ad bd)).natAbs : Nat) : Int) (((bn * (ad / gc ad bd)).natAbs : Nat) : Int) = ((t45 an ad bn bd).natAbs : Int) := by
  rw [← s.sign1, ← s.sign2]
  exact (sg_sum _ _).1

theorem tb_ (h : t45 an ad bn bd ≠ 0) : sgB (decide (an < 0)) (decide (bn < 0)) (((an * (bd / gc ad bd)).natAbs : Nat) : Int) (((bn * (ad / gc ad bd)).natAbs : Nat) : Int) = decide (t45 an ad bn bd < 0) := by
  rw [← s.sign1, ← s.sign2]
  exact (sg_sum _ _).2 h

theorem hq_bd : 1 ≤ bd / h45 an ad bn bd ∧ bd / h45 an ad bn bd ≤ 100000000 := by
  have h := s.h_pos
  have := quo_bd h.1 h.2.2.1 s.b.1
  have := s.b
  omega

theorem h_ : IntKind.u64.wrap (bd.tdiv (gc (((t45 an ad bn bd).natAbs : Int) % gc ad bd) (gc ad bd))) = bd / h45 an ad bn bd := by
  show IntKind.u64.wrap (bd.tdiv (h45 an ad bn bd)) = _
  rw [Int.tdiv_eq_ediv_of_nonneg (by have := s.b; omega)]
  exact IntWalk.u64_in _ (by have := s.hq_bd; omega)

theorem den_bd : 0 ≤ ad / gc ad bd * (bd / h45 an ad bn bd) ∧ ad / gc ad bd * (bd / h45 an ad bn bd) ≤ 10000000000000000 := by
  have h1 := s.a_bd; have h2 := s.hq_bd
  have := mulb (m := ad / gc ad bd) (x := bd / h45 an ad bn bd) (A := 100000000) (B := 100000000) (by omega) h1.2 (by omega) h2.2
  exact ⟨Int.mul_nonneg (by omega) (by omega), by omega⟩

theorem facts : (0 < gc ad bd ∧ gc ad bd ≤ 100000000) ∧ (1 ≤ ad / gc ad bd ∧ ad / gc ad bd ≤ 100000000) ∧ (1 ≤ bd / gc ad bd ∧ bd / gc ad bd ≤ 100000000) ∧ (-800000000000000000 ≤ t45 an ad bn bd ∧ t45 an ad bn bd ≤ 800000000000000000) ∧
    (0 < gc (((t45 an ad bn bd).natAbs : Int) % gc ad bd) (gc ad bd) ∧ gc (((t45 an ad bn bd).natAbs : Int) % gc ad bd) (gc ad bd) ≤ 100000000) ∧ (1 ≤ bd / h45 an ad bn bd ∧ bd / h45 an ad bn bd ≤ 100000000) ∧
    (0 ≤ ad / gc ad bd * (bd / h45 an ad bn bd) ∧ ad / gc ad bd * (bd / h45 an ad bn bd) ≤ 10000000000000000) ∧ (0 ≤ ((t45 an ad bn bd).natAbs : Int) % gc ad bd) ∧
    (-900000000000000000 ≤ an ∧ an ≤ 900000000000000000) ∧ (-900000000000000000 ≤ bn ∧ bn ≤ 900000000000000000) ∧
    (-400000000000000000 ≤ an * (bd / gc ad bd) ∧ an * (bd / gc ad bd) ≤ 400000000000000000) ∧ (-400000000000000000 ≤ bn * (ad / gc ad bd) ∧ bn * (ad / gc ad bd) ≤ 400000000000000000) ∧ (0 < ad ∧ ad ≤ 100000000) ∧ (0 < bd ∧ bd ≤ 100000000) :=
  ⟨s.g_pos, s.a_bd, s.b_bd, s.t_bd, ⟨s.h_pos.1, s.h_pos.2.1⟩, s.hq_bd, s.den_bd, Int.emod_nonneg _ (by have := s.g_pos; omega), s.an', s.bn', s.p1, s.p2, s.a, s.b⟩

end S45

theorem k45_0 {an ad bn bd : Int} (s : S45 an ad bn bd) : (0 : Int) ≤ IntKind.u64.wrap ad := by
  have f := s.facts
  try simp only [s.ad_, s.bd_, s.g_, s.gu_, s.a_, s.b_, s.ua_, s.t_, s.h_]
  omega

theorem k45_1 {an ad bn bd : Int} (s : S45 an ad bn bd) : (0 : Int) ≤ IntKind.u64.wrap bd := by
  have f := s.facts
  try simp only [s.ad_, s.bd_, s.g_, s.gu_, s.a_, s.b_, s.ua_, s.t_, s.h_]
  omega

theorem k45_2 {an ad bn bd : Int} (s : S45 an ad bn bd) : IntKind.i64.wrap (gc (IntKind.u64.wrap ad) (IntKind.u64.wrap bd)) = (0 : Int) → False := by
  have f := s.facts
  try simp only [s.ad_, s.bd_, s.g_, s.gu_, s.a_, s.b_, s.ua_, s.t_, s.h_]
  omega

theorem k45_3 {an ad bn bd : Int} (s : S45 an ad bn bd) : (-9223372036854775807 : Int) ≤ an := by
  have f := s.facts
  try simp only [s.ad_, s.bd_, s.g_, s.gu_, s.a_, s.b_, s.ua_, s.t_, s.h_]
  omega

theorem k45_4 {an ad bn bd : Int} (s : S45 an ad bn bd) : an ≤ (9223372036854775807 : Int) := by
  have f := s.facts
  try simp only [s.ad_, s.bd_, s.g_, s.gu_, s.a_, s.b_, s.ua_, s.t_, s.h_]
  omega

theorem k45_5 {an ad bn bd : Int} (s : S45 an ad bn bd) : (0 : Int) ≤ IntKind.i64.wrap (bd.tdiv (IntKind.i64.wrap (gc (IntKind.u64.wrap ad) (IntKind.u64.wrap bd)))) := by
  have f := s.facts
  try simp only [s.ad_, s.bd_, s.g_, s.gu_, s.a_, s.b_, s.ua_, s.t_, s.h_]
  omega

theorem k45_6 {an ad bn bd : Int} (s : S45 an ad bn bd) : IntKind.i64.wrap (bd.tdiv (IntKind.i64.wrap (gc (IntKind.u64.wrap ad) (IntKind.u64.wrap bd)))) ≤ (9223372036854775807 : Int) := by
  have f := s.facts
  try simp only [s.ad_, s.bd_, s.g_, s.gu_, s.a_, s.b_, s.ua_, s.t_, s.h_]
  omega

theorem k45_7 {an ad bn bd : Int} (s : S45 an ad bn bd) : (-9000000000000000000 : Int) ≤ an * IntKind.i64.wrap (bd.tdiv (IntKind.i64.wrap (gc (IntKind.u64.wrap ad) (IntKind.u64.wrap bd)))) := by
  have f := s.facts
  try simp only [s.ad_, s.bd_, s.g_, s.gu_, s.a_, s.b_, s.ua_, s.t_, s.h_]
  omega

theorem k45_8 {an ad bn bd : Int} (s : S45 an ad bn bd) : an * IntKind.i64.wrap (bd.tdiv (IntKind.i64.wrap (gc (IntKind.u64.wrap ad) (IntKind.u64.wrap bd)))) ≤ (9000000000000000000 : Int) := by
  have f := s.facts
  try simp only [s.ad_, s.bd_, s.g_, s.gu_, s.a_, s.b_, s.ua_, s.t_, s.h_]
  omega

theorem k45_9 {an ad bn bd : Int} (s : S45 an ad bn bd) : (-9223372036854775807 : Int) ≤ bn := by
  have f := s.facts
  try simp only [s.ad_, s.bd_, s.g_, s.gu_, s.a_, s.b_, s.ua_, s.t_, s.h_]
  omega

theorem k45_10 {an ad bn bd : Int} (s : S45 an ad bn bd) : bn ≤ (9223372036854775807 : Int) := by
  have f := s.facts
  try simp only [s.ad_, s.bd_, s.g_, s.gu_, s.a_, s.b_, s.ua_, s.t_, s.h_]
  omega

theorem k45_11 {an ad bn bd : Int} (s : S45 an ad bn bd) : (0 : Int) ≤ IntKind.i64.wrap (ad.tdiv (IntKind.i64.wrap (gc (IntKind.u64.wrap ad) (IntKind.u64.wrap bd)))) := by
  have f := s.facts
  try simp only [s.ad_, s.bd_, s.g_, s.gu_, s.a_, s.b_, s.ua_, s.t_, s.h_]
  omega

theorem k45_12 {an ad bn bd : Int} (s : S45 an ad bn bd) : IntKind.i64.wrap (ad.tdiv (IntKind.i64.wrap (gc (IntKind.u64.wrap ad) (IntKind.u64.wrap bd)))) ≤ (9223372036854775807 : Int) := by
  have f := s.facts
  try simp only [s.ad_, s.bd_, s.g_, s.gu_, s.a_, s.b_, s.ua_, s.t_, s.h_]
  omega

theorem k45_13 {an ad bn bd : Int} (s : S45 an ad bn bd) : (-9000000000000000000 : Int) ≤ bn * IntKind.i64.wrap (ad.tdiv (IntKind.i64.wrap (gc (IntKind.u64.wrap ad) (IntKind.u64.wrap bd)))) := by
  have f := s.facts
  try simp only [s.ad_, s.bd_, s.g_, s.gu_, s.a_, s.b_, s.ua_, s.t_, s.h_]
  omega

theorem k45_14 {an ad bn bd : Int} (s : S45 an ad bn bd) : bn * IntKind.i64.wrap (ad.tdiv (IntKind.i64.wrap (gc (IntKind.u64.wrap ad) (IntKind.u64.wrap bd)))) ≤ (9000000000000000000 : Int) := by
  have f := s.facts
  try simp only [s.ad_, s.bd_, s.g_, s.gu_, s.a_, s.b_, s.ua_, s.t_, s.h_]
  omega

theorem k45_15 {an ad bn bd : Int} (s : S45 an ad bn bd) : (0 : Int) ≤ (↑(an * IntKind.i64.wrap (bd.tdiv (IntKind.i64.wrap (gc (IntKind.u64.wrap ad) (IntKind.u64.wrap bd))))).natAbs : Int) := by
  have f := s.facts
  try simp only [s.ad_, s.bd_, s.g_, s.gu_, s.a_, s.b_, s.ua_, s.t_, s.h_]
  omega

theorem k45_16 {an ad bn bd : Int} (s : S45 an ad bn bd) : (↑(an * IntKind.i64.wrap (bd.tdiv (IntKind.i64.wrap (gc (IntKind.u64.wrap ad) (IntKind.u64.wrap bd))))).natAbs : Int) ≤ (9000000000000000000 : Int) := by
  have f := s.facts
  try simp only [s.ad_, s.bd_, s.g_, s.gu_, s.a_, s.b_, s.ua_, s.t_, s.h_]
  omega

theorem k45_17 {an ad bn bd : Int} (s : S45 an ad bn bd) : (0 : Int) ≤ (↑(bn * IntKind.i64.wrap (ad.tdiv (IntKind.i64.wrap (gc (IntKind.u64.wrap ad) (IntKind.u64.wrap bd))))).natAbs : Int) := by
  have f := s.facts
  try simp only [s.ad_, s.bd_, s.g_, s.gu_, s.a_, s.b_, s.ua_, s.t_, s.h_]
  omega

theorem k45_18 {an ad bn bd : Int} (s : S45 an ad bn bd) : (↑(bn * IntKind.i64.wrap (ad.tdiv (IntKind.i64.wrap (gc (IntKind.u64.wrap ad) (IntKind.u64.wrap bd))))).natAbs : Int) ≤ (9000000000000000000 : Int) := by
  have f := s.facts
  try simp only [s.ad_, s.bd_, s.g_, s.gu_, s.a_, s.b_, s.ua_, s.t_, s.h_]
  omega

theorem k45_19 {an ad bn bd : Int} (s : S45 an ad bn bd) : (0 : Int) ≤ sgV (decide (an < (0 : Int))) (decide (bn < (0 : Int))) (↑(an * IntKind.i64.wrap (bd.tdiv (IntKind.i64.wrap (gc (IntKind.u64.wrap ad) (IntKind.u64.wrap bd))))).natAbs : Int) (↑(bn * IntKind.i64.wrap (ad.tdiv (IntKind.i64.wrap (gc (IntKind.u64.wrap ad) (IntKind.u64.wrap bd))))).natAbs : Int) := by
  have f := s.facts
  try simp only [s.ad_, s.bd_, s.g_, s.gu_, s.a_, s.b_, s.ua_, s.t_, s.h_]
  omega

theorem k45_20 {an ad bn bd : Int} (s : S45 an ad bn bd) : sgV (decide (an < (0 : Int))) (decide (bn < (0 : Int))) (↑(an * IntKind.i64.wrap (bd.tdiv (IntKind.i64.wrap (gc (IntKind.u64.wrap ad) (IntKind.u64.wrap bd))))).natAbs : Int) (↑(bn * IntKind.i64.wrap (ad.tdiv (IntKind.i64.wrap (gc (IntKind.u64.wrap ad) (IntKind.u64.wrap bd))))).natAbs : Int) ≤ (18446744073709551615 : Int) := by
  have f := s.facts
  try simp only [s.ad_, s.bd_, s.g_, s.gu_, s.a_, s.b_, s.ua_, s.t_, s.h_]
  omega

theorem k45_21 {an ad bn bd : Int} (s : S45 an ad bn bd) : (0 : Int) < IntKind.u64.wrap (IntKind.i64.wrap (gc (IntKind.u64.wrap ad) (IntKind.u64.wrap bd))) := by
  have f := s.facts
  try simp only [s.ad_, s.bd_, s.g_, s.gu_, s.a_, s.b_, s.ua_, s.t_, s.h_]
  omega

theorem k45_22 {an ad bn bd : Int} (s : S45 an ad bn bd) : IntKind.u64.wrap (IntKind.i64.wrap (gc (IntKind.u64.wrap ad) (IntKind.u64.wrap bd))) ≤ (18446744073709551615 : Int) := by
  have f := s.facts
  try simp only [s.ad_, s.bd_, s.g_, s.gu_, s.a_, s.b_, s.ua_, s.t_, s.h_]
  omega

theorem k45_23 {an ad bn bd : Int} (s : S45 an ad bn bd) : (0 : Int) ≤ sgV (decide (an < (0 : Int))) (decide (bn < (0 : Int))) (↑(an * IntKind.i64.wrap (bd.tdiv (IntKind.i64.wrap (gc (IntKind.u64.wrap ad) (IntKind.u64.wrap bd))))).natAbs : Int) (↑(bn * IntKind.i64.wrap (ad.tdiv (IntKind.i64.wrap (gc (IntKind.u64.wrap ad) (IntKind.u64.wrap bd))))).natAbs : Int) % IntKind.u64.wrap (IntKind.i64.wrap (gc (IntKind.u64.wrap ad) (IntKind.u64.wrap bd))) := by
  have f := s.facts
  try simp only [s.ad_, s.bd_, s.g_, s.gu_, s.a_, s.b_, s.ua_, s.t_, s.h_]
  omega

theorem k45_24 {an ad bn bd : Int} (s : S45 an ad bn bd) : (0 : Int) ≤ IntKind.u64.wrap (IntKind.i64.wrap (gc (IntKind.u64.wrap ad) (IntKind.u64.wrap bd))) := by
  have f := s.facts
  try simp only [s.ad_, s.bd_, s.g_, s.gu_, s.a_, s.b_, s.ua_, s.t_, s.h_]
  omega

theorem k45_25 {an ad bn bd : Int} (s : S45 an ad bn bd) : (0 : Int) < gc (sgV (decide (an < (0 : Int))) (decide (bn < (0 : Int))) (↑(an * IntKind.i64.wrap (bd.tdiv (IntKind.i64.wrap (gc (IntKind.u64.wrap ad) (IntKind.u64.wrap bd))))).natAbs : Int) (↑(bn * IntKind.i64.wrap (ad.tdiv (IntKind.i64.wrap (gc (IntKind.u64.wrap ad) (IntKind.u64.wrap bd))))).natAbs : Int) % IntKind.u64.wrap (IntKind.i64.wrap (gc (IntKind.u64.wrap ad) (IntKind.u64.wrap bd)))) (IntKind.u64.wrap (IntKind.i64.wrap (gc (IntKind.u64.wrap ad) (IntKind.u64.wrap bd)))) := by
  have f := s.facts
  try simp only [s.ad_, s.bd_, s.g_, s.gu_, s.a_, s.b_, s.ua_, s.t_, s.h_]
  omega

theorem k45_26 {an ad bn bd : Int} (s : S45 an ad bn bd) : gc (sgV (decide (an < (0 : Int))) (decide (bn < (0 : Int))) (↑(an * IntKind.i64.wrap (bd.tdiv (IntKind.i64.wrap (gc (IntKind.u64.wrap ad) (IntKind.u64.wrap bd))))).natAbs : Int) (↑(bn * IntKind.i64.wrap (ad.tdiv (IntKind.i64.wrap (gc (IntKind.u64.wrap ad) (IntKind.u64.wrap bd))))).natAbs : Int) % IntKind.u64.wrap (IntKind.i64.wrap (gc (IntKind.u64.wrap ad) (IntKind.u64.wrap bd)))) (IntKind.u64.wrap (IntKind.i64.wrap (gc (IntKind.u64.wrap ad) (IntKind.u64.wrap bd)))) ≤ (18446744073709551615 : Int) := by
  have f := s.facts
  try simp only [s.ad_, s.bd_, s.g_, s.gu_, s.a_, s.b_, s.ua_, s.t_, s.h_]
  omega

theorem k45_27 {an ad bn bd : Int} (s : S45 an ad bn bd) : gc (sgV (decide (an < (0 : Int))) (decide (bn < (0 : Int))) (↑(an * IntKind.i64.wrap (bd.tdiv (IntKind.i64.wrap (gc (IntKind.u64.wrap ad) (IntKind.u64.wrap bd))))).natAbs : Int) (↑(bn * IntKind.i64.wrap (ad.tdiv (IntKind.i64.wrap (gc (IntKind.u64.wrap ad) (IntKind.u64.wrap bd))))).natAbs : Int) % IntKind.u64.wrap (IntKind.i64.wrap (gc (IntKind.u64.wrap ad) (IntKind.u64.wrap bd)))) (IntKind.u64.wrap (IntKind.i64.wrap (gc (IntKind.u64.wrap ad) (IntKind.u64.wrap bd)))) = (0 : Int) → False := by
  have f := s.facts
  try simp only [s.ad_, s.bd_, s.g_, s.gu_, s.a_, s.b_, s.ua_, s.t_, s.h_]
  omega

theorem k45_28 {an ad bn bd : Int} (s : S45 an ad bn bd) : (0 : Int) ≤ IntKind.u64.wrap (IntKind.i64.wrap (ad.tdiv (IntKind.i64.wrap (gc (IntKind.u64.wrap ad) (IntKind.u64.wrap bd))))) := by
  have f := s.facts
  try simp only [s.ad_, s.bd_, s.g_, s.gu_, s.a_, s.b_, s.ua_, s.t_, s.h_]
  omega

theorem k45_29 {an ad bn bd : Int} (s : S45 an ad bn bd) : (0 : Int) ≤ IntKind.u64.wrap ((IntKind.u64.wrap bd).tdiv (gc (sgV (decide (an < (0 : Int))) (decide (bn < (0 : Int))) (↑(an * IntKind.i64.wrap (bd.tdiv (IntKind.i64.wrap (gc (IntKind.u64.wrap ad) (IntKind.u64.wrap bd))))).natAbs : Int) (↑(bn * IntKind.i64.wrap (ad.tdiv (IntKind.i64.wrap (gc (IntKind.u64.wrap ad) (IntKind.u64.wrap bd))))).natAbs : Int) % IntKind.u64.wrap (IntKind.i64.wrap (gc (IntKind.u64.wrap ad) (IntKind.u64.wrap bd)))) (IntKind.u64.wrap (IntKind.i64.wrap (gc (IntKind.u64.wrap ad) (IntKind.u64.wrap bd)))))) := by
  have f := s.facts
  try simp only [s.ad_, s.bd_, s.g_, s.gu_, s.a_, s.b_, s.ua_, s.t_, s.h_]
  omega

theorem k45_30 {an ad bn bd : Int} (s : S45 an ad bn bd) : IntKind.u64.wrap (IntKind.i64.wrap (ad.tdiv (IntKind.i64.wrap (gc (IntKind.u64.wrap ad) (IntKind.u64.wrap bd))))) ≤ (18446744073709551615 : Int) := by
  have f := s.facts
  try simp only [s.ad_, s.bd_, s.g_, s.gu_, s.a_, s.b_, s.ua_, s.t_, s.h_]
  omega

theorem k45_31 {an ad bn bd : Int} (s : S45 an ad bn bd) : IntKind.u64.wrap ((IntKind.u64.wrap bd).tdiv (gc (sgV (decide (an < (0 : Int))) (decide (bn < (0 : Int))) (↑(an * IntKind.i64.wrap (bd.tdiv (IntKind.i64.wrap (gc (IntKind.u64.wrap ad) (IntKind.u64.wrap bd))))).natAbs : Int) (↑(bn * IntKind.i64.wrap (ad.tdiv (IntKind.i64.wrap (gc (IntKind.u64.wrap ad) (IntKind.u64.wrap bd))))).natAbs : Int) % IntKind.u64.wrap (IntKind.i64.wrap (gc (IntKind.u64.wrap ad) (IntKind.u64.wrap bd)))) (IntKind.u64.wrap (IntKind.i64.wrap (gc (IntKind.u64.wrap ad) (IntKind.u64.wrap bd)))))) ≤ (18446744073709551615 : Int) := by
  have f := s.facts
  try simp only [s.ad_, s.bd_, s.g_, s.gu_, s.a_, s.b_, s.ua_, s.t_, s.h_]
  omega

theorem k45_32 {an ad bn bd : Int} (s : S45 an ad bn bd) : IntKind.u64.wrap (IntKind.i64.wrap (ad.tdiv (IntKind.i64.wrap (gc (IntKind.u64.wrap ad) (IntKind.u64.wrap bd))))) * IntKind.u64.wrap ((IntKind.u64.wrap bd).tdiv (gc (sgV (decide (an < (0 : Int))) (decide (bn < (0 : Int))) (↑(an * IntKind.i64.wrap (bd.tdiv (IntKind.i64.wrap (gc (IntKind.u64.wrap ad) (IntKind.u64.wrap bd))))).natAbs : Int) (↑(bn * IntKind.i64.wrap (ad.tdiv (IntKind.i64.wrap (gc (IntKind.u64.wrap ad) (IntKind.u64.wrap bd))))).natAbs : Int) % IntKind.u64.wrap (IntKind.i64.wrap (gc (IntKind.u64.wrap ad) (IntKind.u64.wrap bd)))) (IntKind.u64.wrap (IntKind.i64.wrap (gc (IntKind.u64.wrap ad) (IntKind.u64.wrap bd)))))) ≤ (18446744073709551615 : Int) := by
  have f := s.facts
  try simp only [s.ad_, s.bd_, s.g_, s.gu_, s.a_, s.b_, s.ua_, s.t_, s.h_]
  omega

end Go.Proofs.Ytngpbfocjgikaaa
