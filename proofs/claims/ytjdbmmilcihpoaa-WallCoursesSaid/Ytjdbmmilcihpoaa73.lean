/- Contracts of the functions and plain laws, part 3. Conditions: none. -/
import Derived.Test.Ytjdbmmilcihpoaa72

open Go
namespace Go.Proofs.Ytjdbmmilcihpoaa
set_option linter.unusedSimpArgs false
set_option linter.unusedVariables false
set_option maxHeartbeats 0
set_option maxRecDepth 100000
noncomputable def r24.v (w : WD) : Int := (bif decide ((↑w.n : Int) > 512) then 7 else (bif r48.v w.nm then (bif r49a.v w.n w.g then 4 else (bif r51.v w.len 1 1000000 then (bif r51.v w.lap 0 1000000 then (bif r51.v w.jl 0 1000 then (bif r51.v w.jh 0 1000 then (bif r49b.v w.n w.g then 6 else (bif decide (w.jl > w.jh) then 1 else (match L24a.run w 1 with | .e0 => 5 | .e1 => (bif r54.v (nC w) (cC w) then 9 else (bif r56.v w (nC w) (cC w) then (bif r57.v (nC w) (cC w) then 11 else (bif r58.v w (nC w) (cC w) then 0 else 10)) else 10)) ))) else 6) else 6) else 6) else 6)) else 4))
noncomputable abbrev r24.h0 (w : WD) : AHeap := ([AObj.var (WD.av w)])
theorem r24 (w : WD) (hn : w.n ≤ 10000) (hnm : w.nm.size ≤ 9223372036854775807) (hg : ∀ (i : Nat), (w.g i).nm.size ≤ 9223372036854775807) (h : AHeap) : Ret Try.prog 24 ([w.av]) h (iv (r24.v w)) h := by
 cases h1 : decide ((↑w.n : Int) > 512) with
 | true =>
  have h1p := of_decide_eq_true h1
  exact Ret.of_run1 mix [(iv (r24.v w))] Try.func24 rfl [.b true] (by simp) (by simp) (kmp (by kernel_rfl) (Ai h1 (Ai (show (iv 7) = ((iv (r24.v w))) by simp only [r24.v, h1, cond_true, cond_false]) trivial))) h
 | false =>
  have h1p := of_decide_eq_false h1
  have o0 : w.nm.size ≤ (9223372036854775807 : Nat) := by assumption
  cases h2 : r48.v w.nm with
  | true =>
   have o1 : w.n ≤ (9223372036854775807 : Nat) := by omega
   have o2 : ∀ (i : Nat), (w.g i).nm.size ≤ (9223372036854775807 : Nat) := by assumption
   cases h3 : r49a.v w.n w.g with
   | true =>
    exact Ret.of_run1 mix [(iv (r24.v w))] Try.func24 rfl [.b false, .ret (AV.bool (r48.v w.nm)) (r24.h0 w), .b false, .b false, .b false, .ret (AV.bool (r49a.v w.n w.g)) (r24.h0 w), .b false, .b true] (by simp) (by simp) (kmp (by kernel_rfl) (Ai h1 (Ai (r48 (w.nm) o0 (r24.h0 w)) (Ai (show (bnot (r48.v w.nm)) = false by rw [h2]; try rfl) (Ai (show (bnot (r48.v w.nm)) = false by rw [h2]; try rfl) (Ai (show (bnot (r48.v w.nm)) = false by rw [h2]; try rfl) (Ai (r49a (w.n) (w.g) o1 o2 (r24.h0 w)) (Ai (show (bnot (r48.v w.nm)) = false by rw [h2]; try rfl) (Ai h3 (Ai (show (iv 4) = ((iv (r24.v w))) by simp only [r24.v, h1, h2, h3, cond_true, cond_false]) trivial)))))))))) h
   | false =>
    cases h4 : r51.v w.len 1 1000000 with
    | true =>
     cases h5 : r51.v w.lap 0 1000000 with
     | true =>
      cases h6 : r51.v w.jl 0 1000 with
      | true =>
       cases h7 : r51.v w.jh 0 1000 with
       | true =>
        cases h8 : r49b.v w.n w.g with
        | true =>
         exact Ret.of_run1 mix [(iv (r24.v w))] Try.func24 rfl [.b false, .ret (AV.bool (r48.v w.nm)) (r24.h0 w), .b false, .b false, .b false, .ret (AV.bool (r49a.v w.n w.g)) (r24.h0 w), .b false, .b false, .ret (AV.bool (r51.v w.len 1 1000000)) (r24.h0 w), .b false, .b false, .b false, .ret (AV.bool (r51.v w.lap 0 1000000)) (r24.h0 w), .b false, .b false, .b false, .b false, .b false, .b false, .ret (AV.bool (r51.v w.jl 0 1000)) (r24.h0 w), .b false, .b false, .b false, .b false, .b false, .b false, .ret (AV.bool (r51.v w.jh 0 1000)) (r24.h0 w), .b false, .b false, .b false, .b false, .b false, .ret (AV.bool (r49b.v w.n w.g)) (r24.h0 w), .b false, .b true] (by simp) (by simp) (kmp (by kernel_rfl) (Ai h1 (Ai (r48 (w.nm) o0 (r24.h0 w)) (Ai (show (bnot (r48.v w.nm)) = false by rw [h2]; try rfl) (Ai (show (bnot (r48.v w.nm)) = false by rw [h2]; try rfl) (Ai (show (bnot (r48.v w.nm)) = false by rw [h2]; try rfl) (Ai (r49a (w.n) (w.g) o1 o2 (r24.h0 w)) (Ai (show (bnot (r48.v w.nm)) = false by rw [h2]; try rfl) (Ai h3 (Ai (r51 (w.len) (1) (1000000) (r24.h0 w)) (Ai (show (bnot (r51.v w.len 1 1000000)) = false by rw [h4]; try rfl) (Ai (show (bnot (r51.v w.len 1 1000000)) = false by rw [h4]; try rfl) (Ai (show (bnot (r51.v w.len 1 1000000)) = false by rw [h4]; try rfl) (Ai (r51 (w.lap) (0) (1000000) (r24.h0 w)) (Ai (show (bnot (r51.v w.len 1 1000000)) = false by rw [h4]; try rfl) (Ai (show (bnot (r51.v w.len 1 1000000)) = false by rw [h4]; try rfl) (Ai (show (bnot (r51.v w.lap 0 1000000)) = false by rw [h5]; try rfl) (Ai (show (bnot (r51.v w.lap 0 1000000)) = false by rw [h5]; try rfl) (Ai (show (bnot (r51.v w.lap 0 1000000)) = false by rw [h5]; try rfl) (Ai (show (bnot (r51.v w.lap 0 1000000)) = false by rw [h5]; try rfl) (Ai (r51 (w.jl) (0) (1000) (r24.h0 w)) (Ai (show (bnot (r51.v w.lap 0 1000000)) = false by rw [h5]; try rfl) (Ai (show (bnot (r51.v w.lap 0 1000000)) = false by rw [h5]; try rfl) (Ai (show (bnot (r51.v w.jl 0 1000)) = false by rw [h6]; try rfl) (Ai (show (bnot (r51.v w.jl 0 1000)) = false by rw [h6]; try rfl) (Ai (show (bnot (r51.v w.jl 0 1000)) = false by rw [h6]; try rfl) (Ai (show (bnot (r51.v w.jl 0 1000)) = false by rw [h6]; try rfl) (Ai (r51 (w.jh) (0) (1000) (r24.h0 w)) (Ai (show (bnot (r51.v w.jl 0 1000)) = false by rw [h6]; try rfl) (Ai (show (bnot (r51.v w.jl 0 1000)) = false by rw [h6]; try rfl) (Ai (show (bnot (r51.v w.jh 0 1000)) = false by rw [h7]; try rfl) (Ai (show (bnot (r51.v w.jh 0 1000)) = false by rw [h7]; try rfl) (Ai (show (bnot (r51.v w.jh 0 1000)) = false by rw [h7]; try rfl) (Ai (r49b (w.n) (w.g) o1 (r24.h0 w)) (Ai (show (bnot (r51.v w.jh 0 1000)) = false by rw [h7]; try rfl) (Ai h8 (Ai (show (iv 6) = ((iv (r24.v w))) by simp only [r24.v, h1, h2, h3, h4, h5, h6, h7, h8, cond_true, cond_false]) trivial))))))))))))))))))))))))))))))))))))) h
        | false =>
         cases h9 : decide (w.jl > w.jh) with
         | true =>
          have h9p := of_decide_eq_true h9
          exact Ret.of_run1 mix [(iv (r24.v w))] Try.func24 rfl [.b false, .ret (AV.bool (r48.v w.nm)) (r24.h0 w), .b false, .b false, .b false, .ret (AV.bool (r49a.v w.n w.g)) (r24.h0 w), .b false, .b false, .ret (AV.bool (r51.v w.len 1 1000000)) (r24.h0 w), .b false, .b false, .b false, .ret (AV.bool (r51.v w.lap 0 1000000)) (r24.h0 w), .b false, .b false, .b false, .b false, .b false, .b false, .ret (AV.bool (r51.v w.jl 0 1000)) (r24.h0 w), .b false, .b false, .b false, .b false, .b false, .b false, .ret (AV.bool (r51.v w.jh 0 1000)) (r24.h0 w), .b false, .b false, .b false, .b false, .b false, .ret (AV.bool (r49b.v w.n w.g)) (r24.h0 w), .b false, .b false, .b true] (by simp) (by simp) (kmp (by kernel_rfl) (Ai h1 (Ai (r48 (w.nm) o0 (r24.h0 w)) (Ai (show (bnot (r48.v w.nm)) = false by rw [h2]; try rfl) (Ai (show (bnot (r48.v w.nm)) = false by rw [h2]; try rfl) (Ai (show (bnot (r48.v w.nm)) = false by rw [h2]; try rfl) (Ai (r49a (w.n) (w.g) o1 o2 (r24.h0 w)) (Ai (show (bnot (r48.v w.nm)) = false by rw [h2]; try rfl) (Ai h3 (Ai (r51 (w.len) (1) (1000000) (r24.h0 w)) (Ai (show (bnot (r51.v w.len 1 1000000)) = false by rw [h4]; try rfl) (Ai (show (bnot (r51.v w.len 1 1000000)) = false by rw [h4]; try rfl) (Ai (show (bnot (r51.v w.len 1 1000000)) = false by rw [h4]; try rfl) (Ai (r51 (w.lap) (0) (1000000) (r24.h0 w)) (Ai (show (bnot (r51.v w.len 1 1000000)) = false by rw [h4]; try rfl) (Ai (show (bnot (r51.v w.len 1 1000000)) = false by rw [h4]; try rfl) (Ai (show (bnot (r51.v w.lap 0 1000000)) = false by rw [h5]; try rfl) (Ai (show (bnot (r51.v w.lap 0 1000000)) = false by rw [h5]; try rfl) (Ai (show (bnot (r51.v w.lap 0 1000000)) = false by rw [h5]; try rfl) (Ai (show (bnot (r51.v w.lap 0 1000000)) = false by rw [h5]; try rfl) (Ai (r51 (w.jl) (0) (1000) (r24.h0 w)) (Ai (show (bnot (r51.v w.lap 0 1000000)) = false by rw [h5]; try rfl) (Ai (show (bnot (r51.v w.lap 0 1000000)) = false by rw [h5]; try rfl) (Ai (show (bnot (r51.v w.jl 0 1000)) = false by rw [h6]; try rfl) (Ai (show (bnot (r51.v w.jl 0 1000)) = false by rw [h6]; try rfl) (Ai (show (bnot (r51.v w.jl 0 1000)) = false by rw [h6]; try rfl) (Ai (show (bnot (r51.v w.jl 0 1000)) = false by rw [h6]; try rfl) (Ai (r51 (w.jh) (0) (1000) (r24.h0 w)) (Ai (show (bnot (r51.v w.jl 0 1000)) = false by rw [h6]; try rfl) (Ai (show (bnot (r51.v w.jl 0 1000)) = false by rw [h6]; try rfl) (Ai (show (bnot (r51.v w.jh 0 1000)) = false by rw [h7]; try rfl) (Ai (show (bnot (r51.v w.jh 0 1000)) = false by rw [h7]; try rfl) (Ai (show (bnot (r51.v w.jh 0 1000)) = false by rw [h7]; try rfl) (Ai (r49b (w.n) (w.g) o1 (r24.h0 w)) (Ai (show (bnot (r51.v w.jh 0 1000)) = false by rw [h7]; try rfl) (Ai h8 (Ai h9 (Ai (show (iv 1) = ((iv (r24.v w))) by simp only [r24.v, h1, h2, h3, h4, h5, h6, h7, h8, h9, cond_true, cond_false]) trivial)))))))))))))))))))))))))))))))))))))) h
         | false =>
          have h9p := of_decide_eq_false h9
          have o3 : w.n ≤ (10000 : Nat) := by assumption
          have o4 : (1 : Int) ≤ (↑w.n : Int) ∨ (1 : Int) ≤ (1 : Int) := by omega
          cases h10 : L24a.run w 1 with
          | e0 =>
           exact Ret.of_run1 mix [(iv (r24.v w))] Try.func24 rfl [.b false, .ret (AV.bool (r48.v w.nm)) (r24.h0 w), .b false, .b false, .b false, .ret (AV.bool (r49a.v w.n w.g)) (r24.h0 w), .b false, .b false, .ret (AV.bool (r51.v w.len 1 1000000)) (r24.h0 w), .b false, .b false, .b false, .ret (AV.bool (r51.v w.lap 0 1000000)) (r24.h0 w), .b false, .b false, .b false, .b false, .b false, .b false, .ret (AV.bool (r51.v w.jl 0 1000)) (r24.h0 w), .b false, .b false, .b false, .b false, .b false, .b false, .ret (AV.bool (r51.v w.jh 0 1000)) (r24.h0 w), .b false, .b false, .b false, .b false, .b false, .ret (AV.bool (r49b.v w.n w.g)) (r24.h0 w), .b false, .b false, .b false, .loop (others 97 [1, 3]) (Exit.ret) (L24a.X w L24a.O.e0) (L24a.XH w L24a.O.e0)] (by simp) (by simp) (kmp (by kernel_rfl) (Ai h1 (Ai (r48 (w.nm) o0 (r24.h0 w)) (Ai (show (bnot (r48.v w.nm)) = false by rw [h2]; try rfl) (Ai (show (bnot (r48.v w.nm)) = false by rw [h2]; try rfl) (Ai (show (bnot (r48.v w.nm)) = false by rw [h2]; try rfl) (Ai (r49a (w.n) (w.g) o1 o2 (r24.h0 w)) (Ai (show (bnot (r48.v w.nm)) = false by rw [h2]; try rfl) (Ai h3 (Ai (r51 (w.len) (1) (1000000) (r24.h0 w)) (Ai (show (bnot (r51.v w.len 1 1000000)) = false by rw [h4]; try rfl) (Ai (show (bnot (r51.v w.len 1 1000000)) = false by rw [h4]; try rfl) (Ai (show (bnot (r51.v w.len 1 1000000)) = false by rw [h4]; try rfl) (Ai (r51 (w.lap) (0) (1000000) (r24.h0 w)) (Ai (show (bnot (r51.v w.len 1 1000000)) = false by rw [h4]; try rfl) (Ai (show (bnot (r51.v w.len 1 1000000)) = false by rw [h4]; try rfl) (Ai (show (bnot (r51.v w.lap 0 1000000)) = false by rw [h5]; try rfl) (Ai (show (bnot (r51.v w.lap 0 1000000)) = false by rw [h5]; try rfl) (Ai (show (bnot (r51.v w.lap 0 1000000)) = false by rw [h5]; try rfl) (Ai (show (bnot (r51.v w.lap 0 1000000)) = false by rw [h5]; try rfl) (Ai (r51 (w.jl) (0) (1000) (r24.h0 w)) (Ai (show (bnot (r51.v w.lap 0 1000000)) = false by rw [h5]; try rfl) (Ai (show (bnot (r51.v w.lap 0 1000000)) = false by rw [h5]; try rfl) (Ai (show (bnot (r51.v w.jl 0 1000)) = false by rw [h6]; try rfl) (Ai (show (bnot (r51.v w.jl 0 1000)) = false by rw [h6]; try rfl) (Ai (show (bnot (r51.v w.jl 0 1000)) = false by rw [h6]; try rfl) (Ai (show (bnot (r51.v w.jl 0 1000)) = false by rw [h6]; try rfl) (Ai (r51 (w.jh) (0) (1000) (r24.h0 w)) (Ai (show (bnot (r51.v w.jl 0 1000)) = false by rw [h6]; try rfl) (Ai (show (bnot (r51.v w.jl 0 1000)) = false by rw [h6]; try rfl) (Ai (show (bnot (r51.v w.jh 0 1000)) = false by rw [h7]; try rfl) (Ai (show (bnot (r51.v w.jh 0 1000)) = false by rw [h7]; try rfl) (Ai (show (bnot (r51.v w.jh 0 1000)) = false by rw [h7]; try rfl) (Ai (r49b (w.n) (w.g) o1 (r24.h0 w)) (Ai (show (bnot (r51.v w.jh 0 1000)) = false by rw [h7]; try rfl) (Ai h8 (Ai h9 (Ai (L24a.e0 (w) o3 (1) (Ai (show (1 : Int) ≤ (1 : Int) by decide) o4) h10) (Ai (show (iv 5) = ((iv (r24.v w))) by simp only [r24.v, h1, h2, h3, h4, h5, h6, h7, h8, h9, h10, cond_true, cond_false]) trivial))))))))))))))))))))))))))))))))))))))) h
          | e1 =>
           have o5 : ∀ (i : Nat), i < w.n → (0 : Int) ≤ (w.g i).co ∧ (w.g i).co ≤ (99 : Int) := by first | assumption | omega | (apply co_of <;> first | assumption | omega) | (exact hg _) | (exact hg _ (by omega)) | (simp_all; done)
           have o6 : ∀ (i j : Nat), i < w.n → j < w.n → (w.g i).nm.toList = (w.g j).nm.toList → i = j := by first | assumption | omega | (apply nm_of <;> first | assumption | omega) | (exact hg _) | (exact hg _ (by omega)) | (simp_all; done)
           have o7 : nC w ≤ (1000 : Nat) := by first | assumption | omega | (apply nC_le <;> first | assumption | omega) | (exact hg _) | (exact hg _ (by omega)) | (simp_all; done)
           cases h11 : r54.v (nC w) (cC w) with
           | true =>
            exact Ret.of_run1 mix [(iv (r24.v w))] Try.func24 rfl [.b false, .ret (AV.bool (r48.v w.nm)) (r24.h0 w), .b false, .b false, .b false, .ret (AV.bool (r49a.v w.n w.g)) (r24.h0 w), .b false, .b false, .ret (AV.bool (r51.v w.len 1 1000000)) (r24.h0 w), .b false, .b false, .b false, .ret (AV.bool (r51.v w.lap 0 1000000)) (r24.h0 w), .b false, .b false, .b false, .b false, .b false, .b false, .ret (AV.bool (r51.v w.jl 0 1000)) (r24.h0 w), .b false, .b false, .b false, .b false, .b false, .b false, .ret (AV.bool (r51.v w.jh 0 1000)) (r24.h0 w), .b false, .b false, .b false, .b false, .b false, .ret (AV.bool (r49b.v w.n w.g)) (r24.h0 w), .b false, .b false, .b false, .loop (others 97 [1, 3]) (Exit.exit 1) (L24a.X w L24a.O.e1) (L24a.XH w L24a.O.e1), .ret (AV.sl 1 (nC w) fun (j : Nat) => AV.sl 14 (cC w j).length fun (q : Nat) => (SD.av ((cC w j).getD q default))) (r24.h0 w), .ret (AV.bool (r54.v (nC w) (cC w))) (r24.h0 w), .b true] (by simp) (by simp) (kmp (by kernel_rfl) (Ai h1 (Ai (r48 (w.nm) o0 (r24.h0 w)) (Ai (show (bnot (r48.v w.nm)) = false by rw [h2]; try rfl) (Ai (show (bnot (r48.v w.nm)) = false by rw [h2]; try rfl) (Ai (show (bnot (r48.v w.nm)) = false by rw [h2]; try rfl) (Ai (r49a (w.n) (w.g) o1 o2 (r24.h0 w)) (Ai (show (bnot (r48.v w.nm)) = false by rw [h2]; try rfl) (Ai h3 (Ai (r51 (w.len) (1) (1000000) (r24.h0 w)) (Ai (show (bnot (r51.v w.len 1 1000000)) = false by rw [h4]; try rfl) (Ai (show (bnot (r51.v w.len 1 1000000)) = false by rw [h4]; try rfl) (Ai (show (bnot (r51.v w.len 1 1000000)) = false by rw [h4]; try rfl) (Ai (r51 (w.lap) (0) (1000000) (r24.h0 w)) (Ai (show (bnot (r51.v w.len 1 1000000)) = false by rw [h4]; try rfl) (Ai (show (bnot (r51.v w.len 1 1000000)) = false by rw [h4]; try rfl) (Ai (show (bnot (r51.v w.lap 0 1000000)) = false by rw [h5]; try rfl) (Ai (show (bnot (r51.v w.lap 0 1000000)) = false by rw [h5]; try rfl) (Ai (show (bnot (r51.v w.lap 0 1000000)) = false by rw [h5]; try rfl) (Ai (show (bnot (r51.v w.lap 0 1000000)) = false by rw [h5]; try rfl) (Ai (r51 (w.jl) (0) (1000) (r24.h0 w)) (Ai (show (bnot (r51.v w.lap 0 1000000)) = false by rw [h5]; try rfl) (Ai (show (bnot (r51.v w.lap 0 1000000)) = false by rw [h5]; try rfl) (Ai (show (bnot (r51.v w.jl 0 1000)) = false by rw [h6]; try rfl) (Ai (show (bnot (r51.v w.jl 0 1000)) = false by rw [h6]; try rfl) (Ai (show (bnot (r51.v w.jl 0 1000)) = false by rw [h6]; try rfl) (Ai (show (bnot (r51.v w.jl 0 1000)) = false by rw [h6]; try rfl) (Ai (r51 (w.jh) (0) (1000) (r24.h0 w)) (Ai (show (bnot (r51.v w.jl 0 1000)) = false by rw [h6]; try rfl) (Ai (show (bnot (r51.v w.jl 0 1000)) = false by rw [h6]; try rfl) (Ai (show (bnot (r51.v w.jh 0 1000)) = false by rw [h7]; try rfl) (Ai (show (bnot (r51.v w.jh 0 1000)) = false by rw [h7]; try rfl) (Ai (show (bnot (r51.v w.jh 0 1000)) = false by rw [h7]; try rfl) (Ai (r49b (w.n) (w.g) o1 (r24.h0 w)) (Ai (show (bnot (r51.v w.jh 0 1000)) = false by rw [h7]; try rfl) (Ai h8 (Ai h9 (Ai (L24a.e1 (w) o3 (1) (Ai (show (1 : Int) ≤ (1 : Int) by decide) o4) h10) (Ai (r44 (w) o3 o5 o6 (r24.h0 w)) (Ai (r54 (nC w) o7 (cC w) (r24.h0 w)) (Ai h11 (Ai (show (iv 9) = ((iv (r24.v w))) by simp only [r24.v, h1, h2, h3, h4, h5, h6, h7, h8, h9, h11, h10, cond_true, cond_false]) trivial)))))))))))))))))))))))))))))))))))))))))) h
           | false =>
            have o8 : ∀ (k : Nat), (cC w k).length ≤ (10000 : Nat) := by first | assumption | omega | (simp only [List.length_append, List.length_cons, List.length_nil, List.length_map]; omega) | (apply cC_len <;> first | assumption | omega) | (exact hg _) | (exact hg _ (by omega)) | (simp_all; done)
            have o9 : ∀ (k : Nat), k < nC w → (0 : Nat) < (cC w k).length := by first | assumption | omega | (simp only [List.length_append, List.length_cons, List.length_nil, List.length_map]; omega) | (apply cC_pos <;> first | assumption | omega) | (exact hg _) | (exact hg _ (by omega)) | (simp_all; done)
            cases h12 : r56.v w (nC w) (cC w) with
            | true =>
             cases h13 : r57.v (nC w) (cC w) with
             | true =>
              exact Ret.of_run1 mix [(iv (r24.v w))] Try.func24 rfl [.b false, .ret (AV.bool (r48.v w.nm)) (r24.h0 w), .b false, .b false, .b false, .ret (AV.bool (r49a.v w.n w.g)) (r24.h0 w), .b false, .b false, .ret (AV.bool (r51.v w.len 1 1000000)) (r24.h0 w), .b false, .b false, .b false, .ret (AV.bool (r51.v w.lap 0 1000000)) (r24.h0 w), .b false, .b false, .b false, .b false, .b false, .b false, .ret (AV.bool (r51.v w.jl 0 1000)) (r24.h0 w), .b false, .b false, .b false, .b false, .b false, .b false, .ret (AV.bool (r51.v w.jh 0 1000)) (r24.h0 w), .b false, .b false, .b false, .b false, .b false, .ret (AV.bool (r49b.v w.n w.g)) (r24.h0 w), .b false, .b false, .b false, .loop (others 97 [1, 3]) (Exit.exit 1) (L24a.X w L24a.O.e1) (L24a.XH w L24a.O.e1), .ret (AV.sl 1 (nC w) fun (j : Nat) => AV.sl 14 (cC w j).length fun (q : Nat) => (SD.av ((cC w j).getD q default))) (r24.h0 w), .ret (AV.bool (r54.v (nC w) (cC w))) (r24.h0 w), .b false, .ret (AV.bool (r56.v w (nC w) (cC w))) (r24.h0 w), .b false, .ret (AV.bool (r57.v (nC w) (cC w))) (r24.h0 w), .b true] (by simp) (by simp) (kmp (by kernel_rfl) (Ai h1 (Ai (r48 (w.nm) o0 (r24.h0 w)) (Ai (show (bnot (r48.v w.nm)) = false by rw [h2]; try rfl) (Ai (show (bnot (r48.v w.nm)) = false by rw [h2]; try rfl) (Ai (show (bnot (r48.v w.nm)) = false by rw [h2]; try rfl) (Ai (r49a (w.n) (w.g) o1 o2 (r24.h0 w)) (Ai (show (bnot (r48.v w.nm)) = false by rw [h2]; try rfl) (Ai h3 (Ai (r51 (w.len) (1) (1000000) (r24.h0 w)) (Ai (show (bnot (r51.v w.len 1 1000000)) = false by rw [h4]; try rfl) (Ai (show (bnot (r51.v w.len 1 1000000)) = false by rw [h4]; try rfl) (Ai (show (bnot (r51.v w.len 1 1000000)) = false by rw [h4]; try rfl) (Ai (r51 (w.lap) (0) (1000000) (r24.h0 w)) (Ai (show (bnot (r51.v w.len 1 1000000)) = false by rw [h4]; try rfl) (Ai (show (bnot (r51.v w.len 1 1000000)) = false by rw [h4]; try rfl) (Ai (show (bnot (r51.v w.lap 0 1000000)) = false by rw [h5]; try rfl) (Ai (show (bnot (r51.v w.lap 0 1000000)) = false by rw [h5]; try rfl) (Ai (show (bnot (r51.v w.lap 0 1000000)) = false by rw [h5]; try rfl) (Ai (show (bnot (r51.v w.lap 0 1000000)) = false by rw [h5]; try rfl) (Ai (r51 (w.jl) (0) (1000) (r24.h0 w)) (Ai (show (bnot (r51.v w.lap 0 1000000)) = false by rw [h5]; try rfl) (Ai (show (bnot (r51.v w.lap 0 1000000)) = false by rw [h5]; try rfl) (Ai (show (bnot (r51.v w.jl 0 1000)) = false by rw [h6]; try rfl) (Ai (show (bnot (r51.v w.jl 0 1000)) = false by rw [h6]; try rfl) (Ai (show (bnot (r51.v w.jl 0 1000)) = false by rw [h6]; try rfl) (Ai (show (bnot (r51.v w.jl 0 1000)) = false by rw [h6]; try rfl) (Ai (r51 (w.jh) (0) (1000) (r24.h0 w)) (Ai (show (bnot (r51.v w.jl 0 1000)) = false by rw [h6]; try rfl) (Ai (show (bnot (r51.v w.jl 0 1000)) = false by rw [h6]; try rfl) (Ai (show (bnot (r51.v w.jh 0 1000)) = false by rw [h7]; try rfl) (Ai (show (bnot (r51.v w.jh 0 1000)) = false by rw [h7]; try rfl) (Ai (show (bnot (r51.v w.jh 0 1000)) = false by rw [h7]; try rfl) (Ai (r49b (w.n) (w.g) o1 (r24.h0 w)) (Ai (show (bnot (r51.v w.jh 0 1000)) = false by rw [h7]; try rfl) (Ai h8 (Ai h9 (Ai (L24a.e1 (w) o3 (1) (Ai (show (1 : Int) ≤ (1 : Int) by decide) o4) h10) (Ai (r44 (w) o3 o5 o6 (r24.h0 w)) (Ai (r54 (nC w) o7 (cC w) (r24.h0 w)) (Ai h11 (Ai (r56 (w) (nC w) o7 (cC w) o8 o9 (r24.h0 w)) (Ai (show (bnot (r56.v w (nC w) (cC w))) = false by rw [h12]; try rfl) (Ai (r57 (nC w) o7 (cC w) o8 (r24.h0 w)) (Ai h13 (Ai (show (iv 11) = ((iv (r24.v w))) by simp only [r24.v, h1, h2, h3, h4, h5, h6, h7, h8, h9, h11, h12, h13, h10, cond_true, cond_false]) trivial)))))))))))))))))))))))))))))))))))))))))))))) h
             | false =>
              cases h14 : r58.v w (nC w) (cC w) with
              | true =>
               exact Ret.of_run1 mix [(iv (r24.v w))] Try.func24 rfl [.b false, .ret (AV.bool (r48.v w.nm)) (r24.h0 w), .b false, .b false, .b false, .ret (AV.bool (r49a.v w.n w.g)) (r24.h0 w), .b false, .b false, .ret (AV.bool (r51.v w.len 1 1000000)) (r24.h0 w), .b false, .b false, .b false, .ret (AV.bool (r51.v w.lap 0 1000000)) (r24.h0 w), .b false, .b false, .b false, .b false, .b false, .b false, .ret (AV.bool (r51.v w.jl 0 1000)) (r24.h0 w), .b false, .b false, .b false, .b false, .b false, .b false, .ret (AV.bool (r51.v w.jh 0 1000)) (r24.h0 w), .b false, .b false, .b false, .b false, .b false, .ret (AV.bool (r49b.v w.n w.g)) (r24.h0 w), .b false, .b false, .b false, .loop (others 97 [1, 3]) (Exit.exit 1) (L24a.X w L24a.O.e1) (L24a.XH w L24a.O.e1), .ret (AV.sl 1 (nC w) fun (j : Nat) => AV.sl 14 (cC w j).length fun (q : Nat) => (SD.av ((cC w j).getD q default))) (r24.h0 w), .ret (AV.bool (r54.v (nC w) (cC w))) (r24.h0 w), .b false, .ret (AV.bool (r56.v w (nC w) (cC w))) (r24.h0 w), .b false, .ret (AV.bool (r57.v (nC w) (cC w))) (r24.h0 w), .b false, .ret (AV.bool (r58.v w (nC w) (cC w))) (r24.h0 w), .b false] (by simp) (by simp) (kmp (by kernel_rfl) (Ai h1 (Ai (r48 (w.nm) o0 (r24.h0 w)) (Ai (show (bnot (r48.v w.nm)) = false by rw [h2]; try rfl) (Ai (show (bnot (r48.v w.nm)) = false by rw [h2]; try rfl) (Ai (show (bnot (r48.v w.nm)) = false by rw [h2]; try rfl) (Ai (r49a (w.n) (w.g) o1 o2 (r24.h0 w)) (Ai (show (bnot (r48.v w.nm)) = false by rw [h2]; try rfl) (Ai h3 (Ai (r51 (w.len) (1) (1000000) (r24.h0 w)) (Ai (show (bnot (r51.v w.len 1 1000000)) = false by rw [h4]; try rfl) (Ai (show (bnot (r51.v w.len 1 1000000)) = false by rw [h4]; try rfl) (Ai (show (bnot (r51.v w.len 1 1000000)) = false by rw [h4]; try rfl) (Ai (r51 (w.lap) (0) (1000000) (r24.h0 w)) (Ai (show (bnot (r51.v w.len 1 1000000)) = false by rw [h4]; try rfl) (Ai (show (bnot (r51.v w.len 1 1000000)) = false by rw [h4]; try rfl) (Ai (show (bnot (r51.v w.lap 0 1000000)) = false by rw [h5]; try rfl) (Ai (show (bnot (r51.v w.lap 0 1000000)) = false by rw [h5]; try rfl) (Ai (show (bnot (r51.v w.lap 0 1000000)) = false by rw [h5]; try rfl) (Ai (show (bnot (r51.v w.lap 0 1000000)) = false by rw [h5]; try rfl) (Ai (r51 (w.jl) (0) (1000) (r24.h0 w)) (Ai (show (bnot (r51.v w.lap 0 1000000)) = false by rw [h5]; try rfl) (Ai (show (bnot (r51.v w.lap 0 1000000)) = false by rw [h5]; try rfl) (Ai (show (bnot (r51.v w.jl 0 1000)) = false by rw [h6]; try rfl) (Ai (show (bnot (r51.v w.jl 0 1000)) = false by rw [h6]; try rfl) (Ai (show (bnot (r51.v w.jl 0 1000)) = false by rw [h6]; try rfl) (Ai (show (bnot (r51.v w.jl 0 1000)) = false by rw [h6]; try rfl) (Ai (r51 (w.jh) (0) (1000) (r24.h0 w)) (Ai (show (bnot (r51.v w.jl 0 1000)) = false by rw [h6]; try rfl) (Ai (show (bnot (r51.v w.jl 0 1000)) = false by rw [h6]; try rfl) (Ai (show (bnot (r51.v w.jh 0 1000)) = false by rw [h7]; try rfl) (Ai (show (bnot (r51.v w.jh 0 1000)) = false by rw [h7]; try rfl) (Ai (show (bnot (r51.v w.jh 0 1000)) = false by rw [h7]; try rfl) (Ai (r49b (w.n) (w.g) o1 (r24.h0 w)) (Ai (show (bnot (r51.v w.jh 0 1000)) = false by rw [h7]; try rfl) (Ai h8 (Ai h9 (Ai (L24a.e1 (w) o3 (1) (Ai (show (1 : Int) ≤ (1 : Int) by decide) o4) h10) (Ai (r44 (w) o3 o5 o6 (r24.h0 w)) (Ai (r54 (nC w) o7 (cC w) (r24.h0 w)) (Ai h11 (Ai (r56 (w) (nC w) o7 (cC w) o8 o9 (r24.h0 w)) (Ai (show (bnot (r56.v w (nC w) (cC w))) = false by rw [h12]; try rfl) (Ai (r57 (nC w) o7 (cC w) o8 (r24.h0 w)) (Ai h13 (Ai (r58 (w) (nC w) o7 (cC w) o8 o9 (r24.h0 w)) (Ai (show (bnot (r58.v w (nC w) (cC w))) = false by rw [h14]; try rfl) (Ai (show (iv 0) = ((iv (r24.v w))) by simp only [r24.v, h1, h2, h3, h4, h5, h6, h7, h8, h9, h11, h12, h13, h14, h10, cond_true, cond_false]) trivial)))))))))))))))))))))))))))))))))))))))))))))))) h
              | false =>
               exact Ret.of_run1 mix [(iv (r24.v w))] Try.func24 rfl [.b false, .ret (AV.bool (r48.v w.nm)) (r24.h0 w), .b false, .b false, .b false, .ret (AV.bool (r49a.v w.n w.g)) (r24.h0 w), .b false, .b false, .ret (AV.bool (r51.v w.len 1 1000000)) (r24.h0 w), .b false, .b false, .b false, .ret (AV.bool (r51.v w.lap 0 1000000)) (r24.h0 w), .b false, .b false, .b false, .b false, .b false, .b false, .ret (AV.bool (r51.v w.jl 0 1000)) (r24.h0 w), .b false, .b false, .b false, .b false, .b false, .b false, .ret (AV.bool (r51.v w.jh 0 1000)) (r24.h0 w), .b false, .b false, .b false, .b false, .b false, .ret (AV.bool (r49b.v w.n w.g)) (r24.h0 w), .b false, .b false, .b false, .loop (others 97 [1, 3]) (Exit.exit 1) (L24a.X w L24a.O.e1) (L24a.XH w L24a.O.e1), .ret (AV.sl 1 (nC w) fun (j : Nat) => AV.sl 14 (cC w j).length fun (q : Nat) => (SD.av ((cC w j).getD q default))) (r24.h0 w), .ret (AV.bool (r54.v (nC w) (cC w))) (r24.h0 w), .b false, .ret (AV.bool (r56.v w (nC w) (cC w))) (r24.h0 w), .b false, .ret (AV.bool (r57.v (nC w) (cC w))) (r24.h0 w), .b false, .ret (AV.bool (r58.v w (nC w) (cC w))) (r24.h0 w), .b true] (by simp) (by simp) (kmp (by kernel_rfl) (Ai h1 (Ai (r48 (w.nm) o0 (r24.h0 w)) (Ai (show (bnot (r48.v w.nm)) = false by rw [h2]; try rfl) (Ai (show (bnot (r48.v w.nm)) = false by rw [h2]; try rfl) (Ai (show (bnot (r48.v w.nm)) = false by rw [h2]; try rfl) (Ai (r49a (w.n) (w.g) o1 o2 (r24.h0 w)) (Ai (show (bnot (r48.v w.nm)) = false by rw [h2]; try rfl) (Ai h3 (Ai (r51 (w.len) (1) (1000000) (r24.h0 w)) (Ai (show (bnot (r51.v w.len 1 1000000)) = false by rw [h4]; try rfl) (Ai (show (bnot (r51.v w.len 1 1000000)) = false by rw [h4]; try rfl) (Ai (show (bnot (r51.v w.len 1 1000000)) = false by rw [h4]; try rfl) (Ai (r51 (w.lap) (0) (1000000) (r24.h0 w)) (Ai (show (bnot (r51.v w.len 1 1000000)) = false by rw [h4]; try rfl) (Ai (show (bnot (r51.v w.len 1 1000000)) = false by rw [h4]; try rfl) (Ai (show (bnot (r51.v w.lap 0 1000000)) = false by rw [h5]; try rfl) (Ai (show (bnot (r51.v w.lap 0 1000000)) = false by rw [h5]; try rfl) (Ai (show (bnot (r51.v w.lap 0 1000000)) = false by rw [h5]; try rfl) (Ai (show (bnot (r51.v w.lap 0 1000000)) = false by rw [h5]; try rfl) (Ai (r51 (w.jl) (0) (1000) (r24.h0 w)) (Ai (show (bnot (r51.v w.lap 0 1000000)) = false by rw [h5]; try rfl) (Ai (show (bnot (r51.v w.lap 0 1000000)) = false by rw [h5]; try rfl) (Ai (show (bnot (r51.v w.jl 0 1000)) = false by rw [h6]; try rfl) (Ai (show (bnot (r51.v w.jl 0 1000)) = false by rw [h6]; try rfl) (Ai (show (bnot (r51.v w.jl 0 1000)) = false by rw [h6]; try rfl) (Ai (show (bnot (r51.v w.jl 0 1000)) = false by rw [h6]; try rfl) (Ai (r51 (w.jh) (0) (1000) (r24.h0 w)) (Ai (show (bnot (r51.v w.jl 0 1000)) = false by rw [h6]; try rfl) (Ai (show (bnot (r51.v w.jl 0 1000)) = false by rw [h6]; try rfl) (Ai (show (bnot (r51.v w.jh 0 1000)) = false by rw [h7]; try rfl) (Ai (show (bnot (r51.v w.jh 0 1000)) = false by rw [h7]; try rfl) (Ai (show (bnot (r51.v w.jh 0 1000)) = false by rw [h7]; try rfl) (Ai (r49b (w.n) (w.g) o1 (r24.h0 w)) (Ai (show (bnot (r51.v w.jh 0 1000)) = false by rw [h7]; try rfl) (Ai h8 (Ai h9 (Ai (L24a.e1 (w) o3 (1) (Ai (show (1 : Int) ≤ (1 : Int) by decide) o4) h10) (Ai (r44 (w) o3 o5 o6 (r24.h0 w)) (Ai (r54 (nC w) o7 (cC w) (r24.h0 w)) (Ai h11 (Ai (r56 (w) (nC w) o7 (cC w) o8 o9 (r24.h0 w)) (Ai (show (bnot (r56.v w (nC w) (cC w))) = false by rw [h12]; try rfl) (Ai (r57 (nC w) o7 (cC w) o8 (r24.h0 w)) (Ai h13 (Ai (r58 (w) (nC w) o7 (cC w) o8 o9 (r24.h0 w)) (Ai (show (bnot (r58.v w (nC w) (cC w))) = true by rw [h14]; try rfl) (Ai (show (iv 10) = ((iv (r24.v w))) by simp only [r24.v, h1, h2, h3, h4, h5, h6, h7, h8, h9, h11, h12, h13, h14, h10, cond_true, cond_false]) trivial)))))))))))))))))))))))))))))))))))))))))))))))) h
            | false =>
             exact Ret.of_run1 mix [(iv (r24.v w))] Try.func24 rfl [.b false, .ret (AV.bool (r48.v w.nm)) (r24.h0 w), .b false, .b false, .b false, .ret (AV.bool (r49a.v w.n w.g)) (r24.h0 w), .b false, .b false, .ret (AV.bool (r51.v w.len 1 1000000)) (r24.h0 w), .b false, .b false, .b false, .ret (AV.bool (r51.v w.lap 0 1000000)) (r24.h0 w), .b false, .b false, .b false, .b false, .b false, .b false, .ret (AV.bool (r51.v w.jl 0 1000)) (r24.h0 w), .b false, .b false, .b false, .b false, .b false, .b false, .ret (AV.bool (r51.v w.jh 0 1000)) (r24.h0 w), .b false, .b false, .b false, .b false, .b false, .ret (AV.bool (r49b.v w.n w.g)) (r24.h0 w), .b false, .b false, .b false, .loop (others 97 [1, 3]) (Exit.exit 1) (L24a.X w L24a.O.e1) (L24a.XH w L24a.O.e1), .ret (AV.sl 1 (nC w) fun (j : Nat) => AV.sl 14 (cC w j).length fun (q : Nat) => (SD.av ((cC w j).getD q default))) (r24.h0 w), .ret (AV.bool (r54.v (nC w) (cC w))) (r24.h0 w), .b false, .ret (AV.bool (r56.v w (nC w) (cC w))) (r24.h0 w), .b true] (by simp) (by simp) (kmp (by kernel_rfl) (Ai h1 (Ai (r48 (w.nm) o0 (r24.h0 w)) (Ai (show (bnot (r48.v w.nm)) = false by rw [h2]; try rfl) (Ai (show (bnot (r48.v w.nm)) = false by rw [h2]; try rfl) (Ai (show (bnot (r48.v w.nm)) = false by rw [h2]; try rfl) (Ai (r49a (w.n) (w.g) o1 o2 (r24.h0 w)) (Ai (show (bnot (r48.v w.nm)) = false by rw [h2]; try rfl) (Ai h3 (Ai (r51 (w.len) (1) (1000000) (r24.h0 w)) (Ai (show (bnot (r51.v w.len 1 1000000)) = false by rw [h4]; try rfl) (Ai (show (bnot (r51.v w.len 1 1000000)) = false by rw [h4]; try rfl) (Ai (show (bnot (r51.v w.len 1 1000000)) = false by rw [h4]; try rfl) (Ai (r51 (w.lap) (0) (1000000) (r24.h0 w)) (Ai (show (bnot (r51.v w.len 1 1000000)) = false by rw [h4]; try rfl) (Ai (show (bnot (r51.v w.len 1 1000000)) = false by rw [h4]; try rfl) (Ai (show (bnot (r51.v w.lap 0 1000000)) = false by rw [h5]; try rfl) (Ai (show (bnot (r51.v w.lap 0 1000000)) = false by rw [h5]; try rfl) (Ai (show (bnot (r51.v w.lap 0 1000000)) = false by rw [h5]; try rfl) (Ai (show (bnot (r51.v w.lap 0 1000000)) = false by rw [h5]; try rfl) (Ai (r51 (w.jl) (0) (1000) (r24.h0 w)) (Ai (show (bnot (r51.v w.lap 0 1000000)) = false by rw [h5]; try rfl) (Ai (show (bnot (r51.v w.lap 0 1000000)) = false by rw [h5]; try rfl) (Ai (show (bnot (r51.v w.jl 0 1000)) = false by rw [h6]; try rfl) (Ai (show (bnot (r51.v w.jl 0 1000)) = false by rw [h6]; try rfl) (Ai (show (bnot (r51.v w.jl 0 1000)) = false by rw [h6]; try rfl) (Ai (show (bnot (r51.v w.jl 0 1000)) = false by rw [h6]; try rfl) (Ai (r51 (w.jh) (0) (1000) (r24.h0 w)) (Ai (show (bnot (r51.v w.jl 0 1000)) = false by rw [h6]; try rfl) (Ai (show (bnot (r51.v w.jl 0 1000)) = false by rw [h6]; try rfl) (Ai (show (bnot (r51.v w.jh 0 1000)) = false by rw [h7]; try rfl) (Ai (show (bnot (r51.v w.jh 0 1000)) = false by rw [h7]; try rfl) (Ai (show (bnot (r51.v w.jh 0 1000)) = false by rw [h7]; try rfl) (Ai (r49b (w.n) (w.g) o1 (r24.h0 w)) (Ai (show (bnot (r51.v w.jh 0 1000)) = false by rw [h7]; try rfl) (Ai h8 (Ai h9 (Ai (L24a.e1 (w) o3 (1) (Ai (show (1 : Int) ≤ (1 : Int) by decide) o4) h10) (Ai (r44 (w) o3 o5 o6 (r24.h0 w)) (Ai (r54 (nC w) o7 (cC w) (r24.h0 w)) (Ai h11 (Ai (r56 (w) (nC w) o7 (cC w) o8 o9 (r24.h0 w)) (Ai (show (bnot (r56.v w (nC w) (cC w))) = true by rw [h12]; try rfl) (Ai (show (iv 10) = ((iv (r24.v w))) by simp only [r24.v, h1, h2, h3, h4, h5, h6, h7, h8, h9, h11, h12, h10, cond_true, cond_false]) trivial)))))))))))))))))))))))))))))))))))))))))))) h
       | false =>
        exact Ret.of_run1 mix [(iv (r24.v w))] Try.func24 rfl [.b false, .ret (AV.bool (r48.v w.nm)) (r24.h0 w), .b false, .b false, .b false, .ret (AV.bool (r49a.v w.n w.g)) (r24.h0 w), .b false, .b false, .ret (AV.bool (r51.v w.len 1 1000000)) (r24.h0 w), .b false, .b false, .b false, .ret (AV.bool (r51.v w.lap 0 1000000)) (r24.h0 w), .b false, .b false, .b false, .b false, .b false, .b false, .ret (AV.bool (r51.v w.jl 0 1000)) (r24.h0 w), .b false, .b false, .b false, .b false, .b false, .b false, .ret (AV.bool (r51.v w.jh 0 1000)) (r24.h0 w), .b false, .b false, .b true, .b true, .b true, .b true, .b true] (by simp) (by simp) (kmp (by kernel_rfl) (Ai h1 (Ai (r48 (w.nm) o0 (r24.h0 w)) (Ai (show (bnot (r48.v w.nm)) = false by rw [h2]; try rfl) (Ai (show (bnot (r48.v w.nm)) = false by rw [h2]; try rfl) (Ai (show (bnot (r48.v w.nm)) = false by rw [h2]; try rfl) (Ai (r49a (w.n) (w.g) o1 o2 (r24.h0 w)) (Ai (show (bnot (r48.v w.nm)) = false by rw [h2]; try rfl) (Ai h3 (Ai (r51 (w.len) (1) (1000000) (r24.h0 w)) (Ai (show (bnot (r51.v w.len 1 1000000)) = false by rw [h4]; try rfl) (Ai (show (bnot (r51.v w.len 1 1000000)) = false by rw [h4]; try rfl) (Ai (show (bnot (r51.v w.len 1 1000000)) = false by rw [h4]; try rfl) (Ai (r51 (w.lap) (0) (1000000) (r24.h0 w)) (Ai (show (bnot (r51.v w.len 1 1000000)) = false by rw [h4]; try rfl) (Ai (show (bnot (r51.v w.len 1 1000000)) = false by rw [h4]; try rfl) (Ai (show (bnot (r51.v w.lap 0 1000000)) = false by rw [h5]; try rfl) (Ai (show (bnot (r51.v w.lap 0 1000000)) = false by rw [h5]; try rfl) (Ai (show (bnot (r51.v w.lap 0 1000000)) = false by rw [h5]; try rfl) (Ai (show (bnot (r51.v w.lap 0 1000000)) = false by rw [h5]; try rfl) (Ai (r51 (w.jl) (0) (1000) (r24.h0 w)) (Ai (show (bnot (r51.v w.lap 0 1000000)) = false by rw [h5]; try rfl) (Ai (show (bnot (r51.v w.lap 0 1000000)) = false by rw [h5]; try rfl) (Ai (show (bnot (r51.v w.jl 0 1000)) = false by rw [h6]; try rfl) (Ai (show (bnot (r51.v w.jl 0 1000)) = false by rw [h6]; try rfl) (Ai (show (bnot (r51.v w.jl 0 1000)) = false by rw [h6]; try rfl) (Ai (show (bnot (r51.v w.jl 0 1000)) = false by rw [h6]; try rfl) (Ai (r51 (w.jh) (0) (1000) (r24.h0 w)) (Ai (show (bnot (r51.v w.jl 0 1000)) = false by rw [h6]; try rfl) (Ai (show (bnot (r51.v w.jl 0 1000)) = false by rw [h6]; try rfl) (Ai (show (bnot (r51.v w.jh 0 1000)) = true by rw [h7]; try rfl) (Ai (show (bnot (r51.v w.jh 0 1000)) = true by rw [h7]; try rfl) (Ai (show (bnot (r51.v w.jh 0 1000)) = true by rw [h7]; try rfl) (Ai (show (bnot (r51.v w.jh 0 1000)) = true by rw [h7]; try rfl) (Ai (rfl : true = true) (Ai (show (iv 6) = ((iv (r24.v w))) by simp only [r24.v, h1, h2, h3, h4, h5, h6, h7, cond_true, cond_false]) trivial)))))))))))))))))))))))))))))))))))) h
      | false =>
       exact Ret.of_run1 mix [(iv (r24.v w))] Try.func24 rfl [.b false, .ret (AV.bool (r48.v w.nm)) (r24.h0 w), .b false, .b false, .b false, .ret (AV.bool (r49a.v w.n w.g)) (r24.h0 w), .b false, .b false, .ret (AV.bool (r51.v w.len 1 1000000)) (r24.h0 w), .b false, .b false, .b false, .ret (AV.bool (r51.v w.lap 0 1000000)) (r24.h0 w), .b false, .b false, .b false, .b false, .b false, .b false, .ret (AV.bool (r51.v w.jl 0 1000)) (r24.h0 w), .b false, .b false, .b true, .b true, .b true, .b true, .b true, .b true, .b true, .b true, .b true, .b true, .b true] (by simp) (by simp) (kmp (by kernel_rfl) (Ai h1 (Ai (r48 (w.nm) o0 (r24.h0 w)) (Ai (show (bnot (r48.v w.nm)) = false by rw [h2]; try rfl) (Ai (show (bnot (r48.v w.nm)) = false by rw [h2]; try rfl) (Ai (show (bnot (r48.v w.nm)) = false by rw [h2]; try rfl) (Ai (r49a (w.n) (w.g) o1 o2 (r24.h0 w)) (Ai (show (bnot (r48.v w.nm)) = false by rw [h2]; try rfl) (Ai h3 (Ai (r51 (w.len) (1) (1000000) (r24.h0 w)) (Ai (show (bnot (r51.v w.len 1 1000000)) = false by rw [h4]; try rfl) (Ai (show (bnot (r51.v w.len 1 1000000)) = false by rw [h4]; try rfl) (Ai (show (bnot (r51.v w.len 1 1000000)) = false by rw [h4]; try rfl) (Ai (r51 (w.lap) (0) (1000000) (r24.h0 w)) (Ai (show (bnot (r51.v w.len 1 1000000)) = false by rw [h4]; try rfl) (Ai (show (bnot (r51.v w.len 1 1000000)) = false by rw [h4]; try rfl) (Ai (show (bnot (r51.v w.lap 0 1000000)) = false by rw [h5]; try rfl) (Ai (show (bnot (r51.v w.lap 0 1000000)) = false by rw [h5]; try rfl) (Ai (show (bnot (r51.v w.lap 0 1000000)) = false by rw [h5]; try rfl) (Ai (show (bnot (r51.v w.lap 0 1000000)) = false by rw [h5]; try rfl) (Ai (r51 (w.jl) (0) (1000) (r24.h0 w)) (Ai (show (bnot (r51.v w.lap 0 1000000)) = false by rw [h5]; try rfl) (Ai (show (bnot (r51.v w.lap 0 1000000)) = false by rw [h5]; try rfl) (Ai (show (bnot (r51.v w.jl 0 1000)) = true by rw [h6]; try rfl) (Ai (show (bnot (r51.v w.jl 0 1000)) = true by rw [h6]; try rfl) (Ai (show (bnot (r51.v w.jl 0 1000)) = true by rw [h6]; try rfl) (Ai (show (bnot (r51.v w.jl 0 1000)) = true by rw [h6]; try rfl) (Ai (show (bnot (r51.v w.jl 0 1000)) = true by rw [h6]; try rfl) (Ai (show (bnot (r51.v w.jl 0 1000)) = true by rw [h6]; try rfl) (Ai (rfl : true = true) (Ai (rfl : true = true) (Ai (rfl : true = true) (Ai (rfl : true = true) (Ai (rfl : true = true) (Ai (show (iv 6) = ((iv (r24.v w))) by simp only [r24.v, h1, h2, h3, h4, h5, h6, cond_true, cond_false]) trivial))))))))))))))))))))))))))))))))))) h
     | false =>
      exact Ret.of_run1 mix [(iv (r24.v w))] Try.func24 rfl [.b false, .ret (AV.bool (r48.v w.nm)) (r24.h0 w), .b false, .b false, .b false, .ret (AV.bool (r49a.v w.n w.g)) (r24.h0 w), .b false, .b false, .ret (AV.bool (r51.v w.len 1 1000000)) (r24.h0 w), .b false, .b false, .b false, .ret (AV.bool (r51.v w.lap 0 1000000)) (r24.h0 w), .b false, .b false, .b true, .b true, .b true, .b true, .b true, .b true, .b true, .b true, .b true, .b true, .b true, .b true, .b true, .b true, .b true, .b true, .b true] (by simp) (by simp) (kmp (by kernel_rfl) (Ai h1 (Ai (r48 (w.nm) o0 (r24.h0 w)) (Ai (show (bnot (r48.v w.nm)) = false by rw [h2]; try rfl) (Ai (show (bnot (r48.v w.nm)) = false by rw [h2]; try rfl) (Ai (show (bnot (r48.v w.nm)) = false by rw [h2]; try rfl) (Ai (r49a (w.n) (w.g) o1 o2 (r24.h0 w)) (Ai (show (bnot (r48.v w.nm)) = false by rw [h2]; try rfl) (Ai h3 (Ai (r51 (w.len) (1) (1000000) (r24.h0 w)) (Ai (show (bnot (r51.v w.len 1 1000000)) = false by rw [h4]; try rfl) (Ai (show (bnot (r51.v w.len 1 1000000)) = false by rw [h4]; try rfl) (Ai (show (bnot (r51.v w.len 1 1000000)) = false by rw [h4]; try rfl) (Ai (r51 (w.lap) (0) (1000000) (r24.h0 w)) (Ai (show (bnot (r51.v w.len 1 1000000)) = false by rw [h4]; try rfl) (Ai (show (bnot (r51.v w.len 1 1000000)) = false by rw [h4]; try rfl) (Ai (show (bnot (r51.v w.lap 0 1000000)) = true by rw [h5]; try rfl) (Ai (show (bnot (r51.v w.lap 0 1000000)) = true by rw [h5]; try rfl) (Ai (show (bnot (r51.v w.lap 0 1000000)) = true by rw [h5]; try rfl) (Ai (show (bnot (r51.v w.lap 0 1000000)) = true by rw [h5]; try rfl) (Ai (show (bnot (r51.v w.lap 0 1000000)) = true by rw [h5]; try rfl) (Ai (show (bnot (r51.v w.lap 0 1000000)) = true by rw [h5]; try rfl) (Ai (rfl : true = true) (Ai (rfl : true = true) (Ai (rfl : true = true) (Ai (rfl : true = true) (Ai (rfl : true = true) (Ai (rfl : true = true) (Ai (rfl : true = true) (Ai (rfl : true = true) (Ai (rfl : true = true) (Ai (rfl : true = true) (Ai (rfl : true = true) (Ai (show (iv 6) = ((iv (r24.v w))) by simp only [r24.v, h1, h2, h3, h4, h5, cond_true, cond_false]) trivial)))))))))))))))))))))))))))))))))) h
    | false =>
     exact Ret.of_run1 mix [(iv (r24.v w))] Try.func24 rfl [.b false, .ret (AV.bool (r48.v w.nm)) (r24.h0 w), .b false, .b false, .b false, .ret (AV.bool (r49a.v w.n w.g)) (r24.h0 w), .b false, .b false, .ret (AV.bool (r51.v w.len 1 1000000)) (r24.h0 w), .b true, .b true, .b true, .b true, .b true, .b true, .b true, .b true, .b true, .b true, .b true, .b true, .b true, .b true, .b true, .b true, .b true, .b true, .b true, .b true, .b true, .b true] (by simp) (by simp) (kmp (by kernel_rfl) (Ai h1 (Ai (r48 (w.nm) o0 (r24.h0 w)) (Ai (show (bnot (r48.v w.nm)) = false by rw [h2]; try rfl) (Ai (show (bnot (r48.v w.nm)) = false by rw [h2]; try rfl) (Ai (show (bnot (r48.v w.nm)) = false by rw [h2]; try rfl) (Ai (r49a (w.n) (w.g) o1 o2 (r24.h0 w)) (Ai (show (bnot (r48.v w.nm)) = false by rw [h2]; try rfl) (Ai h3 (Ai (r51 (w.len) (1) (1000000) (r24.h0 w)) (Ai (show (bnot (r51.v w.len 1 1000000)) = true by rw [h4]; try rfl) (Ai (show (bnot (r51.v w.len 1 1000000)) = true by rw [h4]; try rfl) (Ai (show (bnot (r51.v w.len 1 1000000)) = true by rw [h4]; try rfl) (Ai (show (bnot (r51.v w.len 1 1000000)) = true by rw [h4]; try rfl) (Ai (show (bnot (r51.v w.len 1 1000000)) = true by rw [h4]; try rfl) (Ai (rfl : true = true) (Ai (rfl : true = true) (Ai (rfl : true = true) (Ai (rfl : true = true) (Ai (rfl : true = true) (Ai (rfl : true = true) (Ai (rfl : true = true) (Ai (rfl : true = true) (Ai (rfl : true = true) (Ai (rfl : true = true) (Ai (rfl : true = true) (Ai (rfl : true = true) (Ai (rfl : true = true) (Ai (rfl : true = true) (Ai (rfl : true = true) (Ai (rfl : true = true) (Ai (rfl : true = true) (Ai (show (iv 6) = ((iv (r24.v w))) by simp only [r24.v, h1, h2, h3, h4, cond_true, cond_false]) trivial))))))))))))))))))))))))))))))))) h
  | false =>
   exact Ret.of_run1 mix [(iv (r24.v w))] Try.func24 rfl [.b false, .ret (AV.bool (r48.v w.nm)) (r24.h0 w), .b true, .b true, .b true, .b true, .b true] (by simp) (by simp) (kmp (by kernel_rfl) (Ai h1 (Ai (r48 (w.nm) o0 (r24.h0 w)) (Ai (show (bnot (r48.v w.nm)) = true by rw [h2]; try rfl) (Ai (show (bnot (r48.v w.nm)) = true by rw [h2]; try rfl) (Ai (show (bnot (r48.v w.nm)) = true by rw [h2]; try rfl) (Ai (show (bnot (r48.v w.nm)) = true by rw [h2]; try rfl) (Ai (rfl : true = true) (Ai (show (iv 4) = ((iv (r24.v w))) by simp only [r24.v, h1, h2, cond_true, cond_false]) trivial))))))))) h
end Go.Proofs.Ytjdbmmilcihpoaa
open Go
namespace Go.Proofs.Ytjdbmmilcihpoaa
set_option maxHeartbeats 0
set_option maxRecDepth 100000
set_option linter.unusedVariables false
set_option linter.unusedSimpArgs false
theorem r37_51 (n a b : Int) : r37.v n a b = r51.v n a b := rfl
theorem top41_N (w : WD) (hn : w.n ≤ 10000) : ∀ (m i : Nat), i ≤ w.n → w.n - i < m → L41a.N w m (topC w.g i) (i : Int) = .e0 (topC w.g w.n) := by
 intro m
 induction m with
 | zero => intro i _ h; omega
 | succ m ih =>
  intro i hi hm
  simp only [L41a.N, Int.toNat_natCast]
  by_cases h : i < w.n
  · rw [decide_eq_true (show (i : Int) < (w.n : Int) by omega), cond_true, wrap_s hi (by omega)]
    exact ih (i + 1) h (by omega)
  · rw [decide_eq_false (show ¬ (i : Int) < (w.n : Int) by omega), cond_false, show i = w.n by omega]
theorem r41_v (w : WD) (hn : w.n ≤ 10000) : r41.v w = topC w.g w.n := by
 unfold r41.v L41a.run
 have := top41_N w hn (((w.n : Int) - ((0 : Nat) : Int)).toNat + 1) 0 (Nat.zero_le _) (by omega)
 rw [show topC w.g 0 = -1 from rfl] at this
 have e : L41a.N w (((w.n : Int) - 0).toNat + 1) (-1) 0 = .e0 (topC w.g w.n) := by simpa using this
 rw [e]
/-- A stone's numbers are out of range. -/
theorem bad40 (s : SD) (a b : L40a.O) : (bif r37.v s.sx 1 1000000 then (bif r37.v s.sz 1 1000000 then (bif r37.v s.ax 0 1000000 then (bif r37.v s.az 0 1000000 then (bif r37.v s.tl 0 100 then (bif r37.v s.co 0 99 then a else b) else b) else b) else b) else b) else b) = bif r52.v s then b else a := by
 unfold r52.v r53.v
 rw [r37_51, r37_51, r37_51, r37_51, r37_51, r37_51]
 cases r51.v s.sx 1 1000000 <;> cases r51.v s.sz 1 1000000 <;> cases r51.v s.ax 0 1000000 <;> cases r51.v s.az 0 1000000 <;> cases r51.v s.tl 0 100 <;> cases r51.v s.co 0 99 <;> rfl
theorem L40a_run (w : WD) (hn : w.n ≤ 10000) : L40a.run w 0 = bif r49b.v w.n w.g then .e0 else .e1 := by
 have := scan_eq (N := L40a.N w) (n := w.n) (fun i => r52.v (w.g i)) .e0 .e1 0 (fun k i _ h => by
  simp only [L40a.N, Int.toNat_natCast]
  rw [decide_eq_true (show (i : Int) < (w.n : Int) by omega), cond_true, wrap_s (Nat.le_of_lt h) (by omega), bad40]) (fun k i _ h => by
  simp only [L40a.N]
  rw [decide_eq_false (show ¬ (i : Int) < (w.n : Int) by omega), cond_false]) (((w.n : Int) - ((0 : Nat) : Int)).toNat + 1) 0 (Nat.zero_le _) (by omega)
 rw [anyN_all, ← r49b_v (by omega)] at this
 exact this
/-- Some name does not rise. -/
noncomputable def badN (w : WD) : Bool := anyN w.n fun i => decide (1 ≤ i) && !Op.bytesLess (w.g (i - 1)).nm.toList (w.g i).nm.toList
theorem L40b_run (w : WD) (hn : w.n ≤ 10000) : L40b.run w 1 = bif badN w then .e0 else .e1 :=
 scan_eq (N := L40b.N w) (n := w.n) (fun i => !Op.bytesLess (w.g (i - 1)).nm.toList (w.g i).nm.toList) .e0 .e1 1 (fun k i h1 h => by
  simp only [L40b.N, Int.toNat_natCast]
  rw [decide_eq_true (show (i : Int) < (w.n : Int) by omega), cond_true, wrap_s (Nat.le_of_lt h) (by omega), wrap_pn h1 (by omega)]
  cases Op.bytesLess (w.g (i - 1)).nm.toList (w.g i).nm.toList <;> rfl) (fun k i _ h => by
  simp only [L40b.N]
  rw [decide_eq_false (show ¬ (i : Int) < (w.n : Int) by omega), cond_false]) (((w.n : Int) - ((1 : Nat) : Int)).toNat + 1) 1 (Nat.le_refl _) (by omega)
theorem L24a_run (w : WD) (hn : w.n ≤ 10000) : L24a.run w 1 = bif badN w then .e0 else .e1 :=
 scan_eq (N := L24a.N w) (n := w.n) (fun i => !Op.bytesLess (w.g (i - 1)).nm.toList (w.g i).nm.toList) .e0 .e1 1 (fun k i h1 h => by
  simp only [L24a.N, Int.toNat_natCast]
  rw [decide_eq_true (show (i : Int) < (w.n : Int) by omega), cond_true, wrap_s (Nat.le_of_lt h) (by omega), wrap_pn h1 (by omega)]
  cases Op.bytesLess (w.g (i - 1)).nm.toList (w.g i).nm.toList <;> rfl) (fun k i _ h => by
  simp only [L24a.N]
  rw [decide_eq_false (show ¬ (i : Int) < (w.n : Int) by omega), cond_false]) (((w.n : Int) - ((1 : Nat) : Int)).toNat + 1) 1 (Nat.le_refl _) (by omega)
theorem r40_v (w : WD) (hn : w.n ≤ 10000) : r40.v w = (bif r51.v w.len 1 1000000 then (bif r51.v w.lap 0 1000000 then (bif r51.v w.jl 0 1000 then (bif r51.v w.jh 0 1000 then (bif r49b.v w.n w.g then 6 else (bif decide (w.jl > w.jh) then 1 else (bif badN w then 5 else 0))) else 6) else 6) else 6) else 6) := by
 unfold r40.v
 rw [L40a_run w hn, L40b_run w hn]
 simp only [r37_51]
 cases r49b.v w.n w.g <;> cases badN w <;> rfl
theorem ok40 {w : WD} (hn : w.n ≤ 10000) (h : (r40.v w != 0) = false) : r49b.v w.n w.g = false ∧ badN w = false := by
 rw [r40_v w hn] at h
 revert h
 cases r51.v w.len 1 1000000 <;> cases r51.v w.lap 0 1000000 <;> cases r51.v w.jl 0 1000 <;> cases r51.v w.jh 0 1000 <;> cases r49b.v w.n w.g <;> cases decide (w.jl > w.jh) <;> cases badN w <;> simp
theorem top99 {w : WD} (hn : w.n ≤ 10000) (h : (r40.v w != 0) = false) : r41.v w ≤ 99 := by
 rw [r41_v w hn]
 exact (top_le w.g 99 (by decide) w.n fun i hi => (co_of hn (ok40 hn h).1 i hi).2).2
theorem top99' {w : WD} (hn : w.n ≤ 10000) (h : r40.v w = 0) : r41.v w ≤ 99 := top99 hn (by rw [h]; rfl)
theorem L21b_run (w : WD) (t : Int) (ht : t ≤ 99) : L21b.run w t 0 = bif anyN (t + 1).toNat (fun k => ((corR w.g (k : Int) w.n).length : Int) == 0) then .e0 else .e1 := by
 have := scan_eq (N := L21b.N w t) (n := (t + 1).toNat) (fun k => ((corR w.g (k : Int) w.n).length : Int) == 0) .e0 .e1 0 (fun k i _ h => by
  simp only [L21b.N, Int.toNat_natCast]
  rw [decide_eq_true (show (i : Int) ≤ t by omega), cond_true, wrap_s (n := i) (Nat.le_refl _) (by omega)]) (fun k i _ h => by
  simp only [L21b.N]
  rw [decide_eq_false (show ¬ (i : Int) ≤ t by omega), cond_false]) ((t + 1 - ((0 : Nat) : Int)).toNat + 1) 0 (Nat.zero_le _) (by omega)
 rw [anyN_all] at this
 exact this
theorem cor_ne {w : WD} {t : Int} (h : L21b.run w t 0 = .e1) (ht : t ≤ 99) : ∀ k, 0 ≤ k → k ≤ t → 0 < (corR w.g k w.n).length := by
 rw [L21b_run w t ht] at h
 intro k h0 hk
 cases hA : anyN (t + 1).toNat (fun k => ((corR w.g (k : Int) w.n).length : Int) == 0) with
 | true => rw [hA] at h; cases h
 | false =>
  have := anyN_false.1 hA k.toNat (by omega)
  rw [Int.toNat_of_nonneg h0] at this
  have : ((corR w.g k w.n).length : Int) ≠ 0 := by simpa using this
  omega
theorem insR_perm (L : List SD) (s : SD) : (insR L s).Perm (L ++ [s]) := by
 have e : L ++ [s] = L.take (kR s L) ++ (L.drop (kR s L) ++ [s]) := by rw [← List.append_assoc, List.take_append_drop]
 rw [e]
 unfold insR
 rw [List.append_assoc]
 exact List.Perm.append_left _ List.perm_append_comm
theorem corR_perm (g : Nat → SD) (k : Nat) : ∀ i, (corR g (k : Int) i).Perm (crs g k i) := by
 intro i
 induction i with
 | zero => exact .refl _
 | succ i ih =>
  unfold corR crs
  split
  · exact (insR_perm _ _).trans (List.Perm.append_right _ ih)
  · exact ih
theorem take_kR (L : List SD) (s : SD) : L.take (kR s L) = L.takeWhile fun t => decide (t.ax ≤ s.ax) := (List.prefix_iff_eq_take.1 (List.takeWhile_prefix _)).symm
theorem drop_kR (L : List SD) (s : SD) : L.drop (kR s L) = L.dropWhile fun t => decide (t.ax ≤ s.ax) := by
 have h := List.takeWhile_append_dropWhile (p := fun t : SD => decide (t.ax ≤ s.ax)) (l := L)
 have e := List.take_append_drop (kR s L) L
 rw [take_kR] at e
 exact List.append_cancel_left (e.trans h.symm)
theorem mem_tw {p : SD → Bool} : ∀ {L : List SD} {x : SD}, x ∈ L.takeWhile p → p x = true := by
 intro L
 induction L with
 | nil => intro x h; cases h
 | cons a L ih =>
  intro x h
  rw [List.takeWhile_cons] at h
  cases ha : p a with
  | false => rw [ha] at h; cases h
  | true =>
   rw [ha, if_pos rfl] at h
   rcases List.mem_cons.1 h with e | e
   · subst e; exact ha
   · exact ih e
theorem dw_head {p : SD → Bool} : ∀ {L : List SD} {a : SD} {M : List SD}, L.dropWhile p = a :: M → p a = false := by
 intro L
 induction L with
 | nil => intro a M h; cases h
 | cons b L ih =>
  intro a M h
  rw [List.dropWhile_cons] at h
  cases hb : p b with
  | true => rw [hb, if_pos rfl] at h; exact ih h
  | false =>
   rw [hb, if_neg (by decide)] at h
   rw [← (List.cons.inj h).1]; exact hb
theorem corR_mem {g : Nat → SD} {k : Nat} {n : Nat} {x : SD} (h : x ∈ corR g (k : Int) n) : ∃ i, i < n ∧ x = g i := crs_mem ((corR_perm g k n).subset h)
theorem insR_sorted {L : List SD} {s : SD} (hs : L.Pairwise fun a b => ltOf r70.v b a = false) (hn : ∀ x ∈ L, x.nm.toList < s.nm.toList) : (insR L s).Pairwise fun a b => ltOf r70.v b a = false := by
 unfold insR
 rw [take_kR, drop_kR]
 have hL := List.takeWhile_append_dropWhile (p := fun t : SD => decide (t.ax ≤ s.ax)) (l := L)
 rw [← hL] at hs
 obtain ⟨p1, p2, p3⟩ := List.pairwise_append.1 hs
 have big : ∀ d ∈ L.dropWhile (fun t : SD => decide (t.ax ≤ s.ax)), s.ax < d.ax := by
  intro d hd
  cases hw : L.dropWhile (fun t : SD => decide (t.ax ≤ s.ax)) with
  | nil => rw [hw] at hd; cases hd
  | cons a M =>
   have ha : ¬ a.ax ≤ s.ax := of_decide_eq_false (dw_head hw)
   rw [hw] at hd p2
   rcases List.mem_cons.1 hd with e | e
   · subst e; omega
   · have := (List.pairwise_cons.1 p2).1 d e
     rw [lt70, ltS_not] at this
     rcases this with q | ⟨q, _⟩ <;> omega
 refine List.pairwise_append.2 ⟨List.pairwise_append.2 ⟨p1, List.pairwise_singleton _ _, fun a ha b hb => ?_⟩, p2, fun a ha b hb => ?_⟩
 · rw [List.mem_singleton.1 hb, lt70, ltS_not]
   have h1 : a.ax ≤ s.ax := of_decide_eq_true (mem_tw ha)
   rcases Int.lt_or_eq_of_le h1 with q | q
   · exact .inl q
   · refine .inr ⟨q, fun k => ?_⟩
     have := hn a ((List.takeWhile_sublist _).subset ha)
     exact List.lt_irrefl _ (List.lt_trans this k)
 · rcases List.mem_append.1 ha with q | q
   · exact p3 a q b hb
   · rw [List.mem_singleton.1 q, lt70, ltS_not]
     exact .inl (big b hb)
theorem corR_sorted {g : Nat → SD} {n : Nat} (k : Nat) (hr : ∀ i j, i < j → j < n → (g i).nm.toList < (g j).nm.toList) : ∀ i, i ≤ n → (corR g (k : Int) i).Pairwise fun a b => ltOf r70.v b a = false := by
 intro i
 induction i with
 | zero => intro _; exact .nil
 | succ i ih =>
  intro hi
  unfold corR
  split
  · refine insR_sorted (ih (by omega)) fun x hx => ?_
    obtain ⟨j, hj, rfl⟩ := corR_mem hx
    exact hr j i hj (by omega)
  · exact ih (by omega)
theorem rise' {w : WD} (hn : w.n ≤ 10000) (h : badN w = false) : ∀ i j, i < j → j < w.n → (w.g i).nm.toList < (w.g j).nm.toList :=
 rise hn (by rw [L24a_run w hn, h]; rfl)
/-- The courses of the program are those of the reference. -/
theorem cor_eq {w : WD} (hn : w.n ≤ 10000) (h : badN w = false) (k : Nat) : corR w.g (k : Int) w.n = cC w k := by
 have hr := rise' hn h
 refine perm_sorted_eq (lt := ltOf r70.v) _ _ ((corR_perm w.g k w.n).trans (srtS_perm _).symm) (corR_sorted k hr w.n (Nat.le_refl _)) (srtS_sorted _) fun x hx y hy h1 h2 => ?_
 obtain ⟨i, hi, rfl⟩ := corR_mem hx
 obtain ⟨j, hj, rfl⟩ := corR_mem hy
 have e := (eq70 h1 h2).2
 rw [nm_of hn (by rw [L24a_run w hn, h]; rfl) i j hi hj e]
end Go.Proofs.Ytjdbmmilcihpoaa
open Go
namespace Go.Proofs.Ytjdbmmilcihpoaa
set_option linter.unusedSimpArgs false
set_option linter.unusedVariables false
set_option maxHeartbeats 0
set_option maxRecDepth 100000
noncomputable def r21.v (w : WD) : Int := (bif decide ((↑w.n : Int) > 512) then 7 else (bif r39.v w.nm then (match L21a.run w 0 with | .e0 => 4 | .e1 => (bif r40.v w == 0 then (match L21b.run w (r41.v w) 0 with | .e0 => 9 | .e1 => (match L21c.run w (r41.v w) 0 with | .e0 => 10 | .e1 => (match L21e.run w (r41.v w) 0 with | .e0 => 11 | .e1 => (match L21g.run w (r41.v w) 0 with | .e0 => 10 | .e1 => 0 ) ) ) ) else r40.v w) ) else 4))
noncomputable abbrev r21.h0 (w : WD) : AHeap := ([AObj.var (WD.av w)])
theorem r21 (w : WD) (hn : w.n ≤ 10000) (hnm : w.nm.size ≤ 9223372036854775807) (hg : ∀ (i : Nat), (w.g i).nm.size ≤ 9223372036854775807) (h : AHeap) : Ret Try.prog 21 ([w.av]) h (iv (r21.v w)) h := by
 cases h1 : decide ((↑w.n : Int) > 512) with
 | true =>
  have h1p := of_decide_eq_true h1
  exact Ret.of_run1 mix [(iv (r21.v w))] Try.func21 rfl [.b true] (by simp) (by simp) (kmp (by kernel_rfl) (Ai h1 (Ai (show (iv 7) = ((iv (r21.v w))) by simp only [r21.v, h1, cond_true, cond_false]) trivial))) h
 | false =>
  have h1p := of_decide_eq_false h1
  have o0 : w.nm.size ≤ (9223372036854775807 : Nat) := by assumption
  cases h2 : r39.v w.nm with
  | true =>
   have o1 : w.n ≤ (10000 : Nat) := by assumption
   have o2 : ∀ (i : Nat), (w.g i).nm.size ≤ (9223372036854775807 : Nat) := by assumption
   have o3 : (0 : Int) ≤ (↑w.n : Int) := by omega
   cases h3 : L21a.run w 0 with
   | e0 =>
    exact Ret.of_run1 mix [(iv (r21.v w))] Try.func21 rfl [.b false, .ret (AV.bool (r39.v w.nm)) (r21.h0 w), .b false, .loop (others 226 [1, 3]) (Exit.ret) (L21a.X w L21a.O.e0) (L21a.XH w L21a.O.e0)] (by simp) (by simp) (kmp (by kernel_rfl) (Ai h1 (Ai (r39 (w.nm) o0 (r21.h0 w)) (Ai (show (bnot (r39.v w.nm)) = false by rw [h2]; try rfl) (Ai (L21a.e0 (w) o1 o2 (0) (Ai (show (0 : Int) ≤ (0 : Int) by decide) o3) h3) (Ai (show (iv 4) = ((iv (r21.v w))) by simp only [r21.v, h1, h2, h3, cond_true, cond_false]) trivial)))))) h
   | e1 =>
    cases h4 : r40.v w == 0 with
    | true =>
     have h4p := eq_of_beq h4
     have o4 : r41.v w ≤ (99 : Int) := by first | assumption | omega | (apply top99 <;> first | assumption | omega) | (apply top99' <;> first | assumption | omega) | (exact hg _) | (exact hg _ (by omega)) | (simp_all; done)
     cases h5 : L21b.run w (r41.v w) 0 with
     | e0 =>
      exact Ret.of_run1 mix [(iv (r21.v w))] Try.func21 rfl [.b false, .ret (AV.bool (r39.v w.nm)) (r21.h0 w), .b false, .loop (others 226 [1, 3]) (Exit.exit 0) (L21a.X w L21a.O.e1) (L21a.XH w L21a.O.e1), .ret (iv (r40.v w)) (r21.h0 w), .b false, .ret (iv (r41.v w)) (r21.h0 w), .loop (others 226 [1, 5, 6]) (Exit.ret) (L21b.X w (r41.v w) L21b.O.e0) (L21b.XH w (r41.v w) L21b.O.e0)] (by simp) (by simp) (kmp (by kernel_rfl) (Ai h1 (Ai (r39 (w.nm) o0 (r21.h0 w)) (Ai (show (bnot (r39.v w.nm)) = false by rw [h2]; try rfl) (Ai (L21a.e1 (w) o1 o2 (0) (Ai (show (0 : Int) ≤ (0 : Int) by decide) o3) h3) (Ai (r40 (w) o1 (r21.h0 w)) (Ai (show (bnot (r40.v w == 0)) = false by rw [h4]; try rfl) (Ai (r41 (w) o1 (r21.h0 w)) (Ai (L21b.e0 (w) o1 (r41.v w) o4 (0) (Ai (show (0 : Int) ≤ (0 : Int) by decide) (show (0 : Int) ≤ (100 : Int) by decide)) h5) (Ai (show (iv 9) = ((iv (r21.v w))) by simp only [r21.v, h1, h2, h4, h3, h5, cond_true, cond_false]) trivial)))))))))) h
     | e1 =>
      have o5 : ∀ (k : Int), (0 : Int) ≤ k → k ≤ r41.v w → (0 : Nat) < (corR w.g k w.n).length := by first | assumption | omega | (simp only [List.length_append, List.length_cons, List.length_nil, List.length_map]; omega) | (apply cor_ne <;> first | assumption | omega) | (exact hg _) | (exact hg _ (by omega)) | (simp_all; done)
      cases h6 : L21c.run w (r41.v w) 0 with
      | e0 =>
       exact Ret.of_run1 mix [(iv (r21.v w))] Try.func21 rfl [.b false, .ret (AV.bool (r39.v w.nm)) (r21.h0 w), .b false, .loop (others 226 [1, 3]) (Exit.exit 0) (L21a.X w L21a.O.e1) (L21a.XH w L21a.O.e1), .ret (iv (r40.v w)) (r21.h0 w), .b false, .ret (iv (r41.v w)) (r21.h0 w), .loop (others 226 [1, 5, 6]) (Exit.exit 2) (L21b.X w (r41.v w) L21b.O.e1) (L21b.XH w (r41.v w) L21b.O.e1), .loop (others 226 [1, 5, 7]) (Exit.ret) (L21c.X w (r41.v w) L21c.O.e0) (L21c.XH w (r41.v w) L21c.O.e0)] (by simp) (by simp) (kmp (by kernel_rfl) (Ai h1 (Ai (r39 (w.nm) o0 (r21.h0 w)) (Ai (show (bnot (r39.v w.nm)) = false by rw [h2]; try rfl) (Ai (L21a.e1 (w) o1 o2 (0) (Ai (show (0 : Int) ≤ (0 : Int) by decide) o3) h3) (Ai (r40 (w) o1 (r21.h0 w)) (Ai (show (bnot (r40.v w == 0)) = false by rw [h4]; try rfl) (Ai (r41 (w) o1 (r21.h0 w)) (Ai (L21b.e1 (w) o1 (r41.v w) o4 (0) (Ai (show (0 : Int) ≤ (0 : Int) by decide) (show (0 : Int) ≤ (100 : Int) by decide)) h5) (Ai (L21c.e0 (w) o1 (r41.v w) o4 o5 (0) (Ai (show (0 : Int) ≤ (0 : Int) by decide) (show (0 : Int) ≤ (100 : Int) by decide)) h6) (Ai (show (iv 10) = ((iv (r21.v w))) by simp only [r21.v, h1, h2, h4, h3, h5, h6, cond_true, cond_false]) trivial))))))))))) h
      | e1 =>
       cases h7 : L21e.run w (r41.v w) 0 with
       | e0 =>
        exact Ret.of_run1 mix [(iv (r21.v w))] Try.func21 rfl [.b false, .ret (AV.bool (r39.v w.nm)) (r21.h0 w), .b false, .loop (others 226 [1, 3]) (Exit.exit 0) (L21a.X w L21a.O.e1) (L21a.XH w L21a.O.e1), .ret (iv (r40.v w)) (r21.h0 w), .b false, .ret (iv (r41.v w)) (r21.h0 w), .loop (others 226 [1, 5, 6]) (Exit.exit 2) (L21b.X w (r41.v w) L21b.O.e1) (L21b.XH w (r41.v w) L21b.O.e1), .loop (others 226 [1, 5, 7]) (Exit.exit 4) (L21c.X w (r41.v w) L21c.O.e1) (L21c.XH w (r41.v w) L21c.O.e1), .loop (others 226 [1, 5, 11]) (Exit.ret) (L21e.X w (r41.v w) L21e.O.e0) (L21e.XH w (r41.v w) L21e.O.e0)] (by simp) (by simp) (kmp (by kernel_rfl) (Ai h1 (Ai (r39 (w.nm) o0 (r21.h0 w)) (Ai (show (bnot (r39.v w.nm)) = false by rw [h2]; try rfl) (Ai (L21a.e1 (w) o1 o2 (0) (Ai (show (0 : Int) ≤ (0 : Int) by decide) o3) h3) (Ai (r40 (w) o1 (r21.h0 w)) (Ai (show (bnot (r40.v w == 0)) = false by rw [h4]; try rfl) (Ai (r41 (w) o1 (r21.h0 w)) (Ai (L21b.e1 (w) o1 (r41.v w) o4 (0) (Ai (show (0 : Int) ≤ (0 : Int) by decide) (show (0 : Int) ≤ (100 : Int) by decide)) h5) (Ai (L21c.e1 (w) o1 (r41.v w) o4 o5 (0) (Ai (show (0 : Int) ≤ (0 : Int) by decide) (show (0 : Int) ≤ (100 : Int) by decide)) h6) (Ai (L21e.e0 (w) o1 (r41.v w) o4 o5 (0) (Ai (show (0 : Int) ≤ (0 : Int) by decide) (show (0 : Int) ≤ (100 : Int) by decide)) h7) (Ai (show (iv 11) = ((iv (r21.v w))) by simp only [r21.v, h1, h2, h4, h3, h5, h6, h7, cond_true, cond_false]) trivial)))))))))))) h
       | e1 =>
        cases h8 : L21g.run w (r41.v w) 0 with
        | e0 =>
         exact Ret.of_run1 mix [(iv (r21.v w))] Try.func21 rfl [.b false, .ret (AV.bool (r39.v w.nm)) (r21.h0 w), .b false, .loop (others 226 [1, 3]) (Exit.exit 0) (L21a.X w L21a.O.e1) (L21a.XH w L21a.O.e1), .ret (iv (r40.v w)) (r21.h0 w), .b false, .ret (iv (r41.v w)) (r21.h0 w), .loop (others 226 [1, 5, 6]) (Exit.exit 2) (L21b.X w (r41.v w) L21b.O.e1) (L21b.XH w (r41.v w) L21b.O.e1), .loop (others 226 [1, 5, 7]) (Exit.exit 4) (L21c.X w (r41.v w) L21c.O.e1) (L21c.XH w (r41.v w) L21c.O.e1), .loop (others 226 [1, 5, 11]) (Exit.exit 8) (L21e.X w (r41.v w) L21e.O.e1) (L21e.XH w (r41.v w) L21e.O.e1), .loop (others 226 [1, 5, 14]) (Exit.ret) (L21g.X w (r41.v w) L21g.O.e0) (L21g.XH w (r41.v w) L21g.O.e0)] (by simp) (by simp) (kmp (by kernel_rfl) (Ai h1 (Ai (r39 (w.nm) o0 (r21.h0 w)) (Ai (show (bnot (r39.v w.nm)) = false by rw [h2]; try rfl) (Ai (L21a.e1 (w) o1 o2 (0) (Ai (show (0 : Int) ≤ (0 : Int) by decide) o3) h3) (Ai (r40 (w) o1 (r21.h0 w)) (Ai (show (bnot (r40.v w == 0)) = false by rw [h4]; try rfl) (Ai (r41 (w) o1 (r21.h0 w)) (Ai (L21b.e1 (w) o1 (r41.v w) o4 (0) (Ai (show (0 : Int) ≤ (0 : Int) by decide) (show (0 : Int) ≤ (100 : Int) by decide)) h5) (Ai (L21c.e1 (w) o1 (r41.v w) o4 o5 (0) (Ai (show (0 : Int) ≤ (0 : Int) by decide) (show (0 : Int) ≤ (100 : Int) by decide)) h6) (Ai (L21e.e1 (w) o1 (r41.v w) o4 o5 (0) (Ai (show (0 : Int) ≤ (0 : Int) by decide) (show (0 : Int) ≤ (100 : Int) by decide)) h7) (Ai (L21g.e0 (w) o1 (r41.v w) o4 o5 (0) (Ai (show (0 : Int) ≤ (0 : Int) by decide) (show (0 : Int) ≤ (100 : Int) by decide)) h8) (Ai (show (iv 10) = ((iv (r21.v w))) by simp only [r21.v, h1, h2, h4, h3, h5, h6, h7, h8, cond_true, cond_false]) trivial))))))))))))) h
        | e1 =>
         exact Ret.of_run1 mix [(iv (r21.v w))] Try.func21 rfl [.b false, .ret (AV.bool (r39.v w.nm)) (r21.h0 w), .b false, .loop (others 226 [1, 3]) (Exit.exit 0) (L21a.X w L21a.O.e1) (L21a.XH w L21a.O.e1), .ret (iv (r40.v w)) (r21.h0 w), .b false, .ret (iv (r41.v w)) (r21.h0 w), .loop (others 226 [1, 5, 6]) (Exit.exit 2) (L21b.X w (r41.v w) L21b.O.e1) (L21b.XH w (r41.v w) L21b.O.e1), .loop (others 226 [1, 5, 7]) (Exit.exit 4) (L21c.X w (r41.v w) L21c.O.e1) (L21c.XH w (r41.v w) L21c.O.e1), .loop (others 226 [1, 5, 11]) (Exit.exit 8) (L21e.X w (r41.v w) L21e.O.e1) (L21e.XH w (r41.v w) L21e.O.e1), .loop (others 226 [1, 5, 14]) (Exit.exit 12) (L21g.X w (r41.v w) L21g.O.e1) (L21g.XH w (r41.v w) L21g.O.e1)] (by simp) (by simp) (kmp (by kernel_rfl) (Ai h1 (Ai (r39 (w.nm) o0 (r21.h0 w)) (Ai (show (bnot (r39.v w.nm)) = false by rw [h2]; try rfl) (Ai (L21a.e1 (w) o1 o2 (0) (Ai (show (0 : Int) ≤ (0 : Int) by decide) o3) h3) (Ai (r40 (w) o1 (r21.h0 w)) (Ai (show (bnot (r40.v w == 0)) = false by rw [h4]; try rfl) (Ai (r41 (w) o1 (r21.h0 w)) (Ai (L21b.e1 (w) o1 (r41.v w) o4 (0) (Ai (show (0 : Int) ≤ (0 : Int) by decide) (show (0 : Int) ≤ (100 : Int) by decide)) h5) (Ai (L21c.e1 (w) o1 (r41.v w) o4 o5 (0) (Ai (show (0 : Int) ≤ (0 : Int) by decide) (show (0 : Int) ≤ (100 : Int) by decide)) h6) (Ai (L21e.e1 (w) o1 (r41.v w) o4 o5 (0) (Ai (show (0 : Int) ≤ (0 : Int) by decide) (show (0 : Int) ≤ (100 : Int) by decide)) h7) (Ai (L21g.e1 (w) o1 (r41.v w) o4 o5 (0) (Ai (show (0 : Int) ≤ (0 : Int) by decide) (show (0 : Int) ≤ (100 : Int) by decide)) h8) (Ai (show (iv 0) = ((iv (r21.v w))) by simp only [r21.v, h1, h2, h4, h3, h5, h6, h7, h8, cond_true, cond_false]) trivial))))))))))))) h
    | false =>
     have h4p := ne_of_beq_false h4
     exact Ret.of_run1 mix [(iv (r21.v w))] Try.func21 rfl [.b false, .ret (AV.bool (r39.v w.nm)) (r21.h0 w), .b false, .loop (others 226 [1, 3]) (Exit.exit 0) (L21a.X w L21a.O.e1) (L21a.XH w L21a.O.e1), .ret (iv (r40.v w)) (r21.h0 w), .b true] (by simp) (by simp) (kmp (by kernel_rfl) (Ai h1 (Ai (r39 (w.nm) o0 (r21.h0 w)) (Ai (show (bnot (r39.v w.nm)) = false by rw [h2]; try rfl) (Ai (L21a.e1 (w) o1 o2 (0) (Ai (show (0 : Int) ≤ (0 : Int) by decide) o3) h3) (Ai (r40 (w) o1 (r21.h0 w)) (Ai (show (bnot (r40.v w == 0)) = true by rw [h4]; try rfl) (Ai (show (iv (r40.v w)) = ((iv (r21.v w))) by simp only [r21.v, h1, h2, h4, h3, cond_true, cond_false]) trivial)))))))) h
  | false =>
   exact Ret.of_run1 mix [(iv (r21.v w))] Try.func21 rfl [.b false, .ret (AV.bool (r39.v w.nm)) (r21.h0 w), .b true] (by simp) (by simp) (kmp (by kernel_rfl) (Ai h1 (Ai (r39 (w.nm) o0 (r21.h0 w)) (Ai (show (bnot (r39.v w.nm)) = true by rw [h2]; try rfl) (Ai (show (iv 4) = ((iv (r21.v w))) by simp only [r21.v, h1, h2, cond_true, cond_false]) trivial))))) h
end Go.Proofs.Ytjdbmmilcihpoaa
open Go
namespace Go.Proofs.Ytjdbmmilcihpoaa
set_option maxHeartbeats 0
set_option maxRecDepth 100000
set_option linter.unusedVariables false
set_option linter.unusedSimpArgs false
theorem L21a_run (w : WD) (hn : w.n ≤ 10000) (hg : ∀ i, (w.g i).nm.size ≤ 9223372036854775807) : L21a.run w 0 = bif r49a.v w.n w.g then .e0 else .e1 := by
 have := scan_eq (N := L21a.N w) (n := w.n) (fun i => r50.v (w.g i)) .e0 .e1 0 (fun k i _ h => by
  simp only [L21a.N, Int.toNat_natCast]
  rw [decide_eq_true (show (i : Int) < (w.n : Int) by omega), cond_true, wrap_s (Nat.le_of_lt h) (by omega), ← name_eq (hg i)]
  unfold r50.v
  cases r48.v (w.g i).nm <;> rfl) (fun k i _ h => by
  simp only [L21a.N]
  rw [decide_eq_false (show ¬ (i : Int) < (w.n : Int) by omega), cond_false]) (((w.n : Int) - ((0 : Nat) : Int)).toNat + 1) 0 (Nat.zero_le _) (by omega)
 rw [anyN_all, ← r49a_v (by omega)] at this
 exact this
theorem r49c_v {n : Nat} {g : Nat → SD} (hn : n ≤ 10000) : r49c.v n g = anyN n (fun i => r78.v g (g i)) := by
 have := search_eq (n := n) (fun i => r78.v g (g i)) (fun i => L59c.O.e0 i) .e1 (N := L59c.N n g) (fun k i h => by
  simp only [L59c.N, wrap_succ (show n ≤ 9223372036854775807 by omega) h, Int.toNat_natCast]; rw [decide_eq_true (by omega)]; rfl) (fun k => by simp [L59c.N]) (n + 1) 0 (Nat.zero_le _) (by omega)
 have e : L59c.run n g 0 = srch (fun i => r78.v g (g i)) (fun i => L59c.O.e0 i) .e1 0 n := by simpa [L59c.run] using this
 unfold r49c.v r59c.v
 rw [e]
 exact idx_any _ n L59c.O (fun o => match o with | .e0 a => a | .e1 => -1) _ _ (fun i => rfl) rfl
theorem L21d_run (L : List SD) (hl : L.length ≤ 10000) : L21d.run L 0 = bif r49c.v L.length (fun i => L.getD i default) then .e0 else .e1 := by
 have := scan_eq (N := L21d.N L) (n := L.length) (fun i => r78.v (fun i => L.getD i default) (L.getD i default)) .e0 .e1 0 (fun k i _ h => by
  simp only [L21d.N, Int.toNat_natCast]
  rw [decide_eq_true (show (i : Int) < (L.length : Int) by omega), cond_true, wrap_s (Nat.le_of_lt h) (by omega)]
  unfold r78.v
  cases (L.getD i default).az == (L.getD 0 default).az with
  | true =>
   show (bif (L.getD i default).sz == (L.getD 0 default).sz then _ else _) = bif (L.getD i default).sz != (L.getD 0 default).sz then _ else _
   rw [show ((L.getD i default).sz != (L.getD 0 default).sz) = !((L.getD i default).sz == (L.getD 0 default).sz) from rfl]
   cases (L.getD i default).sz == (L.getD 0 default).sz <;> rfl
  | false => rfl) (fun k i _ h => by
  simp only [L21d.N]
  rw [decide_eq_false (show ¬ (i : Int) < (L.length : Int) by omega), cond_false]) (((L.length : Int) - ((0 : Nat) : Int)).toNat + 1) 0 (Nat.zero_le _) (by omega)
 rw [anyN_all, ← r49c_v hl] at this
 exact this
/-- A course that isn't at its height. -/
noncomputable def badH (w : WD) (L : Nat → List SD) (k : Nat) : Bool :=
 r49c.v (L k).length (fun i => (L k).getD i default) || (decide (0 < k) && !r51.v (IntKind.i64.wrap (IntKind.i64.wrap (((L k).getD 0 default).az - ((L (k - 1)).getD 0 default).az) - ((L (k - 1)).getD 0 default).sz)) w.jl w.jh)
theorem dec_pos (i : Nat) : decide ((i : Int) > 0) = decide (0 < i) := by
 by_cases h : 0 < i
 · rw [decide_eq_true h, decide_eq_true (by omega)]
 · rw [decide_eq_false h, decide_eq_false (by omega)]
theorem L56a_run (w : WD) (N : Nat) (L : Nat → List SD) (hN : N ≤ 1000) : L56a.run w N L 0 = bif anyN N (badH w L) then .e0 else .e1 := by
 have := scan_eq (N := L56a.N w N L) (n := N) (badH w L) .e0 .e1 0 (fun k i _ h => by
  simp only [L56a.N, Int.toNat_natCast]
  rw [decide_eq_true (show (i : Int) < (N : Int) by omega), cond_true, wrap_s (Nat.le_of_lt h) (by omega), dec_pos]
  unfold badH
  rcases Nat.eq_zero_or_pos i with q | q
  · subst q
    cases r49c.v (L 0).length (fun i => (L 0).getD i default) <;> rfl
  · rw [decide_eq_true q, wrap_pn q (by omega)]
    cases r49c.v (L i).length (fun j => (L i).getD j default) with
    | true => rfl
    | false =>
     simp only [cond_true, cond_false, Bool.false_or, Bool.true_and]
     cases r51.v (IntKind.i64.wrap (IntKind.i64.wrap (((L i).getD 0 default).az - ((L (i - 1)).getD 0 default).az) - ((L (i - 1)).getD 0 default).sz)) w.jl w.jh <;> rfl) (fun k i _ h => by
  simp only [L56a.N]
  rw [decide_eq_false (show ¬ (i : Int) < (N : Int) by omega), cond_false]) (((N : Int) - ((0 : Nat) : Int)).toNat + 1) 0 (Nat.zero_le _) (by omega)
 rw [anyN_all] at this
 exact this
section
variable {w : WD} (hn : w.n ≤ 10000) (hb : badN w = false) (t : Int) (ht : t ≤ 99)
include hn hb ht
theorem L21c_run : L21c.run w t 0 = bif anyN (t + 1).toNat (badH w (cC w)) then .e0 else .e1 := by
 have := scan_eq (N := L21c.N w t) (n := (t + 1).toNat) (badH w (cC w)) .e0 .e1 0 (fun k i _ h => by
  simp only [L21c.N]
  rw [decide_eq_true (show (i : Int) ≤ t by omega), cond_true, wrap_s (n := i) (Nat.le_refl _) (by omega), dec_pos, cor_eq hn hb i, L21d_run _ (cC_len hn i)]
  unfold badH
  rcases Nat.eq_zero_or_pos i with q | q
  · subst q
    cases r49c.v (cC w 0).length (fun i => (cC w 0).getD i default) <;> rfl
  · rw [decide_eq_true q, wrap_p q (by omega), cor_eq hn hb (i - 1)]
    cases r49c.v (cC w i).length (fun j => (cC w i).getD j default) with
    | true => rfl
    | false =>
     simp only [cond_true, cond_false, Bool.false_or, Bool.true_and]
     show (bif r37.v _ w.jl w.jh then _ else _) = _
     rw [r37_51]
     cases r51.v (IntKind.i64.wrap (IntKind.i64.wrap (((cC w i).getD 0 default).az - ((cC w (i - 1)).getD 0 default).az) - ((cC w (i - 1)).getD 0 default).sz)) w.jl w.jh <;> rfl) (fun k i _ h => by
  simp only [L21c.N]
  rw [decide_eq_false (show ¬ (i : Int) ≤ t by omega), cond_false]) ((t + 1 - ((0 : Nat) : Int)).toNat + 1) 0 (Nat.zero_le _) (by omega)
 rw [anyN_all] at this
 exact this
end
noncomputable def badO (L : List SD) : Bool := anyN L.length fun i => decide (1 ≤ i) && decide ((L.getD i default).ax < r61.v (L.getD (i - 1) default))
theorem L21f_run (L : List SD) (hl : L.length ≤ 10000) : L21f.run L 1 = bif badO L then .e0 else .e1 :=
 scan_eq (N := L21f.N L) (n := L.length) (fun i => decide ((L.getD i default).ax < r61.v (L.getD (i - 1) default))) .e0 .e1 1 (fun k i h1 h => by
  simp only [L21f.N, Int.toNat_natCast]
  rw [decide_eq_true (show (i : Int) < (L.length : Int) by omega), cond_true, wrap_s (Nat.le_of_lt h) (by omega), wrap_pn h1 (by omega)]
  rfl) (fun k i _ h => by
  simp only [L21f.N]
  rw [decide_eq_false (show ¬ (i : Int) < (L.length : Int) by omega), cond_false]) (((L.length : Int) - ((1 : Nat) : Int)).toNat + 1) 1 (Nat.le_refl _) (by omega)
theorem L57ab_run (L : Nat → List SD) (c : Nat) (hl : (L c).length ≤ 10000) : L57ab.run L c 1 = bif badO (L c) then .e0 else .e1 :=
 scan_eq (N := L57ab.N L c) (n := (L c).length) (fun i => decide (((L c).getD i default).ax < r61.v ((L c).getD (i - 1) default))) .e0 .e1 1 (fun k i h1 h => by
  simp only [L57ab.N, Int.toNat_natCast]
  rw [decide_eq_true (show (i : Int) < ((L c).length : Int) by omega), cond_true, wrap_s (Nat.le_of_lt h) (by omega), wrap_pn h1 (by omega)]) (fun k i _ h => by
  simp only [L57ab.N, Int.toNat_natCast]
  rw [decide_eq_false (show ¬ (i : Int) < ((L c).length : Int) by omega), cond_false]) ((((L c).length : Int) - ((1 : Nat) : Int)).toNat + 1) 1 (Nat.le_refl _) (by omega)
theorem L57a_run (N : Nat) (L : Nat → List SD) (hN : N ≤ 1000) (hl : ∀ k, (L k).length ≤ 10000) : L57a.run N L 0 = bif anyN N (fun k => badO (L k)) then .e0 else .e1 := by
 have := scan_eq (N := L57a.N N L) (n := N) (fun k => badO (L k)) .e0 .e1 0 (fun k i _ h => by
  simp only [L57a.N]
  rw [decide_eq_true (show (i : Int) < (N : Int) by omega), cond_true, wrap_s (Nat.le_of_lt h) (by omega), L57ab_run L i (hl i)]
  cases badO (L i) <;> rfl) (fun k i _ h => by
  simp only [L57a.N]
  rw [decide_eq_false (show ¬ (i : Int) < (N : Int) by omega), cond_false]) (((N : Int) - ((0 : Nat) : Int)).toNat + 1) 0 (Nat.zero_le _) (by omega)
 rw [anyN_all] at this
 exact this
section
variable {w : WD} (hn : w.n ≤ 10000) (hb : badN w = false) (t : Int) (ht : t ≤ 99)
include hn hb ht
theorem L21e_run : L21e.run w t 0 = bif anyN (t + 1).toNat (fun k => badO (cC w k)) then .e0 else .e1 := by
 have := scan_eq (N := L21e.N w t) (n := (t + 1).toNat) (fun k => badO (cC w k)) .e0 .e1 0 (fun k i _ h => by
  simp only [L21e.N]
  rw [decide_eq_true (show (i : Int) ≤ t by omega), cond_true, wrap_s (n := i) (Nat.le_refl _) (by omega), cor_eq hn hb i, L21f_run _ (cC_len hn i)]
  cases badO (cC w i) <;> rfl) (fun k i _ h => by
  simp only [L21e.N]
  rw [decide_eq_false (show ¬ (i : Int) ≤ t by omega), cond_false]) ((t + 1 - ((0 : Nat) : Int)).toNat + 1) 0 (Nat.zero_le _) (by omega)
 rw [anyN_all] at this
 exact this
end
noncomputable def badJ (w : WD) (L : List SD) : Bool := anyN L.length fun i => decide (1 ≤ i) && !r51.v (IntKind.i64.wrap ((L.getD i default).ax - r61.v (L.getD (i - 1) default))) w.jl w.jh
noncomputable def badE (w : WD) (L : List SD) : Bool := !((L.getD 0 default).ax == 0) || (!(r61.v (L.getD (IntKind.i64.wrap ((L.length : Int) - 1)).toNat default) == w.len) || badJ w L)
theorem L58ab_run (w : WD) (L : Nat → List SD) (c : Nat) (hl : (L c).length ≤ 10000) : L58ab.run w L c 1 = bif badJ w (L c) then .e0 else .e1 :=
 scan_eq (N := L58ab.N w L c) (n := (L c).length) (fun i => !r51.v (IntKind.i64.wrap (((L c).getD i default).ax - r61.v ((L c).getD (i - 1) default))) w.jl w.jh) .e0 .e1 1 (fun k i h1 h => by
  simp only [L58ab.N, Int.toNat_natCast]
  rw [decide_eq_true (show (i : Int) < ((L c).length : Int) by omega), cond_true, wrap_s (Nat.le_of_lt h) (by omega), wrap_pn h1 (by omega)]
  cases r51.v (IntKind.i64.wrap (((L c).getD i default).ax - r61.v ((L c).getD (i - 1) default))) w.jl w.jh <;> rfl) (fun k i _ h => by
  simp only [L58ab.N, Int.toNat_natCast]
  rw [decide_eq_false (show ¬ (i : Int) < ((L c).length : Int) by omega), cond_false]) ((((L c).length : Int) - ((1 : Nat) : Int)).toNat + 1) 1 (Nat.le_refl _) (by omega)
theorem L58a_run (w : WD) (N : Nat) (L : Nat → List SD) (hN : N ≤ 1000) (hl : ∀ k, (L k).length ≤ 10000) : L58a.run w N L 0 = bif anyN N (fun k => badE w (L k)) then .e0 else .e1 := by
 have := scan_eq (N := L58a.N w N L) (n := N) (fun k => badE w (L k)) .e0 .e1 0 (fun k i _ h => by
  simp only [L58a.N, Int.toNat_natCast]
  rw [decide_eq_true (show (i : Int) < (N : Int) by omega), cond_true, wrap_s (Nat.le_of_lt h) (by omega), L58ab_run w L i (hl i)]
  unfold badE
  cases ((L i).getD 0 default).ax == 0 <;> cases r61.v ((L i).getD (IntKind.i64.wrap (((L i).length : Int) - 1)).toNat default) == w.len <;> cases badJ w (L i) <;> rfl) (fun k i _ h => by
  simp only [L58a.N]
  rw [decide_eq_false (show ¬ (i : Int) < (N : Int) by omega), cond_false]) (((N : Int) - ((0 : Nat) : Int)).toNat + 1) 0 (Nat.zero_le _) (by omega)
 rw [anyN_all] at this
 exact this
theorem cC_mem {w : WD} {k : Nat} {x : SD} (h : x ∈ cC w k) : ∃ i, i < w.n ∧ x = w.g i := crs_mem ((srtS_perm _).subset h)
theorem cC_ok {w : WD} (hs : ∀ i, i < w.n → SOk (w.g i)) {k i : Nat} (hi : i < (cC w k).length) : SOk ((cC w k).getD i default) := by
 rw [getD_lt hi]
 obtain ⟨j, hj, e⟩ := cC_mem (List.getElem_mem hi)
 rw [e]; exact hs j hj
theorem L21h_run (w : WD) (L : List SD) (hl : L.length ≤ 10000) (hs : ∀ i, i < L.length → SOk (L.getD i default)) : L21h.run w L 1 = bif badJ w L then .e0 else .e1 :=
 scan_eq (N := L21h.N w L) (n := L.length) (fun i => !r51.v (IntKind.i64.wrap ((L.getD i default).ax - r61.v (L.getD (i - 1) default))) w.jl w.jh) .e0 .e1 1 (fun k i h1 h => by
  simp only [L21h.N, Int.toNat_natCast]
  rw [decide_eq_true (show (i : Int) < (L.length : Int) by omega), cond_true, wrap_s (Nat.le_of_lt h) (by omega), wrap_pn h1 (by omega)]
  have a := (hs i h).ax
  have b := (hs (i - 1) (by omega)).ax
  have c := (hs (i - 1) (by omega)).sx
  have e : IntKind.i64.wrap (IntKind.i64.wrap ((L.getD i default).ax - (L.getD (i - 1) default).ax) - (L.getD (i - 1) default).sx) = IntKind.i64.wrap ((L.getD i default).ax - r61.v (L.getD (i - 1) default)) := by
   unfold r61.v
   rw [IntWalk.i64_in ((L.getD i default).ax - (L.getD (i - 1) default).ax) (by omega), IntWalk.i64_in ((L.getD (i - 1) default).ax + (L.getD (i - 1) default).sx) (by omega)]
   congr 1; omega
  rw [e]
  show (bif r37.v _ w.jl w.jh then _ else _) = _
  rw [r37_51]
  cases r51.v (IntKind.i64.wrap ((L.getD i default).ax - r61.v (L.getD (i - 1) default))) w.jl w.jh <;> rfl) (fun k i _ h => by
  simp only [L21h.N]
  rw [decide_eq_false (show ¬ (i : Int) < (L.length : Int) by omega), cond_false]) (((L.length : Int) - ((1 : Nat) : Int)).toNat + 1) 1 (Nat.le_refl _) (by omega)
section
variable {w : WD} (hn : w.n ≤ 10000) (hb : badN w = false) (hs : ∀ i, i < w.n → SOk (w.g i)) (t : Int) (ht : t ≤ 99)
include hn hb ht hs
theorem L21g_run : L21g.run w t 0 = bif anyN (t + 1).toNat (fun k => badE w (cC w k)) then .e0 else .e1 := by
 have := scan_eq (N := L21g.N w t) (n := (t + 1).toNat) (fun k => badE w (cC w k)) .e0 .e1 0 (fun k i _ h => by
  simp only [L21g.N]
  rw [decide_eq_true (show (i : Int) ≤ t by omega), cond_true, wrap_s (n := i) (Nat.le_refl _) (by omega), cor_eq hn hb i, L21h_run _ _ (cC_len hn i) fun j hj => cC_ok hs hj]
  unfold badE
  show _ = bif !((cC w i).getD 0 default).ax == 0 || (!(IntKind.i64.wrap (((cC w i).getD (IntKind.i64.wrap (((cC w i).length : Int) - 1)).toNat default).ax + ((cC w i).getD (IntKind.i64.wrap (((cC w i).length : Int) - 1)).toNat default).sx) == w.len) || badJ w (cC w i)) then _ else _
  cases ((cC w i).getD 0 default).ax == 0 <;> cases IntKind.i64.wrap (((cC w i).getD (IntKind.i64.wrap (((cC w i).length : Int) - 1)).toNat default).ax + ((cC w i).getD (IntKind.i64.wrap (((cC w i).length : Int) - 1)).toNat default).sx) == w.len <;> cases badJ w (cC w i) <;> rfl) (fun k i _ h => by
  simp only [L21g.N]
  rw [decide_eq_false (show ¬ (i : Int) ≤ t by omega), cond_false]) ((t + 1 - ((0 : Nat) : Int)).toNat + 1) 0 (Nat.zero_le _) (by omega)
 rw [anyN_all] at this
 exact this
end
/-- Both checks agree. -/
theorem check_eq {w : WD} (hn : w.n ≤ 10000) (hnm : w.nm.size ≤ 9223372036854775807) (hg : ∀ i, (w.g i).nm.size ≤ 9223372036854775807) : r21.v w = r24.v w := by
 unfold r21.v r24.v
 rw [← name_eq hnm, L21a_run w hn hg, L24a_run w hn, r40_v w hn]
 cases decide ((w.n : Int) > 512) with
 | true => rfl
 | false =>
 cases r48.v w.nm with
 | false => rfl
 | true =>
 cases r49a.v w.n w.g with
 | true => rfl
 | false =>
 cases r51.v w.len 1 1000000 with
 | false => rfl
 | true =>
 cases r51.v w.lap 0 1000000 with
 | false => rfl
 | true =>
 cases r51.v w.jl 0 1000 with
 | false => rfl
 | true =>
 cases r51.v w.jh 0 1000 with
 | false => rfl
 | true =>
 cases hR : r49b.v w.n w.g with
 | true => rfl
 | false =>
 cases decide (w.jl > w.jh) with
 | true => rfl
 | false =>
 cases hB : badN w with
 | true => rfl
 | false =>
  obtain ⟨t1, t2⟩ := top_le w.g 99 (by decide) w.n fun i hi => (co_of hn hR i hi).2
  have hs := sok_all hn hR
  have hN : nC w ≤ 1000 := nC_le hn hR
  have et : (topC w.g w.n + 1).toNat = nC w := rfl
  have e54 : r54.v (nC w) (cC w) = anyN (nC w) (fun k => ((corR w.g (k : Int) w.n).length : Int) == 0) := by
   rw [r54_v (by omega)]
   exact anyN_congr fun k _ => by rw [cor_eq hn hB k]; rfl
  simp only [cond_true, cond_false]
  rw [r41_v w hn, L21b_run w _ t2, L21c_run hn hB _ t2, L21e_run hn hB _ t2, L21g_run hn hB hs _ t2, et, e54]
  unfold r56.v r57.v r58.v
  rw [L56a_run w _ _ hN, L57a_run _ _ hN (cC_len hn), L58a_run w _ _ hN (cC_len hn)]
  cases anyN (nC w) (fun k => ((corR w.g (k : Int) w.n).length : Int) == 0) <;> cases anyN (nC w) (badH w (cC w)) <;> cases anyN (nC w) (fun k => badO (cC w k)) <;> cases anyN (nC w) (fun k => badE w (cC w k)) <;> rfl
end Go.Proofs.Ytjdbmmilcihpoaa
open Go
namespace Go.Proofs.Ytjdbmmilcihpoaa
set_option maxHeartbeats 0
set_option maxRecDepth 100000
set_option linter.unusedVariables false
set_option linter.unusedSimpArgs false
/-- What a valid wall has. -/
structure Valid (w : WD) : Prop where
 n : w.n ≤ 512
 rng : r49b.v w.n w.g = false
 rise : badN w = false
 some : r54.v (nC w) (cC w) = false
 hgt : r56.v w (nC w) (cC w) = true
 nov : r57.v (nC w) (cC w) = false
 fill : r58.v w (nC w) (cC w) = true
 len : r51.v w.len 1 1000000 = true
 lap : r51.v w.lap 0 1000000 = true
 jl : r51.v w.jl 0 1000 = true
 jh : r51.v w.jh 0 1000 = true
 jo : w.jl ≤ w.jh
theorem valid {w : WD} (hn : w.n ≤ 10000) (h : (r24.v w == 0) = true) : Valid w := by
 have h := eq_of_beq h
 unfold r24.v at h
 rw [L24a_run w hn] at h
 have st : ∀ {b : Bool} {x : Int} {c : Int}, c ≠ 0 → (bif b then c else x) = 0 → b = false ∧ x = 0 := by
  intro b x c hc h; cases b
  · exact ⟨rfl, h⟩
  · exact absurd h hc
 have sf : ∀ {b : Bool} {x : Int} {c : Int}, c ≠ 0 → (bif b then x else c) = 0 → b = true ∧ x = 0 := by
  intro b x c hc h; cases b
  · exact absurd h hc
  · exact ⟨rfl, h⟩
 obtain ⟨a1, h⟩ := st (by decide) h
 obtain ⟨a2, h⟩ := sf (by decide) h
 obtain ⟨a3, h⟩ := st (by decide) h
 obtain ⟨a4, h⟩ := sf (by decide) h
 obtain ⟨a5, h⟩ := sf (by decide) h
 obtain ⟨a6, h⟩ := sf (by decide) h
 obtain ⟨a7, h⟩ := sf (by decide) h
 obtain ⟨a8, h⟩ := st (by decide) h
 obtain ⟨a9, h⟩ := st (by decide) h
 cases hb : badN w with
 | true => rw [hb] at h; cases h
 | false =>
  rw [hb] at h
  simp only [cond_false] at h
  obtain ⟨b1, h⟩ := st (by decide) h
  obtain ⟨b2, h⟩ := sf (by decide) h
  obtain ⟨b3, h⟩ := st (by decide) h
  obtain ⟨b4, _⟩ := sf (by decide) h
  have := of_decide_eq_false a1
  have := of_decide_eq_false a9
  exact ⟨by omega, a8, hb, b1, b2, b3, b4, a4, a5, a6, a7, by omega⟩
section
variable {w : WD} (hn : w.n ≤ 10000) (h : (r24.v w == 0) = true)
include hn h
theorem v_co : ∀ i, i < w.n → 0 ≤ (w.g i).co ∧ (w.g i).co ≤ 99 := co_of hn (valid hn h).rng
theorem v_nm : ∀ i j, i < w.n → j < w.n → (w.g i).nm.toList = (w.g j).nm.toList → i = j := nm_of hn (by rw [L24a_run w hn, (valid hn h).rise]; rfl)
theorem v_N : nC w ≤ 1000 := nC_le hn (valid hn h).rng
theorem v_cor (k : Nat) : corR w.g (k : Int) w.n = cC w k := cor_eq hn (valid hn h).rise k
theorem v_top : topC w.g w.n ≤ 99 ∧ -1 ≤ topC w.g w.n := ⟨(top_le w.g 99 (by decide) w.n fun i hi => (v_co hn h i hi).2).2, (top_le w.g 99 (by decide) w.n fun i hi => (v_co hn h i hi).2).1⟩
theorem v_top41 : r41.v w ≤ 99 := by rw [r41_v w hn]; exact (v_top hn h).1
end
end Go.Proofs.Ytjdbmmilcihpoaa
open Go
namespace Go.Proofs.Ytjdbmmilcihpoaa
set_option linter.unusedSimpArgs false
set_option linter.unusedVariables false
set_option maxHeartbeats 0
set_option maxRecDepth 100000
noncomputable def v29.v0 (w : WD) (c : Int) : List Int := (bif decide (c < 0) then ([] : List Int) else (bif decide (c ≥ (↑(nC w) : Int)) then ([] : List Int) else r45.v (cC w c.toNat).length fun (i : Nat) => (cC w c.toNat).getD i default))
noncomputable def v29.v1 (w : WD) (c : Int) : Int := (bif decide (c < 0) then 3 else (bif decide (c ≥ (↑(nC w) : Int)) then 3 else 0))
noncomputable abbrev v29.h0 (w : WD) (c : Int) : AHeap := ([AObj.var (WD.av w)])
theorem v29 (w : WD) (hn : w.n ≤ 10000) (hnm : w.nm.size ≤ 9223372036854775807) (hg : ∀ (i : Nat), (w.g i).nm.size ≤ 9223372036854775807) (he : (r24.v w == 0) = true) (c : Int) (h : AHeap) : Ret Try.prog 29 ([w.av, iv c]) h (AV.tup [(avInts IntKind.i64 (v29.v0 w c)), (iv (v29.v1 w c))]) h := by
 have o0 : w.n ≤ (10000 : Nat) := by assumption
 have o1 : w.nm.size ≤ (9223372036854775807 : Nat) := by assumption
 have o2 : ∀ (i : Nat), (w.g i).nm.size ≤ (9223372036854775807 : Nat) := by assumption
 have o3 : ∀ (i : Nat), i < w.n → (0 : Int) ≤ (w.g i).co ∧ (w.g i).co ≤ (99 : Int) := by first | assumption | omega | (apply v_co <;> first | assumption | omega) | (exact hg _) | (exact hg _ (by omega)) | (simp_all; done)
 have o4 : ∀ (i j : Nat), i < w.n → j < w.n → (w.g i).nm.toList = (w.g j).nm.toList → i = j := by first | assumption | omega | (apply v_nm <;> first | assumption | omega) | (exact hg _) | (exact hg _ (by omega)) | (simp_all; done)
 cases h1 : decide (c < 0) with
 | true =>
  have h1p := of_decide_eq_true h1
  exact Ret.val (show (AV.tup [(avInts IntKind.i64 ([] : List Int)), iv 3]) = (AV.tup [(avInts IntKind.i64 (v29.v0 w c)), (iv (v29.v1 w c))]) by simp only [v29.v0, v29.v1, he, h1, cond_true, cond_false]) (Ret.of_run1 mix [(avInts IntKind.i64 ([] : List Int)), iv 3] Try.func29 rfl [.ret (iv (r24.v w)) (v29.h0 w c), .b false, .ret (AV.sl 1 (nC w) fun (j : Nat) => AV.sl 14 (cC w j).length fun (q : Nat) => (SD.av ((cC w j).getD q default))) (v29.h0 w c), .b true, .b true, .b true, .b true, .b true, .b true] (by simp) (by simp) (kmp (by kernel_rfl) (Ai (r24 (w) o0 o1 o2 (v29.h0 w c)) (Ai (show (bnot (r24.v w == 0)) = false by rw [he]; try rfl) (Ai (r44 (w) o0 o3 o4 (v29.h0 w c)) (Ai h1 (Ai h1 (Ai h1 (Ai h1 (Ai h1 (Ai (rfl : true = true) (Ai (rfl : ((avInts IntKind.i64 ([] : List Int))) = ((avInts IntKind.i64 ([] : List Int)))) (Ai (rfl : (iv 3) = (iv 3)) trivial)))))))))))) h)
 | false =>
  have h1p := of_decide_eq_false h1
  cases h2 : decide (c ≥ (↑(nC w) : Int)) with
  | true =>
   have h2p := of_decide_eq_true h2
   exact Ret.val (show (AV.tup [(avInts IntKind.i64 ([] : List Int)), iv 3]) = (AV.tup [(avInts IntKind.i64 (v29.v0 w c)), (iv (v29.v1 w c))]) by simp only [v29.v0, v29.v1, he, h1, h2, cond_true, cond_false]) (Ret.of_run1 mix [(avInts IntKind.i64 ([] : List Int)), iv 3] Try.func29 rfl [.ret (iv (r24.v w)) (v29.h0 w c), .b false, .ret (AV.sl 1 (nC w) fun (j : Nat) => AV.sl 14 (cC w j).length fun (q : Nat) => (SD.av ((cC w j).getD q default))) (v29.h0 w c), .b false, .b false, .b false, .b false, .b false, .b true] (by simp) (by simp) (kmp (by kernel_rfl) (Ai (r24 (w) o0 o1 o2 (v29.h0 w c)) (Ai (show (bnot (r24.v w == 0)) = false by rw [he]; try rfl) (Ai (r44 (w) o0 o3 o4 (v29.h0 w c)) (Ai h1 (Ai h1 (Ai h1 (Ai h1 (Ai h1 (Ai h2 (Ai (rfl : ((avInts IntKind.i64 ([] : List Int))) = ((avInts IntKind.i64 ([] : List Int)))) (Ai (rfl : (iv 3) = (iv 3)) trivial)))))))))))) h)
  | false =>
   have h2p := of_decide_eq_false h2
   have o5 : (0 : Int) ≤ c := by omega
   have o6 : c < (↑(nC w) : Int) := by omega
   have o7 : (cC w c.toNat).length ≤ (10000 : Nat) := by first | assumption | omega | (simp only [List.length_append, List.length_cons, List.length_nil, List.length_map]; omega) | (apply cC_len <;> first | assumption | omega) | (exact hg _) | (exact hg _ (by omega)) | (simp_all; done)
   exact Ret.of_run1 mix [(avInts IntKind.i64 (v29.v0 w c)), (iv (v29.v1 w c))] Try.func29 rfl [.ret (iv (r24.v w)) (v29.h0 w c), .b false, .ret (AV.sl 1 (nC w) fun (j : Nat) => AV.sl 14 (cC w j).length fun (q : Nat) => (SD.av ((cC w j).getD q default))) (v29.h0 w c), .b false, .b false, .b false, .b false, .b false, .b false, .ret (AV.sl 1 (r45.v (cC w c.toNat).length fun (i : Nat) => (cC w c.toNat).getD i default).length fun (a : Nat) => iv ((r45.v (cC w c.toNat).length fun (i : Nat) => (cC w c.toNat).getD i default).getD a 0)) (v29.h0 w c)] (by simp) (by simp) (kmp (by kernel_rfl) (Ai (r24 (w) o0 o1 o2 (v29.h0 w c)) (Ai (show (bnot (r24.v w == 0)) = false by rw [he]; try rfl) (Ai (r44 (w) o0 o3 o4 (v29.h0 w c)) (Ai h1 (Ai h1 (Ai h1 (Ai h1 (Ai h1 (Ai h2 (Ai (Ai o5 o6) (Ai (r45 ((cC w c.toNat).length) o7 (fun (i : Nat) => (cC w c.toNat).getD i default) (v29.h0 w c)) (Ai (show ((avInts IntKind.i64 (r45.v (cC w c.toNat).length fun (i : Nat) => (cC w c.toNat).getD i default))) = ((avInts IntKind.i64 (v29.v0 w c))) by simp only [v29.v0, v29.v1, he, h1, h2, cond_true, cond_false]) (Ai (show (iv 0) = ((iv (v29.v1 w c))) by simp only [v29.v0, v29.v1, he, h1, h2, cond_true, cond_false]) trivial)))))))))))))) h
inductive L30a.O where
 | e0 (a0 : Nat) (a1 : List Int)
noncomputable def L30a.T (w : WD) (c : Int) (av6 : Nat) (al6 : List Int) (a7 : Int) : List AV := mkT 44 [(5, AV.sl 14 (corR w.g c w.n).length fun (q : Nat) => (SD.av ((corR w.g c w.n).getD q default))), (6, AV.ms 1 av6 1 0 al6.length), (7, iv a7)]
noncomputable def L30a.H (w : WD) (c : Int) (av6 : Nat) (al6 : List Int) (a7 : Int) : AHeap := [AObj.dead, AObj.row 1 av6 (Col.ints IntKind.i64 al6)]
def L30a.inv (w : WD) (c : Int) (av6 : Nat) (al6 : List Int) (a7 : Int) : Prop := 1 ≤ a7 ∧ (a7 ≤ (↑(corR w.g c w.n).length : Int) ∨ a7 ≤ 1) ∧ (↑al6.length : Int) ≤ a7 - 1
noncomputable def L30a.mu (w : WD) (c : Int) (av6 : Nat) (al6 : List Int) (a7 : Int) : Nat := ((↑(corR w.g c w.n).length : Int) - a7).toNat
noncomputable def L30a.E : L30a.O → Exit
 | .e0 a0 a1 => Exit.exit 0
noncomputable def L30a.X (w : WD) (c : Int) : L30a.O → List AV
 | .e0 a0 a1 => mkT 44 [(6, (AV.ms 1 a0 1 0 (List.length a1)))]
noncomputable def L30a.XH (w : WD) (c : Int) : L30a.O → AHeap
 | .e0 a0 a1 => ((AObj.dead) :: ((AObj.row 1 a0 (Col.ints IntKind.i64 a1)) :: ([])))
noncomputable def L30a.N (w : WD) (c : Int) : Nat → Nat → (List Int) → Int → L30a.O
 | 0, av6, al6, _ => .e0 av6 al6
 | k_ + 1, av6, al6, a7 => (bif decide (a7 < (↑(corR w.g c w.n).length : Int)) then (L30a.N w c k_ (av6 + 1) (al6 ++ [IntKind.i64.wrap (IntKind.i64.wrap (((corR w.g c w.n).getD (IntKind.i64.wrap (a7 - 1)).toNat default).ax + ((corR w.g c w.n).getD (IntKind.i64.wrap (a7 - 1)).toNat default).sx) + ((corR w.g c w.n).getD a7.toNat default).ax)]) (IntKind.i64.wrap (a7 + 1))) else (.e0 (av6) (al6)))
noncomputable def L30a.run (w : WD) (c : Int) (av6 : Nat) (al6 : List Int) (a7 : Int) : L30a.O := L30a.N w c ((((↑(corR w.g c w.n).length : Int) - a7).toNat) + 1) av6 al6 a7
theorem L30a.nx (w : WD) (c : Int) {k_ : Nat} {z_ : Nat × (List Int) × Int} {h_ : AHeap} (s_ : Nat × (List Int) × Int) (h1 : L30a.inv w c s_.1 s_.2.1 s_.2.2) (h2 : L30a.mu w c s_.1 s_.2.1 s_.2.2 < L30a.mu w c z_.1 z_.2.1 z_.2.2) (h3 : L30a.N w c k_ s_.1 s_.2.1 s_.2.2 = L30a.N w c (k_ + 1) z_.1 z_.2.1 z_.2.2) (h4 : PopOk (L30a.H w c z_.1 z_.2.1 z_.2.2) h_ (L30a.T w c s_.1 s_.2.1 s_.2.2) (L30a.H w c s_.1 s_.2.1 s_.2.2)) : LNextP (fun (z_ : Nat × (List Int) × Int) => L30a.T w c z_.1 z_.2.1 z_.2.2) (fun (z_ : Nat × (List Int) × Int) => L30a.H w c z_.1 z_.2.1 z_.2.2) (fun (z_ : Nat × (List Int) × Int) => L30a.inv w c z_.1 z_.2.1 z_.2.2) (fun (z_ : Nat × (List Int) × Int) => L30a.mu w c z_.1 z_.2.1 z_.2.2) (fun (k_ : Nat) (z_ : Nat × (List Int) × Int) => L30a.N w c k_ z_.1 z_.2.1 z_.2.2) k_ z_ (L30a.T w c s_.1 s_.2.1 s_.2.2) h_ := LNextP.mk s_ h1 h2 h3 h4
theorem L30a.en (w : WD) (c : Int) {k_ : Nat} {z_ : Nat × (List Int) × Int} {h_ : AHeap} (o_ : L30a.O) (h3 : L30a.N w c (k_ + 1) z_.1 z_.2.1 z_.2.2 = o_) (h4 : PopOk (L30a.H w c z_.1 z_.2.1 z_.2.2) h_ (L30a.X w c o_) (L30a.XH w c o_)) : LEndP (fun (z_ : Nat × (List Int) × Int) => L30a.H w c z_.1 z_.2.1 z_.2.2) (fun (k_ : Nat) (z_ : Nat × (List Int) × Int) => L30a.N w c k_ z_.1 z_.2.1 z_.2.2) L30a.E (L30a.X w c) (L30a.XH w c) k_ z_ (L30a.E o_) (L30a.X w c o_) h_ := LEndP.mk o_ h3 h4
theorem L30a.spec (w : WD) (hn : w.n ≤ 10000) (c : Int) (k_ : Nat) (z_ : Nat × (List Int) × Int) (hi_ : L30a.inv w c z_.1 z_.2.1 z_.2.2) (hm_ : L30a.mu w c z_.1 z_.2.1 z_.2.2 < k_) : LoopTo Try.prog (loopN Try.f30 0) (L30a.T w c z_.1 z_.2.1 z_.2.2) (L30a.H w c z_.1 z_.2.1 z_.2.2) (L30a.E (L30a.N w c k_ z_.1 z_.2.1 z_.2.2)) (L30a.X w c (L30a.N w c k_ z_.1 z_.2.1 z_.2.2)) (L30a.XH w c (L30a.N w c k_ z_.1 z_.2.1 z_.2.2)) := by
 refine LoopTo.fuelP mix (fun (z_ : Nat × (List Int) × Int) => L30a.T w c z_.1 z_.2.1 z_.2.2) (fun (z_ : Nat × (List Int) × Int) => L30a.H w c z_.1 z_.2.1 z_.2.2) (fun (z_ : Nat × (List Int) × Int) => L30a.inv w c z_.1 z_.2.1 z_.2.2) (fun (z_ : Nat × (List Int) × Int) => L30a.mu w c z_.1 z_.2.1 z_.2.2) (fun (k_ : Nat) (z_ : Nat × (List Int) × Int) => L30a.N w c k_ z_.1 z_.2.1 z_.2.2) L30a.E (L30a.X w c) (L30a.XH w c) (others 44 [5, 6, 7]) (others 44 [4]) (others 44 [6]) ?_ k_ z_ hi_ hm_
 clear hm_ hi_ z_ k_
 intro k_ z_ hinv hmu
 obtain ⟨av6, al6, a7⟩ := z_
 have hinv : 1 ≤ a7 ∧ (a7 ≤ (↑(corR w.g c w.n).length : Int) ∨ a7 ≤ 1) ∧ (↑al6.length : Int) ≤ a7 - 1 := hinv
 have hmu : (((↑(corR w.g c w.n).length : Int) - a7).toNat) < k_ + 1 := hmu
 cases h1 : decide (a7 < (↑(corR w.g c w.n).length : Int)) with
 | true =>
  have h1p := of_decide_eq_true h1
  try have := bd_cor (by assumption) (by assumption)
  try have := IntWalk.i64_in (a7 - 1) (by omega)
  have o0 : (0 : Int) ≤ IntKind.i64.wrap (a7 - (1 : Int)) := by omega
  have o1 : IntKind.i64.wrap (a7 - (1 : Int)) < (↑(corR w.g c w.n).length : Int) := by omega
  have o2 : (0 : Int) ≤ a7 := by omega
  have o3 : a7 < (↑(corR w.g c w.n).length : Int) := by assumption
  have o4 : (al6.length + (1 : Nat)) * (8 : Nat) ≤ (140737488355328 : Nat) := by omega
  have o5 : al6.length = (Col.ints IntKind.i64 al6).len := by rfl
  try have := IntWalk.i64_in (a7 + 1) (by omega)
  have o6 : (1 : Int) ≤ IntKind.i64.wrap (a7 + (1 : Int)) := by omega
  have o7 : IntKind.i64.wrap (a7 + (1 : Int)) ≤ (↑(corR w.g c w.n).length : Int) ∨ IntKind.i64.wrap (a7 + (1 : Int)) ≤ (1 : Int) := by omega
  try have := IntWalk.i64_in (((corR w.g c w.n).getD (IntKind.i64.wrap (a7 - 1)).toNat default).ax + ((corR w.g c w.n).getD (IntKind.i64.wrap (a7 - 1)).toNat default).sx) (by omega)
  try have := IntWalk.i64_in (IntKind.i64.wrap (((corR w.g c w.n).getD (IntKind.i64.wrap (a7 - 1)).toNat default).ax + ((corR w.g c w.n).getD (IntKind.i64.wrap (a7 - 1)).toNat default).sx) + ((corR w.g c w.n).getD a7.toNat default).ax) (by omega)
  have o8 : (↑(al6 ++ [IntKind.i64.wrap (IntKind.i64.wrap (((corR w.g c w.n).getD (IntKind.i64.wrap (a7 - (1 : Int))).toNat default).ax + ((corR w.g c w.n).getD (IntKind.i64.wrap (a7 - (1 : Int))).toNat default).sx) + ((corR w.g c w.n).getD a7.toNat default).ax)]).length : Int) ≤ IntKind.i64.wrap (a7 + (1 : Int)) - (1 : Int) := by simp only [List.length_append, List.length_cons, List.length_nil, List.length_map]; omega
  have o9 : ((↑(corR w.g c w.n).length : Int) - IntKind.i64.wrap (a7 + (1 : Int))).toNat < ((↑(corR w.g c w.n).length : Int) - a7).toNat := by omega
  exact ⟨[.b true, .app .one false], kmp (by kernel_rfl) (Ai h1 (Ai (Ai o0 o1) (Ai (Ai o0 o1) (Ai (Ai o2 o3) (Ai (Ai (show (1 : Nat) = (1 : Nat) by decide) (Ai (show AppMode.one.needs 1 fun (a : Nat) => (Col.ofList [iv (IntKind.i64.wrap (IntKind.i64.wrap (((corR w.g c w.n).getD (IntKind.i64.wrap (a7 - 1)).toNat default).ax + ((corR w.g c w.n).getD (IntKind.i64.wrap (a7 - 1)).toNat default).sx) + ((corR w.g c w.n).getD a7.toNat default).ax))]).get a by exact ⟨rfl, rfl⟩) (Ai o4 (Ai (rfl : av6 = av6) (Ai (show (0 : Nat) = (0 : Nat) by decide) o5))))) (L30a.nx w c (k_ := k_) (z_ := (av6, al6, a7)) ((av6 + 1, al6 ++ [IntKind.i64.wrap (IntKind.i64.wrap (((corR w.g c w.n).getD (IntKind.i64.wrap (a7 - 1)).toNat default).ax + ((corR w.g c w.n).getD (IntKind.i64.wrap (a7 - 1)).toNat default).sx) + ((corR w.g c w.n).getD a7.toNat default).ax)], IntKind.i64.wrap (a7 + 1))) (Ai o6 (Ai o7 o8)) o9 (by simp only [L30a.N, h1, cond_true, cond_false]) PopOk.same))))))⟩
 | false =>
  have h1p := of_decide_eq_false h1
  exact ⟨[.b false], kmp (by kernel_rfl) (Ai h1 (L30a.en w c (k_ := k_) (z_ := (av6, al6, a7)) (.e0 (av6) (al6) : L30a.O) (by simp only [L30a.N, h1, cond_true, cond_false]) PopOk.same))⟩
theorem L30a.e0 (w : WD) (hn : w.n ≤ 10000) (c : Int) (av6 : Nat) (al6 : List Int) (a7 : Int) (hinv : L30a.inv w c av6 al6 a7) (a0 : Nat) (a1 : List Int) (hN : L30a.run w c av6 al6 a7 = (.e0 a0 a1 : L30a.O)) : LoopTo Try.prog (loopN Try.f30 0) (L30a.T w c av6 al6 a7) (L30a.H w c av6 al6 a7) (Exit.exit 0) (L30a.X w c (.e0 a0 a1 : L30a.O)) (L30a.XH w c (.e0 a0 a1 : L30a.O)) := by
 have h_ := L30a.spec w hn c ((((↑(corR w.g c w.n).length : Int) - a7).toNat) + 1) (av6, al6, a7) hinv (Nat.lt_succ_self _)
 unfold L30a.run at hN
 simp only [hN] at h_
 exact h_
theorem L30a.len0_1 {w : WD} {c : Int} : ∀ (m_ : Nat) (av6 : Nat) (al6 : List Int) (a7 : Int) (a0_ : Nat) (a1_ : List Int), L30a.N w c m_ av6 al6 a7 = (.e0 a0_ a1_ : L30a.O) → (a1_).length ≤ (al6).length + m_ := by
 intro m_
 induction m_ with
 | zero =>
  intro av6 al6 a7 a0_ a1_ h_
  simp only [L30a.N] at h_
  first | (cases h_; done) | (cases h_; first | exact Nat.zero_le _ | omega)
 | succ m_ ih_ =>
  intro av6 al6 a7 a0_ a1_ h_
  cases h1 : decide (a7 < (↑(corR w.g c w.n).length : Int)) with
  | true =>
   have h1p := of_decide_eq_true h1
   (simp only [L30a.N, h1, cond_true, cond_false] at h_; first | (have := ih_ _ _ _ _ _ h_; (try simp only [List.length_append, List.length_cons, List.length_nil, List.length_set] at this); omega) | (cases h_; done) | (cases h_; omega))
  | false =>
   have h1p := of_decide_eq_false h1
   (simp only [L30a.N, h1, cond_true, cond_false] at h_; first | (have := ih_ _ _ _ _ _ h_; (try simp only [List.length_append, List.length_cons, List.length_nil, List.length_set] at this); omega) | (cases h_; done) | (cases h_; omega))
theorem L30a.lenR0_1 {w : WD} {c : Int} {av6 : Nat} {al6 : List Int} {a7 : Int} {a0_ : Nat} {a1_ : List Int} (h_ : L30a.run w c av6 al6 a7 = (.e0 a0_ a1_ : L30a.O)) : (a1_).length ≤ (al6).length + ((((↑(corR w.g c w.n).length : Int) - a7).toNat) + 1) := L30a.len0_1 _ av6 al6 a7 a0_ a1_ h_
noncomputable def r30.v (w : WD) (c : Int) : List Int := (match L30a.run w c 0 [] 1 with | .e0 h1d0 h1d1 => h1d1 )
theorem r30 (w : WD) (hn : w.n ≤ 10000) (c : Int) (h : AHeap) : Ret Try.prog 30 ([w.av, iv c]) h (avInts IntKind.i64 (r30.v w c)) h := by
 try have := bd_cor (by first | assumption | omega) (by first | assumption | omega)
 try have := L30a.lenR0_1 (by assumption); (try simp only [List.length_nil] at this)
 have o0 : w.n ≤ (10000 : Nat) := by assumption
 have o1 : (1 : Int) ≤ (↑(corR w.g c w.n).length : Int) ∨ (1 : Int) ≤ (1 : Int) := by omega
 cases h1 : L30a.run w c 0 [] 1 with
 | e0 h1d0 h1d1 =>
  try have := bd_cor (by first | assumption | omega) (by first | assumption | omega)
  try have := L30a.lenR0_1 (by assumption); (try simp only [List.length_nil] at this)
  have o2 : (0 : Nat) + h1d1.length ≤ (Col.ints IntKind.i64 h1d1).len := by simp [Col.len]
  exact Ret.of_run1 mix [(avInts IntKind.i64 (r30.v w c))] Try.func30 rfl [.ret (AV.sl 14 (corR w.g c w.n).length fun (q : Nat) => (SD.av ((corR w.g c w.n).getD q default))) ([AObj.var (WD.av w)]), .virt [0] [(none, 6, 1, Col.ints IntKind.i64 [])], .loop (others 44 [5, 6, 7]) (Exit.exit 0) (L30a.X w c (L30a.O.e0 h1d0 h1d1)) (L30a.XH w c (L30a.O.e0 h1d0 h1d1))] (by simp) (by simp) (kmp (by kernel_rfl) (Ai (r42 (w) (c) o0 ([AObj.var (WD.av w)])) (Ai (Ai (rfl : AV.snil = AV.snil) (Ai (rfl : (0 : Nat) = 0) trivial)) (Ai (L30a.e0 (w) o0 (c) (0) ([]) (1) (Ai (show (1 : Int) ≤ (1 : Int) by decide) (Ai o1 (show (0 : Int) ≤ (0 : Int) by decide))) h1d0 h1d1 h1) (Ai (Ai (rfl : h1d0 = h1d0) (Ai (show (1 : Nat) = (1 : Nat) by decide) (Ai o2 (show ((avInts IntKind.i64 h1d1)) = ((avInts IntKind.i64 (r30.v w c))) by simp only [r30.v, h1, cond_true, cond_false])))) trivial))))) h
inductive L28a.O where
 | e0
 | e1
noncomputable def L28a.T (n : Nat) (f : Nat → ByteArray) (m : Nat) (g : Nat → ByteArray) (a5 : Int) : List AV := mkT 26 [(0, AV.sl 1 n fun (i : Nat) => AV.str (f i)), (1, AV.sl 1 m fun (i : Nat) => AV.str (g i)), (5, iv a5)]
noncomputable def L28a.H (n : Nat) (f : Nat → ByteArray) (m : Nat) (g : Nat → ByteArray) (a5 : Int) : AHeap := []
def L28a.inv (n : Nat) (f : Nat → ByteArray) (m : Nat) (g : Nat → ByteArray) (a5 : Int) : Prop := 0 ≤ a5 ∧ (a5 ≤ (↑n : Int) ∨ a5 ≤ 0)
noncomputable def L28a.mu (n : Nat) (f : Nat → ByteArray) (m : Nat) (g : Nat → ByteArray) (a5 : Int) : Nat := ((↑n : Int) - a5).toNat
noncomputable def L28a.E : L28a.O → Exit
 | .e0 => Exit.ret
 | .e1 => Exit.exit 0
noncomputable def L28a.X (n : Nat) (f : Nat → ByteArray) (m : Nat) (g : Nat → ByteArray) : L28a.O → List AV
 | .e0 => mkT 26 [(4, (AV.bool false))]
 | .e1 => mkT 26 []
noncomputable def L28a.XH (n : Nat) (f : Nat → ByteArray) (m : Nat) (g : Nat → ByteArray) : L28a.O → AHeap
 | .e0 => ([])
 | .e1 => ([])
noncomputable def L28a.N (n : Nat) (f : Nat → ByteArray) (g : Nat → ByteArray) : Nat → Int → L28a.O
 | 0, _ => .e0
 | k_ + 1, a5 => (bif decide (a5 < (↑n : Int)) then (bif (f a5.toNat).toList == (g a5.toNat).toList then (L28a.N n f g k_ (IntKind.i64.wrap (a5 + 1))) else (.e0)) else (.e1))
noncomputable def L28a.run (n : Nat) (f : Nat → ByteArray) (g : Nat → ByteArray) (a5 : Int) : L28a.O := L28a.N n f g ((((↑n : Int) - a5).toNat) + 1) a5
theorem L28a.nx (n : Nat) (f : Nat → ByteArray) (m : Nat) (g : Nat → ByteArray) {k_ : Nat} {z_ : Int} {h_ : AHeap} (s_ : Int) (h1 : L28a.inv n f m g s_) (h2 : L28a.mu n f m g s_ < L28a.mu n f m g z_) (h3 : L28a.N n f g k_ s_ = L28a.N n f g (k_ + 1) z_) (h4 : PopOk (L28a.H n f m g z_) h_ (L28a.T n f m g s_) (L28a.H n f m g s_)) : LNextP (L28a.T n f m g) (L28a.H n f m g) (L28a.inv n f m g) (L28a.mu n f m g) (L28a.N n f g) k_ z_ (L28a.T n f m g s_) h_ := LNextP.mk s_ h1 h2 h3 h4
theorem L28a.en (n : Nat) (f : Nat → ByteArray) (m : Nat) (g : Nat → ByteArray) {k_ : Nat} {z_ : Int} {h_ : AHeap} (o_ : L28a.O) (h3 : L28a.N n f g (k_ + 1) z_ = o_) (h4 : PopOk (L28a.H n f m g z_) h_ (L28a.X n f m g o_) (L28a.XH n f m g o_)) : LEndP (L28a.H n f m g) (L28a.N n f g) L28a.E (L28a.X n f m g) (L28a.XH n f m g) k_ z_ (L28a.E o_) (L28a.X n f m g o_) h_ := LEndP.mk o_ h3 h4
theorem L28a.spec (n : Nat) (f : Nat → ByteArray) (hn : n ≤ 1000000) (m : Nat) (g : Nat → ByteArray) (hm : m ≤ 1000000) (k0_1 : ((↑n : Int) == (↑m : Int)) = true) (p0_1 : (↑n : Int) = (↑m : Int)) (k_ : Nat) (z_ : Int) (hi_ : L28a.inv n f m g z_) (hm_ : L28a.mu n f m g z_ < k_) : LoopTo Try.prog (loopN Try.f28 0) (L28a.T n f m g z_) (L28a.H n f m g z_) (L28a.E (L28a.N n f g k_ z_)) (L28a.X n f m g (L28a.N n f g k_ z_)) (L28a.XH n f m g (L28a.N n f g k_ z_)) := by
 refine LoopTo.fuelP mix (L28a.T n f m g) (L28a.H n f m g) (L28a.inv n f m g) (L28a.mu n f m g) (L28a.N n f g) L28a.E (L28a.X n f m g) (L28a.XH n f m g) (others 26 [0, 1, 5]) (others 26 [4]) (others 26 []) ?_ k_ z_ hi_ hm_
 clear hm_ hi_ z_ k_
 intro k_ z_ hinv hmu
 revert hinv hmu; revert z_; intro a5 hinv hmu
 have hinv : 0 ≤ a5 ∧ (a5 ≤ (↑n : Int) ∨ a5 ≤ 0) := hinv
 have hmu : (((↑n : Int) - a5).toNat) < k_ + 1 := hmu
 cases h1 : decide (a5 < (↑n : Int)) with
 | true =>
  have h1p := of_decide_eq_true h1
  have o0 : (0 : Int) ≤ a5 := by omega
  have o1 : a5 < (↑n : Int) := by assumption
  have o2 : a5 < (↑m : Int) := by omega
  cases h2 : (f a5.toNat).toList == (g a5.toNat).toList with
  | true =>
   have h2p := str_eq h2
   try have := IntWalk.i64_in (a5 + 1) (by omega)
   have o3 : (0 : Int) ≤ IntKind.i64.wrap (a5 + (1 : Int)) := by omega
   have o4 : IntKind.i64.wrap (a5 + (1 : Int)) ≤ (↑n : Int) ∨ IntKind.i64.wrap (a5 + (1 : Int)) ≤ (0 : Int) := by omega
   have o5 : ((↑n : Int) - IntKind.i64.wrap (a5 + (1 : Int))).toNat < ((↑n : Int) - a5).toNat := by omega
   exact ⟨[.b true, .b false], kmp (by kernel_rfl) (Ai h1 (Ai (Ai o0 o1) (Ai (Ai o0 o2) (Ai (show (bnot ((f a5.toNat).toList == (g a5.toNat).toList)) = false by rw [h2]; try rfl) (L28a.nx n f m g (k_ := k_) (z_ := a5) (IntKind.i64.wrap (a5 + 1)) (Ai o3 o4) o5 (by simp only [L28a.N, h1, h2, cond_true, cond_false]) PopOk.same)))))⟩
  | false =>
   have h2p := str_ne h2
   exact ⟨[.b true, .b true], kmp (by kernel_rfl) (Ai h1 (Ai (Ai o0 o1) (Ai (Ai o0 o2) (Ai (show (bnot ((f a5.toNat).toList == (g a5.toNat).toList)) = true by rw [h2]; try rfl) (L28a.en n f m g (k_ := k_) (z_ := a5) (.e0 : L28a.O) (by simp only [L28a.N, h1, h2, cond_true, cond_false]) PopOk.same)))))⟩
 | false =>
  have h1p := of_decide_eq_false h1
  exact ⟨[.b false], kmp (by kernel_rfl) (Ai h1 (L28a.en n f m g (k_ := k_) (z_ := a5) (.e1 : L28a.O) (by simp only [L28a.N, h1, cond_true, cond_false]) PopOk.same))⟩
theorem L28a.e0 (n : Nat) (f : Nat → ByteArray) (hn : n ≤ 1000000) (m : Nat) (g : Nat → ByteArray) (hm : m ≤ 1000000) (k0_1 : ((↑n : Int) == (↑m : Int)) = true) (p0_1 : (↑n : Int) = (↑m : Int)) (a5 : Int) (hinv : L28a.inv n f m g a5) (hN : L28a.run n f g a5 = (.e0 : L28a.O)) : LoopTo Try.prog (loopN Try.f28 0) (L28a.T n f m g a5) (L28a.H n f m g a5) (Exit.ret) (L28a.X n f m g (.e0 : L28a.O)) (L28a.XH n f m g (.e0 : L28a.O)) := by
 have h_ := L28a.spec n f hn m g hm k0_1 p0_1 ((((↑n : Int) - a5).toNat) + 1) a5 hinv (Nat.lt_succ_self _)
 unfold L28a.run at hN
 simp only [hN] at h_
 exact h_
theorem L28a.e1 (n : Nat) (f : Nat → ByteArray) (hn : n ≤ 1000000) (m : Nat) (g : Nat → ByteArray) (hm : m ≤ 1000000) (k0_1 : ((↑n : Int) == (↑m : Int)) = true) (p0_1 : (↑n : Int) = (↑m : Int)) (a5 : Int) (hinv : L28a.inv n f m g a5) (hN : L28a.run n f g a5 = (.e1 : L28a.O)) : LoopTo Try.prog (loopN Try.f28 0) (L28a.T n f m g a5) (L28a.H n f m g a5) (Exit.exit 0) (L28a.X n f m g (.e1 : L28a.O)) (L28a.XH n f m g (.e1 : L28a.O)) := by
 have h_ := L28a.spec n f hn m g hm k0_1 p0_1 ((((↑n : Int) - a5).toNat) + 1) a5 hinv (Nat.lt_succ_self _)
 unfold L28a.run at hN
 simp only [hN] at h_
 exact h_
noncomputable def r28.v (n : Nat) (f : Nat → ByteArray) (m : Nat) (g : Nat → ByteArray) : Bool := (bif (↑n : Int) == (↑m : Int) then (match L28a.run n f g 0 with | .e0 => false | .e1 => true ) else false)
theorem r28 (n : Nat) (f : Nat → ByteArray) (hn : n ≤ 1000000) (m : Nat) (g : Nat → ByteArray) (hm : m ≤ 1000000) (h : AHeap) : Ret Try.prog 28 ([AV.sl 1 n fun (i : Nat) => AV.str (f i), AV.sl 1 m fun (i : Nat) => AV.str (g i)]) h (AV.bool (r28.v n f m g)) h := by
 cases h1 : (↑n : Int) == (↑m : Int) with
 | true =>
  have h1p := eq_of_beq h1
  have o0 : n ≤ (1000000 : Nat) := by assumption
  have o1 : m ≤ (1000000 : Nat) := by assumption
  have o2 : ((↑n : Int) == (↑m : Int)) = true := by assumption
  have o3 : (↑n : Int) = (↑m : Int) := by assumption
  have o4 : (0 : Int) ≤ (↑n : Int) ∨ (0 : Int) ≤ (0 : Int) := by omega
  cases h2 : L28a.run n f g 0 with
  | e0 =>
   exact Ret.of_run1 mix [(AV.bool (r28.v n f m g))] Try.func28 rfl [.b false, .loop (others 26 [0, 1, 5]) (Exit.ret) (L28a.X n f m g L28a.O.e0) (L28a.XH n f m g L28a.O.e0)] (by simp) (by simp) (kmp (by kernel_rfl) (Ai (show (bnot ((↑n : Int) == (↑m : Int))) = false by rw [h1]; try rfl) (Ai (L28a.e0 (n) (f) o0 (m) (g) o1 o2 o3 (0) (Ai (show (0 : Int) ≤ (0 : Int) by decide) o4) h2) (Ai (show (AV.bool false) = ((AV.bool (r28.v n f m g))) by simp only [r28.v, h1, h2, cond_true, cond_false]) trivial)))) h
  | e1 =>
   exact Ret.of_run1 mix [(AV.bool (r28.v n f m g))] Try.func28 rfl [.b false, .loop (others 26 [0, 1, 5]) (Exit.exit 0) (L28a.X n f m g L28a.O.e1) (L28a.XH n f m g L28a.O.e1)] (by simp) (by simp) (kmp (by kernel_rfl) (Ai (show (bnot ((↑n : Int) == (↑m : Int))) = false by rw [h1]; try rfl) (Ai (L28a.e1 (n) (f) o0 (m) (g) o1 o2 o3 (0) (Ai (show (0 : Int) ≤ (0 : Int) by decide) o4) h2) (Ai (show (AV.bool true) = ((AV.bool (r28.v n f m g))) by simp only [r28.v, h1, h2, cond_true, cond_false]) trivial)))) h
 | false =>
  have h1p := ne_of_beq_false h1
  exact Ret.of_run1 mix [(AV.bool (r28.v n f m g))] Try.func28 rfl [.b true] (by simp) (by simp) (kmp (by kernel_rfl) (Ai (show (bnot ((↑n : Int) == (↑m : Int))) = true by rw [h1]; try rfl) (Ai (show (AV.bool false) = ((AV.bool (r28.v n f m g))) by simp only [r28.v, h1, cond_true, cond_false]) trivial))) h
end Go.Proofs.Ytjdbmmilcihpoaa
open Go
namespace Go.Proofs.Ytjdbmmilcihpoaa
set_option linter.unusedSimpArgs false
set_option linter.unusedVariables false
set_option maxHeartbeats 0
set_option maxRecDepth 100000
noncomputable def r60.v (s : SD) (st : ByteArray) : Bool := s.nm.toList == st.toList
theorem r60 (w : WD) (s : SD) (st : ByteArray) : Ret Try.prog 60 ([s.av, AV.ptr 1 1 1 0 0]) ([AObj.var w.av, AObj.var (AV.str st)]) (AV.bool (r60.v s st)) ( [AObj.var w.av, AObj.var (AV.str st)]) := by
 exact Ret.of_runH mix [(AV.bool (r60.v s st))] ([AObj.var w.av, AObj.var (AV.str st)]) Try.func60 rfl [] (by simp) (kmp (by kernel_rfl) (Ai (Ai (show (AV.bool (s.nm.toList == st.toList)) = ((AV.bool (r60.v s st))) by simp only [r60.v, cond_true, cond_false]) trivial) (rfl : ([AObj.var w.av, AObj.var (AV.str st)] : AHeap) = [AObj.var w.av, AObj.var (AV.str st)])))
inductive L59d.O where
 | e0 (a0 : Int)
 | e1
noncomputable def L59d.T (w : WD) (n : Nat) (g : Nat → SD) (st : ByteArray) (i : Int) : List AV := mkT 19 [(0, sds n g), (1, AV.fn 60 [AV.ptr 1 1 1 0 0]), (7, iv (↑n : Int)), (8, iv i)]
noncomputable def L59d.H (w : WD) (n : Nat) (g : Nat → SD) (st : ByteArray) (i : Int) : AHeap := [AObj.var w.av, AObj.var (AV.str st)]
def L59d.inv (w : WD) (n : Nat) (g : Nat → SD) (st : ByteArray) (i : Int) : Prop := 0 ≤ i ∧ i ≤ (↑n : Int)
noncomputable def L59d.mu (w : WD) (n : Nat) (g : Nat → SD) (st : ByteArray) (i : Int) : Nat := ((↑n : Int) - i).toNat
noncomputable def L59d.E : L59d.O → Exit
 | .e0 a0 => Exit.ret
 | .e1 => Exit.exit 0
noncomputable def L59d.X (w : WD) (n : Nat) (g : Nat → SD) (st : ByteArray) : L59d.O → List AV
 | .e0 a0 => mkT 19 [(4, (iv a0))]
 | .e1 => mkT 19 []
noncomputable def L59d.XH (w : WD) (n : Nat) (g : Nat → SD) (st : ByteArray) : L59d.O → AHeap
 | .e0 a0 => ([AObj.var (WD.av w), AObj.var (AV.str st)])
 | .e1 => ([AObj.var (WD.av w), AObj.var (AV.str st)])
noncomputable def L59d.N (n : Nat) (g : Nat → SD) (st : ByteArray) : Nat → Int → L59d.O
 | 0, i => .e0 i
 | k_ + 1, i => (bif decide (i < (↑n : Int)) then (bif r60.v (g i.toNat) st then (.e0 (i)) else (L59d.N n g st k_ (IntKind.i64.wrap (i + 1)))) else (.e1))
noncomputable def L59d.run (n : Nat) (g : Nat → SD) (st : ByteArray) (i : Int) : L59d.O := L59d.N n g st ((((↑n : Int) - i).toNat) + 1) i
theorem L59d.nx (w : WD) (n : Nat) (g : Nat → SD) (st : ByteArray) {k_ : Nat} {z_ : Int} {h_ : AHeap} (s_ : Int) (h1 : L59d.inv w n g st s_) (h2 : L59d.mu w n g st s_ < L59d.mu w n g st z_) (h3 : L59d.N n g st k_ s_ = L59d.N n g st (k_ + 1) z_) (h4 : PopOk (L59d.H w n g st z_) h_ (L59d.T w n g st s_) (L59d.H w n g st s_)) : LNextP (L59d.T w n g st) (L59d.H w n g st) (L59d.inv w n g st) (L59d.mu w n g st) (L59d.N n g st) k_ z_ (L59d.T w n g st s_) h_ := LNextP.mk s_ h1 h2 h3 h4
theorem L59d.en (w : WD) (n : Nat) (g : Nat → SD) (st : ByteArray) {k_ : Nat} {z_ : Int} {h_ : AHeap} (o_ : L59d.O) (h3 : L59d.N n g st (k_ + 1) z_ = o_) (h4 : PopOk (L59d.H w n g st z_) h_ (L59d.X w n g st o_) (L59d.XH w n g st o_)) : LEndP (L59d.H w n g st) (L59d.N n g st) L59d.E (L59d.X w n g st) (L59d.XH w n g st) k_ z_ (L59d.E o_) (L59d.X w n g st o_) h_ := LEndP.mk o_ h3 h4
theorem L59d.spec (w : WD) (n : Nat) (hn : n ≤ 10000) (g : Nat → SD) (st : ByteArray) (k_ : Nat) (z_ : Int) (hi_ : L59d.inv w n g st z_) (hm_ : L59d.mu w n g st z_ < k_) : LoopTo Try.prog (loopN Try.f59 0) (L59d.T w n g st z_) (L59d.H w n g st z_) (L59d.E (L59d.N n g st k_ z_)) (L59d.X w n g st (L59d.N n g st k_ z_)) (L59d.XH w n g st (L59d.N n g st k_ z_)) := by
 refine LoopTo.fuelP mix (L59d.T w n g st) (L59d.H w n g st) (L59d.inv w n g st) (L59d.mu w n g st) (L59d.N n g st) L59d.E (L59d.X w n g st) (L59d.XH w n g st) (others 19 [0, 1, 7, 8]) (others 19 [4]) (others 19 []) ?_ k_ z_ hi_ hm_
 clear hm_ hi_ z_ k_
 intro k_ z_ hinv hmu
 revert hinv hmu; revert z_; intro i hinv hmu
 have hinv : 0 ≤ i ∧ i ≤ (↑n : Int) := hinv
 have hmu : (((↑n : Int) - i).toNat) < k_ + 1 := hmu
 cases h1 : decide (i < (↑n : Int)) with
 | true =>
  have h1p := of_decide_eq_true h1
  have o0 : (0 : Int) ≤ i := by omega
  have o1 : i < (↑n : Int) := by assumption
  cases h2 : r60.v (g i.toNat) st with
  | true =>
   exact ⟨[.b true, .ret (AV.bool (r60.v (g i.toNat) st)) ([AObj.var (WD.av w), AObj.var (AV.str st)]), .b true], kmp (by kernel_rfl) (Ai h1 (Ai (Ai o0 o1) (Ai (r60 (w) (g i.toNat) (st)) (Ai h2 (L59d.en w n g st (k_ := k_) (z_ := i) (.e0 (i) : L59d.O) (by simp only [L59d.N, h1, h2, cond_true, cond_false]) PopOk.same)))))⟩
  | false =>
   try have := IntWalk.i64_in (i + 1) (by omega)
   have o2 : (0 : Int) ≤ IntKind.i64.wrap (i + (1 : Int)) := by omega
   have o3 : IntKind.i64.wrap (i + (1 : Int)) ≤ (↑n : Int) := by omega
   have o4 : ((↑n : Int) - IntKind.i64.wrap (i + (1 : Int))).toNat < ((↑n : Int) - i).toNat := by omega
   exact ⟨[.b true, .ret (AV.bool (r60.v (g i.toNat) st)) ([AObj.var (WD.av w), AObj.var (AV.str st)]), .b false], kmp (by kernel_rfl) (Ai h1 (Ai (Ai o0 o1) (Ai (r60 (w) (g i.toNat) (st)) (Ai h2 (L59d.nx w n g st (k_ := k_) (z_ := i) (IntKind.i64.wrap (i + 1)) (Ai o2 o3) o4 (by simp only [L59d.N, h1, h2, cond_true, cond_false]) PopOk.same)))))⟩
 | false =>
  have h1p := of_decide_eq_false h1
  exact ⟨[.b false], kmp (by kernel_rfl) (Ai h1 (L59d.en w n g st (k_ := k_) (z_ := i) (.e1 : L59d.O) (by simp only [L59d.N, h1, cond_true, cond_false]) PopOk.same))⟩
theorem L59d.e0 (w : WD) (n : Nat) (hn : n ≤ 10000) (g : Nat → SD) (st : ByteArray) (i : Int) (hinv : L59d.inv w n g st i) (a0 : Int) (hN : L59d.run n g st i = (.e0 a0 : L59d.O)) : LoopTo Try.prog (loopN Try.f59 0) (L59d.T w n g st i) (L59d.H w n g st i) (Exit.ret) (L59d.X w n g st (.e0 a0 : L59d.O)) (L59d.XH w n g st (.e0 a0 : L59d.O)) := by
 have h_ := L59d.spec w n hn g st ((((↑n : Int) - i).toNat) + 1) i hinv (Nat.lt_succ_self _)
 unfold L59d.run at hN
 simp only [hN] at h_
 exact h_
theorem L59d.e1 (w : WD) (n : Nat) (hn : n ≤ 10000) (g : Nat → SD) (st : ByteArray) (i : Int) (hinv : L59d.inv w n g st i) (hN : L59d.run n g st i = (.e1 : L59d.O)) : LoopTo Try.prog (loopN Try.f59 0) (L59d.T w n g st i) (L59d.H w n g st i) (Exit.exit 0) (L59d.X w n g st (.e1 : L59d.O)) (L59d.XH w n g st (.e1 : L59d.O)) := by
 have h_ := L59d.spec w n hn g st ((((↑n : Int) - i).toNat) + 1) i hinv (Nat.lt_succ_self _)
 unfold L59d.run at hN
 simp only [hN] at h_
 exact h_
noncomputable def r59d.v (n : Nat) (g : Nat → SD) (st : ByteArray) : Int := (match L59d.run n g st 0 with | .e0 h1d0 => h1d0 | .e1 => -1 )
theorem r59d (w : WD) (n : Nat) (hn : n ≤ 10000) (g : Nat → SD) (st : ByteArray) : Ret Try.prog 59 ([sds n g, AV.fn 60 [AV.ptr 1 1 1 0 0]]) ([AObj.var w.av, AObj.var (AV.str st)]) (iv (r59d.v n g st)) ( [AObj.var w.av, AObj.var (AV.str st)]) := by
 have o0 : n ≤ (10000 : Nat) := by assumption
 have o1 : (0 : Int) ≤ (↑n : Int) := by omega
 cases h1 : L59d.run n g st 0 with
 | e0 h1d0 =>
  exact Ret.of_runH mix [(iv (r59d.v n g st))] ([AObj.var w.av, AObj.var (AV.str st)]) Try.func59 rfl [.loop (others 19 [0, 1, 7, 8]) (Exit.ret) (L59d.X w n g st (L59d.O.e0 h1d0)) (L59d.XH w n g st (L59d.O.e0 h1d0))] (by simp) (kmp (by kernel_rfl) (Ai (L59d.e0 (w) (n) o0 (g) (st) (0) (Ai (show (0 : Int) ≤ (0 : Int) by decide) o1) h1d0 h1) (Ai (Ai (show (iv h1d0) = ((iv (r59d.v n g st))) by simp only [r59d.v, h1, cond_true, cond_false]) trivial) (rfl : ([AObj.var w.av, AObj.var (AV.str st)] : AHeap) = [AObj.var w.av, AObj.var (AV.str st)]))))
 | e1 =>
  exact Ret.of_runH mix [(iv (r59d.v n g st))] ([AObj.var w.av, AObj.var (AV.str st)]) Try.func59 rfl [.loop (others 19 [0, 1, 7, 8]) (Exit.exit 0) (L59d.X w n g st L59d.O.e1) (L59d.XH w n g st L59d.O.e1)] (by simp) (kmp (by kernel_rfl) (Ai (L59d.e1 (w) (n) o0 (g) (st) (0) (Ai (show (0 : Int) ≤ (0 : Int) by decide) o1) h1) (Ai (Ai (show (iv (-1)) = ((iv (r59d.v n g st))) by simp only [r59d.v, h1, cond_true, cond_false]) trivial) (rfl : ([AObj.var w.av, AObj.var (AV.str st)] : AHeap) = [AObj.var w.av, AObj.var (AV.str st)]))))
end Go.Proofs.Ytjdbmmilcihpoaa
open Go
namespace Go.Proofs.Ytjdbmmilcihpoaa
set_option maxHeartbeats 0
set_option maxRecDepth 100000
set_option linter.unusedVariables false
set_option linter.unusedSimpArgs false
/-- Lists of names as plain data. -/
def nmsF (G : Nat → List ByteArray) (j : Nat) : AV := .sl 1 (G j).length fun q => .str ((G j).getD q ByteArray.empty)
@[simp] theorem low_nmsF (lo : Nat) (G : Nat → List ByteArray) (j : Nat) : Low lo (nmsF G j) = True := by unfold nmsF; simp
def nms (N : Nat) (G : Nat → List ByteArray) : AV := .sl 1 N (nmsF G)
@[simp] theorem low_nms (lo N : Nat) (G : Nat → List ByteArray) : Low lo (nms N G) = True := by unfold nms; simp
def rowN (V : Nat) (G : Nat → List ByteArray) : AObj := .row 1 V (.gen V (nmsF G))
@[simp] theorem low_rowN (lo V : Nat) (G : Nat → List ByteArray) : (rowN V G).Low lo = True := eq_true fun j _ => by show Low lo (nmsF G j); simp
noncomputable def T26b (N : Nat) (C : Nat → List SD) (L : List SD) (V : Nat) (k i : Int) (x : AV) : List AV := mkT 41 [(5, .ms 1 V 1 0 V), (8, x), (17, nsts N C), (18, .int .i64 N), (19, .int .i64 k), (23, sl14 L), (24, .int .i64 L.length), (25, .int .i64 i)]
noncomputable def T27b (L : List SD) (V : Nat) (k i : Int) (x : AV) : List AV := mkT 38 [(1, .ptr 0 1 6 0 0), (3, .ms 1 V 1 0 V), (4, .int .i64 k), (5, sl14 L), (6, x), (7, .int .i64 i)]
def M26b (K : Exit → List AV → AHeap → Prop) : Exit → List AV → AHeap → List Dec → Prop := fun e T h _ => K e (mask (others 41 [5, 8, 17, 18, 19, 23, 24, 25]) T) h
def M27b (K : Exit → List AV → AHeap → Prop) : Exit → List AV → AHeap → List Dec → Prop := fun e T h _ => K e (mask (others 38 [1, 3, 4, 5, 6, 7]) T) h
end Go.Proofs.Ytjdbmmilcihpoaa
open Go
namespace Go.Proofs.Ytjdbmmilcihpoaa
set_option maxHeartbeats 0
set_option maxRecDepth 100000
set_option linter.unusedVariables false
set_option linter.unusedSimpArgs false
abbrev nmAt (L : List SD) (i : Int) : ByteArray := (L.getD i.toNat default).nm
abbrev tkN (L : List SD) (i : Nat) : List ByteArray := (L.take i).map SD.nm
/-- Names as plain data. -/
def nmL (xs : List ByteArray) : AV := .sl 1 xs.length fun q => .str (xs.getD q ByteArray.empty)
@[simp] theorem low_nmL (lo : Nat) (xs : List ByteArray) : Low lo (nmL xs) = True := by unfold nmL; simp
theorem tkN_succ {L : List SD} {i : Nat} (h : i < L.length) : tkN L i ++ [nmAt L (i : Int)] = tkN L (i + 1) := by
 unfold tkN nmAt
 rw [Int.toNat_natCast, getD_lt h, List.take_add_one, List.getElem?_eq_getElem h, List.map_append]; rfl
theorem tkN_len {L : List SD} {i : Nat} (h : i ≤ L.length) : (tkN L i).length = i := by unfold tkN; rw [List.length_map, List.length_take]; omega
theorem tkN_all (L : List SD) : tkN L L.length = L.map SD.nm := by unfold tkN; rw [List.take_length]
theorem isCol_strs (xs : List ByteArray) : IsCol AV.str (.strs xs) xs := ⟨rfl, fun j _ => rfl⟩
abbrev H3 (w : WD) (V : Nat) (G : Nat → List ByteArray) (v : Nat) (xs : List ByteArray) : AHeap := [AObj.var w.av, rowN V G, .row 1 v (.strs xs)]
section
variable (w : WD) (N : Nat) (C : Nat → List SD) (L : List SD) (V : Nat) (G : Nat → List ByteArray) (k i : Int) (v : Nat) (xs : List ByteArray) (K : Exit → List AV → AHeap → Prop)
theorem e26b_1 : run Try.prog (loopN Try.f26 1) (T26b N C L V k i (.ms 2 v 1 0 xs.length)) (H3 w V G v xs) [.b true, .app .one false] (M26b K) =
 (decide (i < (L.length : Int)) = true ∧ (0 ≤ i ∧ i < (L.length : Int)) ∧ (1 = 1 ∧ AppMode.one.needs 1 (Col.ofList [AV.str (nmAt L i)]).get ∧ (xs.length + 1) * 16 ≤ 140737488355328 ∧ v = v ∧ 0 = 0 ∧ xs.length = xs.length) ∧
  K .normal (T26b N C L V k (IntKind.i64.wrap (i + 1)) (.ms 2 (v + 1) 1 0 (xs ++ [nmAt L i]).length)) [AObj.var w.av, rowN V G, .row 1 (v + 1) (.strs (xs ++ [nmAt L i])), .var (L.getD i.toNat default).av]) := by kernel_rfl
theorem e26b_0 : run Try.prog (loopN Try.f26 1) (T26b N C L V k i (.ms 2 v 1 0 xs.length)) (H3 w V G v xs) [.b false] (M26b K) =
 (decide (i < (L.length : Int)) = false ∧ K (.exit 2) (T26b N C L V k i (.ms 2 v 1 0 xs.length)) (H3 w V G v xs)) := by kernel_rfl
theorem e27b_1 : run Try.prog (loopN Try.f27 1) (T27b L V k i (.ms 2 v 1 0 xs.length)) (H3 w V G v xs) [.b true, .app .one false] (M27b K) =
 (decide (i < (L.length : Int)) = true ∧ (0 ≤ i ∧ i < (L.length : Int)) ∧ (1 = 1 ∧ AppMode.one.needs 1 (Col.ofList [AV.str (nmAt L i)]).get ∧ (xs.length + 1) * 16 ≤ 140737488355328 ∧ v = v ∧ 0 = 0 ∧ xs.length = xs.length) ∧
  K .normal (T27b L V k (IntKind.i64.wrap (i + 1)) (.ms 2 (v + 1) 1 0 (xs ++ [nmAt L i]).length)) (H3 w V G (v + 1) (xs ++ [nmAt L i]))) := by kernel_rfl
theorem e27b_0 : run Try.prog (loopN Try.f27 1) (T27b L V k i (.ms 2 v 1 0 xs.length)) (H3 w V G v xs) [.b false] (M27b K) =
 (decide (i < (L.length : Int)) = false ∧ K (.exit 2) (T27b L V k i (.ms 2 v 1 0 xs.length)) (H3 w V G v xs)) := by kernel_rfl
end
theorem low3 {w : WD} {V : Nat} {G : Nat → List ByteArray} {v : Nat} {xs : List ByteArray} : ∀ o ∈ H3 w V G v xs, o.Low 3 := by
 intro o ho
 simp only [List.mem_cons, List.not_mem_nil, or_false] at ho
 rcases ho with rfl | rfl | rfl <;> simp
section
variable {w : WD} {N : Nat} {C : Nat → List SD} {L : List SD} {V : Nat} {G : Nat → List ByteArray} {k : Int}
theorem low26b {x : AV} {i : Int} (hx : Low 3 x) : ∀ t ∈ T26b N C L V k i x, Low 3 t := by
 refine low_mkTg _ _ _ fun e he => ?_
 simp only [List.mem_cons, List.not_mem_nil, or_false] at he
 rcases he with rfl | rfl | rfl | rfl | rfl | rfl | rfl | rfl
 · exact .ms _ _ _ _ _ (by decide +revert)
 · exact hx
 all_goals (first | exact .int _ _ | (unfold nsts; simp; done) | (unfold sl14; simp; done))
theorem lp26b (hl : L.length ≤ 10000) : To Try.prog (.loop (loopN Try.f26 1)) (T26b N C L V k 0 (.ms 2 0 1 0 0)) (H3 w V G 0 []) (G42 (.exit 2) (T26b N C L V k (L.length : Int) (.ms 2 L.length 1 0 L.length)) (H3 w V G L.length (L.map SD.nm))) := by
 refine To.loop (fun r T h => ∃ i, i ≤ L.length ∧ r = L.length - i ∧ T = T26b N C L V k (i : Int) (.ms 2 i 1 0 (tkN L i).length) ∧ h = H3 w V G i (tkN L i)) (fun r T h ⟨i, hi, hr, hT, hh⟩ => ?_) (n := L.length) ⟨0, Nat.zero_le _, rfl, rfl, rfl⟩
 subst hT; subst hh
 by_cases hlt : i < L.length
 · refine (To.ofRun mix ((e26b_1 w N C L V G k i i (tkN L i) (G42 .normal (T26b N C L V k ((i + 1 : Nat) : Int) (.ms 2 (i + 1) 1 0 (tkN L (i + 1)).length)) [AObj.var w.av, rowN V G, .row 1 (i + 1) (.strs (tkN L (i + 1))), .var (L.getD i default).av])).mpr
    ⟨decide_eq_true (by omega), by omega, ⟨rfl, ⟨rfl, rfl⟩, by rw [tkN_len hi]; omega, rfl, rfl, rfl⟩, rfl, by rw [tkN_succ hlt, wrap_s hi (by omega)], by rw [tkN_succ hlt]; rfl⟩)).pop fun e T1 h1 ⟨ds', he, hT, hh⟩ => ?_
   subst he
   refine ⟨_, H3 w V G (i + 1) (tkN L (i + 1)), leT_mask (others 41 [5, 8, 17, 18, 19, 23, 24, 25]) T1, ⟨L.length - (i + 1), by omega, i + 1, by omega, rfl, hT, rfl⟩, ?_⟩
   rw [hT, hh]
   exact .popLow _ rfl rfl low3 (low26b (.ms _ _ _ _ _ (by decide +revert)))
 · obtain rfl : i = L.length := by omega
   refine (To.ofRun mix ((e26b_0 w N C L V G k L.length L.length (tkN L L.length) (G42 (.exit 2) (T26b N C L V k (L.length : Int) (.ms 2 L.length 1 0 L.length)) (H3 w V G L.length (L.map SD.nm)))).mpr
    ⟨decide_eq_false (by omega), rfl, by rw [tkN_len hi], by rw [tkN_all]⟩)).pop fun e T1 h1 ⟨ds', he, hT, hh⟩ => ?_
   subst he
   exact ⟨_, _, leT_mask (others 41 [5, 8, 17, 18, 19, 23, 24, 25]) T1, ⟨rfl, hT, hh⟩, .same⟩
theorem lp27b (hl : L.length ≤ 10000) : To Try.prog (.loop (loopN Try.f27 1)) (T27b L V k 0 (.ms 2 0 1 0 0)) (H3 w V G 0 []) (G42 (.exit 2) (T27b L V k (L.length : Int) (.ms 2 L.length 1 0 L.length)) (H3 w V G L.length (L.map SD.nm))) := by
 refine To.loop (fun r T h => ∃ i, i ≤ L.length ∧ r = L.length - i ∧ T = T27b L V k (i : Int) (.ms 2 i 1 0 (tkN L i).length) ∧ h = H3 w V G i (tkN L i)) (fun r T h ⟨i, hi, hr, hT, hh⟩ => ?_) (n := L.length) ⟨0, Nat.zero_le _, rfl, rfl, rfl⟩
 subst hT; subst hh
 by_cases hlt : i < L.length
 · refine (To.ofRun mix ((e27b_1 w L V G k i i (tkN L i) (G42 .normal (T27b L V k ((i + 1 : Nat) : Int) (.ms 2 (i + 1) 1 0 (tkN L (i + 1)).length)) (H3 w V G (i + 1) (tkN L (i + 1))))).mpr
    ⟨decide_eq_true (by omega), by omega, ⟨rfl, ⟨rfl, rfl⟩, by rw [tkN_len hi]; omega, rfl, rfl, rfl⟩, rfl, by rw [tkN_succ hlt, wrap_s hi (by omega)], by rw [tkN_succ hlt]⟩)).pop fun e T1 h1 ⟨ds', he, hT, hh⟩ => ?_
   subst he
   exact ⟨_, _, leT_mask (others 38 [1, 3, 4, 5, 6, 7]) T1, ⟨L.length - (i + 1), by omega, i + 1, by omega, rfl, hT, hh⟩, .same⟩
 · obtain rfl : i = L.length := by omega
   refine (To.ofRun mix ((e27b_0 w L V G k L.length L.length (tkN L L.length) (G42 (.exit 2) (T27b L V k (L.length : Int) (.ms 2 L.length 1 0 L.length)) (H3 w V G L.length (L.map SD.nm)))).mpr
    ⟨decide_eq_false (by omega), rfl, by rw [tkN_len hi], by rw [tkN_all]⟩)).pop fun e T1 h1 ⟨ds', he, hT, hh⟩ => ?_
   subst he
   exact ⟨_, _, leT_mask (others 38 [1, 3, 4, 5, 6, 7]) T1, ⟨rfl, hT, hh⟩, .same⟩
theorem purN {xs : List ByteArray} {v len : Nat} (hlen : len = xs.length) : Pur (H3 w V G v xs) 2 (.ms 2 v 1 0 len) (nmL xs) :=
 pur_col (isCol_strs xs) hlen rfl (Nat.le_refl _) (fun _ => rfl) (fun s x hx => by rw [List.mem_singleton.1 hx]; exact .str _)
/-- The names of a course as plain data. -/
theorem c26b (hl : L.length ≤ 10000) : LoopTo Try.prog (loopN Try.f26 1) (T26b N C L V k 0 .snil) [AObj.var w.av, rowN V G] (.exit 2) (T26b N C L V k (L.length : Int) (nmL (L.map SD.nm))) [AObj.var w.av, rowN V G] := by
 have h := (lp26b (w := w) (N := N) (C := C) (V := V) (G := G) (k := k) hl).wpc
 have hv : WPC Try.prog (.loop (loopN Try.f26 1)) (T26b N C L V k 0 .snil) [AObj.var w.av, rowN V G] (G42 (.exit 2) (T26b N C L V k (L.length : Int) (.ms 2 L.length 1 0 L.length)) (H3 w V G L.length (L.map SD.nm))) :=
  WPC.virt [(none, 8, 1, .strs [])] _ _ ⟨rfl, rfl, trivial⟩ h
 refine (To.popF ⟨hv⟩ fun e T1 h1 ⟨he, hT, hh⟩ => ⟨T1, _, _, leT_refl _, ⟨he, rfl, rfl⟩, ?_⟩).wpc
 subst hT; subst hh
 exact .pop (pur_mkT (.same (.ms _ _ _ _ _ (Nat.lt_succ_self 1)) (.new (purN (by rw [List.length_map])) (.same (by unfold nsts; simp) (.same (.int _ _) (.same (.int _ _) (.same (by simp) (.same (.int _ _) (.same (.int _ _) trivial))))))))) rfl rfl fun id o ho => .inl ho
theorem c27b (hl : L.length ≤ 10000) : LoopTo Try.prog (loopN Try.f27 1) (T27b L V k 0 .snil) [AObj.var w.av, rowN V G] (.exit 2) (T27b L V k (L.length : Int) (nmL (L.map SD.nm))) [AObj.var w.av, rowN V G] := by
 have h := (lp27b (w := w) (V := V) (G := G) (k := k) hl).wpc
 have hv : WPC Try.prog (.loop (loopN Try.f27 1)) (T27b L V k 0 .snil) [AObj.var w.av, rowN V G] (G42 (.exit 2) (T27b L V k (L.length : Int) (.ms 2 L.length 1 0 L.length)) (H3 w V G L.length (L.map SD.nm))) :=
  WPC.virt [(none, 6, 1, .strs [])] _ _ ⟨rfl, rfl, trivial⟩ h
 refine (To.popF ⟨hv⟩ fun e T1 h1 ⟨he, hT, hh⟩ => ⟨T1, _, _, leT_refl _, ⟨he, rfl, rfl⟩, ?_⟩).wpc
 subst hT; subst hh
 exact .pop (pur_mkT (.same (.ptr _ _ _ _ _ (Nat.lt_succ_of_lt Nat.one_pos)) (.same (.ms _ _ _ _ _ (Nat.lt_succ_self 1)) (.same (.int _ _) (.same (by simp) (.new (purN (by rw [List.length_map])) (.same (.int _ _) trivial))))))) rfl rfl fun id o ho => .inl ho
end
end Go.Proofs.Ytjdbmmilcihpoaa
open Go
namespace Go.Proofs.Ytjdbmmilcihpoaa
set_option maxHeartbeats 0
set_option maxRecDepth 100000
set_option linter.unusedVariables false
set_option linter.unusedSimpArgs false
noncomputable def T26 (N : Nat) (C : Nat → List SD) (k : Nat) (x : AV) : List AV := mkT 41 [(5, x), (17, nsts N C), (18, .int .i64 N), (19, .int .i64 (k : Int))]
noncomputable def T27 (k : Nat) (x : AV) : List AV := mkT 38 [(1, .ptr 0 1 6 0 0), (3, x), (4, .int .i64 (k : Int))]
def M26 (K : Exit → List AV → AHeap → Prop) : Exit → List AV → AHeap → List Dec → Prop := fun e T h _ => K e (mask (others 41 [5, 17, 18, 19]) T) h
def M27 (K : Exit → List AV → AHeap → Prop) : Exit → List AV → AHeap → List Dec → Prop := fun e T h _ => K e (mask (others 38 [1, 3, 4]) T) h
abbrev H2 (w : WD) (k : Nat) (G : Nat → List ByteArray) : AHeap := [AObj.var w.av, rowN k G]
section
variable (w : WD) (N : Nat) (C : Nat → List SD) (G : Nat → List ByteArray) (k : Nat) (ys : List ByteArray) (K : Exit → List AV → AHeap → Prop)
theorem e26_1 : run Try.prog (loopN Try.f26 0) (T26 N C k (.ms 1 k 1 0 k)) (H2 w k G) [.b true, .loop (others 41 [5, 8, 17, 18, 19, 23, 24, 25]) (.exit 2) (T26b N C (C (k : Int).toNat) k (k : Int) ((C (k : Int).toNat).length : Int) (nmL ys)) (H2 w k G), .app .one false] (M26 K) =
 (decide ((k : Int) < (N : Int)) = true ∧ (0 ≤ (k : Int) ∧ (k : Int) < (N : Int)) ∧ LoopTo Try.prog (loopN Try.f26 1) (T26b N C (C (k : Int).toNat) k (k : Int) 0 .snil) (H2 w k G) (.exit 2) (T26b N C (C (k : Int).toNat) k (k : Int) ((C (k : Int).toNat).length : Int) (nmL ys)) (H2 w k G) ∧
  (1 = 1 ∧ AppMode.one.needs 1 (Col.ofList [nmL ys]).get ∧ (k + 1) * 24 ≤ 140737488355328 ∧ k = k ∧ 0 = 0 ∧ k = k) ∧
  K .normal (mkT 41 [(5, .ms 1 (k + 1) 1 0 (k + 1)), (17, nsts N C), (18, .int .i64 N), (19, .int .i64 (IntKind.i64.wrap ((k : Int) + 1)))]) [AObj.var w.av, .row 1 (k + 1) (.gen (k + 1) fun j => if j = k then nmL ys else nmsF G j)]) := by kernel_rfl
theorem e26_0 : run Try.prog (loopN Try.f26 0) (T26 N C k (.ms 1 k 1 0 k)) (H2 w k G) [.b false] (M26 K) =
 (decide ((k : Int) < (N : Int)) = false ∧ K (.exit 0) (T26 N C k (.ms 1 k 1 0 k)) (H2 w k G)) := by kernel_rfl
theorem e27_1 (t : Int) (L : List SD) : run Try.prog (loopN Try.f27 0) (T27 k (.ms 1 k 1 0 k)) (H2 w k G) [.ret (.int .i64 t) (H2 w k G), .b true, .ret (sl14 L) (H2 w k G), .loop (others 38 [1, 3, 4, 5, 6, 7]) (.exit 2) (T27b L k (k : Int) (L.length : Int) (nmL ys)) (H2 w k G), .app .one false] (M27 K) =
 (Ret Try.prog 41 [w.av] (H2 w k G) (.int .i64 t) (H2 w k G) ∧ decide ((k : Int) ≤ t) = true ∧ Ret Try.prog 42 [w.av, .int .i64 (k : Int)] (H2 w k G) (sl14 L) (H2 w k G) ∧ LoopTo Try.prog (loopN Try.f27 1) (T27b L k (k : Int) 0 .snil) (H2 w k G) (.exit 2) (T27b L k (k : Int) (L.length : Int) (nmL ys)) (H2 w k G) ∧
  (1 = 1 ∧ AppMode.one.needs 1 (Col.ofList [nmL ys]).get ∧ (k + 1) * 24 ≤ 140737488355328 ∧ k = k ∧ 0 = 0 ∧ k = k) ∧
  K .normal (mkT 38 [(1, .ptr 0 1 6 0 0), (3, .ms 1 (k + 1) 1 0 (k + 1)), (4, .int .i64 (IntKind.i64.wrap ((k : Int) + 1)))]) [AObj.var w.av, .row 1 (k + 1) (.gen (k + 1) fun j => if j = k then nmL ys else nmsF G j)]) := by kernel_rfl
theorem e27_0 (t : Int) : run Try.prog (loopN Try.f27 0) (T27 k (.ms 1 k 1 0 k)) (H2 w k G) [.ret (.int .i64 t) (H2 w k G), .b false] (M27 K) =
 (Ret Try.prog 41 [w.av] (H2 w k G) (.int .i64 t) (H2 w k G) ∧ decide ((k : Int) ≤ t) = false ∧ K (.exit 0) (T27 k (.ms 1 k 1 0 k)) (H2 w k G)) := by kernel_rfl
end
theorem row_next (k : Nat) (G : Nat → List ByteArray) : AObj.row 1 (k + 1) (.gen (k + 1) fun j => if j = k then nmL (G k) else nmsF G j) = rowN (k + 1) G := by
 unfold rowN
 congr 2
 funext j
 by_cases e : j = k
 · subst e; rw [if_pos rfl]; rfl
 · rw [if_neg e]
theorem nms_needs (ys : List ByteArray) : AppMode.one.needs 1 (Col.ofList [nmL ys]).get := ⟨rfl, rfl⟩
theorem lp26 (w : WD) (N : Nat) (hN : N ≤ 1000) (C : Nat → List SD) (hl : ∀ k, (C k).length ≤ 10000) :
 To Try.prog (.loop (loopN Try.f26 0)) (T26 N C 0 (.ms 1 0 1 0 0)) (H2 w 0 fun j => (C j).map SD.nm) (G42 (.exit 0) (T26 N C N (.ms 1 N 1 0 N)) (H2 w N fun j => (C j).map SD.nm)) := by
 refine To.loop (fun r T h => ∃ k, k ≤ N ∧ r = N - k ∧ T = T26 N C k (.ms 1 k 1 0 k) ∧ h = H2 w k fun j => (C j).map SD.nm) (fun r T h ⟨k, hk, hr, hT, hh⟩ => ?_) (n := N) ⟨0, Nat.zero_le _, rfl, rfl, rfl⟩
 subst hT; subst hh
 by_cases hlt : k < N
 · refine (To.ofRun mix ((e26_1 w N C (fun j => (C j).map SD.nm) k ((C k).map SD.nm) (G42 .normal (T26 N C (k + 1) (.ms 1 (k + 1) 1 0 (k + 1))) (H2 w (k + 1) fun j => (C j).map SD.nm))).mpr
    ⟨decide_eq_true (by omega), by omega, c26b (hl _), ⟨rfl, nms_needs _, by omega, rfl, rfl, rfl⟩, rfl, by rw [wrap_s (n := k) (Nat.le_refl _) (by omega)]; rfl, congrArg (fun o => [AObj.var w.av, o]) (row_next k fun j => (C j).map SD.nm)⟩)).pop fun e T1 h1 ⟨ds', he, hT, hh⟩ => ?_
   subst he
   exact ⟨_, _, leT_mask (others 41 [5, 17, 18, 19]) T1, ⟨N - (k + 1), by omega, k + 1, by omega, rfl, hT, hh⟩, .same⟩
 · obtain rfl : k = N := by omega
   refine (To.ofRun mix ((e26_0 w k C (fun j => (C j).map SD.nm) k (G42 (.exit 0) (T26 k C k (.ms 1 k 1 0 k)) (H2 w k fun j => (C j).map SD.nm))).mpr ⟨decide_eq_false (by omega), rfl, rfl, rfl⟩)).pop fun e T1 h1 ⟨ds', he, hT, hh⟩ => ?_
   subst he
   exact ⟨_, _, leT_mask (others 41 [5, 17, 18, 19]) T1, ⟨rfl, hT, hh⟩, .same⟩
theorem lp27 (w : WD) (hn : w.n ≤ 10000) (N : Nat) (hN : N ≤ 1000) (ht : r41.v w + 1 = (N : Int)) :
 To Try.prog (.loop (loopN Try.f27 0)) (T27 0 (.ms 1 0 1 0 0)) (H2 w 0 fun j => (corR w.g (j : Int) w.n).map SD.nm) (G42 (.exit 0) (T27 N (.ms 1 N 1 0 N)) (H2 w N fun j => (corR w.g (j : Int) w.n).map SD.nm)) := by
 have hl : ∀ k : Nat, (corR w.g (k : Int) w.n).length ≤ 10000 := fun k => cor_le hn _
 refine To.loop (fun r T h => ∃ k, k ≤ N ∧ r = N - k ∧ T = T27 k (.ms 1 k 1 0 k) ∧ h = H2 w k fun j => (corR w.g (j : Int) w.n).map SD.nm) (fun r T h ⟨k, hk, hr, hT, hh⟩ => ?_) (n := N) ⟨0, Nat.zero_le _, rfl, rfl, rfl⟩
 subst hT; subst hh
 by_cases hlt : k < N
 · refine (To.ofRun mix ((e27_1 w (fun j => (corR w.g (j : Int) w.n).map SD.nm) k ((corR w.g (k : Int) w.n).map SD.nm) (G42 .normal (T27 (k + 1) (.ms 1 (k + 1) 1 0 (k + 1))) (H2 w (k + 1) fun j => (corR w.g (j : Int) w.n).map SD.nm)) (r41.v w) (corR w.g (k : Int) w.n)).mpr
    ⟨r41 w hn _, decide_eq_true (by omega), r42 w _ hn _, c27b (hl _), ⟨rfl, nms_needs _, by omega, rfl, rfl, rfl⟩, rfl, by rw [wrap_s (n := k) (Nat.le_refl _) (by omega)]; rfl, congrArg (fun o => [AObj.var w.av, o]) (row_next k fun j => (corR w.g (j : Int) w.n).map SD.nm)⟩)).pop fun e T1 h1 ⟨ds', he, hT, hh⟩ => ?_
   subst he
   exact ⟨_, _, leT_mask (others 38 [1, 3, 4]) T1, ⟨N - (k + 1), by omega, k + 1, by omega, rfl, hT, hh⟩, .same⟩
 · obtain rfl : k = N := by omega
   refine (To.ofRun mix ((e27_0 w (fun j => (corR w.g (j : Int) w.n).map SD.nm) k (G42 (.exit 0) (T27 k (.ms 1 k 1 0 k)) (H2 w k fun j => (corR w.g (j : Int) w.n).map SD.nm)) (r41.v w)).mpr ⟨r41 w hn _, decide_eq_false (by omega), rfl, rfl, rfl⟩)).pop fun e T1 h1 ⟨ds', he, hT, hh⟩ => ?_
   subst he
   exact ⟨_, _, leT_mask (others 38 [1, 3, 4]) T1, ⟨rfl, hT, hh⟩, .same⟩
theorem nms_off (N : Nat) (G : Nat → List ByteArray) : AV.sl 1 N (offGet (.gen N (nmsF G)) 0) = nms N G := rfl
theorem low_nmo (N : Nat) (G : Nat → List ByteArray) : Low 0 (AV.sl 1 N (offGet (.gen N (nmsF G)) 0)) := by rw [nms_off]; simp
/-- wall.Courses of a valid wall. -/
theorem v26 (w : WD) (hn : w.n ≤ 10000) (hnm : w.nm.size ≤ 9223372036854775807) (hg : ∀ i, (w.g i).nm.size ≤ 9223372036854775807) (he : (r24.v w == 0) = true) (h : AHeap) :
 Ret Try.prog 26 [w.av] h (.tup [nms (nC w) (fun j => (cC w j).map SD.nm), .int .i64 0]) h := by
 have lp : LoopTo Try.prog (loopN Try.f26 0) (T26 (nC w) (cC w) 0 (.ms 1 0 1 0 0)) (H2 w 0 fun j => (cC w j).map SD.nm) (.exit 0) (T26 (nC w) (cC w) (nC w) (.ms 1 (nC w) 1 0 (nC w))) (H2 w (nC w) fun j => (cC w j).map SD.nm) := (lp26 w (nC w) (v_N hn he) (cC w) (cC_len hn)).wpc
 have e24 : r24.v w = 0 := eq_of_beq he
 have q24 := r24 w hn hnm hg [AObj.var w.av]
 rw [e24] at q24
 have q44 := r44 w hn (v_co hn he) (v_nm hn he) [AObj.var w.av]
 rw [← nms_off]
 have a1 : ((0 : Int) != 0) = false := rfl
 have a2 : AV.snil = AV.snil ∧ (0 : Nat) = 0 ∧ True := ⟨rfl, rfl, trivial⟩
 have a3 : nC w = nC w ∧ (1 : Nat) = 1 ∧ 0 + nC w ≤ nC w ∧ AV.sl 1 (nC w) (offGet (.gen (nC w) (nmsF fun j => (cC w j).map SD.nm)) 0) = AV.sl 1 (nC w) (offGet (.gen (nC w) (nmsF fun j => (cC w j).map SD.nm)) 0) := ⟨rfl, rfl, by omega, rfl⟩
 have a4 : AV.int .i64 0 = AV.int .i64 0 := rfl
 exact Ret.of_run1 mix [AV.sl 1 (nC w) (offGet (.gen (nC w) (nmsF fun j => (cC w j).map SD.nm)) 0), .int .i64 0] (c := bodyOf Try.f26) Try.func26 rfl
  [.ret (.int .i64 0) [AObj.var w.av], .b false, .ret (nestAV 14 SD.av (nC w) (cC w)) [AObj.var w.av], .virt [] [(none, 5, 1, .gen 0 (nmsF fun j => (cC w j).map SD.nm))], .loop (others 41 [5, 17, 18, 19]) (.exit 0) (T26 (nC w) (cC w) (nC w) (.ms 1 (nC w) 1 0 (nC w))) (H2 w (nC w) fun j => (cC w j).map SD.nm)]
  (fun v hv => by simp only [List.mem_cons, List.not_mem_nil, or_false] at hv; rcases hv with rfl | rfl; exact low_nmo _ _; exact .int _ _) (by simp)
  (kmp (by kernel_rfl) (Ai q24 (Ai a1 (Ai q44 (Ai a2 (Ai lp (Ai a3 (Ai a4 trivial)))))))) h
/-- The reference's Courses. -/
theorem r27 (w : WD) (hn : w.n ≤ 10000) (ht : r41.v w ≤ 99) (h1 : -1 ≤ r41.v w) (h : AHeap) : Ret Try.prog 27 [w.av] h (nms (r41.v w + 1).toNat (fun j => (corR w.g (j : Int) w.n).map SD.nm)) h := by
 have lp : LoopTo Try.prog (loopN Try.f27 0) (T27 0 (.ms 1 0 1 0 0)) (H2 w 0 fun j => (corR w.g (j : Int) w.n).map SD.nm) (.exit 0) (T27 (r41.v w + 1).toNat (.ms 1 (r41.v w + 1).toNat 1 0 (r41.v w + 1).toNat)) (H2 w (r41.v w + 1).toNat fun j => (corR w.g (j : Int) w.n).map SD.nm) :=
  (lp27 w hn _ (by omega) (by omega)).wpc
 rw [← nms_off]
 generalize (r41.v w + 1).toNat = N at lp ⊢
 have a2 : AV.snil = AV.snil ∧ (0 : Nat) = 0 ∧ True := ⟨rfl, rfl, trivial⟩
 have a3 : N = N ∧ (1 : Nat) = 1 ∧ 0 + N ≤ N ∧ AV.sl 1 N (offGet (.gen N (nmsF fun j => (corR w.g (j : Int) w.n).map SD.nm)) 0) = AV.sl 1 N (offGet (.gen N (nmsF fun j => (corR w.g (j : Int) w.n).map SD.nm)) 0) := ⟨rfl, rfl, by omega, rfl⟩
 exact Ret.of_run1 mix [AV.sl 1 N (offGet (.gen N (nmsF fun j => (corR w.g (j : Int) w.n).map SD.nm)) 0)] (c := bodyOf Try.f27) Try.func27 rfl
  [.virt [] [(none, 3, 1, .gen 0 (nmsF fun j => (corR w.g (j : Int) w.n).map SD.nm))], .loop (others 38 [1, 3, 4]) (.exit 0) (T27 N (.ms 1 N 1 0 N)) (H2 w N fun j => (corR w.g (j : Int) w.n).map SD.nm)]
  (fun v hv => by rw [List.mem_singleton.1 hv]; exact low_nmo _ _) (by simp)
  (kmp (by kernel_rfl) (Ai a2 (Ai lp (Ai a3 trivial)))) h
end Go.Proofs.Ytjdbmmilcihpoaa
open Go
namespace Go.Proofs.Ytjdbmmilcihpoaa
set_option maxHeartbeats 0
set_option maxRecDepth 100000
set_option linter.unusedVariables false
set_option linter.unusedSimpArgs false
theorem r59d_srch {n : Nat} {g : Nat → SD} {st : ByteArray} (hn : n ≤ 10000) : r59d.v n g st = srch (fun i => r60.v (g i) st) (fun i => (i : Int)) (-1) 0 n := by
 have := search_eq (n := n) (fun i => r60.v (g i) st) (fun i => L59d.O.e0 i) .e1 (N := L59d.N n g st) (fun k i h => by
  simp only [L59d.N, wrap_succ (show n ≤ 9223372036854775807 by omega) h, Int.toNat_natCast]; rw [decide_eq_true (by omega)]; rfl) (fun k => by simp [L59d.N]) (n + 1) 0 (Nat.zero_le _) (by omega)
 have e : L59d.run n g st 0 = srch (fun i => r60.v (g i) st) (fun i => L59d.O.e0 i) .e1 0 n := by simpa [L59d.run] using this
 unfold r59d.v
 rw [e]
 rcases srch_cases (fun i => r60.v (g i) st) (fun i => L59d.O.e0 i) .e1 n 0 with ⟨a1, a2⟩ | ⟨j, a1, a2, a3, a4, a5⟩
 · rw [a2]
   rcases srch_cases (fun i => r60.v (g i) st) (fun i => (i : Int)) (-1) n 0 with ⟨b1, b2⟩ | ⟨j, b1, b2, b3, b4, b5⟩
   · rw [b2]
   · rw [a1 j b1 b2] at b3; cases b3
 · rw [a5]
   rcases srch_cases (fun i => r60.v (g i) st) (fun i => (i : Int)) (-1) n 0 with ⟨b1, b2⟩ | ⟨l, b1, b2, b3, b4, b5⟩
   · rw [b1 j a1 a2] at a3; cases a3
   · rw [b5]
     have : j = l := by
      rcases Nat.lt_trichotomy j l with q | q | q
      · rw [b4 j a1 q] at a3; cases a3
      · exact q
      · rw [a4 l b1 q] at b3; cases b3
     rw [this]
theorem r59d_lt {n : Nat} {g : Nat → SD} {st : ByteArray} (hn : n ≤ 10000) (h : ¬ r59d.v n g st < 0) : r59d.v n g st < (n : Int) := by
 rw [r59d_srch hn] at h ⊢
 rcases srch_cases (fun i => r60.v (g i) st) (fun i => (i : Int)) (-1) n 0 with ⟨b1, b2⟩ | ⟨l, b1, b2, b3, b4, b5⟩
 · rw [b2] at h; omega
 · rw [b5]; omega
theorem r59d_ge {n : Nat} {g : Nat → SD} {st : ByteArray} (h : ¬ r59d.v n g st < 0) : 0 ≤ r59d.v n g st := by omega
section
variable {w : WD} {st : ByteArray} (hn : w.n ≤ 10000) (he : (r24.v w == 0) = true)
include hn he
theorem v_ci {i : Int} (h0 : 0 ≤ i) (h1 : i < (w.n : Int)) (h : ¬ (w.g i.toNat).co = 0) : 0 ≤ IntKind.i64.wrap ((w.g i.toNat).co - 1) ∧ IntKind.i64.wrap ((w.g i.toNat).co - 1) < (nC w : Int) := by
 have a := v_co hn he i.toNat (by omega)
 have b := top_ge w.g w.n i.toNat (by omega)
 rw [IntWalk.i64_in _ (by omega)]
 unfold nC
 omega
theorem v_ci0 (h1 : ¬ r59d.v w.n w.g st < 0) (h : ((w.g (r59d.v w.n w.g st).toNat).co == 0) = false) : 0 ≤ IntKind.i64.wrap ((w.g (r59d.v w.n w.g st).toNat).co - 1) := (v_ci hn he (r59d_ge h1) (r59d_lt hn h1) (by simpa using h)).1
theorem v_ci1 (h1 : ¬ r59d.v w.n w.g st < 0) (h : ((w.g (r59d.v w.n w.g st).toNat).co == 0) = false) : IntKind.i64.wrap ((w.g (r59d.v w.n w.g st).toNat).co - 1) < (nC w : Int) := (v_ci hn he (r59d_ge h1) (r59d_lt hn h1) (by simpa using h)).2
end
theorem bd_cC {w : WD} {b : Int} {k : Nat} (h : b < ((cC w k).length : Int)) (hn : w.n ≤ 10000) : b < 10000 := by have := cC_len hn k; omega
end Go.Proofs.Ytjdbmmilcihpoaa
open Go
namespace Go.Proofs.Ytjdbmmilcihpoaa
set_option maxHeartbeats 0
set_option maxRecDepth 100000
set_option linter.unusedVariables false
set_option linter.unusedSimpArgs false
/-- The doubled middles of d joints from the stone i on. -/
noncomputable def jts (g : Nat → SD) : Nat → Nat → List Int
 | 0, _ => []
 | d + 1, i => IntKind.i64.wrap (r61.v (g (i - 1)) + (g i).ax) :: jts g d (i + 1)
theorem jts_len (g : Nat → SD) : ∀ d i, (jts g d i).length = d := by
 intro d
 induction d with
 | zero => intro i; rfl
 | succ d ih => intro i; simp only [jts, List.length_cons, ih]
theorem r45_N {n : Nat} {g : Nat → SD} (hn : n ≤ 10000) : ∀ (m v i : Nat) (xs : List Int), 1 ≤ i → n - i < m → ∃ v', L45a.N n g m v xs (i : Int) = .e0 v' (xs ++ jts g (n - i) i) := by
 intro m
 induction m with
 | zero => intro v i xs _ h; omega
 | succ m ih =>
  intro v i xs h1 hm
  simp only [L45a.N]
  by_cases h : i < n
  · rw [decide_eq_true (show (i : Int) < (n : Int) by omega), cond_true, wrap_s (Nat.le_of_lt h) (by omega), wrap_pn h1 (by omega), Int.toNat_natCast]
    obtain ⟨v', e⟩ := ih (v + 1) (i + 1) (xs ++ [IntKind.i64.wrap (r61.v (g (i - 1)) + (g i).ax)]) (by omega) (by omega)
    rw [e, show n - i = (n - (i + 1)) + 1 by omega]
    exact ⟨v', by simp only [jts, List.append_assoc, List.singleton_append]⟩
  · rw [decide_eq_false (show ¬ (i : Int) < (n : Int) by omega), cond_false, show n - i = 0 by omega]
    exact ⟨v, by simp only [jts, List.append_nil]⟩
theorem r45_v {n : Nat} {g : Nat → SD} (hn : n ≤ 10000) : r45.v n g = jts g (n - 1) 1 := by
 unfold r45.v L45a.run
 obtain ⟨v', e⟩ := r45_N (g := g) hn (((n : Int) - ((1 : Nat) : Int)).toNat + 1) 0 1 [] (Nat.le_refl _) (by omega)
 have e : L45a.N n g (((n : Int) - 1).toNat + 1) 0 [] 1 = .e0 v' ([] ++ jts g (n - 1) 1) := e
 rw [e]; rfl
theorem r30_N {w : WD} {c : Int} (hn : w.n ≤ 10000) : ∀ (m v i : Nat) (xs : List Int), 1 ≤ i → (corR w.g c w.n).length - i < m → ∃ v', L30a.N w c m v xs (i : Int) = .e0 v' (xs ++ jts (fun i => (corR w.g c w.n).getD i default) ((corR w.g c w.n).length - i) i) := by
 have hl := cor_le hn c
 intro m
 induction m with
 | zero => intro v i xs _ h; omega
 | succ m ih =>
  intro v i xs h1 hm
  simp only [L30a.N]
  by_cases h : i < (corR w.g c w.n).length
  · rw [decide_eq_true (show (i : Int) < ((corR w.g c w.n).length : Int) by omega), cond_true, wrap_s (Nat.le_of_lt h) (by omega), wrap_pn h1 (by omega), Int.toNat_natCast]
    obtain ⟨v', e⟩ := ih (v + 1) (i + 1) (xs ++ [IntKind.i64.wrap (r61.v ((corR w.g c w.n).getD (i - 1) default) + ((corR w.g c w.n).getD i default).ax)]) (by omega) (by omega)
    refine ⟨v', ?_⟩
    rw [show (corR w.g c w.n).length - i = ((corR w.g c w.n).length - (i + 1)) + 1 by omega]
    simp only [jts]
    rw [List.append_assoc, List.singleton_append] at e
    exact e
  · rw [decide_eq_false (show ¬ (i : Int) < ((corR w.g c w.n).length : Int) by omega), cond_false, show (corR w.g c w.n).length - i = 0 by omega]
    exact ⟨v, by simp only [jts, List.append_nil]⟩
theorem r30_v {w : WD} {c : Int} (hn : w.n ≤ 10000) : r30.v w c = jts (fun i => (corR w.g c w.n).getD i default) ((corR w.g c w.n).length - 1) 1 := by
 unfold r30.v L30a.run
 obtain ⟨v', e⟩ := r30_N (c := c) hn ((((corR w.g c w.n).length : Int) - ((1 : Nat) : Int)).toNat + 1) 0 1 [] (Nat.le_refl _) (by omega)
 have e : L30a.N w c ((((corR w.g c w.n).length : Int) - 1).toNat + 1) 0 [] 1 = .e0 v' ([] ++ jts (fun i => (corR w.g c w.n).getD i default) ((corR w.g c w.n).length - 1) 1) := e
 rw [e]; rfl
/-- The joints of both. -/
theorem r30_45 {w : WD} (hn : w.n ≤ 10000) (he : (r24.v w == 0) = true) (k : Nat) : r30.v w (k : Int) = r45.v (cC w k).length fun i => (cC w k).getD i default := by
 rw [r30_v hn, r45_v (cC_len hn k), v_cor hn he]
end Go.Proofs.Ytjdbmmilcihpoaa
open Go
namespace Go.Proofs.Ytjdbmmilcihpoaa
set_option linter.unusedSimpArgs false
set_option linter.unusedVariables false
set_option maxHeartbeats 0
set_option maxRecDepth 100000
end Go.Proofs.Ytjdbmmilcihpoaa
open Go
namespace Go.Proofs.Ytjdbmmilcihpoaa
set_option linter.unusedSimpArgs false
set_option linter.unusedVariables false
set_option maxHeartbeats 0
set_option maxRecDepth 100000
end Go.Proofs.Ytjdbmmilcihpoaa
open Go
namespace Go.Proofs.Ytjdbmmilcihpoaa
set_option linter.unusedSimpArgs false
set_option linter.unusedVariables false
set_option maxHeartbeats 0
set_option maxRecDepth 100000
inductive Lv25a.O where
 | e0 (a0 : Nat) (a1 : List ByteArray)
noncomputable def Lv25a.T (w : WD) (st : ByteArray) (av9 : Nat) (al9 : List ByteArray) (a40 : Int) : List AV := mkT 65 [(8, AV.ptr 2 1 14 0 0), (9, AV.ms 3 av9 1 0 al9.length), (38, AV.sl 14 (cC w (IntKind.i64.wrap ((w.g (r59d.v w.n w.g st).toNat).co - 1)).toNat).length fun (q : Nat) => (SD.av ((cC w (IntKind.i64.wrap ((w.g (r59d.v w.n w.g st).toNat).co - 1)).toNat).getD q default))), (39, iv (↑(cC w (IntKind.i64.wrap ((w.g (r59d.v w.n w.g st).toNat).co - 1)).toNat).length : Int)), (40, iv a40)]
noncomputable def Lv25a.H (w : WD) (st : ByteArray) (av9 : Nat) (al9 : List ByteArray) (a40 : Int) : AHeap := [AObj.dead, AObj.dead, AObj.var ((SD.av (w.g (r59d.v w.n w.g st).toNat))), AObj.row 1 av9 (Col.strs al9)]
def Lv25a.inv (w : WD) (st : ByteArray) (av9 : Nat) (al9 : List ByteArray) (a40 : Int) : Prop := 0 ≤ a40 ∧ (a40 ≤ (↑(cC w (IntKind.i64.wrap ((w.g (r59d.v w.n w.g st).toNat).co - 1)).toNat).length : Int) ∨ a40 ≤ 0) ∧ (↑al9.length : Int) ≤ a40 - 0
noncomputable def Lv25a.mu (w : WD) (st : ByteArray) (av9 : Nat) (al9 : List ByteArray) (a40 : Int) : Nat := ((↑(cC w (IntKind.i64.wrap ((w.g (r59d.v w.n w.g st).toNat).co - 1)).toNat).length : Int) - a40).toNat
noncomputable def Lv25a.E : Lv25a.O → Exit
 | .e0 a0 a1 => Exit.exit 0
noncomputable def Lv25a.X (w : WD) (st : ByteArray) : Lv25a.O → List AV
 | .e0 a0 a1 => mkT 65 [(9, (AV.ms 3 a0 1 0 (List.length a1)))]
noncomputable def Lv25a.XH (w : WD) (st : ByteArray) : Lv25a.O → AHeap
 | .e0 a0 a1 => ((AObj.dead) :: ((AObj.dead) :: ((AObj.var ((SD.av (w.g (r59d.v w.n w.g st).toNat)))) :: ((AObj.row 1 a0 (Col.strs a1)) :: ([])))))
noncomputable def Lv25a.N (w : WD) (st : ByteArray) : Nat → Nat → (List ByteArray) → Int → Lv25a.O
 | 0, av9, al9, _ => .e0 av9 al9
 | k_ + 1, av9, al9, a40 => (bif decide (a40 < (↑(cC w (IntKind.i64.wrap ((w.g (r59d.v w.n w.g st).toNat).co - 1)).toNat).length : Int)) then (bif decide ((w.g (r59d.v w.n w.g st).toNat).ax < r61.v ((cC w (IntKind.i64.wrap ((w.g (r59d.v w.n w.g st).toNat).co - 1)).toNat).getD a40.toNat default)) then (bif decide (((cC w (IntKind.i64.wrap ((w.g (r59d.v w.n w.g st).toNat).co - 1)).toNat).getD a40.toNat default).ax < r61.v (w.g (r59d.v w.n w.g st).toNat)) then (Lv25a.N w st k_ (av9 + 1) (al9 ++ [((cC w (IntKind.i64.wrap ((w.g (r59d.v w.n w.g st).toNat).co - 1)).toNat).getD a40.toNat default).nm]) (IntKind.i64.wrap (a40 + 1))) else (Lv25a.N w st k_ (av9) (al9) (IntKind.i64.wrap (a40 + 1)))) else (Lv25a.N w st k_ (av9) (al9) (IntKind.i64.wrap (a40 + 1)))) else (.e0 (av9) (al9)))
noncomputable def Lv25a.run (w : WD) (st : ByteArray) (av9 : Nat) (al9 : List ByteArray) (a40 : Int) : Lv25a.O := Lv25a.N w st ((((↑(cC w (IntKind.i64.wrap ((w.g (r59d.v w.n w.g st).toNat).co - 1)).toNat).length : Int) - a40).toNat) + 1) av9 al9 a40
theorem Lv25a.nx (w : WD) (st : ByteArray) {k_ : Nat} {z_ : Nat × (List ByteArray) × Int} {h_ : AHeap} (s_ : Nat × (List ByteArray) × Int) (h1 : Lv25a.inv w st s_.1 s_.2.1 s_.2.2) (h2 : Lv25a.mu w st s_.1 s_.2.1 s_.2.2 < Lv25a.mu w st z_.1 z_.2.1 z_.2.2) (h3 : Lv25a.N w st k_ s_.1 s_.2.1 s_.2.2 = Lv25a.N w st (k_ + 1) z_.1 z_.2.1 z_.2.2) (h4 : PopOk (Lv25a.H w st z_.1 z_.2.1 z_.2.2) h_ (Lv25a.T w st s_.1 s_.2.1 s_.2.2) (Lv25a.H w st s_.1 s_.2.1 s_.2.2)) : LNextP (fun (z_ : Nat × (List ByteArray) × Int) => Lv25a.T w st z_.1 z_.2.1 z_.2.2) (fun (z_ : Nat × (List ByteArray) × Int) => Lv25a.H w st z_.1 z_.2.1 z_.2.2) (fun (z_ : Nat × (List ByteArray) × Int) => Lv25a.inv w st z_.1 z_.2.1 z_.2.2) (fun (z_ : Nat × (List ByteArray) × Int) => Lv25a.mu w st z_.1 z_.2.1 z_.2.2) (fun (k_ : Nat) (z_ : Nat × (List ByteArray) × Int) => Lv25a.N w st k_ z_.1 z_.2.1 z_.2.2) k_ z_ (Lv25a.T w st s_.1 s_.2.1 s_.2.2) h_ := LNextP.mk s_ h1 h2 h3 h4
theorem Lv25a.en (w : WD) (st : ByteArray) {k_ : Nat} {z_ : Nat × (List ByteArray) × Int} {h_ : AHeap} (o_ : Lv25a.O) (h3 : Lv25a.N w st (k_ + 1) z_.1 z_.2.1 z_.2.2 = o_) (h4 : PopOk (Lv25a.H w st z_.1 z_.2.1 z_.2.2) h_ (Lv25a.X w st o_) (Lv25a.XH w st o_)) : LEndP (fun (z_ : Nat × (List ByteArray) × Int) => Lv25a.H w st z_.1 z_.2.1 z_.2.2) (fun (k_ : Nat) (z_ : Nat × (List ByteArray) × Int) => Lv25a.N w st k_ z_.1 z_.2.1 z_.2.2) Lv25a.E (Lv25a.X w st) (Lv25a.XH w st) k_ z_ (Lv25a.E o_) (Lv25a.X w st o_) h_ := LEndP.mk o_ h3 h4
noncomputable abbrev Lv25a.h0 (w : WD) (st : ByteArray) (av9 : Nat) (al9 : List ByteArray) (a40 : Int) : AHeap := ([AObj.dead, AObj.dead, AObj.var ((SD.av (w.g (r59d.v w.n w.g st).toNat))), AObj.row 1 av9 (Col.strs al9), AObj.var ((SD.av ((cC w (IntKind.i64.wrap ((w.g (r59d.v w.n w.g st).toNat).co - 1)).toNat).getD a40.toNat default)))])
theorem Lv25a.spec (w : WD) (hn : w.n ≤ 10000) (hnm : w.nm.size ≤ 9223372036854775807) (hg : ∀ (i : Nat), (w.g i).nm.size ≤ 9223372036854775807) (he : (r24.v w == 0) = true) (st : ByteArray) (k0_1 : decide (r59d.v w.n w.g st < 0) = false) (p0_1 : ¬r59d.v w.n w.g st < 0) (k0_2 : ((w.g (r59d.v w.n w.g st).toNat).co == 0) = false) (p0_2 : (w.g (r59d.v w.n w.g st).toNat).co ≠ 0) (k_ : Nat) (z_ : Nat × (List ByteArray) × Int) (hi_ : Lv25a.inv w st z_.1 z_.2.1 z_.2.2) (hm_ : Lv25a.mu w st z_.1 z_.2.1 z_.2.2 < k_) : LoopTo Try.prog (loopN Try.f25 0) (Lv25a.T w st z_.1 z_.2.1 z_.2.2) (Lv25a.H w st z_.1 z_.2.1 z_.2.2) (Lv25a.E (Lv25a.N w st k_ z_.1 z_.2.1 z_.2.2)) (Lv25a.X w st (Lv25a.N w st k_ z_.1 z_.2.1 z_.2.2)) (Lv25a.XH w st (Lv25a.N w st k_ z_.1 z_.2.1 z_.2.2)) := by
 refine LoopTo.fuelP mix (fun (z_ : Nat × (List ByteArray) × Int) => Lv25a.T w st z_.1 z_.2.1 z_.2.2) (fun (z_ : Nat × (List ByteArray) × Int) => Lv25a.H w st z_.1 z_.2.1 z_.2.2) (fun (z_ : Nat × (List ByteArray) × Int) => Lv25a.inv w st z_.1 z_.2.1 z_.2.2) (fun (z_ : Nat × (List ByteArray) × Int) => Lv25a.mu w st z_.1 z_.2.1 z_.2.2) (fun (k_ : Nat) (z_ : Nat × (List ByteArray) × Int) => Lv25a.N w st k_ z_.1 z_.2.1 z_.2.2) Lv25a.E (Lv25a.X w st) (Lv25a.XH w st) (others 65 [8, 9, 38, 39, 40]) (others 65 [4, 5]) (others 65 [9]) ?_ k_ z_ hi_ hm_
 clear hm_ hi_ z_ k_
 intro k_ z_ hinv hmu
 obtain ⟨av9, al9, a40⟩ := z_
 have hinv : 0 ≤ a40 ∧ (a40 ≤ (↑(cC w (IntKind.i64.wrap ((w.g (r59d.v w.n w.g st).toNat).co - 1)).toNat).length : Int) ∨ a40 ≤ 0) ∧ (↑al9.length : Int) ≤ a40 - 0 := hinv
 have hmu : (((↑(cC w (IntKind.i64.wrap ((w.g (r59d.v w.n w.g st).toNat).co - 1)).toNat).length : Int) - a40).toNat) < k_ + 1 := hmu
 cases h1 : decide (a40 < (↑(cC w (IntKind.i64.wrap ((w.g (r59d.v w.n w.g st).toNat).co - 1)).toNat).length : Int)) with
 | true =>
  have h1p := of_decide_eq_true h1
  try have := bd_cC (by assumption) (by assumption)
  have o0 : (0 : Int) ≤ a40 := by omega
  try have := IntWalk.i64_in ((w.g (r59d.v w.n w.g st).toNat).co - 1) (by omega)
  have o1 : a40 < (↑(cC w (IntKind.i64.wrap ((w.g (r59d.v w.n w.g st).toNat).co - (1 : Int))).toNat).length : Int) := by assumption
  cases h2 : decide ((w.g (r59d.v w.n w.g st).toNat).ax < r61.v ((cC w (IntKind.i64.wrap ((w.g (r59d.v w.n w.g st).toNat).co - 1)).toNat).getD a40.toNat default)) with
  | true =>
   have h2p := of_decide_eq_true h2
   cases h3 : decide (((cC w (IntKind.i64.wrap ((w.g (r59d.v w.n w.g st).toNat).co - 1)).toNat).getD a40.toNat default).ax < r61.v (w.g (r59d.v w.n w.g st).toNat)) with
   | true =>
    have h3p := of_decide_eq_true h3
    try have := bd_cC (by assumption) (by assumption)
    have o2 : (al9.length + (1 : Nat)) * (16 : Nat) ≤ (140737488355328 : Nat) := by omega
    have o3 : al9.length = (Col.strs al9).len := by first | assumption | omega | (simp only [List.length_append, List.length_cons, List.length_nil, List.length_map]; omega) | rfl | (exact Nat.le_refl _) | (simp [Col.len]; done) | (simp only [Col.len, zero_bool, zero_int, List.length_replicate, List.length_set] at *; omega) | (apply v_nm <;> first | assumption | omega) | (exact hg _) | (exact hg _ (by omega)) | (simp_all; done)
    try have := IntWalk.i64_in (a40 + 1) (by omega)
    have o4 : (0 : Int) ≤ IntKind.i64.wrap (a40 + (1 : Int)) := by omega
    try have := IntWalk.i64_in ((w.g (r59d.v w.n w.g st).toNat).co - 1) (by omega)
    have o5 : IntKind.i64.wrap (a40 + (1 : Int)) ≤ (↑(cC w (IntKind.i64.wrap ((w.g (r59d.v w.n w.g st).toNat).co - (1 : Int))).toNat).length : Int) ∨ IntKind.i64.wrap (a40 + (1 : Int)) ≤ (0 : Int) := by omega
    have o6 : (↑(al9 ++ [((cC w (IntKind.i64.wrap ((w.g (r59d.v w.n w.g st).toNat).co - (1 : Int))).toNat).getD a40.toNat default).nm]).length : Int) ≤ IntKind.i64.wrap (a40 + (1 : Int)) - (0 : Int) := by simp only [List.length_append, List.length_cons, List.length_nil, List.length_map]; omega
    have o7 : ((↑(cC w (IntKind.i64.wrap ((w.g (r59d.v w.n w.g st).toNat).co - (1 : Int))).toNat).length : Int) - IntKind.i64.wrap (a40 + (1 : Int))).toNat < ((↑(cC w (IntKind.i64.wrap ((w.g (r59d.v w.n w.g st).toNat).co - (1 : Int))).toNat).length : Int) - a40).toNat := by omega
    exact ⟨[.b true, .ret (iv (r61.v ((cC w (IntKind.i64.wrap ((w.g (r59d.v w.n w.g st).toNat).co - 1)).toNat).getD a40.toNat default))) (Lv25a.h0 w st av9 al9 a40), .b true, .b true, .b true, .b true, .b true, .ret (iv (r61.v (w.g (r59d.v w.n w.g st).toNat))) (Lv25a.h0 w st av9 al9 a40), .b true, .b true, .b true, .app .one false], kmp (by kernel_rfl) (Ai h1 (Ai (Ai o0 o1) (Ai (r61 ((cC w (IntKind.i64.wrap ((w.g (r59d.v w.n w.g st).toNat).co - 1)).toNat).getD a40.toNat default) (Lv25a.h0 w st av9 al9 a40)) (Ai h2 (Ai h2 (Ai h2 (Ai h2 (Ai h2 (Ai (r61 (w.g (r59d.v w.n w.g st).toNat) (Lv25a.h0 w st av9 al9 a40)) (Ai h2 (Ai h2 (Ai h3 (Ai (Ai (show (1 : Nat) = (1 : Nat) by decide) (Ai (show AppMode.one.needs 1 fun (a : Nat) => (Col.ofList [AV.str ((cC w (IntKind.i64.wrap ((w.g (r59d.v w.n w.g st).toNat).co - 1)).toNat).getD a40.toNat default).nm]).get a by exact ⟨rfl, rfl⟩) (Ai o2 (Ai (rfl : av9 = av9) (Ai (show (0 : Nat) = (0 : Nat) by decide) o3))))) (Lv25a.nx w st (k_ := k_) (z_ := (av9, al9, a40)) (h_ := [AObj.dead, AObj.dead, AObj.var ((SD.av (w.g (r59d.v w.n w.g st).toNat))), AObj.row 1 (av9 + 1) (Col.strs (al9 ++ [((cC w (IntKind.i64.wrap ((w.g (r59d.v w.n w.g st).toNat).co - 1)).toNat).getD a40.toNat default).nm])), AObj.var ((SD.av ((cC w (IntKind.i64.wrap ((w.g (r59d.v w.n w.g st).toNat).co - 1)).toNat).getD a40.toNat default)))]) ((av9 + 1, al9 ++ [((cC w (IntKind.i64.wrap ((w.g (r59d.v w.n w.g st).toNat).co - 1)).toNat).getD a40.toNat default).nm], IntKind.i64.wrap (a40 + 1))) (Ai o4 (Ai o5 o6)) o7 (by simp only [Lv25a.N, h1, h2, h3, cond_true, cond_false]) (PopOk.popLow _ rfl rfl (by simp [Lv25a.T, Lv25a.X, Lv25a.H, Lv25a.XH]) (by simp [Lv25a.T, Lv25a.X, Lv25a.H, Lv25a.XH]))))))))))))))))⟩
   | false =>
    have h3p := of_decide_eq_false h3
    try have := bd_cC (by assumption) (by assumption)
    try have := IntWalk.i64_in (a40 + 1) (by omega)
    have o4 : (0 : Int) ≤ IntKind.i64.wrap (a40 + (1 : Int)) := by omega
    try have := IntWalk.i64_in ((w.g (r59d.v w.n w.g st).toNat).co - 1) (by omega)
    have o5 : IntKind.i64.wrap (a40 + (1 : Int)) ≤ (↑(cC w (IntKind.i64.wrap ((w.g (r59d.v w.n w.g st).toNat).co - (1 : Int))).toNat).length : Int) ∨ IntKind.i64.wrap (a40 + (1 : Int)) ≤ (0 : Int) := by omega
    have o8 : (↑al9.length : Int) ≤ IntKind.i64.wrap (a40 + (1 : Int)) - (0 : Int) := by omega
    have o7 : ((↑(cC w (IntKind.i64.wrap ((w.g (r59d.v w.n w.g st).toNat).co - (1 : Int))).toNat).length : Int) - IntKind.i64.wrap (a40 + (1 : Int))).toNat < ((↑(cC w (IntKind.i64.wrap ((w.g (r59d.v w.n w.g st).toNat).co - (1 : Int))).toNat).length : Int) - a40).toNat := by omega
    exact ⟨[.b true, .ret (iv (r61.v ((cC w (IntKind.i64.wrap ((w.g (r59d.v w.n w.g st).toNat).co - 1)).toNat).getD a40.toNat default))) (Lv25a.h0 w st av9 al9 a40), .b true, .b true, .b true, .b true, .b true, .ret (iv (r61.v (w.g (r59d.v w.n w.g st).toNat))) (Lv25a.h0 w st av9 al9 a40), .b true, .b true, .b false], kmp (by kernel_rfl) (Ai h1 (Ai (Ai o0 o1) (Ai (r61 ((cC w (IntKind.i64.wrap ((w.g (r59d.v w.n w.g st).toNat).co - 1)).toNat).getD a40.toNat default) (Lv25a.h0 w st av9 al9 a40)) (Ai h2 (Ai h2 (Ai h2 (Ai h2 (Ai h2 (Ai (r61 (w.g (r59d.v w.n w.g st).toNat) (Lv25a.h0 w st av9 al9 a40)) (Ai h2 (Ai h2 (Ai h3 (Lv25a.nx w st (k_ := k_) (z_ := (av9, al9, a40)) (h_ := [AObj.dead, AObj.dead, AObj.var ((SD.av (w.g (r59d.v w.n w.g st).toNat))), AObj.row 1 av9 (Col.strs al9), AObj.var ((SD.av ((cC w (IntKind.i64.wrap ((w.g (r59d.v w.n w.g st).toNat).co - 1)).toNat).getD a40.toNat default)))]) ((av9, al9, IntKind.i64.wrap (a40 + 1))) (Ai o4 (Ai o5 o8)) o7 (by simp only [Lv25a.N, h1, h2, h3, cond_true, cond_false]) (PopOk.pop rfl (by simp [Lv25a.T, Lv25a.X, Lv25a.H, Lv25a.XH])))))))))))))))⟩
  | false =>
   have h2p := of_decide_eq_false h2
   try have := bd_cC (by assumption) (by assumption)
   try have := IntWalk.i64_in (a40 + 1) (by omega)
   have o4 : (0 : Int) ≤ IntKind.i64.wrap (a40 + (1 : Int)) := by omega
   try have := IntWalk.i64_in ((w.g (r59d.v w.n w.g st).toNat).co - 1) (by omega)
   have o5 : IntKind.i64.wrap (a40 + (1 : Int)) ≤ (↑(cC w (IntKind.i64.wrap ((w.g (r59d.v w.n w.g st).toNat).co - (1 : Int))).toNat).length : Int) ∨ IntKind.i64.wrap (a40 + (1 : Int)) ≤ (0 : Int) := by omega
   have o8 : (↑al9.length : Int) ≤ IntKind.i64.wrap (a40 + (1 : Int)) - (0 : Int) := by omega
   have o7 : ((↑(cC w (IntKind.i64.wrap ((w.g (r59d.v w.n w.g st).toNat).co - (1 : Int))).toNat).length : Int) - IntKind.i64.wrap (a40 + (1 : Int))).toNat < ((↑(cC w (IntKind.i64.wrap ((w.g (r59d.v w.n w.g st).toNat).co - (1 : Int))).toNat).length : Int) - a40).toNat := by omega
   exact ⟨[.b true, .ret (iv (r61.v ((cC w (IntKind.i64.wrap ((w.g (r59d.v w.n w.g st).toNat).co - 1)).toNat).getD a40.toNat default))) (Lv25a.h0 w st av9 al9 a40), .b false, .b false, .b false, .b false, .b false, .b false, .b false, .b false], kmp (by kernel_rfl) (Ai h1 (Ai (Ai o0 o1) (Ai (r61 ((cC w (IntKind.i64.wrap ((w.g (r59d.v w.n w.g st).toNat).co - 1)).toNat).getD a40.toNat default) (Lv25a.h0 w st av9 al9 a40)) (Ai h2 (Ai h2 (Ai h2 (Ai h2 (Ai h2 (Ai h2 (Ai h2 (Ai (rfl : false = false) (Lv25a.nx w st (k_ := k_) (z_ := (av9, al9, a40)) (h_ := [AObj.dead, AObj.dead, AObj.var ((SD.av (w.g (r59d.v w.n w.g st).toNat))), AObj.row 1 av9 (Col.strs al9), AObj.var ((SD.av ((cC w (IntKind.i64.wrap ((w.g (r59d.v w.n w.g st).toNat).co - 1)).toNat).getD a40.toNat default)))]) ((av9, al9, IntKind.i64.wrap (a40 + 1))) (Ai o4 (Ai o5 o8)) o7 (by simp only [Lv25a.N, h1, h2, cond_true, cond_false]) (PopOk.pop rfl (by simp [Lv25a.T, Lv25a.X, Lv25a.H, Lv25a.XH]))))))))))))))⟩
 | false =>
  have h1p := of_decide_eq_false h1
  exact ⟨[.b false], kmp (by kernel_rfl) (Ai h1 (Lv25a.en w st (k_ := k_) (z_ := (av9, al9, a40)) (.e0 (av9) (al9) : Lv25a.O) (by simp only [Lv25a.N, h1, cond_true, cond_false]) PopOk.same))⟩
theorem Lv25a.e0 (w : WD) (hn : w.n ≤ 10000) (hnm : w.nm.size ≤ 9223372036854775807) (hg : ∀ (i : Nat), (w.g i).nm.size ≤ 9223372036854775807) (he : (r24.v w == 0) = true) (st : ByteArray) (k0_1 : decide (r59d.v w.n w.g st < 0) = false) (p0_1 : ¬r59d.v w.n w.g st < 0) (k0_2 : ((w.g (r59d.v w.n w.g st).toNat).co == 0) = false) (p0_2 : (w.g (r59d.v w.n w.g st).toNat).co ≠ 0) (av9 : Nat) (al9 : List ByteArray) (a40 : Int) (hinv : Lv25a.inv w st av9 al9 a40) (a0 : Nat) (a1 : List ByteArray) (hN : Lv25a.run w st av9 al9 a40 = (.e0 a0 a1 : Lv25a.O)) : LoopTo Try.prog (loopN Try.f25 0) (Lv25a.T w st av9 al9 a40) (Lv25a.H w st av9 al9 a40) (Exit.exit 0) (Lv25a.X w st (.e0 a0 a1 : Lv25a.O)) (Lv25a.XH w st (.e0 a0 a1 : Lv25a.O)) := by
 have h_ := Lv25a.spec w hn hnm hg he st k0_1 p0_1 k0_2 p0_2 ((((↑(cC w (IntKind.i64.wrap ((w.g (r59d.v w.n w.g st).toNat).co - 1)).toNat).length : Int) - a40).toNat) + 1) (av9, al9, a40) hinv (Nat.lt_succ_self _)
 unfold Lv25a.run at hN
 simp only [hN] at h_
 exact h_
theorem Lv25a.len0_1 {w : WD} {st : ByteArray} : ∀ (m_ : Nat) (av9 : Nat) (al9 : List ByteArray) (a40 : Int) (a0_ : Nat) (a1_ : List ByteArray), Lv25a.N w st m_ av9 al9 a40 = (.e0 a0_ a1_ : Lv25a.O) → (a1_).length ≤ (al9).length + m_ := by
 intro m_
 induction m_ with
 | zero =>
  intro av9 al9 a40 a0_ a1_ h_
  simp only [Lv25a.N] at h_
  first | (cases h_; done) | (cases h_; first | exact Nat.zero_le _ | omega)
 | succ m_ ih_ =>
  intro av9 al9 a40 a0_ a1_ h_
  cases h1 : decide (a40 < (↑(cC w (IntKind.i64.wrap ((w.g (r59d.v w.n w.g st).toNat).co - 1)).toNat).length : Int)) with
  | true =>
   have h1p := of_decide_eq_true h1
   cases h2 : decide ((w.g (r59d.v w.n w.g st).toNat).ax < r61.v ((cC w (IntKind.i64.wrap ((w.g (r59d.v w.n w.g st).toNat).co - 1)).toNat).getD a40.toNat default)) with
   | true =>
    have h2p := of_decide_eq_true h2
    cases h3 : decide (((cC w (IntKind.i64.wrap ((w.g (r59d.v w.n w.g st).toNat).co - 1)).toNat).getD a40.toNat default).ax < r61.v (w.g (r59d.v w.n w.g st).toNat)) with
    | true =>
     have h3p := of_decide_eq_true h3
     (simp only [Lv25a.N, h1, h2, h3, cond_true, cond_false] at h_; first | (have := ih_ _ _ _ _ _ h_; (try simp only [List.length_append, List.length_cons, List.length_nil, List.length_set] at this); omega) | (cases h_; done) | (cases h_; omega))
    | false =>
     have h3p := of_decide_eq_false h3
     (simp only [Lv25a.N, h1, h2, h3, cond_true, cond_false] at h_; first | (have := ih_ _ _ _ _ _ h_; (try simp only [List.length_append, List.length_cons, List.length_nil, List.length_set] at this); omega) | (cases h_; done) | (cases h_; omega))
   | false =>
    have h2p := of_decide_eq_false h2
    (simp only [Lv25a.N, h1, h2, cond_true, cond_false] at h_; first | (have := ih_ _ _ _ _ _ h_; (try simp only [List.length_append, List.length_cons, List.length_nil, List.length_set] at this); omega) | (cases h_; done) | (cases h_; omega))
  | false =>
   have h1p := of_decide_eq_false h1
   (simp only [Lv25a.N, h1, cond_true, cond_false] at h_; first | (have := ih_ _ _ _ _ _ h_; (try simp only [List.length_append, List.length_cons, List.length_nil, List.length_set] at this); omega) | (cases h_; done) | (cases h_; omega))
theorem Lv25a.lenR0_1 {w : WD} {st : ByteArray} {av9 : Nat} {al9 : List ByteArray} {a40 : Int} {a0_ : Nat} {a1_ : List ByteArray} (h_ : Lv25a.run w st av9 al9 a40 = (.e0 a0_ a1_ : Lv25a.O)) : (a1_).length ≤ (al9).length + ((((↑(cC w (IntKind.i64.wrap ((w.g (r59d.v w.n w.g st).toNat).co - 1)).toNat).length : Int) - a40).toNat) + 1) := Lv25a.len0_1 _ av9 al9 a40 a0_ a1_ h_
noncomputable def v25.v0 (w : WD) (st : ByteArray) : List ByteArray := (bif decide (r59d.v w.n w.g st < 0) then ([] : List ByteArray) else (bif (w.g (r59d.v w.n w.g st).toNat).co == 0 then ([] : List ByteArray) else (match Lv25a.run w st 0 [] 0 with | .e0 h3d0 h3d1 => h3d1 )))
noncomputable def v25.v1 (w : WD) (st : ByteArray) : Int := (bif decide (r59d.v w.n w.g st < 0) then 3 else (bif (w.g (r59d.v w.n w.g st).toNat).co == 0 then 0 else (match Lv25a.run w st 0 [] 0 with | .e0 h3d0 h3d1 => 0 )))
noncomputable abbrev v25.h0 (w : WD) (st : ByteArray) : AHeap := ([AObj.var (WD.av w), AObj.var (AV.str st)])
theorem v25 (w : WD) (hn : w.n ≤ 10000) (hnm : w.nm.size ≤ 9223372036854775807) (hg : ∀ (i : Nat), (w.g i).nm.size ≤ 9223372036854775807) (he : (r24.v w == 0) = true) (st : ByteArray) (h : AHeap) : Ret Try.prog 25 ([w.av, AV.str st]) h (AV.tup [(avStrs (v25.v0 w st)), (iv (v25.v1 w st))]) h := by
 try have := bd_cC (by first | assumption | omega) (by first | assumption | omega)
 have o0 : w.n ≤ (10000 : Nat) := by assumption
 have o1 : w.nm.size ≤ (9223372036854775807 : Nat) := by assumption
 have o2 : ∀ (i : Nat), (w.g i).nm.size ≤ (9223372036854775807 : Nat) := by assumption
 cases h1 : decide (r59d.v w.n w.g st < 0) with
 | true =>
  have h1p := of_decide_eq_true h1
  exact Ret.val (show (AV.tup [(avStrs ([] : List ByteArray)), iv 3]) = (AV.tup [(avStrs (v25.v0 w st)), (iv (v25.v1 w st))]) by simp only [v25.v0, v25.v1, he, h1, cond_true, cond_false]) (Ret.of_run1 mix [(avStrs ([] : List ByteArray)), iv 3] Try.func25 rfl [.ret (iv (r24.v w)) (v25.h0 w st), .b false, .ret (iv (r59d.v w.n w.g st)) (v25.h0 w st), .b true] (by simp) (by simp) (kmp (by kernel_rfl) (Ai (r24 (w) o0 o1 o2 (v25.h0 w st)) (Ai (show (bnot (r24.v w == 0)) = false by rw [he]; try rfl) (Ai (r59d (w) (w.n) o0 (w.g) (st)) (Ai h1 (Ai (rfl : ((avStrs ([] : List ByteArray))) = ((avStrs ([] : List ByteArray)))) (Ai (rfl : (iv 3) = (iv 3)) trivial))))))) h)
 | false =>
  have h1p := of_decide_eq_false h1
  try have := bd_cC (by first | assumption | omega) (by first | assumption | omega)
  have o3 : (0 : Int) ≤ r59d.v w.n w.g st := by first | assumption | omega | (apply r59d_ge <;> first | assumption | omega) | (exact hg _) | (exact hg _ (by omega)) | (simp_all; done)
  have o4 : r59d.v w.n w.g st < (↑w.n : Int) := by first | assumption | omega | (apply r59d_lt <;> first | assumption | omega) | (exact hg _) | (exact hg _ (by omega)) | (simp_all; done)
  cases h2 : (w.g (r59d.v w.n w.g st).toNat).co == 0 with
  | true =>
   have h2p := eq_of_beq h2
   exact Ret.val (show (AV.tup [(avStrs ([] : List ByteArray)), iv 0]) = (AV.tup [(avStrs (v25.v0 w st)), (iv (v25.v1 w st))]) by simp only [v25.v0, v25.v1, he, h1, h2, cond_true, cond_false]) (Ret.of_run1 mix [(avStrs ([] : List ByteArray)), iv 0] Try.func25 rfl [.ret (iv (r24.v w)) (v25.h0 w st), .b false, .ret (iv (r59d.v w.n w.g st)) (v25.h0 w st), .b false, .b true] (by simp) (by simp) (kmp (by kernel_rfl) (Ai (r24 (w) o0 o1 o2 (v25.h0 w st)) (Ai (show (bnot (r24.v w == 0)) = false by rw [he]; try rfl) (Ai (r59d (w) (w.n) o0 (w.g) (st)) (Ai h1 (Ai (Ai o3 o4) (Ai h2 (Ai (rfl : ((avStrs ([] : List ByteArray))) = ((avStrs ([] : List ByteArray)))) (Ai (rfl : (iv 0) = (iv 0)) trivial))))))))) h)
  | false =>
   have h2p := ne_of_beq_false h2
   try have := bd_cC (by first | assumption | omega) (by first | assumption | omega)
   try have := Lv25a.lenR0_1 (by assumption); (try simp only [List.length_nil] at this)
   have o5 : ∀ (i : Nat), i < w.n → (0 : Int) ≤ (w.g i).co ∧ (w.g i).co ≤ (99 : Int) := by first | assumption | omega | (apply v_co <;> first | assumption | omega) | (exact hg _) | (exact hg _ (by omega)) | (simp_all; done)
   have o6 : ∀ (i j : Nat), i < w.n → j < w.n → (w.g i).nm.toList = (w.g j).nm.toList → i = j := by first | assumption | omega | (apply v_nm <;> first | assumption | omega) | (exact hg _) | (exact hg _ (by omega)) | (simp_all; done)
   try have := IntWalk.i64_in ((w.g (r59d.v w.n w.g st).toNat).co - 1) (by omega)
   have o7 : (0 : Int) ≤ IntKind.i64.wrap ((w.g (r59d.v w.n w.g st).toNat).co - (1 : Int)) := by first | assumption | omega | (apply v_ci0 <;> first | assumption | omega) | (exact hg _) | (exact hg _ (by omega)) | (simp_all; done)
   have o8 : IntKind.i64.wrap ((w.g (r59d.v w.n w.g st).toNat).co - (1 : Int)) < (↑(nC w) : Int) := by first | assumption | omega | (apply v_ci1 <;> first | assumption | omega) | (exact hg _) | (exact hg _ (by omega)) | (simp_all; done)
   have o9 : (r24.v w == (0 : Int)) = true := by assumption
   have o10 : decide (r59d.v w.n w.g st < (0 : Int)) = false := by assumption
   have o11 : ¬r59d.v w.n w.g st < (0 : Int) := by assumption
   have o12 : ((w.g (r59d.v w.n w.g st).toNat).co == (0 : Int)) = false := by assumption
   have o13 : (w.g (r59d.v w.n w.g st).toNat).co ≠ (0 : Int) := by assumption
   have o14 : (0 : Int) ≤ (↑(cC w (IntKind.i64.wrap ((w.g (r59d.v w.n w.g st).toNat).co - (1 : Int))).toNat).length : Int) ∨ (0 : Int) ≤ (0 : Int) := by omega
   cases h3 : Lv25a.run w st 0 [] 0 with
   | e0 h3d0 h3d1 =>
    try have := bd_cC (by first | assumption | omega) (by first | assumption | omega)
    try have := Lv25a.lenR0_1 (by assumption); (try simp only [List.length_nil] at this)
    have o15 : (0 : Nat) + h3d1.length ≤ (Col.strs h3d1).len := by simp [Col.len]
    exact Ret.of_run1 mix [(avStrs (v25.v0 w st)), (iv (v25.v1 w st))] Try.func25 rfl [.ret (iv (r24.v w)) (v25.h0 w st), .b false, .ret (iv (r59d.v w.n w.g st)) (v25.h0 w st), .b false, .b false, .ret (AV.sl 1 (nC w) fun (j : Nat) => AV.sl 14 (cC w j).length fun (q : Nat) => (SD.av ((cC w j).getD q default))) ([AObj.var (WD.av w), AObj.var (AV.str st), AObj.var ((SD.av (w.g (r59d.v w.n w.g st).toNat)))]), .virt [0, 1] [(none, 9, 1, Col.strs [])], .loop (others 65 [8, 9, 38, 39, 40]) (Exit.exit 0) (Lv25a.X w st (Lv25a.O.e0 h3d0 h3d1)) (Lv25a.XH w st (Lv25a.O.e0 h3d0 h3d1))] (by simp) (by simp) (kmp (by kernel_rfl) (Ai (r24 (w) o0 o1 o2 (v25.h0 w st)) (Ai (show (bnot (r24.v w == 0)) = false by rw [he]; try rfl) (Ai (r59d (w) (w.n) o0 (w.g) (st)) (Ai h1 (Ai (Ai o3 o4) (Ai h2 (Ai (r44 (w) o0 o5 o6 ([AObj.var (WD.av w), AObj.var (AV.str st), AObj.var ((SD.av (w.g (r59d.v w.n w.g st).toNat)))])) (Ai (Ai o7 o8) (Ai (Ai (rfl : AV.snil = AV.snil) (Ai (rfl : (0 : Nat) = 0) trivial)) (Ai (Lv25a.e0 (w) o0 o1 o2 o9 (st) o10 o11 o12 o13 (0) ([]) (0) (Ai (show (0 : Int) ≤ (0 : Int) by decide) (Ai o14 (show (0 : Int) ≤ (0 : Int) by decide))) h3d0 h3d1 h3) (Ai (Ai (rfl : h3d0 = h3d0) (Ai (show (1 : Nat) = (1 : Nat) by decide) (Ai o15 (show ((avStrs h3d1)) = ((avStrs (v25.v0 w st))) by simp only [v25.v0, v25.v1, he, h1, h2, h3, cond_true, cond_false])))) (Ai (show (iv 0) = ((iv (v25.v1 w st))) by simp only [v25.v0, v25.v1, he, h1, h2, h3, cond_true, cond_false]) trivial))))))))))))) h
end Go.Proofs.Ytjdbmmilcihpoaa
open Go
namespace Go.Proofs.Ytjdbmmilcihpoaa
set_option linter.unusedSimpArgs false
set_option linter.unusedVariables false
set_option maxHeartbeats 0
set_option maxRecDepth 100000
inductive L31b.O where
 | e0 (a0 : Nat) (a1 : List ByteArray)
noncomputable def L31b.T (w : WD) (s : SD) (L : List SD) (v : Nat) (xs : List ByteArray) (k : Int) : List AV := mkT 81 [(7, AV.ptr 1 1 14 0 0), (8, sl14 L), (9, AV.ms 2 v 1 0 xs.length), (10, iv k)]
noncomputable def L31b.H (w : WD) (s : SD) (L : List SD) (v : Nat) (xs : List ByteArray) (k : Int) : AHeap := [AObj.var w.av, AObj.var s.av, AObj.row 1 v (Col.strs xs)]
def L31b.inv (w : WD) (s : SD) (L : List SD) (v : Nat) (xs : List ByteArray) (k : Int) : Prop := 0 ≤ k ∧ k ≤ (↑L.length : Int) ∧ (↑xs.length : Int) ≤ k
noncomputable def L31b.mu (w : WD) (s : SD) (L : List SD) (v : Nat) (xs : List ByteArray) (k : Int) : Nat := ((↑L.length : Int) - k).toNat
noncomputable def L31b.E : L31b.O → Exit
 | .e0 a0 a1 => Exit.exit 2
noncomputable def L31b.X (w : WD) (s : SD) (L : List SD) : L31b.O → List AV
 | .e0 a0 a1 => mkT 81 [(9, (AV.ms 2 a0 1 0 (List.length a1)))]
noncomputable def L31b.XH (w : WD) (s : SD) (L : List SD) : L31b.O → AHeap
 | .e0 a0 a1 => ((AObj.var (WD.av w)) :: ((AObj.var (SD.av s)) :: ((AObj.row 1 a0 (Col.strs a1)) :: ([]))))
noncomputable def L31b.N (s : SD) (L : List SD) : Nat → Nat → (List ByteArray) → Int → L31b.O
 | 0, v, xs, _ => .e0 v xs
 | k_ + 1, v, xs, k => (bif decide (k < (↑L.length : Int)) then (bif decide ((L.getD k.toNat default).ax < IntKind.i64.wrap (s.ax + s.sx)) then (bif decide (s.ax < IntKind.i64.wrap ((L.getD k.toNat default).ax + (L.getD k.toNat default).sx)) then (L31b.N s L k_ (v + 1) (xs ++ [(L.getD k.toNat default).nm]) (IntKind.i64.wrap (k + 1))) else (L31b.N s L k_ (v) (xs) (IntKind.i64.wrap (k + 1)))) else (L31b.N s L k_ (v) (xs) (IntKind.i64.wrap (k + 1)))) else (.e0 (v) (xs)))
noncomputable def L31b.run (s : SD) (L : List SD) (v : Nat) (xs : List ByteArray) (k : Int) : L31b.O := L31b.N s L ((((↑L.length : Int) - k).toNat) + 1) v xs k
theorem L31b.nx (w : WD) (s : SD) (L : List SD) {k_ : Nat} {z_ : Nat × (List ByteArray) × Int} {h_ : AHeap} (s_ : Nat × (List ByteArray) × Int) (h1 : L31b.inv w s L s_.1 s_.2.1 s_.2.2) (h2 : L31b.mu w s L s_.1 s_.2.1 s_.2.2 < L31b.mu w s L z_.1 z_.2.1 z_.2.2) (h3 : L31b.N s L k_ s_.1 s_.2.1 s_.2.2 = L31b.N s L (k_ + 1) z_.1 z_.2.1 z_.2.2) (h4 : PopOk (L31b.H w s L z_.1 z_.2.1 z_.2.2) h_ (L31b.T w s L s_.1 s_.2.1 s_.2.2) (L31b.H w s L s_.1 s_.2.1 s_.2.2)) : LNextP (fun (z_ : Nat × (List ByteArray) × Int) => L31b.T w s L z_.1 z_.2.1 z_.2.2) (fun (z_ : Nat × (List ByteArray) × Int) => L31b.H w s L z_.1 z_.2.1 z_.2.2) (fun (z_ : Nat × (List ByteArray) × Int) => L31b.inv w s L z_.1 z_.2.1 z_.2.2) (fun (z_ : Nat × (List ByteArray) × Int) => L31b.mu w s L z_.1 z_.2.1 z_.2.2) (fun (k_ : Nat) (z_ : Nat × (List ByteArray) × Int) => L31b.N s L k_ z_.1 z_.2.1 z_.2.2) k_ z_ (L31b.T w s L s_.1 s_.2.1 s_.2.2) h_ := LNextP.mk s_ h1 h2 h3 h4
theorem L31b.en (w : WD) (s : SD) (L : List SD) {k_ : Nat} {z_ : Nat × (List ByteArray) × Int} {h_ : AHeap} (o_ : L31b.O) (h3 : L31b.N s L (k_ + 1) z_.1 z_.2.1 z_.2.2 = o_) (h4 : PopOk (L31b.H w s L z_.1 z_.2.1 z_.2.2) h_ (L31b.X w s L o_) (L31b.XH w s L o_)) : LEndP (fun (z_ : Nat × (List ByteArray) × Int) => L31b.H w s L z_.1 z_.2.1 z_.2.2) (fun (k_ : Nat) (z_ : Nat × (List ByteArray) × Int) => L31b.N s L k_ z_.1 z_.2.1 z_.2.2) L31b.E (L31b.X w s L) (L31b.XH w s L) k_ z_ (L31b.E o_) (L31b.X w s L o_) h_ := LEndP.mk o_ h3 h4
theorem L31b.spec (w : WD) (s : SD) (L : List SD) (hl : L.length ≤ 10000) (k_ : Nat) (z_ : Nat × (List ByteArray) × Int) (hi_ : L31b.inv w s L z_.1 z_.2.1 z_.2.2) (hm_ : L31b.mu w s L z_.1 z_.2.1 z_.2.2 < k_) : LoopTo Try.prog (loopN Try.f31 1) (L31b.T w s L z_.1 z_.2.1 z_.2.2) (L31b.H w s L z_.1 z_.2.1 z_.2.2) (L31b.E (L31b.N s L k_ z_.1 z_.2.1 z_.2.2)) (L31b.X w s L (L31b.N s L k_ z_.1 z_.2.1 z_.2.2)) (L31b.XH w s L (L31b.N s L k_ z_.1 z_.2.1 z_.2.2)) := by
 refine LoopTo.fuelP mix (fun (z_ : Nat × (List ByteArray) × Int) => L31b.T w s L z_.1 z_.2.1 z_.2.2) (fun (z_ : Nat × (List ByteArray) × Int) => L31b.H w s L z_.1 z_.2.1 z_.2.2) (fun (z_ : Nat × (List ByteArray) × Int) => L31b.inv w s L z_.1 z_.2.1 z_.2.2) (fun (z_ : Nat × (List ByteArray) × Int) => L31b.mu w s L z_.1 z_.2.1 z_.2.2) (fun (k_ : Nat) (z_ : Nat × (List ByteArray) × Int) => L31b.N s L k_ z_.1 z_.2.1 z_.2.2) L31b.E (L31b.X w s L) (L31b.XH w s L) (others 81 [7, 8, 9, 10]) (others 81 [4, 5]) (others 81 [9]) ?_ k_ z_ hi_ hm_
 clear hm_ hi_ z_ k_
 intro k_ z_ hinv hmu
 obtain ⟨v, xs, k⟩ := z_
 have hinv : 0 ≤ k ∧ k ≤ (↑L.length : Int) ∧ (↑xs.length : Int) ≤ k := hinv
 have hmu : (((↑L.length : Int) - k).toNat) < k_ + 1 := hmu
 cases h1 : decide (k < (↑L.length : Int)) with
 | true =>
  have h1p := of_decide_eq_true h1
  have o0 : (0 : Int) ≤ k := by omega
  have o1 : k < (↑L.length : Int) := by assumption
  cases h2 : decide ((L.getD k.toNat default).ax < IntKind.i64.wrap (s.ax + s.sx)) with
  | true =>
   have h2p := of_decide_eq_true h2
   cases h3 : decide (s.ax < IntKind.i64.wrap ((L.getD k.toNat default).ax + (L.getD k.toNat default).sx)) with
   | true =>
    have h3p := of_decide_eq_true h3
    have o2 : (xs.length + (1 : Nat)) * (16 : Nat) ≤ (140737488355328 : Nat) := by omega
    have o3 : xs.length = (Col.strs xs).len := by rfl
    try have := IntWalk.i64_in (k + 1) (by omega)
    have o4 : (0 : Int) ≤ IntKind.i64.wrap (k + (1 : Int)) := by omega
    have o5 : IntKind.i64.wrap (k + (1 : Int)) ≤ (↑L.length : Int) := by omega
    have o6 : (↑(xs ++ [(L.getD k.toNat default).nm]).length : Int) ≤ IntKind.i64.wrap (k + (1 : Int)) := by simp only [List.length_append, List.length_cons, List.length_nil, List.length_map]; omega
    have o7 : ((↑L.length : Int) - IntKind.i64.wrap (k + (1 : Int))).toNat < ((↑L.length : Int) - k).toNat := by omega
    exact ⟨[.b true, .b true, .b true, .b true, .b true, .b true, .b true, .b true, .b true, .b true, .b true, .b true, .b true, .b true, .b true, .b true, .b true, .b true, .b true, .b true, .app .one false], kmp (by kernel_rfl) (Ai h1 (Ai (Ai o0 o1) (Ai h2 (Ai h2 (Ai h2 (Ai h2 (Ai h2 (Ai h2 (Ai (Ai o0 o1) (Ai h2 (Ai h2 (Ai h2 (Ai h2 (Ai h2 (Ai h2 (Ai (Ai o0 o1) (Ai h2 (Ai h2 (Ai h2 (Ai h2 (Ai h2 (Ai h2 (Ai h3 (Ai (Ai o0 o1) (Ai (Ai (show (1 : Nat) = (1 : Nat) by decide) (Ai (show AppMode.one.needs 1 fun (a : Nat) => (Col.ofList [AV.str (L.getD k.toNat default).nm]).get a by exact ⟨rfl, rfl⟩) (Ai o2 (Ai (rfl : v = v) (Ai (show (0 : Nat) = (0 : Nat) by decide) o3))))) (L31b.nx w s L (k_ := k_) (z_ := (v, xs, k)) ((v + 1, xs ++ [(L.getD k.toNat default).nm], IntKind.i64.wrap (k + 1))) (Ai o4 (Ai o5 o6)) o7 (by simp only [L31b.N, h1, h2, h3, cond_true, cond_false]) PopOk.same))))))))))))))))))))))))))⟩
   | false =>
    have h3p := of_decide_eq_false h3
    try have := IntWalk.i64_in (k + 1) (by omega)
    have o4 : (0 : Int) ≤ IntKind.i64.wrap (k + (1 : Int)) := by omega
    have o5 : IntKind.i64.wrap (k + (1 : Int)) ≤ (↑L.length : Int) := by omega
    have o8 : (↑xs.length : Int) ≤ IntKind.i64.wrap (k + (1 : Int)) := by omega
    have o7 : ((↑L.length : Int) - IntKind.i64.wrap (k + (1 : Int))).toNat < ((↑L.length : Int) - k).toNat := by omega
    exact ⟨[.b true, .b true, .b true, .b true, .b true, .b true, .b true, .b true, .b true, .b true, .b true, .b true, .b true, .b true, .b true, .b true, .b true, .b true, .b true, .b false], kmp (by kernel_rfl) (Ai h1 (Ai (Ai o0 o1) (Ai h2 (Ai h2 (Ai h2 (Ai h2 (Ai h2 (Ai h2 (Ai (Ai o0 o1) (Ai h2 (Ai h2 (Ai h2 (Ai h2 (Ai h2 (Ai h2 (Ai (Ai o0 o1) (Ai h2 (Ai h2 (Ai h2 (Ai h2 (Ai h2 (Ai h2 (Ai h3 (L31b.nx w s L (k_ := k_) (z_ := (v, xs, k)) ((v, xs, IntKind.i64.wrap (k + 1))) (Ai o4 (Ai o5 o8)) o7 (by simp only [L31b.N, h1, h2, h3, cond_true, cond_false]) PopOk.same))))))))))))))))))))))))⟩
  | false =>
   have h2p := of_decide_eq_false h2
   try have := IntWalk.i64_in (k + 1) (by omega)
   have o4 : (0 : Int) ≤ IntKind.i64.wrap (k + (1 : Int)) := by omega
   have o5 : IntKind.i64.wrap (k + (1 : Int)) ≤ (↑L.length : Int) := by omega
   have o8 : (↑xs.length : Int) ≤ IntKind.i64.wrap (k + (1 : Int)) := by omega
   have o7 : ((↑L.length : Int) - IntKind.i64.wrap (k + (1 : Int))).toNat < ((↑L.length : Int) - k).toNat := by omega
   exact ⟨[.b true, .b false, .b false, .b false, .b false, .b false, .b false, .b false, .b false, .b false, .b false, .b false, .b false, .b false, .b false, .b false, .b false, .b false, .b false, .b false], kmp (by kernel_rfl) (Ai h1 (Ai (Ai o0 o1) (Ai h2 (Ai h2 (Ai h2 (Ai h2 (Ai h2 (Ai h2 (Ai h2 (Ai h2 (Ai h2 (Ai h2 (Ai h2 (Ai h2 (Ai h2 (Ai h2 (Ai h2 (Ai h2 (Ai h2 (Ai h2 (Ai (rfl : false = false) (L31b.nx w s L (k_ := k_) (z_ := (v, xs, k)) ((v, xs, IntKind.i64.wrap (k + 1))) (Ai o4 (Ai o5 o8)) o7 (by simp only [L31b.N, h1, h2, cond_true, cond_false]) PopOk.same))))))))))))))))))))))⟩
 | false =>
  have h1p := of_decide_eq_false h1
  exact ⟨[.b false], kmp (by kernel_rfl) (Ai h1 (L31b.en w s L (k_ := k_) (z_ := (v, xs, k)) (.e0 (v) (xs) : L31b.O) (by simp only [L31b.N, h1, cond_true, cond_false]) PopOk.same))⟩
theorem L31b.e0 (w : WD) (s : SD) (L : List SD) (hl : L.length ≤ 10000) (v : Nat) (xs : List ByteArray) (k : Int) (hinv : L31b.inv w s L v xs k) (a0 : Nat) (a1 : List ByteArray) (hN : L31b.run s L v xs k = (.e0 a0 a1 : L31b.O)) : LoopTo Try.prog (loopN Try.f31 1) (L31b.T w s L v xs k) (L31b.H w s L v xs k) (Exit.exit 2) (L31b.X w s L (.e0 a0 a1 : L31b.O)) (L31b.XH w s L (.e0 a0 a1 : L31b.O)) := by
 have h_ := L31b.spec w s L hl ((((↑L.length : Int) - k).toNat) + 1) (v, xs, k) hinv (Nat.lt_succ_self _)
 unfold L31b.run at hN
 simp only [hN] at h_
 exact h_
inductive L31a.O where
 | e0 (a0 : Nat) (a1 : List ByteArray) (a2 : ByteArray) (a3 : Int) (a4 : Int) (a5 : Int) (a6 : Int) (a7 : Int) (a8 : Int) (a9 : Int) (a10 : Int) (a11 : Int) (a12 : ByteArray) (a13 : Int) (a14 : ByteArray) (a15 : Nat) (a16 : Nat → AV)
 | e1
noncomputable def L31a.T (w : WD) (st : ByteArray) (i : Int) : List AV := mkT 81 [(1, AV.str st), (2, AV.ptr 0 1 6 0 0), (6, iv i)]
noncomputable def L31a.H (w : WD) (st : ByteArray) (i : Int) : AHeap := [AObj.var w.av]
def L31a.inv (w : WD) (st : ByteArray) (i : Int) : Prop := 0 ≤ i ∧ i ≤ (↑w.n : Int)
noncomputable def L31a.mu (w : WD) (st : ByteArray) (i : Int) : Nat := ((↑w.n : Int) - i).toNat
noncomputable def L31a.E : L31a.O → Exit
 | .e0 a0 a1 a2 a3 a4 a5 a6 a7 a8 a9 a10 a11 a12 a13 a14 a15 a16 => Exit.ret
 | .e1 => Exit.exit 0
noncomputable def L31a.X (w : WD) (st : ByteArray) : L31a.O → List AV
 | .e0 a0 a1 a2 a3 a4 a5 a6 a7 a8 a9 a10 a11 a12 a13 a14 a15 a16 => mkT 81 [(4, (AV.ms 2 a0 1 0 (List.length a1))), (5, (AV.bool true))]
 | .e1 => mkT 81 []
noncomputable def L31a.XH (w : WD) (st : ByteArray) : L31a.O → AHeap
 | .e0 a0 a1 a2 a3 a4 a5 a6 a7 a8 a9 a10 a11 a12 a13 a14 a15 a16 => ((AObj.var (WD.av w)) :: ((AObj.var (AV.agg ((AV.str a2) :: ((iv a3) :: ((iv a4) :: ((iv a5) :: ((iv a6) :: ((iv a7) :: ((iv a8) :: ((iv a9) :: ((iv a10) :: ((iv a11) :: ((AV.str a12) :: ((iv a13) :: ((AV.str a14) :: ((AV.sl 4 a15 a16) :: ([]))))))))))))))))) :: ((AObj.row 1 a0 (Col.strs a1)) :: ([]))))
 | .e1 => ([AObj.var (WD.av w)])
noncomputable def L31a.N (w : WD) (st : ByteArray) : Nat → Int → L31a.O
 | 0, _ => .e0 default default default default default default default default default default default default default default default default default
 | k_ + 1, i => (bif decide (i < (↑w.n : Int)) then (bif (w.g i.toNat).nm.toList == st.toList then (match L31b.run (w.g i.toNat) (corR w.g (IntKind.i64.wrap ((w.g i.toNat).co - 1)) w.n) 0 [] 0 with | .e0 h3d0 h3d1 => (.e0 (h3d0) (h3d1) ((w.g i.toNat).nm) ((w.g i.toNat).sx) ((w.g i.toNat).sy) ((w.g i.toNat).sz) ((w.g i.toNat).tl) ((w.g i.toNat).ax) ((w.g i.toNat).ay) ((w.g i.toNat).az) ((w.g i.toNat).co) ((w.g i.toNat).bd) ((w.g i.toNat).gr) ((w.g i.toNat).cl) ((w.g i.toNat).pf) ((w.g i.toNat).am) (fun (i_1 : Nat) => AV.agg [iv ((w.g i.toNat).ag i_1).fa, iv ((w.g i.toNat).ag i_1).px, iv ((w.g i.toNat).ag i_1).py, iv ((w.g i.toNat).ag i_1).ed])) ) else (L31a.N w st k_ (IntKind.i64.wrap (i + 1)))) else (.e1))
noncomputable def L31a.run (w : WD) (st : ByteArray) (i : Int) : L31a.O := L31a.N w st ((((↑w.n : Int) - i).toNat) + 1) i
theorem L31a.nx (w : WD) (st : ByteArray) {k_ : Nat} {z_ : Int} {h_ : AHeap} (s_ : Int) (h1 : L31a.inv w st s_) (h2 : L31a.mu w st s_ < L31a.mu w st z_) (h3 : L31a.N w st k_ s_ = L31a.N w st (k_ + 1) z_) (h4 : PopOk (L31a.H w st z_) h_ (L31a.T w st s_) (L31a.H w st s_)) : LNextP (L31a.T w st) (L31a.H w st) (L31a.inv w st) (L31a.mu w st) (L31a.N w st) k_ z_ (L31a.T w st s_) h_ := LNextP.mk s_ h1 h2 h3 h4
theorem L31a.en (w : WD) (st : ByteArray) {k_ : Nat} {z_ : Int} {h_ : AHeap} (o_ : L31a.O) (h3 : L31a.N w st (k_ + 1) z_ = o_) (h4 : PopOk (L31a.H w st z_) h_ (L31a.X w st o_) (L31a.XH w st o_)) : LEndP (L31a.H w st) (L31a.N w st) L31a.E (L31a.X w st) (L31a.XH w st) k_ z_ (L31a.E o_) (L31a.X w st o_) h_ := LEndP.mk o_ h3 h4
theorem L31a.spec (w : WD) (hn : w.n ≤ 10000) (st : ByteArray) (k_ : Nat) (z_ : Int) (hi_ : L31a.inv w st z_) (hm_ : L31a.mu w st z_ < k_) : LoopTo Try.prog (loopN Try.f31 0) (L31a.T w st z_) (L31a.H w st z_) (L31a.E (L31a.N w st k_ z_)) (L31a.X w st (L31a.N w st k_ z_)) (L31a.XH w st (L31a.N w st k_ z_)) := by
 refine LoopTo.fuelP mix (L31a.T w st) (L31a.H w st) (L31a.inv w st) (L31a.mu w st) (L31a.N w st) L31a.E (L31a.X w st) (L31a.XH w st) (others 81 [1, 2, 6]) (others 81 [4, 5]) (others 81 []) ?_ k_ z_ hi_ hm_
 clear hm_ hi_ z_ k_
 intro k_ z_ hinv hmu
 revert hinv hmu; revert z_; intro i hinv hmu
 have hinv : 0 ≤ i ∧ i ≤ (↑w.n : Int) := hinv
 have hmu : (((↑w.n : Int) - i).toNat) < k_ + 1 := hmu
 cases h1 : decide (i < (↑w.n : Int)) with
 | true =>
  have h1p := of_decide_eq_true h1
  have o0 : (0 : Int) ≤ i := by omega
  have o1 : i < (↑w.n : Int) := by assumption
  cases h2 : (w.g i.toNat).nm.toList == st.toList with
  | true =>
   have h2p := str_eq h2
   try have := L31b.lenR0_1 (by assumption); (try simp only [List.length_nil] at this)
   have o2 : w.n ≤ (10000 : Nat) := by assumption
   try have := IntWalk.i64_in ((w.g i.toNat).co - 1) (by omega)
   have o3 : (corR w.g (IntKind.i64.wrap ((w.g i.toNat).co - (1 : Int))) w.n).length ≤ (10000 : Nat) := by first | assumption | omega | (simp only [List.length_append, List.length_cons, List.length_nil, List.length_map]; omega) | (apply cor_le <;> first | assumption | omega) | (simp_all; done)
   have o4 : (0 : Int) ≤ (↑(corR w.g (IntKind.i64.wrap ((w.g i.toNat).co - (1 : Int))) w.n).length : Int) := by omega
   cases h3 : L31b.run (w.g i.toNat) (corR w.g (IntKind.i64.wrap ((w.g i.toNat).co - 1)) w.n) 0 [] 0 with
   | e0 h3d0 h3d1 =>
    exact ⟨[.b true, .b false, .ret (AV.sl 14 (corR w.g (IntKind.i64.wrap ((w.g i.toNat).co - 1)) w.n).length fun (q : Nat) => (SD.av ((corR w.g (IntKind.i64.wrap ((w.g i.toNat).co - 1)) w.n).getD q default))) ([AObj.var (WD.av w), AObj.var ((SD.av (w.g i.toNat)))]), .virt [] [(none, 9, 1, Col.strs [])], .loop (others 81 [7, 8, 9, 10]) (Exit.exit 2) (L31b.X w (w.g i.toNat) (corR w.g (IntKind.i64.wrap ((w.g i.toNat).co - 1)) w.n) (L31b.O.e0 h3d0 h3d1)) (L31b.XH w (w.g i.toNat) (corR w.g (IntKind.i64.wrap ((w.g i.toNat).co - 1)) w.n) (L31b.O.e0 h3d0 h3d1))], kmp (by kernel_rfl) (Ai h1 (Ai (Ai o0 o1) (Ai (show (bnot ((w.g i.toNat).nm.toList == st.toList)) = false by rw [h2]; try rfl) (Ai (r42 (w) (IntKind.i64.wrap ((w.g i.toNat).co - 1)) o2 ([AObj.var (WD.av w), AObj.var ((SD.av (w.g i.toNat)))])) (Ai (Ai (rfl : AV.snil = AV.snil) (Ai (rfl : (0 : Nat) = 0) trivial)) (Ai (L31b.e0 (w) (w.g i.toNat) (corR w.g (IntKind.i64.wrap ((w.g i.toNat).co - 1)) w.n) o3 (0) ([]) (0) (Ai (show (0 : Int) ≤ (0 : Int) by decide) (Ai o4 (show (0 : Int) ≤ (0 : Int) by decide))) h3d0 h3d1 h3) (L31a.en w st (k_ := k_) (z_ := i) (.e0 (h3d0) (h3d1) ((w.g i.toNat).nm) ((w.g i.toNat).sx) ((w.g i.toNat).sy) ((w.g i.toNat).sz) ((w.g i.toNat).tl) ((w.g i.toNat).ax) ((w.g i.toNat).ay) ((w.g i.toNat).az) ((w.g i.toNat).co) ((w.g i.toNat).bd) ((w.g i.toNat).gr) ((w.g i.toNat).cl) ((w.g i.toNat).pf) ((w.g i.toNat).am) (fun (i_1 : Nat) => AV.agg [iv ((w.g i.toNat).ag i_1).fa, iv ((w.g i.toNat).ag i_1).px, iv ((w.g i.toNat).ag i_1).py, iv ((w.g i.toNat).ag i_1).ed]) : L31a.O) (by simp only [L31a.N, h1, h2, h3, cond_true, cond_false]) PopOk.same)))))))⟩
  | false =>
   have h2p := str_ne h2
   try have := IntWalk.i64_in (i + 1) (by omega)
   have o5 : (0 : Int) ≤ IntKind.i64.wrap (i + (1 : Int)) := by omega
   have o6 : IntKind.i64.wrap (i + (1 : Int)) ≤ (↑w.n : Int) := by omega
   have o7 : ((↑w.n : Int) - IntKind.i64.wrap (i + (1 : Int))).toNat < ((↑w.n : Int) - i).toNat := by omega
   exact ⟨[.b true, .b true], kmp (by kernel_rfl) (Ai h1 (Ai (Ai o0 o1) (Ai (show (bnot ((w.g i.toNat).nm.toList == st.toList)) = true by rw [h2]; try rfl) (L31a.nx w st (k_ := k_) (z_ := i) (h_ := [AObj.var (WD.av w), AObj.var ((SD.av (w.g i.toNat)))]) (IntKind.i64.wrap (i + 1)) (Ai o5 o6) o7 (by simp only [L31a.N, h1, h2, cond_true, cond_false]) (PopOk.pop rfl (by simp [L31a.T, L31a.X, L31a.H, L31a.XH]))))))⟩
 | false =>
  have h1p := of_decide_eq_false h1
  exact ⟨[.b false], kmp (by kernel_rfl) (Ai h1 (L31a.en w st (k_ := k_) (z_ := i) (.e1 : L31a.O) (by simp only [L31a.N, h1, cond_true, cond_false]) PopOk.same))⟩
theorem L31a.e0 (w : WD) (hn : w.n ≤ 10000) (st : ByteArray) (i : Int) (hinv : L31a.inv w st i) (a0 : Nat) (a1 : List ByteArray) (a2 : ByteArray) (a3 : Int) (a4 : Int) (a5 : Int) (a6 : Int) (a7 : Int) (a8 : Int) (a9 : Int) (a10 : Int) (a11 : Int) (a12 : ByteArray) (a13 : Int) (a14 : ByteArray) (a15 : Nat) (a16 : Nat → AV) (hN : L31a.run w st i = (.e0 a0 a1 a2 a3 a4 a5 a6 a7 a8 a9 a10 a11 a12 a13 a14 a15 a16 : L31a.O)) : LoopTo Try.prog (loopN Try.f31 0) (L31a.T w st i) (L31a.H w st i) (Exit.ret) (L31a.X w st (.e0 a0 a1 a2 a3 a4 a5 a6 a7 a8 a9 a10 a11 a12 a13 a14 a15 a16 : L31a.O)) (L31a.XH w st (.e0 a0 a1 a2 a3 a4 a5 a6 a7 a8 a9 a10 a11 a12 a13 a14 a15 a16 : L31a.O)) := by
 have h_ := L31a.spec w hn st ((((↑w.n : Int) - i).toNat) + 1) i hinv (Nat.lt_succ_self _)
 unfold L31a.run at hN
 simp only [hN] at h_
 exact h_
theorem L31a.e1 (w : WD) (hn : w.n ≤ 10000) (st : ByteArray) (i : Int) (hinv : L31a.inv w st i) (hN : L31a.run w st i = (.e1 : L31a.O)) : LoopTo Try.prog (loopN Try.f31 0) (L31a.T w st i) (L31a.H w st i) (Exit.exit 0) (L31a.X w st (.e1 : L31a.O)) (L31a.XH w st (.e1 : L31a.O)) := by
 have h_ := L31a.spec w hn st ((((↑w.n : Int) - i).toNat) + 1) i hinv (Nat.lt_succ_self _)
 unfold L31a.run at hN
 simp only [hN] at h_
 exact h_
noncomputable def r31.v0 (w : WD) (st : ByteArray) : List ByteArray := (match L31a.run w st 0 with | .e0 h1d0 h1d1 h1d2 h1d3 h1d4 h1d5 h1d6 h1d7 h1d8 h1d9 h1d10 h1d11 h1d12 h1d13 h1d14 h1d15 h1d16 => h1d1 | .e1 => ([] : List ByteArray) )
noncomputable def r31.v1 (w : WD) (st : ByteArray) : Bool := (match L31a.run w st 0 with | .e0 h1d0 h1d1 h1d2 h1d3 h1d4 h1d5 h1d6 h1d7 h1d8 h1d9 h1d10 h1d11 h1d12 h1d13 h1d14 h1d15 h1d16 => true | .e1 => false )
theorem r31 (w : WD) (hn : w.n ≤ 10000) (st : ByteArray) (h : AHeap) : Ret Try.prog 31 ([w.av, AV.str st]) h (AV.tup [(avStrs (r31.v0 w st)), (AV.bool (r31.v1 w st))]) h := by
 try have := bd_cor (by first | assumption | omega) (by first | assumption | omega)
 have o0 : w.n ≤ (10000 : Nat) := by assumption
 have o1 : (0 : Int) ≤ (↑w.n : Int) := by omega
 cases h1 : L31a.run w st 0 with
 | e0 h1d0 h1d1 h1d2 h1d3 h1d4 h1d5 h1d6 h1d7 h1d8 h1d9 h1d10 h1d11 h1d12 h1d13 h1d14 h1d15 h1d16 =>
  try have := bd_cor (by first | assumption | omega) (by first | assumption | omega)
  have o2 : (0 : Nat) + h1d1.length ≤ (Col.strs h1d1).len := by simp [Col.len]
  exact Ret.of_run1 mix [(avStrs (r31.v0 w st)), (AV.bool (r31.v1 w st))] Try.func31 rfl [.loop (others 81 [1, 2, 6]) (Exit.ret) (L31a.X w st (L31a.O.e0 h1d0 h1d1 h1d2 h1d3 h1d4 h1d5 h1d6 h1d7 h1d8 h1d9 h1d10 h1d11 h1d12 h1d13 h1d14 h1d15 h1d16)) (L31a.XH w st (L31a.O.e0 h1d0 h1d1 h1d2 h1d3 h1d4 h1d5 h1d6 h1d7 h1d8 h1d9 h1d10 h1d11 h1d12 h1d13 h1d14 h1d15 h1d16))] (by simp) (by simp) (kmp (by kernel_rfl) (Ai (L31a.e0 (w) o0 (st) (0) (Ai (show (0 : Int) ≤ (0 : Int) by decide) o1) h1d0 h1d1 h1d2 h1d3 h1d4 h1d5 h1d6 h1d7 h1d8 h1d9 h1d10 h1d11 h1d12 h1d13 h1d14 h1d15 h1d16 h1) (Ai (Ai (rfl : h1d0 = h1d0) (Ai (show (1 : Nat) = (1 : Nat) by decide) (Ai o2 (show ((avStrs h1d1)) = ((avStrs (r31.v0 w st))) by simp only [r31.v0, r31.v1, h1, cond_true, cond_false])))) (Ai (show (AV.bool true) = ((AV.bool (r31.v1 w st))) by simp only [r31.v0, r31.v1, h1, cond_true, cond_false]) trivial)))) h
 | e1 =>
  exact Ret.val (show (AV.tup [(avStrs ([] : List ByteArray)), AV.bool false]) = (AV.tup [(avStrs (r31.v0 w st)), (AV.bool (r31.v1 w st))]) by simp only [r31.v0, r31.v1, h1, cond_true, cond_false]) (Ret.of_run1 mix [(avStrs ([] : List ByteArray)), AV.bool false] Try.func31 rfl [.loop (others 81 [1, 2, 6]) (Exit.exit 0) (L31a.X w st L31a.O.e1) (L31a.XH w st L31a.O.e1)] (by simp) (by simp) (kmp (by kernel_rfl) (Ai (L31a.e1 (w) o0 (st) (0) (Ai (show (0 : Int) ≤ (0 : Int) by decide) o1) h1) (Ai (rfl : ((avStrs ([] : List ByteArray))) = ((avStrs ([] : List ByteArray)))) (Ai (rfl : (AV.bool false) = (AV.bool false)) trivial)))) h)
end Go.Proofs.Ytjdbmmilcihpoaa
open Go
namespace Go.Proofs.Ytjdbmmilcihpoaa
set_option linter.unusedSimpArgs false
set_option linter.unusedVariables false
set_option maxHeartbeats 0
set_option maxRecDepth 100000
inductive L20a.O where
 | e0
 | e1
noncomputable def L20a.T (w : WD) (a3 : Int) : List AV := mkT 41 [(1, AV.ptr 0 1 6 0 0), (3, iv a3)]
noncomputable def L20a.H (w : WD) (a3 : Int) : AHeap := [AObj.var (WD.av w)]
def L20a.inv (w : WD) (a3 : Int) : Prop := 0 ≤ a3 ∧ (a3 ≤ (↑w.n : Int) ∨ a3 ≤ 0)
noncomputable def L20a.mu (w : WD) (a3 : Int) : Nat := ((↑w.n : Int) - a3).toNat
noncomputable def L20a.E : L20a.O → Exit
 | .e0 => Exit.ret
 | .e1 => Exit.exit 0
noncomputable def L20a.X (w : WD) : L20a.O → List AV
 | .e0 => mkT 41 [(2, (AV.bool false))]
 | .e1 => mkT 41 []
noncomputable def L20a.XH (w : WD) : L20a.O → AHeap
 | .e0 => ([AObj.var (WD.av w)])
 | .e1 => ([AObj.var (WD.av w)])
noncomputable def L20a.N (w : WD) : Nat → Int → L20a.O
 | 0, _ => .e0
 | k_ + 1, a3 => (bif decide (a3 < (↑w.n : Int)) then (bif decide ((↑(w.g a3.toNat).nm.size : Int) > 100) then (.e0) else (L20a.N w k_ (IntKind.i64.wrap (a3 + 1)))) else (.e1))
noncomputable def L20a.run (w : WD) (a3 : Int) : L20a.O := L20a.N w ((((↑w.n : Int) - a3).toNat) + 1) a3
theorem L20a.nx (w : WD) {k_ : Nat} {z_ : Int} {h_ : AHeap} (s_ : Int) (h1 : L20a.inv w s_) (h2 : L20a.mu w s_ < L20a.mu w z_) (h3 : L20a.N w k_ s_ = L20a.N w (k_ + 1) z_) (h4 : PopOk (L20a.H w z_) h_ (L20a.T w s_) (L20a.H w s_)) : LNextP (L20a.T w) (L20a.H w) (L20a.inv w) (L20a.mu w) (L20a.N w) k_ z_ (L20a.T w s_) h_ := LNextP.mk s_ h1 h2 h3 h4
theorem L20a.en (w : WD) {k_ : Nat} {z_ : Int} {h_ : AHeap} (o_ : L20a.O) (h3 : L20a.N w (k_ + 1) z_ = o_) (h4 : PopOk (L20a.H w z_) h_ (L20a.X w o_) (L20a.XH w o_)) : LEndP (L20a.H w) (L20a.N w) L20a.E (L20a.X w) (L20a.XH w) k_ z_ (L20a.E o_) (L20a.X w o_) h_ := LEndP.mk o_ h3 h4
theorem L20a.spec (w : WD) (hw : w.n ≤ 9223372036854775807) (k0_1 : decide ((↑w.n : Int) > 30) = true) (p0_1 : (↑w.n : Int) > 30) (k0_2 : decide ((↑w.n : Int) ≤ 512) = false) (p0_2 : ¬(↑w.n : Int) ≤ 512) (k0_3 : decide ((↑w.n : Int) > 520) = false) (p0_3 : ¬(↑w.n : Int) > 520) (k0_4 : decide ((↑w.nm.size : Int) > 100) = false) (p0_4 : ¬(↑w.nm.size : Int) > 100) (k_ : Nat) (z_ : Int) (hi_ : L20a.inv w z_) (hm_ : L20a.mu w z_ < k_) : LoopTo Try.prog (loopN Try.f20 0) (L20a.T w z_) (L20a.H w z_) (L20a.E (L20a.N w k_ z_)) (L20a.X w (L20a.N w k_ z_)) (L20a.XH w (L20a.N w k_ z_)) := by
 refine LoopTo.fuelP mix (L20a.T w) (L20a.H w) (L20a.inv w) (L20a.mu w) (L20a.N w) L20a.E (L20a.X w) (L20a.XH w) (others 41 [1, 3]) (others 41 [2]) (others 41 []) ?_ k_ z_ hi_ hm_
 clear hm_ hi_ z_ k_
 intro k_ z_ hinv hmu
 revert hinv hmu; revert z_; intro a3 hinv hmu
 have hinv : 0 ≤ a3 ∧ (a3 ≤ (↑w.n : Int) ∨ a3 ≤ 0) := hinv
 have hmu : (((↑w.n : Int) - a3).toNat) < k_ + 1 := hmu
 cases h1 : decide (a3 < (↑w.n : Int)) with
 | true =>
  have h1p := of_decide_eq_true h1
  have o0 : (0 : Int) ≤ a3 := by omega
  have o1 : a3 < (↑w.n : Int) := by assumption
  cases h2 : decide ((↑(w.g a3.toNat).nm.size : Int) > 100) with
  | true =>
   have h2p := of_decide_eq_true h2
   exact ⟨[.b true, .b true], kmp (by kernel_rfl) (Ai h1 (Ai (Ai o0 o1) (Ai h2 (L20a.en w (k_ := k_) (z_ := a3) (.e0 : L20a.O) (by simp only [L20a.N, h1, h2, cond_true, cond_false]) PopOk.same))))⟩
  | false =>
   have h2p := of_decide_eq_false h2
   try have := IntWalk.i64_in (a3 + 1) (by omega)
   have o2 : (0 : Int) ≤ IntKind.i64.wrap (a3 + (1 : Int)) := by omega
   have o3 : IntKind.i64.wrap (a3 + (1 : Int)) ≤ (↑w.n : Int) ∨ IntKind.i64.wrap (a3 + (1 : Int)) ≤ (0 : Int) := by omega
   have o4 : ((↑w.n : Int) - IntKind.i64.wrap (a3 + (1 : Int))).toNat < ((↑w.n : Int) - a3).toNat := by omega
   exact ⟨[.b true, .b false], kmp (by kernel_rfl) (Ai h1 (Ai (Ai o0 o1) (Ai h2 (L20a.nx w (k_ := k_) (z_ := a3) (IntKind.i64.wrap (a3 + 1)) (Ai o2 o3) o4 (by simp only [L20a.N, h1, h2, cond_true, cond_false]) PopOk.same))))⟩
 | false =>
  have h1p := of_decide_eq_false h1
  exact ⟨[.b false], kmp (by kernel_rfl) (Ai h1 (L20a.en w (k_ := k_) (z_ := a3) (.e1 : L20a.O) (by simp only [L20a.N, h1, cond_true, cond_false]) PopOk.same))⟩
theorem L20a.e0 (w : WD) (hw : w.n ≤ 9223372036854775807) (k0_1 : decide ((↑w.n : Int) > 30) = true) (p0_1 : (↑w.n : Int) > 30) (k0_2 : decide ((↑w.n : Int) ≤ 512) = false) (p0_2 : ¬(↑w.n : Int) ≤ 512) (k0_3 : decide ((↑w.n : Int) > 520) = false) (p0_3 : ¬(↑w.n : Int) > 520) (k0_4 : decide ((↑w.nm.size : Int) > 100) = false) (p0_4 : ¬(↑w.nm.size : Int) > 100) (a3 : Int) (hinv : L20a.inv w a3) (hN : L20a.run w a3 = (.e0 : L20a.O)) : LoopTo Try.prog (loopN Try.f20 0) (L20a.T w a3) (L20a.H w a3) (Exit.ret) (L20a.X w (.e0 : L20a.O)) (L20a.XH w (.e0 : L20a.O)) := by
 have h_ := L20a.spec w hw k0_1 p0_1 k0_2 p0_2 k0_3 p0_3 k0_4 p0_4 ((((↑w.n : Int) - a3).toNat) + 1) a3 hinv (Nat.lt_succ_self _)
 unfold L20a.run at hN
 simp only [hN] at h_
 exact h_
theorem L20a.e1 (w : WD) (hw : w.n ≤ 9223372036854775807) (k0_1 : decide ((↑w.n : Int) > 30) = true) (p0_1 : (↑w.n : Int) > 30) (k0_2 : decide ((↑w.n : Int) ≤ 512) = false) (p0_2 : ¬(↑w.n : Int) ≤ 512) (k0_3 : decide ((↑w.n : Int) > 520) = false) (p0_3 : ¬(↑w.n : Int) > 520) (k0_4 : decide ((↑w.nm.size : Int) > 100) = false) (p0_4 : ¬(↑w.nm.size : Int) > 100) (a3 : Int) (hinv : L20a.inv w a3) (hN : L20a.run w a3 = (.e1 : L20a.O)) : LoopTo Try.prog (loopN Try.f20 0) (L20a.T w a3) (L20a.H w a3) (Exit.exit 0) (L20a.X w (.e1 : L20a.O)) (L20a.XH w (.e1 : L20a.O)) := by
 have h_ := L20a.spec w hw k0_1 p0_1 k0_2 p0_2 k0_3 p0_3 k0_4 p0_4 ((((↑w.n : Int) - a3).toNat) + 1) a3 hinv (Nat.lt_succ_self _)
 unfold L20a.run at hN
 simp only [hN] at h_
 exact h_
inductive L20ax.O where
 | e0
 | e1
noncomputable def L20ax.T (w : WD) (a3 : Int) : List AV := mkT 41 [(1, AV.ptr 0 1 6 0 0), (3, iv a3)]
noncomputable def L20ax.H (w : WD) (a3 : Int) : AHeap := [AObj.var (WD.av w)]
def L20ax.inv (w : WD) (a3 : Int) : Prop := 0 ≤ a3 ∧ (a3 ≤ (↑w.n : Int) ∨ a3 ≤ 0)
noncomputable def L20ax.mu (w : WD) (a3 : Int) : Nat := ((↑w.n : Int) - a3).toNat
noncomputable def L20ax.E : L20ax.O → Exit
 | .e0 => Exit.ret
 | .e1 => Exit.exit 0
noncomputable def L20ax.X (w : WD) : L20ax.O → List AV
 | .e0 => mkT 41 [(2, (AV.bool false))]
 | .e1 => mkT 41 []
noncomputable def L20ax.XH (w : WD) : L20ax.O → AHeap
 | .e0 => ([AObj.var (WD.av w)])
 | .e1 => ([AObj.var (WD.av w)])
noncomputable def L20ax.N (w : WD) : Nat → Int → L20ax.O
 | 0, _ => .e0
 | k_ + 1, a3 => (bif decide (a3 < (↑w.n : Int)) then (bif decide ((↑(w.g a3.toNat).nm.size : Int) > 100) then (.e0) else (L20ax.N w k_ (IntKind.i64.wrap (a3 + 1)))) else (.e1))
noncomputable def L20ax.run (w : WD) (a3 : Int) : L20ax.O := L20ax.N w ((((↑w.n : Int) - a3).toNat) + 1) a3
theorem L20ax.nx (w : WD) {k_ : Nat} {z_ : Int} {h_ : AHeap} (s_ : Int) (h1 : L20ax.inv w s_) (h2 : L20ax.mu w s_ < L20ax.mu w z_) (h3 : L20ax.N w k_ s_ = L20ax.N w (k_ + 1) z_) (h4 : PopOk (L20ax.H w z_) h_ (L20ax.T w s_) (L20ax.H w s_)) : LNextP (L20ax.T w) (L20ax.H w) (L20ax.inv w) (L20ax.mu w) (L20ax.N w) k_ z_ (L20ax.T w s_) h_ := LNextP.mk s_ h1 h2 h3 h4
theorem L20ax.en (w : WD) {k_ : Nat} {z_ : Int} {h_ : AHeap} (o_ : L20ax.O) (h3 : L20ax.N w (k_ + 1) z_ = o_) (h4 : PopOk (L20ax.H w z_) h_ (L20ax.X w o_) (L20ax.XH w o_)) : LEndP (L20ax.H w) (L20ax.N w) L20ax.E (L20ax.X w) (L20ax.XH w) k_ z_ (L20ax.E o_) (L20ax.X w o_) h_ := LEndP.mk o_ h3 h4
theorem L20ax.spec (w : WD) (hw : w.n ≤ 9223372036854775807) (k0_1 : decide ((↑w.n : Int) > 30) = false) (p0_1 : ¬(↑w.n : Int) > 30) (k0_2 : decide ((↑w.nm.size : Int) > 100) = false) (p0_2 : ¬(↑w.nm.size : Int) > 100) (k_ : Nat) (z_ : Int) (hi_ : L20ax.inv w z_) (hm_ : L20ax.mu w z_ < k_) : LoopTo Try.prog (loopN Try.f20 0) (L20ax.T w z_) (L20ax.H w z_) (L20ax.E (L20ax.N w k_ z_)) (L20ax.X w (L20ax.N w k_ z_)) (L20ax.XH w (L20ax.N w k_ z_)) := by
 refine LoopTo.fuelP mix (L20ax.T w) (L20ax.H w) (L20ax.inv w) (L20ax.mu w) (L20ax.N w) L20ax.E (L20ax.X w) (L20ax.XH w) (others 41 [1, 3]) (others 41 [2]) (others 41 []) ?_ k_ z_ hi_ hm_
 clear hm_ hi_ z_ k_
 intro k_ z_ hinv hmu
 revert hinv hmu; revert z_; intro a3 hinv hmu
 have hinv : 0 ≤ a3 ∧ (a3 ≤ (↑w.n : Int) ∨ a3 ≤ 0) := hinv
 have hmu : (((↑w.n : Int) - a3).toNat) < k_ + 1 := hmu
 cases h1 : decide (a3 < (↑w.n : Int)) with
 | true =>
  have h1p := of_decide_eq_true h1
  have o0 : (0 : Int) ≤ a3 := by omega
  have o1 : a3 < (↑w.n : Int) := by assumption
  cases h2 : decide ((↑(w.g a3.toNat).nm.size : Int) > 100) with
  | true =>
   have h2p := of_decide_eq_true h2
   exact ⟨[.b true, .b true], kmp (by kernel_rfl) (Ai h1 (Ai (Ai o0 o1) (Ai h2 (L20ax.en w (k_ := k_) (z_ := a3) (.e0 : L20ax.O) (by simp only [L20ax.N, h1, h2, cond_true, cond_false]) PopOk.same))))⟩
  | false =>
   have h2p := of_decide_eq_false h2
   try have := IntWalk.i64_in (a3 + 1) (by omega)
   have o2 : (0 : Int) ≤ IntKind.i64.wrap (a3 + (1 : Int)) := by omega
   have o3 : IntKind.i64.wrap (a3 + (1 : Int)) ≤ (↑w.n : Int) ∨ IntKind.i64.wrap (a3 + (1 : Int)) ≤ (0 : Int) := by omega
   have o4 : ((↑w.n : Int) - IntKind.i64.wrap (a3 + (1 : Int))).toNat < ((↑w.n : Int) - a3).toNat := by omega
   exact ⟨[.b true, .b false], kmp (by kernel_rfl) (Ai h1 (Ai (Ai o0 o1) (Ai h2 (L20ax.nx w (k_ := k_) (z_ := a3) (IntKind.i64.wrap (a3 + 1)) (Ai o2 o3) o4 (by simp only [L20ax.N, h1, h2, cond_true, cond_false]) PopOk.same))))⟩
 | false =>
  have h1p := of_decide_eq_false h1
  exact ⟨[.b false], kmp (by kernel_rfl) (Ai h1 (L20ax.en w (k_ := k_) (z_ := a3) (.e1 : L20ax.O) (by simp only [L20ax.N, h1, cond_true, cond_false]) PopOk.same))⟩
theorem L20ax.e0 (w : WD) (hw : w.n ≤ 9223372036854775807) (k0_1 : decide ((↑w.n : Int) > 30) = false) (p0_1 : ¬(↑w.n : Int) > 30) (k0_2 : decide ((↑w.nm.size : Int) > 100) = false) (p0_2 : ¬(↑w.nm.size : Int) > 100) (a3 : Int) (hinv : L20ax.inv w a3) (hN : L20ax.run w a3 = (.e0 : L20ax.O)) : LoopTo Try.prog (loopN Try.f20 0) (L20ax.T w a3) (L20ax.H w a3) (Exit.ret) (L20ax.X w (.e0 : L20ax.O)) (L20ax.XH w (.e0 : L20ax.O)) := by
 have h_ := L20ax.spec w hw k0_1 p0_1 k0_2 p0_2 ((((↑w.n : Int) - a3).toNat) + 1) a3 hinv (Nat.lt_succ_self _)
 unfold L20ax.run at hN
 simp only [hN] at h_
 exact h_
theorem L20ax.e1 (w : WD) (hw : w.n ≤ 9223372036854775807) (k0_1 : decide ((↑w.n : Int) > 30) = false) (p0_1 : ¬(↑w.n : Int) > 30) (k0_2 : decide ((↑w.nm.size : Int) > 100) = false) (p0_2 : ¬(↑w.nm.size : Int) > 100) (a3 : Int) (hinv : L20ax.inv w a3) (hN : L20ax.run w a3 = (.e1 : L20ax.O)) : LoopTo Try.prog (loopN Try.f20 0) (L20ax.T w a3) (L20ax.H w a3) (Exit.exit 0) (L20ax.X w (.e1 : L20ax.O)) (L20ax.XH w (.e1 : L20ax.O)) := by
 have h_ := L20ax.spec w hw k0_1 p0_1 k0_2 p0_2 ((((↑w.n : Int) - a3).toNat) + 1) a3 hinv (Nat.lt_succ_self _)
 unfold L20ax.run at hN
 simp only [hN] at h_
 exact h_
noncomputable def r20.v (w : WD) : Bool := (bif decide ((↑w.n : Int) > 30) then (bif decide ((↑w.n : Int) ≤ 512) then false else (bif decide ((↑w.n : Int) > 520) then false else (bif decide ((↑w.nm.size : Int) > 100) then false else (match L20a.run w 0 with | .e0 => false | .e1 => true )))) else (bif decide ((↑w.nm.size : Int) > 100) then false else (match L20ax.run w 0 with | .e0 => false | .e1 => true )))
theorem r20 (w : WD) (hw : w.n ≤ 9223372036854775807) (h : AHeap) : Ret Try.prog 20 ([w.av]) h (AV.bool (r20.v w)) h := by
 cases h1 : decide ((↑w.n : Int) > 30) with
 | true =>
  have h1p := of_decide_eq_true h1
  cases h2 : decide ((↑w.n : Int) ≤ 512) with
  | true =>
   have h2p := of_decide_eq_true h2
   exact Ret.of_run1 mix [(AV.bool (r20.v w))] Try.func20 rfl [.b true, .b true, .b true, .b true, .b true, .b true, .b true, .b true, .b true, .b true, .b true, .b true, .b true, .b true, .b true, .b true, .b true, .b true] (by simp) (by simp) (kmp (by kernel_rfl) (Ai h1 (Ai h1 (Ai h1 (Ai h1 (Ai h1 (Ai h2 (Ai h2 (Ai h2 (Ai h2 (Ai h1 (Ai h2 (Ai h1 (Ai (rfl : true = true) (Ai (rfl : true = true) (Ai (rfl : true = true) (Ai (rfl : true = true) (Ai (rfl : true = true) (Ai (rfl : true = true) (Ai (show (AV.bool false) = ((AV.bool (r20.v w))) by simp only [r20.v, h1, h2, cond_true, cond_false]) trivial)))))))))))))))))))) h
  | false =>
   have h2p := of_decide_eq_false h2
   cases h3 : decide ((↑w.n : Int) > 520) with
   | true =>
    have h3p := of_decide_eq_true h3
    exact Ret.of_run1 mix [(AV.bool (r20.v w))] Try.func20 rfl [.b true, .b true, .b true, .b true, .b true, .b false, .b false, .b false, .b false, .b true, .b false, .b true, .b true, .b true, .b true, .b true, .b true, .b true] (by simp) (by simp) (kmp (by kernel_rfl) (Ai h1 (Ai h1 (Ai h1 (Ai h1 (Ai h1 (Ai h2 (Ai h2 (Ai h2 (Ai h2 (Ai h1 (Ai h2 (Ai h1 (Ai h3 (Ai h3 (Ai h3 (Ai h3 (Ai h3 (Ai (rfl : true = true) (Ai (show (AV.bool false) = ((AV.bool (r20.v w))) by simp only [r20.v, h1, h2, h3, cond_true, cond_false]) trivial)))))))))))))))))))) h
   | false =>
    have h3p := of_decide_eq_false h3
    cases h4 : decide ((↑w.nm.size : Int) > 100) with
    | true =>
     have h4p := of_decide_eq_true h4
     exact Ret.of_run1 mix [(AV.bool (r20.v w))] Try.func20 rfl [.b true, .b true, .b true, .b true, .b true, .b false, .b false, .b false, .b false, .b true, .b false, .b true, .b false, .b false, .b false, .b false, .b false, .b true] (by simp) (by simp) (kmp (by kernel_rfl) (Ai h1 (Ai h1 (Ai h1 (Ai h1 (Ai h1 (Ai h2 (Ai h2 (Ai h2 (Ai h2 (Ai h1 (Ai h2 (Ai h1 (Ai h3 (Ai h3 (Ai h3 (Ai h3 (Ai h3 (Ai h4 (Ai (show (AV.bool false) = ((AV.bool (r20.v w))) by simp only [r20.v, h1, h2, h3, h4, cond_true, cond_false]) trivial)))))))))))))))))))) h
    | false =>
     have h4p := of_decide_eq_false h4
     have o0 : w.n ≤ (9223372036854775807 : Nat) := by assumption
     have o1 : decide ((↑w.n : Int) > (30 : Int)) = true := by assumption
     have o2 : (↑w.n : Int) > (30 : Int) := by assumption
     have o3 : decide ((↑w.n : Int) ≤ (512 : Int)) = false := by assumption
     have o4 : ¬(↑w.n : Int) ≤ (512 : Int) := by assumption
     have o5 : decide ((↑w.n : Int) > (520 : Int)) = false := by assumption
     have o6 : ¬(↑w.n : Int) > (520 : Int) := by assumption
     have o7 : decide ((↑w.nm.size : Int) > (100 : Int)) = false := by assumption
     have o8 : ¬(↑w.nm.size : Int) > (100 : Int) := by assumption
     have o9 : (0 : Int) ≤ (↑w.n : Int) ∨ (0 : Int) ≤ (0 : Int) := by omega
     cases h5 : L20a.run w 0 with
     | e0 =>
      exact Ret.of_run1 mix [(AV.bool (r20.v w))] Try.func20 rfl [.b true, .b true, .b true, .b true, .b true, .b false, .b false, .b false, .b false, .b true, .b false, .b true, .b false, .b false, .b false, .b false, .b false, .b false, .loop (others 41 [1, 3]) (Exit.ret) (L20a.X w L20a.O.e0) (L20a.XH w L20a.O.e0)] (by simp) (by simp) (kmp (by kernel_rfl) (Ai h1 (Ai h1 (Ai h1 (Ai h1 (Ai h1 (Ai h2 (Ai h2 (Ai h2 (Ai h2 (Ai h1 (Ai h2 (Ai h1 (Ai h3 (Ai h3 (Ai h3 (Ai h3 (Ai h3 (Ai h4 (Ai (L20a.e0 (w) o0 o1 o2 o3 o4 o5 o6 o7 o8 (0) (Ai (show (0 : Int) ≤ (0 : Int) by decide) o9) h5) (Ai (show (AV.bool false) = ((AV.bool (r20.v w))) by simp only [r20.v, h1, h2, h3, h4, h5, cond_true, cond_false]) trivial))))))))))))))))))))) h
     | e1 =>
      exact Ret.of_run1 mix [(AV.bool (r20.v w))] Try.func20 rfl [.b true, .b true, .b true, .b true, .b true, .b false, .b false, .b false, .b false, .b true, .b false, .b true, .b false, .b false, .b false, .b false, .b false, .b false, .loop (others 41 [1, 3]) (Exit.exit 0) (L20a.X w L20a.O.e1) (L20a.XH w L20a.O.e1)] (by simp) (by simp) (kmp (by kernel_rfl) (Ai h1 (Ai h1 (Ai h1 (Ai h1 (Ai h1 (Ai h2 (Ai h2 (Ai h2 (Ai h2 (Ai h1 (Ai h2 (Ai h1 (Ai h3 (Ai h3 (Ai h3 (Ai h3 (Ai h3 (Ai h4 (Ai (L20a.e1 (w) o0 o1 o2 o3 o4 o5 o6 o7 o8 (0) (Ai (show (0 : Int) ≤ (0 : Int) by decide) o9) h5) (Ai (show (AV.bool true) = ((AV.bool (r20.v w))) by simp only [r20.v, h1, h2, h3, h4, h5, cond_true, cond_false]) trivial))))))))))))))))))))) h
 | false =>
  have h1p := of_decide_eq_false h1
  cases h2 : decide ((↑w.nm.size : Int) > 100) with
  | true =>
   have h2p := of_decide_eq_true h2
   exact Ret.of_run1 mix [(AV.bool (r20.v w))] Try.func20 rfl [.b false, .b false, .b false, .b false, .b false, .b false, .b false, .b false, .b false, .b false, .b false, .b false, .b true] (by simp) (by simp) (kmp (by kernel_rfl) (Ai h1 (Ai h1 (Ai h1 (Ai h1 (Ai h1 (Ai h1 (Ai h1 (Ai (rfl : false = false) (Ai (rfl : false = false) (Ai (rfl : false = false) (Ai (rfl : false = false) (Ai (rfl : false = false) (Ai h2 (Ai (show (AV.bool false) = ((AV.bool (r20.v w))) by simp only [r20.v, h1, h2, cond_true, cond_false]) trivial))))))))))))))) h
  | false =>
   have h2p := of_decide_eq_false h2
   have o0 : w.n ≤ (9223372036854775807 : Nat) := by assumption
   have o10 : decide ((↑w.n : Int) > (30 : Int)) = false := by assumption
   have o11 : ¬(↑w.n : Int) > (30 : Int) := by assumption
   have o7 : decide ((↑w.nm.size : Int) > (100 : Int)) = false := by assumption
   have o8 : ¬(↑w.nm.size : Int) > (100 : Int) := by assumption
   have o9 : (0 : Int) ≤ (↑w.n : Int) ∨ (0 : Int) ≤ (0 : Int) := by omega
   cases h3 : L20ax.run w 0 with
   | e0 =>
    exact Ret.of_run1 mix [(AV.bool (r20.v w))] Try.func20 rfl [.b false, .b false, .b false, .b false, .b false, .b false, .b false, .b false, .b false, .b false, .b false, .b false, .b false, .loop (others 41 [1, 3]) (Exit.ret) (L20ax.X w L20ax.O.e0) (L20ax.XH w L20ax.O.e0)] (by simp) (by simp) (kmp (by kernel_rfl) (Ai h1 (Ai h1 (Ai h1 (Ai h1 (Ai h1 (Ai h1 (Ai h1 (Ai (rfl : false = false) (Ai (rfl : false = false) (Ai (rfl : false = false) (Ai (rfl : false = false) (Ai (rfl : false = false) (Ai h2 (Ai (L20ax.e0 (w) o0 o10 o11 o7 o8 (0) (Ai (show (0 : Int) ≤ (0 : Int) by decide) o9) h3) (Ai (show (AV.bool false) = ((AV.bool (r20.v w))) by simp only [r20.v, h1, h2, h3, cond_true, cond_false]) trivial)))))))))))))))) h
   | e1 =>
    exact Ret.of_run1 mix [(AV.bool (r20.v w))] Try.func20 rfl [.b false, .b false, .b false, .b false, .b false, .b false, .b false, .b false, .b false, .b false, .b false, .b false, .b false, .loop (others 41 [1, 3]) (Exit.exit 0) (L20ax.X w L20ax.O.e1) (L20ax.XH w L20ax.O.e1)] (by simp) (by simp) (kmp (by kernel_rfl) (Ai h1 (Ai h1 (Ai h1 (Ai h1 (Ai h1 (Ai h1 (Ai h1 (Ai (rfl : false = false) (Ai (rfl : false = false) (Ai (rfl : false = false) (Ai (rfl : false = false) (Ai (rfl : false = false) (Ai h2 (Ai (L20ax.e1 (w) o0 o10 o11 o7 o8 (0) (Ai (show (0 : Int) ≤ (0 : Int) by decide) o9) h3) (Ai (show (AV.bool true) = ((AV.bool (r20.v w))) by simp only [r20.v, h1, h2, h3, cond_true, cond_false]) trivial)))))))))))))))) h
end Go.Proofs.Ytjdbmmilcihpoaa
open Go
namespace Go.Proofs.Ytjdbmmilcihpoaa
set_option linter.unusedVariables false
set_option linter.unusedSimpArgs false
variable {L j l : Int} {n m k : Nat} {f g s : Nat → Int} {xs : List Int}
/-- A stone of a size may begin at a position. -/
noncomputable def goX (L j l : Int) (m : Nat) (g : Nat → Int) (xs : List Int) (t : Nat) (s : Int) : Bool :=
 decide ((t : Int) + s = L) || (decide ((t : Int) + s + j < L) && (decide (xs.getD ((t : Int) + s + j).toNat 0 > 0) && r34.v ((t : Int) + s) j l m g))
theorem r33_eq (hj0 : 0 ≤ j) (hj : j ≤ 1000) {t : Nat} (ht : t ≤ 20000) {s : Int} (h1 : 1 ≤ s) (h2 : s ≤ 20000) : r33.v L j l m g xs t s = goX L j l m g xs t s := by
 unfold r33.v goX
 simp only [i64_small (x := (t : Int) + s) (by omega), i64_small (x := (t : Int) + s + j) (by omega), Nat.zero_add]
 have e : ((t : Int) + s == L) = decide ((t : Int) + s = L) := rfl
 rw [e]
 cases decide ((t : Int) + s = L) <;> cases decide ((t : Int) + s + j < L) <;> cases decide (xs.getD ((t : Int) + s + j).toNat 0 > 0) <;> rfl
theorem goX_set {c t : Nat} {v s : Int} (hc : c ≤ t) (h1 : 1 ≤ s) (hj : 0 ≤ j) : goX L j l m g (xs.set c v) t s = goX L j l m g xs t s := by
 unfold goX
 have e : (xs.set c v).getD ((t : Int) + s + j).toNat 0 = xs.getD ((t : Int) + s + j).toNat 0 := by
  rw [List.getD_eq_getElem?_getD, List.getD_eq_getElem?_getD, List.getElem?_set, if_neg (by omega)]
 rw [e]
/-- The first size that will do. -/
def fs (P : Int → Bool) (f : Nat → Int) (b : Nat) : Nat → Int
 | 0 => 0
 | c + 1 => bif P (f b) then f b else fs P f (b + 1) c
theorem fs_cases (P : Int → Bool) (f : Nat → Int) : ∀ c b, (fs P f b c = 0 ∧ ∀ i, b ≤ i → i < b + c → P (f i) = false) ∨ ∃ i, b ≤ i ∧ i < b + c ∧ fs P f b c = f i ∧ P (f i) = true ∧ ∀ i', b ≤ i' → i' < i → P (f i') = false := by
 intro c
 induction c with
 | zero => intro b; exact .inl ⟨rfl, fun i h1 h2 => by omega⟩
 | succ c ih =>
  intro b
  cases hp : P (f b) with
  | true => exact .inr ⟨b, Nat.le_refl _, by omega, by simp [fs, hp], hp, fun i' h1 h2 => by omega⟩
  | false =>
   have e : fs P f b (c + 1) = fs P f (b + 1) c := by simp [fs, hp]
   rcases ih (b + 1) with ⟨a1, a2⟩ | ⟨i, a1, a2, a3, a4, a5⟩
   · refine .inl ⟨e.trans a1, fun i h1 h2 => ?_⟩
     by_cases e2 : i = b
     · rw [e2]; exact hp
     · exact a2 i (by omega) (by omega)
   · refine .inr ⟨i, by omega, by omega, e.trans a3, a4, fun i' h1 h2 => ?_⟩
     by_cases e2 : i' = b
     · rw [e2]; exact hp
     · exact a5 i' (by omega) h2
theorem fs_congr {P Q : Int → Bool} {f : Nat → Int} : ∀ c b, (∀ i, b ≤ i → i < b + c → P (f i) = Q (f i)) → fs P f b c = fs Q f b c := by
 intro c
 induction c with
 | zero => intro b _; rfl
 | succ c ih =>
  intro b h
  simp only [fs, h b (Nat.le_refl _) (by omega), ih (b + 1) fun i h1 h2 => h i (by omega) (by omega)]
theorem set_zero {c : Nat} (h : xs.getD c 0 = 0) : xs.set c 0 = xs := by
 apply List.ext_getElem?
 intro t
 rw [List.getElem?_set]
 split
 · next e =>
   subst e
   rw [List.getD_eq_getElem?_getD] at h
   cases q : xs[c]? with
   | none =>
    rw [if_neg]
    intro hc
    rw [List.getElem?_eq_getElem hc] at q; cases q
   | some b =>
    rw [q] at h
    have hi := (List.getElem?_eq_some_iff.1 q).1
    rw [if_pos hi]
    simp only [Option.getD_some] at h
    rw [h]
 · rfl
theorem getD_set {c t : Nat} {v : Int} (hc : c < xs.length) : (xs.set c v).getD t 0 = if t = c then v else xs.getD t 0 := by
 rw [List.getD_eq_getElem?_getD, List.getD_eq_getElem?_getD, List.getElem?_set]
 by_cases e : c = t
 · subst e; rw [if_pos rfl, if_pos hc, if_pos rfl]; rfl
 · rw [if_neg e, if_neg fun h => e h.symm]
theorem L11b_run (h : LOk L j l n f m g) {t : Nat} (ht : t ≤ 20000) (hz : xs.getD t 0 = 0) : ∀ q b, b ≤ n → n - b < q →
 L11ab.N L j l n f m g t q (b : Int) xs = .e0 (xs.set t (fs (goX L j l m g xs t) f b (n - b))) := by
 have hn := h.n2
 intro q
 induction q with
 | zero => intro b _ h; omega
 | succ q ih =>
  intro b hb hq
  simp only [L11ab.N, Int.toNat_natCast, Nat.zero_add]
  by_cases hlt : b < n
  · rw [decide_eq_true (show (b : Int) < n by omega), wrap_succ (n := n) (by omega) hlt, r33_eq h.j1 h.j2 ht (h.f1 b hlt) (h.f2 b hlt), show n - b = (n - (b + 1)) + 1 by omega]
    simp only [cond_true, fs]
    cases goX L j l m g xs t (f b) with
    | true => rfl
    | false => simp only [cond_false]; exact ih (b + 1) hlt (by omega)
  · rw [decide_eq_false (by omega), show n - b = 0 by omega]
    show L11ab.O.e0 xs = .e0 (xs.set t 0)
    rw [set_zero hz]
/-- What the table of first sizes holds. -/
structure FOk (L j l : Int) (n : Nat) (f : Nat → Int) (m : Nat) (g : Nat → Int) (xs : List Int) : Prop where
 len : xs.length = (L + 1).toNat
 val : ∀ t : Nat, (t : Int) < L → xs.getD t 0 = fs (goX L j l m g xs t) f 0 n
theorem L11_run (h : LOk L j l n f m g) : ∀ (q c : Nat) (xs : List Int), (c : Int) ≤ L → c < q → xs.length = (L + 1).toNat → (∀ t, t < c → xs.getD t 0 = 0) → (∀ t : Nat, c ≤ t → (t : Int) < L → xs.getD t 0 = fs (goX L j l m g xs t) f 0 n) →
 ∃ xs', L11a.N L j l n f m g q ((c : Int) - 1) xs = .e0 xs' ∧ FOk L j l n f m g xs' := by
 have hl1 := h.l1
 have hl2 := h.l2
 intro q
 induction q with
 | zero => intro c xs _ h; omega
 | succ q ih =>
  intro c xs hc hq hl hz hv
  simp only [L11a.N]
  cases c with
  | zero =>
   rw [decide_eq_false (by omega)]
   exact ⟨xs, rfl, hl, fun t ht => hv t (Nat.zero_le _) ht⟩
  | succ c =>
   rw [show ((c + 1 : Nat) : Int) - 1 = (c : Int) by omega, decide_eq_true (show (c : Int) ≥ 0 by omega)]
   have e : L11ab.run L j l n f m g (c : Int) 0 xs = .e0 (xs.set c (fs (goX L j l m g xs c) f 0 n)) := by
    have := L11b_run (xs := xs) h (t := c) (by omega) (hz c (by omega)) (((n : Int) - 0).toNat + 1) 0 (Nat.zero_le _) (by omega)
    exact this
   rw [e, i64_small (x := (c : Int) - 1) (by omega)]
   simp only [cond_true]
   have hlen : c < xs.length := by omega
   have gs : ∀ t, c ≤ t → fs (goX L j l m g (xs.set c (fs (goX L j l m g xs c) f 0 n)) t) f 0 n = fs (goX L j l m g xs t) f 0 n := fun t ht =>
    fs_congr n 0 fun i _ hi => goX_set ht (h.f1 i (by omega)) h.j1
   refine ih c _ (by omega) (by omega) (by rw [List.length_set]; exact hl) (fun t ht => ?_) (fun t h1 h2 => ?_)
   · rw [getD_set hlen, if_neg (by omega)]; exact hz t (by omega)
   · rw [getD_set hlen, gs t h1]
     by_cases e2 : t = c
     · rw [if_pos e2, e2]
     · rw [if_neg e2]; exact hv t (by omega) h2
theorem fok (h : LOk L j l n f m g) : ∃ xs, L11a.run L j l n f m g (L - 1) (List.replicate (L + 1).toNat 0) = .e0 xs ∧ FOk L j l n f m g xs := by
 have hl1 := h.l1
 have hl2 := h.l2
 obtain ⟨xs, e, hf⟩ := L11_run h ((L - 1 + 1).toNat + 1) L.toNat (List.replicate (L + 1).toNat 0) (by omega) (by omega) (by simp) (fun t _ => by simp [List.getD_eq_getElem?_getD, List.getElem?_replicate]; split <;> rfl) (fun t h1 h2 => by omega)
 refine ⟨xs, ?_, hf⟩
 have e1 : L11a.run L j l n f m g (L - 1) (List.replicate (L + 1).toNat 0) = L11a.N L j l n f m g ((L - 1 + 1).toNat + 1) (L - 1) (List.replicate (L + 1).toNat 0) := rfl
 rw [e1]
 rw [show ((L.toNat : Nat) : Int) - 1 = L - 1 by omega] at e
 exact e
theorem bd_fok (h : LOk L j l n f m g) (e : L11a.run L j l n f m g (IntKind.i64.wrap (L - 1)) (List.replicate (IntKind.i64.wrap (L + 1)).toNat 0) = .e0 xs) : FOk L j l n f m g xs ∧ xs.length = (L + 1).toNat := by
 obtain ⟨xs', e', hf⟩ := fok h
 have hl1 := h.l1
 have hl2 := h.l2
 rw [i64_small (by omega), i64_small (by omega), e'] at e
 cases e
 exact ⟨hf, hf.len⟩
/-- Where a stone may begin, one goes on. -/
theorem FOk.step (h : LOk L j l n f m g) (hf : FOk L j l n f m g xs) {t : Nat} (ht : (t : Int) < L) :
 xs.getD t 0 = 0 ∨ (1 ≤ xs.getD t 0 ∧ xs.getD t 0 ≤ 20000 ∧ goX L j l m g xs t (xs.getD t 0) = true) := by
 rcases fs_cases (goX L j l m g xs t) f n 0 with ⟨a1, _⟩ | ⟨i, a1, a2, a3, a4, _⟩
 · exact .inl ((hf.val t ht).trans a1)
 · right
   rw [hf.val t ht, a3]
   exact ⟨h.f1 i (by omega), h.f2 i (by omega), a4⟩
theorem bd_go (hf : FOk L j l n f m g xs) (h : LOk L j l n f m g) {a : Int} (h1 : a < L) (h0 : 0 ≤ a) (hx : a ≥ L ∨ xs.getD (0 + a.toNat) 0 > 0) :
 (1 ≤ xs.getD (0 + a.toNat) 0 ∧ xs.getD (0 + a.toNat) 0 ≤ 20000) ∧ (IntKind.i64.wrap (a + IntKind.i64.wrap (xs.getD (0 + a.toNat) 0 + j)) = a + (xs.getD (0 + a.toNat) 0 + j)) ∧
 (a + (xs.getD (0 + a.toNat) 0 + j) ≥ L ∨ xs.getD (0 + (a + (xs.getD (0 + a.toNat) 0 + j)).toNat) 0 > 0) := by
 simp only [Nat.zero_add] at *
 obtain ⟨t, rfl⟩ := Int.eq_ofNat_of_zero_le h0
 simp only [Int.toNat_natCast] at *
 have hl2 := h.l2
 have hj1 := h.j1
 have hj2 := h.j2
 rcases hf.step h h1 with e | ⟨b1, b2, b3⟩
 · omega
 · refine ⟨⟨b1, b2⟩, by rw [i64_small (x := xs.getD t 0 + j) (by omega), i64_small (by omega)], ?_⟩
   unfold goX at b3
   simp only [Bool.or_eq_true, Bool.and_eq_true, decide_eq_true_eq] at b3
   rcases b3 with q | ⟨q1, q2, _⟩
   · exact .inl (by omega)
   · right
     rw [show (t : Int) + (xs.getD t 0 + j) = (t : Int) + xs.getD t 0 + j by omega]
     exact q2
end Go.Proofs.Ytjdbmmilcihpoaa
open Go
namespace Go.Proofs.Ytjdbmmilcihpoaa
set_option linter.unusedSimpArgs false
set_option linter.unusedVariables false
set_option maxHeartbeats 0
set_option maxRecDepth 100000
inductive L11c.O where
 | e0 (a0 : Nat) (a1 : List Int)
noncomputable def L11c.T (L : Int) (j : Int) (l : Int) (n : Nat) (f : Nat → Int) (m : Nat) (g : Nat → Int) (V : Nat) (xs : List Int) (a19 : Int) (v18 : Nat) (al : List Int) : List AV := mkT 77 [(5, AV.ptr 0 1 1 0 0), (6, AV.ptr 1 1 1 0 0), (13, AV.ptr 5 1 1 0 0), (18, AV.ms 6 v18 1 0 al.length), (19, iv a19)]
noncomputable def L11c.H (L : Int) (j : Int) (l : Int) (n : Nat) (f : Nat → Int) (m : Nat) (g : Nat → Int) (V : Nat) (xs : List Int) (a19 : Int) (v18 : Nat) (al : List Int) : AHeap := [AObj.var (iv L), AObj.var (iv j), AObj.var (iv l), AObj.var (ivs m g), AObj.row 1 V (Col.ints IntKind.i64 xs), AObj.var (AV.ms 4 V 1 0 V), AObj.row 1 v18 (Col.ints IntKind.i64 al)]
def L11c.inv (L : Int) (j : Int) (l : Int) (n : Nat) (f : Nat → Int) (m : Nat) (g : Nat → Int) (V : Nat) (xs : List Int) (a19 : Int) (v18 : Nat) (al : List Int) : Prop := (0 ≤ a19 ∧ a19 ≤ 41000) ∧ (a19 ≥ L ∨ xs.getD (0 + a19.toNat) 0 > 0) ∧ (↑al.length : Int) ≤ a19
noncomputable def L11c.mu (L : Int) (j : Int) (l : Int) (n : Nat) (f : Nat → Int) (m : Nat) (g : Nat → Int) (V : Nat) (xs : List Int) (a19 : Int) (v18 : Nat) (al : List Int) : Nat := (L - a19).toNat
noncomputable def L11c.E : L11c.O → Exit
 | .e0 a0 a1 => Exit.exit 4
noncomputable def L11c.X (L : Int) (j : Int) (l : Int) (n : Nat) (f : Nat → Int) (m : Nat) (g : Nat → Int) (V : Nat) (xs : List Int) : L11c.O → List AV
 | .e0 a0 a1 => mkT 77 [(18, (AV.ms 6 a0 1 0 (List.length a1)))]
noncomputable def L11c.XH (L : Int) (j : Int) (l : Int) (n : Nat) (f : Nat → Int) (m : Nat) (g : Nat → Int) (V : Nat) (xs : List Int) : L11c.O → AHeap
 | .e0 a0 a1 => ((AObj.var (iv L)) :: ((AObj.var (iv j)) :: ((AObj.var (iv l)) :: ((AObj.var (AV.sl 1 m fun (i : Nat) => iv (g i))) :: ((AObj.row 1 V (Col.ints IntKind.i64 xs)) :: ((AObj.var (AV.ms 4 V 1 0 V)) :: ((AObj.row 1 a0 (Col.ints IntKind.i64 a1)) :: ([]))))))))
noncomputable def L11c.N (L : Int) (j : Int) (xs : List Int) : Nat → Int → Nat → (List Int) → L11c.O
 | 0, _, v18, al => .e0 v18 al
 | k_ + 1, a19, v18, al => (bif decide (a19 < L) then (L11c.N L j xs k_ (IntKind.i64.wrap (a19 + IntKind.i64.wrap (xs.getD (0 + a19.toNat) 0 + j))) (v18 + 1) (al ++ [xs.getD (0 + a19.toNat) 0])) else (.e0 (v18) (al)))
noncomputable def L11c.run (L : Int) (j : Int) (xs : List Int) (a19 : Int) (v18 : Nat) (al : List Int) : L11c.O := L11c.N L j xs (((L - a19).toNat) + 1) a19 v18 al
theorem L11c.nx (L : Int) (j : Int) (l : Int) (n : Nat) (f : Nat → Int) (m : Nat) (g : Nat → Int) (V : Nat) (xs : List Int) {k_ : Nat} {z_ : Int × Nat × (List Int)} {h_ : AHeap} (s_ : Int × Nat × (List Int)) (h1 : L11c.inv L j l n f m g V xs s_.1 s_.2.1 s_.2.2) (h2 : L11c.mu L j l n f m g V xs s_.1 s_.2.1 s_.2.2 < L11c.mu L j l n f m g V xs z_.1 z_.2.1 z_.2.2) (h3 : L11c.N L j xs k_ s_.1 s_.2.1 s_.2.2 = L11c.N L j xs (k_ + 1) z_.1 z_.2.1 z_.2.2) (h4 : PopOk (L11c.H L j l n f m g V xs z_.1 z_.2.1 z_.2.2) h_ (L11c.T L j l n f m g V xs s_.1 s_.2.1 s_.2.2) (L11c.H L j l n f m g V xs s_.1 s_.2.1 s_.2.2)) : LNextP (fun (z_ : Int × Nat × (List Int)) => L11c.T L j l n f m g V xs z_.1 z_.2.1 z_.2.2) (fun (z_ : Int × Nat × (List Int)) => L11c.H L j l n f m g V xs z_.1 z_.2.1 z_.2.2) (fun (z_ : Int × Nat × (List Int)) => L11c.inv L j l n f m g V xs z_.1 z_.2.1 z_.2.2) (fun (z_ : Int × Nat × (List Int)) => L11c.mu L j l n f m g V xs z_.1 z_.2.1 z_.2.2) (fun (k_ : Nat) (z_ : Int × Nat × (List Int)) => L11c.N L j xs k_ z_.1 z_.2.1 z_.2.2) k_ z_ (L11c.T L j l n f m g V xs s_.1 s_.2.1 s_.2.2) h_ := LNextP.mk s_ h1 h2 h3 h4
theorem L11c.en (L : Int) (j : Int) (l : Int) (n : Nat) (f : Nat → Int) (m : Nat) (g : Nat → Int) (V : Nat) (xs : List Int) {k_ : Nat} {z_ : Int × Nat × (List Int)} {h_ : AHeap} (o_ : L11c.O) (h3 : L11c.N L j xs (k_ + 1) z_.1 z_.2.1 z_.2.2 = o_) (h4 : PopOk (L11c.H L j l n f m g V xs z_.1 z_.2.1 z_.2.2) h_ (L11c.X L j l n f m g V xs o_) (L11c.XH L j l n f m g V xs o_)) : LEndP (fun (z_ : Int × Nat × (List Int)) => L11c.H L j l n f m g V xs z_.1 z_.2.1 z_.2.2) (fun (k_ : Nat) (z_ : Int × Nat × (List Int)) => L11c.N L j xs k_ z_.1 z_.2.1 z_.2.2) L11c.E (L11c.X L j l n f m g V xs) (L11c.XH L j l n f m g V xs) k_ z_ (L11c.E o_) (L11c.X L j l n f m g V xs o_) h_ := LEndP.mk o_ h3 h4
theorem L11c.spec (L : Int) (j : Int) (l : Int) (n : Nat) (f : Nat → Int) (hn : n ≤ 9223372036854775807) (m : Nat) (g : Nat → Int) (hm : m ≤ 9223372036854775807) (hk : LOk L j l n f m g) (V : Nat) (xs : List Int) (hf : FOk L j l n f m g xs) (hV : V = (L + 1).toNat) (hV2 : xs.length = (L + 1).toNat) (k_ : Nat) (z_ : Int × Nat × (List Int)) (hi_ : L11c.inv L j l n f m g V xs z_.1 z_.2.1 z_.2.2) (hm_ : L11c.mu L j l n f m g V xs z_.1 z_.2.1 z_.2.2 < k_) : LoopTo Try.prog (loopN Try.f11 2) (L11c.T L j l n f m g V xs z_.1 z_.2.1 z_.2.2) (L11c.H L j l n f m g V xs z_.1 z_.2.1 z_.2.2) (L11c.E (L11c.N L j xs k_ z_.1 z_.2.1 z_.2.2)) (L11c.X L j l n f m g V xs (L11c.N L j xs k_ z_.1 z_.2.1 z_.2.2)) (L11c.XH L j l n f m g V xs (L11c.N L j xs k_ z_.1 z_.2.1 z_.2.2)) := by
 refine LoopTo.fuelP mix (fun (z_ : Int × Nat × (List Int)) => L11c.T L j l n f m g V xs z_.1 z_.2.1 z_.2.2) (fun (z_ : Int × Nat × (List Int)) => L11c.H L j l n f m g V xs z_.1 z_.2.1 z_.2.2) (fun (z_ : Int × Nat × (List Int)) => L11c.inv L j l n f m g V xs z_.1 z_.2.1 z_.2.2) (fun (z_ : Int × Nat × (List Int)) => L11c.mu L j l n f m g V xs z_.1 z_.2.1 z_.2.2) (fun (k_ : Nat) (z_ : Int × Nat × (List Int)) => L11c.N L j xs k_ z_.1 z_.2.1 z_.2.2) L11c.E (L11c.X L j l n f m g V xs) (L11c.XH L j l n f m g V xs) (others 77 [5, 6, 13, 18, 19]) (others 77 [10, 11]) (others 77 [18]) ?_ k_ z_ hi_ hm_
 clear hm_ hi_ z_ k_
 intro k_ z_ hinv hmu
 obtain ⟨a19, v18, al⟩ := z_
 have hinv : (0 ≤ a19 ∧ a19 ≤ 41000) ∧ (a19 ≥ L ∨ xs.getD (0 + a19.toNat) 0 > 0) ∧ (↑al.length : Int) ≤ a19 := hinv
 have hmu : ((L - a19).toNat) < k_ + 1 := hmu
 cases h1 : decide (a19 < L) with
 | true =>
  have h1p := of_decide_eq_true h1
  try have := bd_len (by assumption)
  try have := bd_go (by assumption) (by assumption) (by assumption) (by omega) (by omega)
  have o0 : (0 : Int) ≤ a19 := by omega
  have o1 : a19 < (↑V : Int) := by omega
  have o2 : (0 : Nat) + a19.toNat < (Col.ints IntKind.i64 xs).len := by simp only [Col.len, zero_bool, zero_int, List.length_replicate, List.length_set] at *; omega
  have o3 : (al.length + (1 : Nat)) * (8 : Nat) ≤ (140737488355328 : Nat) := by omega
  have o4 : al.length = (Col.ints IntKind.i64 al).len := by rfl
  try have := IntWalk.i64_in (xs.getD (0 + a19.toNat) 0 + j) (by omega)
  try have := IntWalk.i64_in (a19 + IntKind.i64.wrap (xs.getD (0 + a19.toNat) 0 + j)) (by omega)
  have o5 : (0 : Int) ≤ IntKind.i64.wrap (a19 + IntKind.i64.wrap (xs.getD ((0 : Nat) + a19.toNat) (0 : Int) + j)) := by omega
  have o6 : IntKind.i64.wrap (a19 + IntKind.i64.wrap (xs.getD ((0 : Nat) + a19.toNat) (0 : Int) + j)) ≤ (41000 : Int) := by omega
  have o7 : IntKind.i64.wrap (a19 + IntKind.i64.wrap (xs.getD ((0 : Nat) + a19.toNat) (0 : Int) + j)) ≥ L ∨ xs.getD ((0 : Nat) + (IntKind.i64.wrap (a19 + IntKind.i64.wrap (xs.getD ((0 : Nat) + a19.toNat) (0 : Int) + j))).toNat) (0 : Int) > (0 : Int) := by simp_all
  have o8 : (↑(al ++ [xs.getD ((0 : Nat) + a19.toNat) (0 : Int)]).length : Int) ≤ IntKind.i64.wrap (a19 + IntKind.i64.wrap (xs.getD ((0 : Nat) + a19.toNat) (0 : Int) + j)) := by simp only [List.length_append, List.length_cons, List.length_nil, List.length_map]; omega
  have o9 : (L - IntKind.i64.wrap (a19 + IntKind.i64.wrap (xs.getD ((0 : Nat) + a19.toNat) (0 : Int) + j))).toNat < (L - a19).toNat := by omega
  exact ⟨[.b true, .app .one false], kmp (by kernel_rfl) (Ai h1 (Ai (Ai o0 o1) (Ai (Ai (rfl : V = V) (Ai (show (1 : Nat) = (1 : Nat) by decide) o2)) (Ai (Ai (show (1 : Nat) = (1 : Nat) by decide) (Ai (show AppMode.one.needs 1 fun (a : Nat) => (Col.ofList [iv (xs.getD (0 + a19.toNat) 0)]).get a by exact ⟨rfl, rfl⟩) (Ai o3 (Ai (rfl : v18 = v18) (Ai (show (0 : Nat) = (0 : Nat) by decide) o4))))) (Ai (Ai o0 o1) (Ai (Ai (rfl : V = V) (Ai (show (1 : Nat) = (1 : Nat) by decide) o2)) (L11c.nx L j l n f m g V xs (k_ := k_) (z_ := (a19, v18, al)) ((IntKind.i64.wrap (a19 + IntKind.i64.wrap (xs.getD (0 + a19.toNat) 0 + j)), v18 + 1, al ++ [xs.getD (0 + a19.toNat) 0])) (Ai (Ai o5 o6) (Ai o7 o8)) o9 (by simp only [L11c.N, h1, cond_true, cond_false]) PopOk.same)))))))⟩
 | false =>
  have h1p := of_decide_eq_false h1
  exact ⟨[.b false], kmp (by kernel_rfl) (Ai h1 (L11c.en L j l n f m g V xs (k_ := k_) (z_ := (a19, v18, al)) (.e0 (v18) (al) : L11c.O) (by simp only [L11c.N, h1, cond_true, cond_false]) PopOk.same))⟩
theorem L11c.e0 (L : Int) (j : Int) (l : Int) (n : Nat) (f : Nat → Int) (hn : n ≤ 9223372036854775807) (m : Nat) (g : Nat → Int) (hm : m ≤ 9223372036854775807) (hk : LOk L j l n f m g) (V : Nat) (xs : List Int) (hf : FOk L j l n f m g xs) (hV : V = (L + 1).toNat) (hV2 : xs.length = (L + 1).toNat) (a19 : Int) (v18 : Nat) (al : List Int) (hinv : L11c.inv L j l n f m g V xs a19 v18 al) (a0 : Nat) (a1 : List Int) (hN : L11c.run L j xs a19 v18 al = (.e0 a0 a1 : L11c.O)) : LoopTo Try.prog (loopN Try.f11 2) (L11c.T L j l n f m g V xs a19 v18 al) (L11c.H L j l n f m g V xs a19 v18 al) (Exit.exit 4) (L11c.X L j l n f m g V xs (.e0 a0 a1 : L11c.O)) (L11c.XH L j l n f m g V xs (.e0 a0 a1 : L11c.O)) := by
 have h_ := L11c.spec L j l n f hn m g hm hk V xs hf hV hV2 (((L - a19).toNat) + 1) (a19, v18, al) hinv (Nat.lt_succ_self _)
 unfold L11c.run at hN
 simp only [hN] at h_
 exact h_
theorem L11c.len0_1 {L : Int} {j : Int} {xs : List Int} : ∀ (m_ : Nat) (a19 : Int) (v18 : Nat) (al : List Int) (a0_ : Nat) (a1_ : List Int), L11c.N L j xs m_ a19 v18 al = (.e0 a0_ a1_ : L11c.O) → (a1_).length ≤ (al).length + m_ := by
 intro m_
 induction m_ with
 | zero =>
  intro a19 v18 al a0_ a1_ h_
  simp only [L11c.N] at h_
  cases h_
  first | exact Nat.zero_le _ | omega
 | succ m_ ih_ =>
  intro a19 v18 al a0_ a1_ h_
  cases h1 : decide (a19 < L) with
  | true =>
   have h1p := of_decide_eq_true h1
   (simp only [L11c.N, h1, cond_true, cond_false] at h_; first | (have := ih_ _ _ _ _ _ h_; (try simp only [List.length_append, List.length_cons, List.length_nil, List.length_set] at this); omega) | (cases h_; done) | (cases h_; omega))
  | false =>
   have h1p := of_decide_eq_false h1
   (simp only [L11c.N, h1, cond_true, cond_false] at h_; first | (have := ih_ _ _ _ _ _ h_; (try simp only [List.length_append, List.length_cons, List.length_nil, List.length_set] at this); omega) | (cases h_; done) | (cases h_; omega))
theorem L11c.lenR0_1 {L : Int} {j : Int} {xs : List Int} {a19 : Int} {v18 : Nat} {al : List Int} {a0_ : Nat} {a1_ : List Int} (h_ : L11c.run L j xs a19 v18 al = (.e0 a0_ a1_ : L11c.O)) : (a1_).length ≤ (al).length + (((L - a19).toNat) + 1) := L11c.len0_1 _ a19 v18 al a0_ a1_ h_
theorem first_pos {L j l : Int} {n m : Nat} {f g : Nat → Int} {xs : List Int} (hf : FOk L j l n f m g xs) (h : LOk L j l n f m g) (hne : ¬ (xs.getD 0 0 = 0)) : (0 : Int) ≥ L ∨ xs.getD 0 0 > 0 := by
 rcases hf.step h (t := 0) (by have := h.l1; omega) with e | ⟨b1, b2, b3⟩
 · exact (hne e).elim
 · right; omega
noncomputable def r11.v0 (L : Int) (j : Int) (l : Int) (n : Nat) (f : Nat → Int) (m : Nat) (g : Nat → Int) : List Int := (bif r32.v L j l n f m g == 0 then (match L11a.run L j l n f m g (IntKind.i64.wrap (L - 1)) (List.replicate (IntKind.i64.wrap (L + 1)).toNat 0) with | .e0 h2d0 => (bif h2d0.getD 0 0 == 0 then ([] : List Int) else (match L11c.run L j h2d0 0 0 [] with | .e0 h4d0 h4d1 => h4d1 )) ) else ([] : List Int))
noncomputable def r11.v1 (L : Int) (j : Int) (l : Int) (n : Nat) (f : Nat → Int) (m : Nat) (g : Nat → Int) : Int := (bif r32.v L j l n f m g == 0 then (match L11a.run L j l n f m g (IntKind.i64.wrap (L - 1)) (List.replicate (IntKind.i64.wrap (L + 1)).toNat 0) with | .e0 h2d0 => (bif h2d0.getD 0 0 == 0 then 9 else (match L11c.run L j h2d0 0 0 [] with | .e0 h4d0 h4d1 => 0 )) ) else r32.v L j l n f m g)
noncomputable abbrev r11.h0 (L : Int) (j : Int) (l : Int) (n : Nat) (f : Nat → Int) (m : Nat) (g : Nat → Int) : AHeap := ([AObj.var (iv L), AObj.var (iv j), AObj.var (iv l), AObj.var (AV.sl 1 m fun (i : Nat) => iv (g i))])
theorem r11 (L : Int) (j : Int) (l : Int) (n : Nat) (f : Nat → Int) (hn : n ≤ 9223372036854775807) (m : Nat) (g : Nat → Int) (hm : m ≤ 9223372036854775807) (h : AHeap) : Ret Try.prog 11 ([iv L, iv j, iv l, ivs n f, ivs m g]) h (AV.tup [(avInts IntKind.i64 (r11.v0 L j l n f m g)), (iv (r11.v1 L j l n f m g))]) h := by
 try have := bd_ok (by first | assumption | omega) (by first | assumption | omega) (by first | assumption | omega)
 try have := bd_len (by first | assumption | omega)
 try have := bd_fok (by first | assumption | omega) (by first | assumption | omega)
 have o0 : n ≤ (9223372036854775807 : Nat) := by assumption
 have o1 : m ≤ (9223372036854775807 : Nat) := by assumption
 cases h1 : r32.v L j l n f m g == 0 with
 | true =>
  have h1p := eq_of_beq h1
  try have := bd_ok (by assumption) (by assumption) (by assumption)
  try have := bd_len (by assumption)
  try have := bd_fok (by assumption) (by first | assumption | omega)
  try have := L11a.leqR0_0 _ _ _ _ _ _ _ (by assumption); (try simp only [List.length_replicate] at this)
  try have := L11c.lenR0_1 (by assumption); (try simp only [List.length_nil] at this)
  try have := IntWalk.i64_in (L + 1) (by omega)
  have o2 : (0 : Int) ≤ IntKind.i64.wrap (L + (1 : Int)) := by omega
  have o3 : (8 : Int) * IntKind.i64.wrap (L + (1 : Int)) ≤ (281474976710656 : Int) := by omega
  have o4 : IntKind.i64.wrap (L + (1 : Int)) ≤ (9223372036854775807 : Int) := by omega
  have o5 : LOk L j l n f m g := by assumption
  have o6 : (IntKind.i64.wrap (L + (1 : Int))).toNat = (L + (1 : Int)).toNat := by omega
  try have := IntWalk.i64_in (L - 1) (by omega)
  have o7 : (-1 : Int) ≤ IntKind.i64.wrap (L - (1 : Int)) := by omega
  have o8 : IntKind.i64.wrap (L - (1 : Int)) ≤ L - (1 : Int) := by omega
  have o9 : (List.replicate (IntKind.i64.wrap (L + (1 : Int))).toNat (0 : Int)).length = (IntKind.i64.wrap (L + (1 : Int))).toNat := by simp_all
  cases h2 : L11a.run L j l n f m g (IntKind.i64.wrap (L - 1)) (List.replicate (IntKind.i64.wrap (L + 1)).toNat 0) with
  | e0 h2d0 =>
   try have := bd_ok (by assumption) (by assumption) (by assumption)
   try have := bd_len (by assumption)
   try have := bd_fok (by assumption) (by assumption)
   try have := L11a.leqR0_0 _ _ _ _ _ _ _ (by assumption); (try simp only [List.length_replicate] at this)
   try have := L11c.lenR0_1 (by assumption); (try simp only [List.length_nil] at this)
   try have := IntWalk.i64_in (L + 1) (by omega)
   have o10 : (0 : Int) < (↑(IntKind.i64.wrap (L + (1 : Int))).toNat : Int) := by omega
   have o11 : (0 : Nat) < (Col.ints IntKind.i64 h2d0).len := by simp only [Col.len, zero_bool, zero_int, List.length_replicate, List.length_set] at *; omega
   cases h3 : h2d0.getD 0 0 == 0 with
   | true =>
    have h3p := eq_of_beq h3
    exact Ret.val (show (AV.tup [(avInts IntKind.i64 ([] : List Int)), iv 9]) = (AV.tup [(avInts IntKind.i64 (r11.v0 L j l n f m g)), (iv (r11.v1 L j l n f m g))]) by simp only [r11.v0, r11.v1, h1, h3, h2, cond_true, cond_false]) (Ret.of_run1 mix [(avInts IntKind.i64 ([] : List Int)), iv 9] Try.func11 rfl [.ret (iv (r32.v L j l n f m g)) (r11.h0 L j l n f m g), .b false, .loop (others 77 [3, 5, 6, 13, 14, 15]) (Exit.exit 0) (L11a.X L j l n f m g (IntKind.i64.wrap (L + 1)).toNat (L11a.O.e0 h2d0)) (L11a.XH L j l n f m g (IntKind.i64.wrap (L + 1)).toNat (L11a.O.e0 h2d0)), .b true] (by simp) (by simp) (kmp (by kernel_rfl) (Ai (r32 (L) (j) (l) (n) (f) o0 (m) (g) o1 (r11.h0 L j l n f m g)) (Ai (show (bnot (r32.v L j l n f m g == 0)) = false by rw [h1]; try rfl) (Ai (Ai (rfl : IntKind.i64.wrap (L + (1 : Int)) = IntKind.i64.wrap (L + (1 : Int))) (Ai o2 (Ai o3 o4))) (Ai (L11a.e0 (L) (j) (l) (n) (f) o0 (m) (g) o1 o5 ((IntKind.i64.wrap (L + 1)).toNat) o6 (IntKind.i64.wrap (L - 1)) (List.replicate (IntKind.i64.wrap (L + 1)).toNat 0) (Ai (Ai o7 o8) o9) h2d0 h2) (Ai (Ai (show (0 : Int) ≤ (0 : Int) by decide) o10) (Ai (Ai (rfl : (IntKind.i64.wrap (L + (1 : Int))).toNat = (IntKind.i64.wrap (L + (1 : Int))).toNat) (Ai (show (1 : Nat) = (1 : Nat) by decide) o11)) (Ai h3 (Ai (rfl : ((avInts IntKind.i64 ([] : List Int))) = ((avInts IntKind.i64 ([] : List Int)))) (Ai (rfl : (iv 9) = (iv 9)) trivial)))))))))) h)
   | false =>
    have h3p := ne_of_beq_false h3
    try have := bd_ok (by assumption) (by assumption) (by assumption)
    try have := bd_len (by assumption)
    try have := bd_fok (by assumption) (by assumption)
    try have := L11a.leqR0_0 _ _ _ _ _ _ _ (by assumption); (try simp only [List.length_replicate] at this)
    try have := L11c.lenR0_1 (by assumption); (try simp only [List.length_nil] at this)
    have o12 : FOk L j l n f m g h2d0 := by simp_all
    have o13 : h2d0.length = (L + (1 : Int)).toNat := by omega
    have o14 : (0 : Int) ≥ L ∨ h2d0.getD (0 : Nat) (0 : Int) > (0 : Int) := by first | assumption | omega | (apply first_pos <;> first | assumption | omega) | (simp_all; done)
    cases h4 : L11c.run L j h2d0 0 0 [] with
    | e0 h4d0 h4d1 =>
     try have := bd_ok (by assumption) (by assumption) (by assumption)
     try have := bd_len (by assumption)
     try have := bd_fok (by assumption) (by assumption)
     try have := L11a.leqR0_0 _ _ _ _ _ _ _ (by assumption); (try simp only [List.length_replicate] at this)
     try have := L11c.lenR0_1 (by assumption); (try simp only [List.length_nil] at this)
     have o15 : (0 : Nat) + h4d1.length ≤ (Col.ints IntKind.i64 h4d1).len := by simp [Col.len]
     exact Ret.of_run1 mix [(avInts IntKind.i64 (r11.v0 L j l n f m g)), (iv (r11.v1 L j l n f m g))] Try.func11 rfl [.ret (iv (r32.v L j l n f m g)) (r11.h0 L j l n f m g), .b false, .loop (others 77 [3, 5, 6, 13, 14, 15]) (Exit.exit 0) (L11a.X L j l n f m g (IntKind.i64.wrap (L + 1)).toNat (L11a.O.e0 h2d0)) (L11a.XH L j l n f m g (IntKind.i64.wrap (L + 1)).toNat (L11a.O.e0 h2d0)), .b false, .virt [] [(none, 18, 1, Col.ints IntKind.i64 [])], .loop (others 77 [5, 6, 13, 18, 19]) (Exit.exit 4) (L11c.X L j l n f m g (IntKind.i64.wrap (L + 1)).toNat h2d0 (L11c.O.e0 h4d0 h4d1)) (L11c.XH L j l n f m g (IntKind.i64.wrap (L + 1)).toNat h2d0 (L11c.O.e0 h4d0 h4d1))] (by simp) (by simp) (kmp (by kernel_rfl) (Ai (r32 (L) (j) (l) (n) (f) o0 (m) (g) o1 (r11.h0 L j l n f m g)) (Ai (show (bnot (r32.v L j l n f m g == 0)) = false by rw [h1]; try rfl) (Ai (Ai (rfl : IntKind.i64.wrap (L + (1 : Int)) = IntKind.i64.wrap (L + (1 : Int))) (Ai o2 (Ai o3 o4))) (Ai (L11a.e0 (L) (j) (l) (n) (f) o0 (m) (g) o1 o5 ((IntKind.i64.wrap (L + 1)).toNat) o6 (IntKind.i64.wrap (L - 1)) (List.replicate (IntKind.i64.wrap (L + 1)).toNat 0) (Ai (Ai o7 o8) o9) h2d0 h2) (Ai (Ai (show (0 : Int) ≤ (0 : Int) by decide) o10) (Ai (Ai (rfl : (IntKind.i64.wrap (L + (1 : Int))).toNat = (IntKind.i64.wrap (L + (1 : Int))).toNat) (Ai (show (1 : Nat) = (1 : Nat) by decide) o11)) (Ai h3 (Ai (Ai (rfl : AV.snil = AV.snil) (Ai (rfl : (0 : Nat) = 0) trivial)) (Ai (L11c.e0 (L) (j) (l) (n) (f) o0 (m) (g) o1 o5 ((IntKind.i64.wrap (L + 1)).toNat) (h2d0) o12 o6 o13 (0) (0) ([]) (Ai (Ai (show (0 : Int) ≤ (0 : Int) by decide) (show (0 : Int) ≤ (41000 : Int) by decide)) (Ai o14 (show (0 : Int) ≤ (0 : Int) by decide))) h4d0 h4d1 h4) (Ai (Ai (rfl : h4d0 = h4d0) (Ai (show (1 : Nat) = (1 : Nat) by decide) (Ai o15 (show ((avInts IntKind.i64 h4d1)) = ((avInts IntKind.i64 (r11.v0 L j l n f m g))) by simp only [r11.v0, r11.v1, h1, h3, h2, h4, cond_true, cond_false])))) (Ai (show (iv 0) = ((iv (r11.v1 L j l n f m g))) by simp only [r11.v0, r11.v1, h1, h3, h2, h4, cond_true, cond_false]) trivial)))))))))))) h
 | false =>
  have h1p := ne_of_beq_false h1
  exact Ret.val (show (AV.tup [(avInts IntKind.i64 ([] : List Int)), iv (r32.v L j l n f m g)]) = (AV.tup [(avInts IntKind.i64 (r11.v0 L j l n f m g)), (iv (r11.v1 L j l n f m g))]) by simp only [r11.v0, r11.v1, h1, cond_true, cond_false]) (Ret.of_run1 mix [(avInts IntKind.i64 ([] : List Int)), iv (r32.v L j l n f m g)] Try.func11 rfl [.ret (iv (r32.v L j l n f m g)) (r11.h0 L j l n f m g), .b true] (by simp) (by simp) (kmp (by kernel_rfl) (Ai (r32 (L) (j) (l) (n) (f) o0 (m) (g) o1 (r11.h0 L j l n f m g)) (Ai (show (bnot (r32.v L j l n f m g == 0)) = true by rw [h1]; try rfl) (Ai (rfl : ((avInts IntKind.i64 ([] : List Int))) = ((avInts IntKind.i64 ([] : List Int)))) (Ai (rfl : (iv (r32.v L j l n f m g)) = (iv (r32.v L j l n f m g))) trivial))))) h)
end Go.Proofs.Ytjdbmmilcihpoaa
