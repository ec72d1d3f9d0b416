/- Check, and what the reference's does. Conditions: none. -/
import Derived.Test.YtgmppoappaolkaaD14
open Go
namespace Go.Proofs.Ytgmppoappaolkaa
set_option linter.unusedSimpArgs false
set_option linter.unusedVariables false
set_option maxHeartbeats 0
set_option maxRecDepth 100000
def r43.v (n : Nat) (g : Nat → SD) : Int := (bif r61a.v n g then 4 else (bif r61b.v n g then 1 else (bif r61c.v n g then 6 else 0)))
theorem r43 (n : Nat) (g : Nat → SD) (hn : n ≤ 9223372036854775807) (h : AHeap) : Ret Try.prog 43 ([sts n g]) h (AV.int IntKind.i64 (r43.v n g)) h := by
  cases h1 : r61a.v n g with
  | true =>
    exact Ret.of_run1 mix [(AV.int IntKind.i64 (r43.v n g))] Try.func43 rfl [.ret (AV.bool (r61a.v n g)) ([]), .b true] (by simp) (by simp) (kmp (by kernel_rfl) (And.intro (r61a (n) (g) (show n ≤ (9223372036854775807 : Nat) by first | assumption | omega | (simp_all; done)) ([])) (And.intro h1 (And.intro (show AV.int IntKind.i64 4 = (AV.int IntKind.i64 (r43.v n g)) by first | (simp only [r43.v, h1, cond_true, cond_false]; done) | (unfold r43.v; try simp only [h1, cond_true, cond_false]; try rfl; done) | rfl) trivial)))) h
  | false =>
    cases h2 : r61b.v n g with
    | true =>
      exact Ret.of_run1 mix [(AV.int IntKind.i64 (r43.v n g))] Try.func43 rfl [.ret (AV.bool (r61a.v n g)) ([]), .b false, .ret (AV.bool (r61b.v n g)) ([]), .b true] (by simp) (by simp) (kmp (by kernel_rfl) (And.intro (r61a (n) (g) (show n ≤ (9223372036854775807 : Nat) by first | assumption | omega | (simp_all; done)) ([])) (And.intro h1 (And.intro (r61b (n) (g) (show n ≤ (9223372036854775807 : Nat) by first | assumption | omega | (simp_all; done)) ([])) (And.intro h2 (And.intro (show AV.int IntKind.i64 1 = (AV.int IntKind.i64 (r43.v n g)) by first | (simp only [r43.v, h1, h2, cond_true, cond_false]; done) | (unfold r43.v; try simp only [h1, cond_true, cond_false]; try simp only [h2, cond_true, cond_false]; try rfl; done) | rfl) trivial)))))) h
    | false =>
      cases h3 : r61c.v n g with
      | true =>
        exact Ret.of_run1 mix [(AV.int IntKind.i64 (r43.v n g))] Try.func43 rfl [.ret (AV.bool (r61a.v n g)) ([]), .b false, .ret (AV.bool (r61b.v n g)) ([]), .b false, .ret (AV.bool (r61c.v n g)) ([]), .b true] (by simp) (by simp) (kmp (by kernel_rfl) (And.intro (r61a (n) (g) (show n ≤ (9223372036854775807 : Nat) by first | assumption | omega | (simp_all; done)) ([])) (And.intro h1 (And.intro (r61b (n) (g) (show n ≤ (9223372036854775807 : Nat) by first | assumption | omega | (simp_all; done)) ([])) (And.intro h2 (And.intro (r61c' (n) (g) (show n ≤ (9223372036854775807 : Nat) by first | assumption | omega | (simp_all; done)) (show r61b.v n g = false by first | assumption | omega | (simp_all; done)) ([])) (And.intro h3 (And.intro (show AV.int IntKind.i64 6 = (AV.int IntKind.i64 (r43.v n g)) by first | (simp only [r43.v, h1, h2, h3, cond_true, cond_false]; done) | (unfold r43.v; try simp only [h1, cond_true, cond_false]; try simp only [h2, cond_true, cond_false]; try simp only [h3, cond_true, cond_false]; try rfl; done) | rfl) trivial)))))))) h
      | false =>
        exact Ret.of_run1 mix [(AV.int IntKind.i64 (r43.v n g))] Try.func43 rfl [.ret (AV.bool (r61a.v n g)) ([]), .b false, .ret (AV.bool (r61b.v n g)) ([]), .b false, .ret (AV.bool (r61c.v n g)) ([]), .b false] (by simp) (by simp) (kmp (by kernel_rfl) (And.intro (r61a (n) (g) (show n ≤ (9223372036854775807 : Nat) by first | assumption | omega | (simp_all; done)) ([])) (And.intro h1 (And.intro (r61b (n) (g) (show n ≤ (9223372036854775807 : Nat) by first | assumption | omega | (simp_all; done)) ([])) (And.intro h2 (And.intro (r61c' (n) (g) (show n ≤ (9223372036854775807 : Nat) by first | assumption | omega | (simp_all; done)) (show r61b.v n g = false by first | assumption | omega | (simp_all; done)) ([])) (And.intro h3 (And.intro (show AV.int IntKind.i64 0 = (AV.int IntKind.i64 (r43.v n g)) by first | (simp only [r43.v, h1, h2, h3, cond_true, cond_false]; done) | (unfold r43.v; try simp only [h1, cond_true, cond_false]; try simp only [h2, cond_true, cond_false]; try simp only [h3, cond_true, cond_false]; try rfl; done) | rfl) trivial)))))))) h

inductive L20.O where
  | e0
  | e1
def L20.T (n : Nat) (g : Nat → SD) (i : Int) : List AV := [AV.sl 5 n fun (i : Nat) => AV.agg [AV.str (g i).nm, AV.int IntKind.i64 (g i).x, AV.int IntKind.i64 (g i).y, AV.sl 1 (g i).nr fun (i_1 : Nat) => AV.int IntKind.i64 ((g i).r i_1), AV.sl 1 (g i).nl fun (i_1 : Nat) => AV.int IntKind.i64 ((g i).l i_1)], AV.any, AV.any, AV.any, AV.int IntKind.i64 i, AV.any, AV.any, AV.any, AV.any, AV.any, AV.any, AV.any, AV.any, AV.any, AV.any, AV.any, AV.any, AV.any, AV.any, AV.any, AV.any, AV.any, AV.any, AV.any, AV.any, AV.any, AV.any, AV.any, AV.any, AV.any, AV.any]
def L20.H (n : Nat) (g : Nat → SD) (i : Int) : AHeap := []
def L20.inv (n : Nat) (g : Nat → SD) (i : Int) : Prop := 1 ≤ i ∧ (i ≤ (↑n : Int) ∨ i = 1)
def L20.mu (n : Nat) (g : Nat → SD) (i : Int) : Nat := ((↑n : Int) - i).toNat
def L20.E : L20.O → Exit
  | .e0 => Exit.ret
  | .e1 => Exit.exit 0
def L20.X (n : Nat) (g : Nat → SD) : L20.O → List AV
  | .e0 => [AV.any, AV.any, (AV.int IntKind.i64 5), AV.any, AV.any, AV.any, AV.any, AV.any, AV.any, AV.any, AV.any, AV.any, AV.any, AV.any, AV.any, AV.any, AV.any, AV.any, AV.any, AV.any, AV.any, AV.any, AV.any, AV.any, AV.any, AV.any, AV.any, AV.any, AV.any, AV.any, AV.any]
  | .e1 => [AV.any, AV.any, (AV.any), AV.any, AV.any, AV.any, AV.any, AV.any, AV.any, AV.any, AV.any, AV.any, AV.any, AV.any, AV.any, AV.any, AV.any, AV.any, AV.any, AV.any, AV.any, AV.any, AV.any, AV.any, AV.any, AV.any, AV.any, AV.any, AV.any, AV.any, AV.any]
def L20.XH (n : Nat) (g : Nat → SD) : L20.O → AHeap
  | .e0 => ([])
  | .e1 => ([])
def L20.N (n : Nat) (g : Nat → SD) : Nat → Int → L20.O
  | 0, _ => .e0
  | k_ + 1, i => (bif decide (i < (↑n : Int)) then (bif Op.bytesLess (g (IntKind.i64.wrap (i - 1)).toNat).nm.toList (g i.toNat).nm.toList then (L20.N n g k_ (IntKind.i64.wrap (i + 1))) else (.e0)) else (.e1))
def L20.run (n : Nat) (g : Nat → SD) (i : Int) : L20.O := L20.N n g (L20.mu n g i + 1) i
def L20.Next (n : Nat) (g : Nat → SD) (k_ : Nat) (z_ : Int) (T_ : List AV) (h_ : AHeap) : Prop := LNextP (fun z_ => L20.T n g z_) (fun z_ => L20.H n g z_) (fun z_ => L20.inv n g z_) (fun z_ => L20.mu n g z_) (fun k_ z_ => L20.N n g k_ z_) k_ z_ T_ h_
def L20.End (n : Nat) (g : Nat → SD) (k_ : Nat) (z_ : Int) (e_ : Exit) (T_ : List AV) (h_ : AHeap) : Prop := LEndP (fun z_ => L20.H n g z_) (fun k_ z_ => L20.N n g k_ z_) L20.E (L20.X n g) (L20.XH n g) k_ z_ e_ T_ h_
theorem L20.spec (n : Nat) (g : Nat → SD) (hn : n ≤ 9223372036854775807) (k_ : Nat) (z_ : Int) (hi_ : L20.inv n g z_) (hm_ : L20.mu n g z_ < k_) : LoopTo Try.prog (loopN Try.f20 0) (L20.T n g z_) (L20.H n g z_) (L20.E (L20.N n g k_ z_)) (L20.X n g (L20.N n g k_ z_)) (L20.XH n g (L20.N n g k_ z_)) := by
  refine LoopTo.fuelP mix (fun z_ => L20.T n g z_) (fun z_ => L20.H n g z_) (fun z_ => L20.inv n g z_) (fun z_ => L20.mu n g z_) (fun k_ z_ => L20.N n g k_ z_) L20.E (L20.X n g) (L20.XH n g) [1, 2, 3, 5, 6, 7, 8, 9, 10, 11, 12, 13, 14, 15, 16, 17, 18, 19, 20, 21, 22, 23, 24, 25, 26, 27, 28, 29, 30] [0, 1, 3, 4, 5, 6, 7, 8, 9, 10, 11, 12, 13, 14, 15, 16, 17, 18, 19, 20, 21, 22, 23, 24, 25, 26, 27, 28, 29, 30] [0, 1, 3, 4, 5, 6, 7, 8, 9, 10, 11, 12, 13, 14, 15, 16, 17, 18, 19, 20, 21, 22, 23, 24, 25, 26, 27, 28, 29, 30] ?_ k_ z_ hi_ hm_
  clear hm_ hi_ z_ k_
  intro k_ z_ hinv hmu
  revert hinv hmu; revert z_; intro i hinv hmu
  have hinv : 1 ≤ i ∧ (i ≤ (↑n : Int) ∨ i = 1) := hinv
  have hmu : (((↑n : Int) - i).toNat) < k_ + 1 := hmu
  cases h1 : decide (i < (↑n : Int)) with
  | true =>
    have h1p := of_decide_eq_true h1
    cases h2 : Op.bytesLess (g (IntKind.i64.wrap (i - 1)).toNat).nm.toList (g i.toNat).nm.toList with
    | true =>
      exact ⟨[.b true, .b false], kmp (by kernel_rfl) (And.intro h1 (And.intro (show (0 : Int) ≤ IntKind.i64.wrap (i - (1 : Int)) ∧ IntKind.i64.wrap (i - (1 : Int)) < (↑n : Int) by first | assumption | omega | (have := IntWalk.i64_in (i - 1) (by omega); omega) | (simp_all; done)) (And.intro (show (0 : Int) ≤ i ∧ i < (↑n : Int) by first | assumption | omega | (simp_all; done)) (And.intro (show (bnot (Op.bytesLess (g (IntKind.i64.wrap (i - 1)).toNat).nm.toList (g i.toNat).nm.toList)) = false by rw [h2]; try rfl) (show L20.Next n g k_ i (L20.T n g (IntKind.i64.wrap (i + 1))) (L20.H n g (IntKind.i64.wrap (i + 1))) from LNextP.mk (IntKind.i64.wrap (i + 1)) (show (1 : Int) ≤ IntKind.i64.wrap (i + (1 : Int)) ∧ (IntKind.i64.wrap (i + (1 : Int)) ≤ (↑n : Int) ∨ IntKind.i64.wrap (i + (1 : Int)) = (1 : Int)) by first | assumption | omega | (have := IntWalk.i64_in (i + 1) (by omega); omega) | (simp_all; done)) (show ((↑n : Int) - IntKind.i64.wrap (i + (1 : Int))).toNat < ((↑n : Int) - i).toNat by first | assumption | omega | (have := IntWalk.i64_in (i + 1) (by omega); omega) | (simp_all; done)) (by first | (simp only [L20.N, h1, h2, cond_true, cond_false]; done) | (unfold L20.N; try simp only [h1, cond_true, cond_false]; try simp only [h2, cond_true, cond_false]; try rfl; done)) PopOk.same)))))⟩
    | false =>
      exact ⟨[.b true, .b true], kmp (by kernel_rfl) (And.intro h1 (And.intro (show (0 : Int) ≤ IntKind.i64.wrap (i - (1 : Int)) ∧ IntKind.i64.wrap (i - (1 : Int)) < (↑n : Int) by first | assumption | omega | (have := IntWalk.i64_in (i - 1) (by omega); omega) | (simp_all; done)) (And.intro (show (0 : Int) ≤ i ∧ i < (↑n : Int) by first | assumption | omega | (simp_all; done)) (And.intro (show (bnot (Op.bytesLess (g (IntKind.i64.wrap (i - 1)).toNat).nm.toList (g i.toNat).nm.toList)) = true by rw [h2]; try rfl) (show L20.End n g k_ i (Exit.ret) (L20.X n g (.e0 : L20.O)) (L20.XH n g (.e0 : L20.O)) from LEndP.mk (.e0 : L20.O) (by first | (simp only [L20.N, h1, h2, cond_true, cond_false]; done) | (unfold L20.N; try simp only [h1, cond_true, cond_false]; try simp only [h2, cond_true, cond_false]; try rfl; done)) PopOk.same)))))⟩
  | false =>
    have h1p := of_decide_eq_false h1
    exact ⟨[.b false], kmp (by kernel_rfl) (And.intro h1 (show L20.End n g k_ i (Exit.exit 0) (L20.X n g (.e1 : L20.O)) (L20.XH n g (.e1 : L20.O)) from LEndP.mk (.e1 : L20.O) (by first | (simp only [L20.N, h1, cond_true, cond_false]; done) | (unfold L20.N; try simp only [h1, cond_true, cond_false]; try rfl; done)) PopOk.same))⟩
theorem L20.e0 (n : Nat) (g : Nat → SD) (hn : n ≤ 9223372036854775807) (i : Int) (hinv : L20.inv n g i) (hN : L20.run n g i = (.e0 : L20.O)) : LoopTo Try.prog (loopN Try.f20 0) (L20.T n g i) (L20.H n g i) (Exit.ret) (L20.X n g (.e0 : L20.O)) (L20.XH n g (.e0 : L20.O)) := by
  have h_ := L20.spec n g hn (L20.mu n g i + 1) i hinv (Nat.lt_succ_self _)
  unfold L20.run at hN
  simp only [hN] at h_
  exact h_
theorem L20.e1 (n : Nat) (g : Nat → SD) (hn : n ≤ 9223372036854775807) (i : Int) (hinv : L20.inv n g i) (hN : L20.run n g i = (.e1 : L20.O)) : LoopTo Try.prog (loopN Try.f20 0) (L20.T n g i) (L20.H n g i) (Exit.exit 0) (L20.X n g (.e1 : L20.O)) (L20.XH n g (.e1 : L20.O)) := by
  have h_ := L20.spec n g hn (L20.mu n g i + 1) i hinv (Nat.lt_succ_self _)
  unfold L20.run at hN
  simp only [hN] at h_
  exact h_

def r20.v (n : Nat) (g : Nat → SD) : Int := (bif decide ((↑n : Int) > 16) then 7 else (bif r43.v n g == 0 then (match L20.run n g 1 with | .e0 => 5 | .e1 => 0 ) else r43.v n g))
theorem r20 (n : Nat) (g : Nat → SD) (hn : n ≤ 9223372036854775807) (h : AHeap) : Ret Try.prog 20 ([sts n g]) h (AV.int IntKind.i64 (r20.v n g)) h := by
  cases h1 : decide ((↑n : Int) > 16) with
  | true =>
    have h1p := of_decide_eq_true h1
    exact Ret.of_run1 mix [(AV.int IntKind.i64 (r20.v n g))] Try.func20 rfl [.b true] (by simp) (by simp) (kmp (by kernel_rfl) (And.intro h1 (And.intro (show AV.int IntKind.i64 7 = (AV.int IntKind.i64 (r20.v n g)) by first | (simp only [r20.v, h1, cond_true, cond_false]; done) | (unfold r20.v; try simp only [h1, cond_true, cond_false]; try rfl; done) | rfl) trivial))) h
  | false =>
    have h1p := of_decide_eq_false h1
    cases h2 : r43.v n g == 0 with
    | true =>
      have h2p := eq_of_beq h2
      cases h3 : L20.run n g 1 with
      | e0 =>
        exact Ret.of_run1 mix [(AV.int IntKind.i64 (r20.v n g))] Try.func20 rfl [.b false, .ret (AV.int IntKind.i64 (r43.v n g)) ([]), .b false, .loop [1, 2, 3, 5, 6, 7, 8, 9, 10, 11, 12, 13, 14, 15, 16, 17, 18, 19, 20, 21, 22, 23, 24, 25, 26, 27, 28, 29, 30] (Exit.ret) (L20.X n g L20.O.e0) (L20.XH n g L20.O.e0)] (by simp) (by simp) (kmp (by kernel_rfl) (And.intro h1 (And.intro (r43 (n) (g) (show n ≤ (9223372036854775807 : Nat) by first | assumption | omega | (simp_all; done)) ([])) (And.intro (show (bnot (r43.v n g == 0)) = false by rw [h2]; try rfl) (And.intro (L20.e0 (n) (g) (show instLENat.1 n (9223372036854775807 : Nat) by first | assumption | omega | (simp_all; done)) (1) (show (1 : Int) ≤ (1 : Int) ∧ ((1 : Int) ≤ (↑n : Int) ∨ (1 : Int) = (1 : Int)) by first | assumption | omega | (simp_all; done)) h3) (And.intro (show AV.int IntKind.i64 5 = (AV.int IntKind.i64 (r20.v n g)) by first | (simp only [r20.v, h1, h2, h3, cond_true, cond_false]; done) | (unfold r20.v; try simp only [h1, cond_true, cond_false]; try simp only [h2, cond_true, cond_false]; try simp only [h3, cond_true, cond_false]; try rfl; done) | rfl) trivial)))))) h
      | e1 =>
        exact Ret.of_run1 mix [(AV.int IntKind.i64 (r20.v n g))] Try.func20 rfl [.b false, .ret (AV.int IntKind.i64 (r43.v n g)) ([]), .b false, .loop [1, 2, 3, 5, 6, 7, 8, 9, 10, 11, 12, 13, 14, 15, 16, 17, 18, 19, 20, 21, 22, 23, 24, 25, 26, 27, 28, 29, 30] (Exit.exit 0) (L20.X n g L20.O.e1) (L20.XH n g L20.O.e1)] (by simp) (by simp) (kmp (by kernel_rfl) (And.intro h1 (And.intro (r43 (n) (g) (show n ≤ (9223372036854775807 : Nat) by first | assumption | omega | (simp_all; done)) ([])) (And.intro (show (bnot (r43.v n g == 0)) = false by rw [h2]; try rfl) (And.intro (L20.e1 (n) (g) (show instLENat.1 n (9223372036854775807 : Nat) by first | assumption | omega | (simp_all; done)) (1) (show (1 : Int) ≤ (1 : Int) ∧ ((1 : Int) ≤ (↑n : Int) ∨ (1 : Int) = (1 : Int)) by first | assumption | omega | (simp_all; done)) h3) (And.intro (show AV.int IntKind.i64 0 = (AV.int IntKind.i64 (r20.v n g)) by first | (simp only [r20.v, h1, h2, h3, cond_true, cond_false]; done) | (unfold r20.v; try simp only [h1, cond_true, cond_false]; try simp only [h2, cond_true, cond_false]; try simp only [h3, cond_true, cond_false]; try rfl; done) | rfl) trivial)))))) h
    | false =>
      have h2p := ne_of_beq_false h2
      exact Ret.of_run1 mix [(AV.int IntKind.i64 (r20.v n g))] Try.func20 rfl [.b false, .ret (AV.int IntKind.i64 (r43.v n g)) ([]), .b true] (by simp) (by simp) (kmp (by kernel_rfl) (And.intro h1 (And.intro (r43 (n) (g) (show n ≤ (9223372036854775807 : Nat) by first | assumption | omega | (simp_all; done)) ([])) (And.intro (show (bnot (r43.v n g == 0)) = true by rw [h2]; try rfl) (And.intro (show AV.int IntKind.i64 (r43.v n g) = (AV.int IntKind.i64 (r20.v n g)) by first | (simp only [r20.v, h1, h2, cond_true, cond_false]; done) | (unfold r20.v; try simp only [h1, cond_true, cond_false]; try simp only [h2, cond_true, cond_false]; try rfl; done) | rfl) trivial))))) h

inductive L67.O where
  | e0
  | e1
def L67.T (s : SD) (i : Int) : List AV := [AV.any, AV.ptr 0 1 5 0 0, AV.any, AV.int IntKind.i64 i, AV.any, AV.any, AV.any, AV.any, AV.any, AV.any, AV.any, AV.any, AV.any, AV.any, AV.any, AV.any, AV.any, AV.any, AV.any, AV.any, AV.any, AV.any, AV.any, AV.any, AV.any, AV.any, AV.any, AV.any, AV.any, AV.any, AV.any, AV.any, AV.any, AV.any, AV.any, AV.any, AV.any, AV.any, AV.any, AV.any, AV.any, AV.any, AV.any, AV.any, AV.any, AV.any, AV.any, AV.any, AV.any, AV.any, AV.any, AV.any, AV.any, AV.any, AV.any, AV.any, AV.any, AV.any, AV.any, AV.any, AV.any, AV.any, AV.any, AV.any, AV.any, AV.any, AV.any, AV.any, AV.any, AV.any, AV.any, AV.any, AV.any, AV.any, AV.any]
def L67.H (s : SD) (i : Int) : AHeap := [AObj.var s.av]
def L67.inv (s : SD) (i : Int) : Prop := 0 ≤ i ∧ i ≤ (↑s.nr : Int)
def L67.mu (s : SD) (i : Int) : Nat := ((↑s.nr : Int) - i).toNat
def L67.E : L67.O → Exit
  | .e0 => Exit.ret
  | .e1 => Exit.exit 0
def L67.X (s : SD) : L67.O → List AV
  | .e0 => [AV.any, AV.any, (AV.bool false), AV.any, AV.any, AV.any, AV.any, AV.any, AV.any, AV.any, AV.any, AV.any, AV.any, AV.any, AV.any, AV.any, AV.any, AV.any, AV.any, AV.any, AV.any, AV.any, AV.any, AV.any, AV.any, AV.any, AV.any, AV.any, AV.any, AV.any, AV.any, AV.any, AV.any, AV.any, AV.any, AV.any, AV.any, AV.any, AV.any, AV.any, AV.any, AV.any, AV.any, AV.any, AV.any, AV.any, AV.any, AV.any, AV.any, AV.any, AV.any, AV.any, AV.any, AV.any, AV.any, AV.any, AV.any, AV.any, AV.any, AV.any, AV.any, AV.any, AV.any, AV.any, AV.any, AV.any, AV.any, AV.any, AV.any, AV.any, AV.any, AV.any, AV.any, AV.any, AV.any]
  | .e1 => [AV.any, AV.any, (AV.any), AV.any, AV.any, AV.any, AV.any, AV.any, AV.any, AV.any, AV.any, AV.any, AV.any, AV.any, AV.any, AV.any, AV.any, AV.any, AV.any, AV.any, AV.any, AV.any, AV.any, AV.any, AV.any, AV.any, AV.any, AV.any, AV.any, AV.any, AV.any, AV.any, AV.any, AV.any, AV.any, AV.any, AV.any, AV.any, AV.any, AV.any, AV.any, AV.any, AV.any, AV.any, AV.any, AV.any, AV.any, AV.any, AV.any, AV.any, AV.any, AV.any, AV.any, AV.any, AV.any, AV.any, AV.any, AV.any, AV.any, AV.any, AV.any, AV.any, AV.any, AV.any, AV.any, AV.any, AV.any, AV.any, AV.any, AV.any, AV.any, AV.any, AV.any, AV.any, AV.any]
def L67.XH (s : SD) : L67.O → AHeap
  | .e0 => ([AObj.var (AV.agg [AV.str s.nm, AV.int IntKind.i64 s.x, AV.int IntKind.i64 s.y, AV.sl 1 s.nr fun (i : Nat) => AV.int IntKind.i64 (s.r i), AV.sl 1 s.nl fun (i : Nat) => AV.int IntKind.i64 (s.l i)])])
  | .e1 => ([AObj.var (AV.agg [AV.str s.nm, AV.int IntKind.i64 s.x, AV.int IntKind.i64 s.y, AV.sl 1 s.nr fun (i : Nat) => AV.int IntKind.i64 (s.r i), AV.sl 1 s.nl fun (i : Nat) => AV.int IntKind.i64 (s.l i)])])
def L67.N (s : SD) : Nat → Int → L67.O
  | 0, _ => .e0
  | k_ + 1, i => (bif decide (i < (↑s.nr : Int)) then (bif decide (s.r i.toNat < 1) then (.e0) else (bif decide (s.r i.toNat > 500000) then (.e0) else (bif decide (s.l i.toNat < 0) then (.e0) else (bif decide (s.l i.toNat > 1000000000000000) then (.e0) else (bif decide (i > 0) then (bif decide (s.r (IntKind.i64.wrap (i - 1)).toNat ≥ s.r i.toNat) then (.e0) else (bif decide (s.l (IntKind.i64.wrap (i - 1)).toNat < s.l i.toNat) then (.e0) else (L67.N s k_ (IntKind.i64.wrap (i + 1))))) else (L67.N s k_ (IntKind.i64.wrap (i + 1)))))))) else (.e1))
def L67.run (s : SD) (i : Int) : L67.O := L67.N s (L67.mu s i + 1) i
def L67.Next (s : SD) (k_ : Nat) (z_ : Int) (T_ : List AV) (h_ : AHeap) : Prop := LNextP (fun z_ => L67.T s z_) (fun z_ => L67.H s z_) (fun z_ => L67.inv s z_) (fun z_ => L67.mu s z_) (fun k_ z_ => L67.N s k_ z_) k_ z_ T_ h_
def L67.End (s : SD) (k_ : Nat) (z_ : Int) (e_ : Exit) (T_ : List AV) (h_ : AHeap) : Prop := LEndP (fun z_ => L67.H s z_) (fun k_ z_ => L67.N s k_ z_) L67.E (L67.X s) (L67.XH s) k_ z_ e_ T_ h_
theorem L67.spec (s : SD) (hl : s.nl = s.nr) (hr : s.nr ≤ 9223372036854775807) (k_ : Nat) (z_ : Int) (hi_ : L67.inv s z_) (hm_ : L67.mu s z_ < k_) : LoopTo Try.prog (loopN Try.f67 0) (L67.T s z_) (L67.H s z_) (L67.E (L67.N s k_ z_)) (L67.X s (L67.N s k_ z_)) (L67.XH s (L67.N s k_ z_)) := by
  refine LoopTo.fuelP mix (fun z_ => L67.T s z_) (fun z_ => L67.H s z_) (fun z_ => L67.inv s z_) (fun z_ => L67.mu s z_) (fun k_ z_ => L67.N s k_ z_) L67.E (L67.X s) (L67.XH s) [0, 2, 4, 5, 6, 7, 8, 9, 10, 11, 12, 13, 14, 15, 16, 17, 18, 19, 20, 21, 22, 23, 24, 25, 26, 27, 28, 29, 30, 31, 32, 33, 34, 35, 36, 37, 38, 39, 40, 41, 42, 43, 44, 45, 46, 47, 48, 49, 50, 51, 52, 53, 54, 55, 56, 57, 58, 59, 60, 61, 62, 63, 64, 65, 66, 67, 68, 69, 70, 71, 72, 73, 74] [0, 1, 3, 4, 5, 6, 7, 8, 9, 10, 11, 12, 13, 14, 15, 16, 17, 18, 19, 20, 21, 22, 23, 24, 25, 26, 27, 28, 29, 30, 31, 32, 33, 34, 35, 36, 37, 38, 39, 40, 41, 42, 43, 44, 45, 46, 47, 48, 49, 50, 51, 52, 53, 54, 55, 56, 57, 58, 59, 60, 61, 62, 63, 64, 65, 66, 67, 68, 69, 70, 71, 72, 73, 74] [0, 1, 3, 4, 5, 6, 7, 8, 9, 10, 11, 12, 13, 14, 15, 16, 17, 18, 19, 20, 21, 22, 23, 24, 25, 26, 27, 28, 29, 30, 31, 32, 33, 34, 35, 36, 37, 38, 39, 40, 41, 42, 43, 44, 45, 46, 47, 48, 49, 50, 51, 52, 53, 54, 55, 56, 57, 58, 59, 60, 61, 62, 63, 64, 65, 66, 67, 68, 69, 70, 71, 72, 73, 74] ?_ k_ z_ hi_ hm_
  clear hm_ hi_ z_ k_
  intro k_ z_ hinv hmu
  revert hinv hmu; revert z_; intro i hinv hmu
  have hinv : 0 ≤ i ∧ i ≤ (↑s.nr : Int) := hinv
  have hmu : (((↑s.nr : Int) - i).toNat) < k_ + 1 := hmu
  cases h1 : decide (i < (↑s.nr : Int)) with
  | true =>
    have h1p := of_decide_eq_true h1
    cases h2 : decide (s.r i.toNat < 1) with
    | true =>
      have h2p := of_decide_eq_true h2
      exact ⟨[.b true, .b true, .b true, .b true, .b true, .b true, .b true, .b true, .b true, .b true, .b true, .b true, .b true, .b true, .b true, .b true, .b true, .b true, .b true, .b true, .b true, .b true, .b true], kmp (by kernel_rfl) (And.intro h1 (And.intro (show (0 : Int) ≤ i ∧ i < (↑s.nr : Int) by first | assumption | omega | (simp_all; done)) (And.intro h2 (And.intro h2 (And.intro h2 (And.intro h2 (And.intro h2 (And.intro h2 (And.intro h2 (And.intro (rfl : true = true) (And.intro (rfl : true = true) (And.intro (rfl : true = true) (And.intro (rfl : true = true) (And.intro (rfl : true = true) (And.intro (rfl : true = true) (And.intro (rfl : true = true) (And.intro (rfl : true = true) (And.intro (rfl : true = true) (And.intro (rfl : true = true) (And.intro (rfl : true = true) (And.intro (rfl : true = true) (And.intro (rfl : true = true) (And.intro (rfl : true = true) (And.intro (rfl : true = true) (show L67.End s k_ i (Exit.ret) (L67.X s (.e0 : L67.O)) (L67.XH s (.e0 : L67.O)) from LEndP.mk (.e0 : L67.O) (by first | (simp only [L67.N, h1, h2, cond_true, cond_false]; done) | (unfold L67.N; try simp only [h1, cond_true, cond_false]; try simp only [h2, cond_true, cond_false]; try rfl; done)) PopOk.same)))))))))))))))))))))))))⟩
    | false =>
      have h2p := of_decide_eq_false h2
      cases h3 : decide (s.r i.toNat > 500000) with
      | true =>
        have h3p := of_decide_eq_true h3
        exact ⟨[.b true, .b false, .b false, .b false, .b false, .b false, .b false, .b false, .b true, .b true, .b true, .b true, .b true, .b true, .b true, .b true, .b true, .b true, .b true, .b true, .b true, .b true, .b true], kmp (by kernel_rfl) (And.intro h1 (And.intro (show (0 : Int) ≤ i ∧ i < (↑s.nr : Int) by first | assumption | omega | (simp_all; done)) (And.intro h2 (And.intro h2 (And.intro h2 (And.intro h2 (And.intro (show (0 : Int) ≤ i ∧ i < (↑s.nr : Int) by first | assumption | omega | (simp_all; done)) (And.intro h2 (And.intro h2 (And.intro h2 (And.intro h3 (And.intro h3 (And.intro h3 (And.intro h3 (And.intro h3 (And.intro h3 (And.intro h3 (And.intro (rfl : true = true) (And.intro (rfl : true = true) (And.intro (rfl : true = true) (And.intro (rfl : true = true) (And.intro (rfl : true = true) (And.intro (rfl : true = true) (And.intro (rfl : true = true) (And.intro (rfl : true = true) (show L67.End s k_ i (Exit.ret) (L67.X s (.e0 : L67.O)) (L67.XH s (.e0 : L67.O)) from LEndP.mk (.e0 : L67.O) (by first | (simp only [L67.N, h1, h2, h3, cond_true, cond_false]; done) | (unfold L67.N; try simp only [h1, cond_true, cond_false]; try simp only [h2, cond_true, cond_false]; try simp only [h3, cond_true, cond_false]; try rfl; done)) PopOk.same))))))))))))))))))))))))))⟩
      | false =>
        have h3p := of_decide_eq_false h3
        cases h4 : decide (s.l i.toNat < 0) with
        | true =>
          have h4p := of_decide_eq_true h4
          exact ⟨[.b true, .b false, .b false, .b false, .b false, .b false, .b false, .b false, .b false, .b false, .b false, .b false, .b false, .b false, .b false, .b true, .b true, .b true, .b true, .b true, .b true, .b true, .b true], kmp (by kernel_rfl) (And.intro h1 (And.intro (show (0 : Int) ≤ i ∧ i < (↑s.nr : Int) by first | assumption | omega | (simp_all; done)) (And.intro h2 (And.intro h2 (And.intro h2 (And.intro h2 (And.intro (show (0 : Int) ≤ i ∧ i < (↑s.nr : Int) by first | assumption | omega | (simp_all; done)) (And.intro h2 (And.intro h2 (And.intro h2 (And.intro h3 (And.intro h3 (And.intro h3 (And.intro h3 (And.intro (show (0 : Int) ≤ i ∧ i < (↑s.nl : Int) by first | assumption | omega | (simp_all; done)) (And.intro h3 (And.intro h3 (And.intro h3 (And.intro h4 (And.intro h4 (And.intro h4 (And.intro h4 (And.intro h4 (And.intro h4 (And.intro h4 (And.intro (rfl : true = true) (show L67.End s k_ i (Exit.ret) (L67.X s (.e0 : L67.O)) (L67.XH s (.e0 : L67.O)) from LEndP.mk (.e0 : L67.O) (by first | (simp only [L67.N, h1, h2, h3, h4, cond_true, cond_false]; done) | (unfold L67.N; try simp only [h1, cond_true, cond_false]; try simp only [h2, cond_true, cond_false]; try simp only [h3, cond_true, cond_false]; try simp only [h4, cond_true, cond_false]; try rfl; done)) PopOk.same)))))))))))))))))))))))))))⟩
        | false =>
          have h4p := of_decide_eq_false h4
          cases h5 : decide (s.l i.toNat > 1000000000000000) with
          | true =>
            have h5p := of_decide_eq_true h5
            exact ⟨[.b true, .b false, .b false, .b false, .b false, .b false, .b false, .b false, .b false, .b false, .b false, .b false, .b false, .b false, .b false, .b false, .b false, .b false, .b false, .b false, .b false, .b false, .b true], kmp (by kernel_rfl) (And.intro h1 (And.intro (show (0 : Int) ≤ i ∧ i < (↑s.nr : Int) by first | assumption | omega | (simp_all; done)) (And.intro h2 (And.intro h2 (And.intro h2 (And.intro h2 (And.intro (show (0 : Int) ≤ i ∧ i < (↑s.nr : Int) by first | assumption | omega | (simp_all; done)) (And.intro h2 (And.intro h2 (And.intro h2 (And.intro h3 (And.intro h3 (And.intro h3 (And.intro h3 (And.intro (show (0 : Int) ≤ i ∧ i < (↑s.nl : Int) by first | assumption | omega | (simp_all; done)) (And.intro h3 (And.intro h3 (And.intro h3 (And.intro h4 (And.intro h4 (And.intro h4 (And.intro h4 (And.intro (show (0 : Int) ≤ i ∧ i < (↑s.nl : Int) by first | assumption | omega | (simp_all; done)) (And.intro h4 (And.intro h4 (And.intro h4 (And.intro h5 (show L67.End s k_ i (Exit.ret) (L67.X s (.e0 : L67.O)) (L67.XH s (.e0 : L67.O)) from LEndP.mk (.e0 : L67.O) (by first | (simp only [L67.N, h1, h2, h3, h4, h5, cond_true, cond_false]; done) | (unfold L67.N; try simp only [h1, cond_true, cond_false]; try simp only [h2, cond_true, cond_false]; try simp only [h3, cond_true, cond_false]; try simp only [h4, cond_true, cond_false]; try simp only [h5, cond_true, cond_false]; try rfl; done)) PopOk.same))))))))))))))))))))))))))))⟩
          | false =>
            have h5p := of_decide_eq_false h5
            cases h6 : decide (i > 0) with
            | true =>
              have h6p := of_decide_eq_true h6
              cases h7 : decide (s.r (IntKind.i64.wrap (i - 1)).toNat ≥ s.r i.toNat) with
              | true =>
                have h7p := of_decide_eq_true h7
                exact ⟨[.b true, .b false, .b false, .b false, .b false, .b false, .b false, .b false, .b false, .b false, .b false, .b false, .b false, .b false, .b false, .b false, .b false, .b false, .b false, .b false, .b false, .b false, .b false, .b true, .b true, .b true, .b true, .b true, .b true, .b true, .b true, .b true, .b true, .b true, .b true, .b true, .b true, .b true, .b true, .b true, .b true, .b true, .b true, .b true, .b true, .b true, .b true, .b true, .b true, .b true, .b true, .b true], kmp (by kernel_rfl) (And.intro h1 (And.intro (show (0 : Int) ≤ i ∧ i < (↑s.nr : Int) by first | assumption | omega | (simp_all; done)) (And.intro h2 (And.intro h2 (And.intro h2 (And.intro h2 (And.intro (show (0 : Int) ≤ i ∧ i < (↑s.nr : Int) by first | assumption | omega | (simp_all; done)) (And.intro h2 (And.intro h2 (And.intro h2 (And.intro h3 (And.intro h3 (And.intro h3 (And.intro h3 (And.intro (show (0 : Int) ≤ i ∧ i < (↑s.nl : Int) by first | assumption | omega | (simp_all; done)) (And.intro h3 (And.intro h3 (And.intro h3 (And.intro h4 (And.intro h4 (And.intro h4 (And.intro h4 (And.intro (show (0 : Int) ≤ i ∧ i < (↑s.nl : Int) by first | assumption | omega | (simp_all; done)) (And.intro h4 (And.intro h4 (And.intro h4 (And.intro h5 (And.intro h6 (And.intro h6 (And.intro h6 (And.intro h6 (And.intro h6 (And.intro (show (0 : Int) ≤ IntKind.i64.wrap (i - (1 : Int)) ∧ IntKind.i64.wrap (i - (1 : Int)) < (↑s.nr : Int) by first | assumption | omega | (have := IntWalk.i64_in (i - 1) (by omega); omega) | (simp_all; done)) (And.intro h6 (And.intro h6 (And.intro h6 (And.intro h6 (And.intro h6 (And.intro (show (0 : Int) ≤ i ∧ i < (↑s.nr : Int) by first | assumption | omega | (simp_all; done)) (And.intro h6 (And.intro h6 (And.intro h6 (And.intro h7 (And.intro h7 (And.intro h7 (And.intro h7 (And.intro h7 (And.intro h7 (And.intro h7 (And.intro h7 (And.intro h7 (And.intro h7 (And.intro h7 (And.intro h7 (And.intro h6 (And.intro h7 (And.intro h6 (And.intro (rfl : true = true) (show L67.End s k_ i (Exit.ret) (L67.X s (.e0 : L67.O)) (L67.XH s (.e0 : L67.O)) from LEndP.mk (.e0 : L67.O) (by first | (simp only [L67.N, h1, h2, h3, h4, h5, h6, h7, cond_true, cond_false]; done) | (unfold L67.N; try simp only [h1, cond_true, cond_false]; try simp only [h2, cond_true, cond_false]; try simp only [h3, cond_true, cond_false]; try simp only [h4, cond_true, cond_false]; try simp only [h5, cond_true, cond_false]; try simp only [h6, cond_true, cond_false]; try simp only [h7, cond_true, cond_false]; try rfl; done)) PopOk.same)))))))))))))))))))))))))))))))))))))))))))))))))))))))))))⟩
              | false =>
                have h7p := of_decide_eq_false h7
                cases h8 : decide (s.l (IntKind.i64.wrap (i - 1)).toNat < s.l i.toNat) with
                | true =>
                  have h8p := of_decide_eq_true h8
                  exact ⟨[.b true, .b false, .b false, .b false, .b false, .b false, .b false, .b false, .b false, .b false, .b false, .b false, .b false, .b false, .b false, .b false, .b false, .b false, .b false, .b false, .b false, .b false, .b false, .b true, .b true, .b true, .b true, .b true, .b true, .b true, .b true, .b true, .b true, .b true, .b true, .b true, .b false, .b false, .b false, .b false, .b false, .b false, .b false, .b false, .b false, .b false, .b false, .b false, .b true, .b false, .b true, .b true], kmp (by kernel_rfl) (And.intro h1 (And.intro (show (0 : Int) ≤ i ∧ i < (↑s.nr : Int) by first | assumption | omega | (simp_all; done)) (And.intro h2 (And.intro h2 (And.intro h2 (And.intro h2 (And.intro (show (0 : Int) ≤ i ∧ i < (↑s.nr : Int) by first | assumption | omega | (simp_all; done)) (And.intro h2 (And.intro h2 (And.intro h2 (And.intro h3 (And.intro h3 (And.intro h3 (And.intro h3 (And.intro (show (0 : Int) ≤ i ∧ i < (↑s.nl : Int) by first | assumption | omega | (simp_all; done)) (And.intro h3 (And.intro h3 (And.intro h3 (And.intro h4 (And.intro h4 (And.intro h4 (And.intro h4 (And.intro (show (0 : Int) ≤ i ∧ i < (↑s.nl : Int) by first | assumption | omega | (simp_all; done)) (And.intro h4 (And.intro h4 (And.intro h4 (And.intro h5 (And.intro h6 (And.intro h6 (And.intro h6 (And.intro h6 (And.intro h6 (And.intro (show (0 : Int) ≤ IntKind.i64.wrap (i - (1 : Int)) ∧ IntKind.i64.wrap (i - (1 : Int)) < (↑s.nr : Int) by first | assumption | omega | (have := IntWalk.i64_in (i - 1) (by omega); omega) | (simp_all; done)) (And.intro h6 (And.intro h6 (And.intro h6 (And.intro h6 (And.intro h6 (And.intro (show (0 : Int) ≤ i ∧ i < (↑s.nr : Int) by first | assumption | omega | (simp_all; done)) (And.intro h6 (And.intro h6 (And.intro h6 (And.intro h7 (And.intro h7 (And.intro h7 (And.intro h7 (And.intro h7 (And.intro (show (0 : Int) ≤ IntKind.i64.wrap (i - (1 : Int)) ∧ IntKind.i64.wrap (i - (1 : Int)) < (↑s.nl : Int) by first | assumption | omega | (have := IntWalk.i64_in (i - 1) (by omega); omega) | (simp_all; done)) (And.intro h7 (And.intro h7 (And.intro h7 (And.intro h7 (And.intro h7 (And.intro (show (0 : Int) ≤ i ∧ i < (↑s.nl : Int) by first | assumption | omega | (simp_all; done)) (And.intro h7 (And.intro h7 (And.intro h6 (And.intro h7 (And.intro h6 (And.intro h8 (show L67.End s k_ i (Exit.ret) (L67.X s (.e0 : L67.O)) (L67.XH s (.e0 : L67.O)) from LEndP.mk (.e0 : L67.O) (by first | (simp only [L67.N, h1, h2, h3, h4, h5, h6, h7, h8, cond_true, cond_false]; done) | (unfold L67.N; try simp only [h1, cond_true, cond_false]; try simp only [h2, cond_true, cond_false]; try simp only [h3, cond_true, cond_false]; try simp only [h4, cond_true, cond_false]; try simp only [h5, cond_true, cond_false]; try simp only [h6, cond_true, cond_false]; try simp only [h7, cond_true, cond_false]; try simp only [h8, cond_true, cond_false]; try rfl; done)) PopOk.same)))))))))))))))))))))))))))))))))))))))))))))))))))))))))))))⟩
                | false =>
                  have h8p := of_decide_eq_false h8
                  exact ⟨[.b true, .b false, .b false, .b false, .b false, .b false, .b false, .b false, .b false, .b false, .b false, .b false, .b false, .b false, .b false, .b false, .b false, .b false, .b false, .b false, .b false, .b false, .b false, .b true, .b true, .b true, .b true, .b true, .b true, .b true, .b true, .b true, .b true, .b true, .b true, .b true, .b false, .b false, .b false, .b false, .b false, .b false, .b false, .b false, .b false, .b false, .b false, .b false, .b true, .b false, .b true, .b false], kmp (by kernel_rfl) (And.intro h1 (And.intro (show (0 : Int) ≤ i ∧ i < (↑s.nr : Int) by first | assumption | omega | (simp_all; done)) (And.intro h2 (And.intro h2 (And.intro h2 (And.intro h2 (And.intro (show (0 : Int) ≤ i ∧ i < (↑s.nr : Int) by first | assumption | omega | (simp_all; done)) (And.intro h2 (And.intro h2 (And.intro h2 (And.intro h3 (And.intro h3 (And.intro h3 (And.intro h3 (And.intro (show (0 : Int) ≤ i ∧ i < (↑s.nl : Int) by first | assumption | omega | (simp_all; done)) (And.intro h3 (And.intro h3 (And.intro h3 (And.intro h4 (And.intro h4 (And.intro h4 (And.intro h4 (And.intro (show (0 : Int) ≤ i ∧ i < (↑s.nl : Int) by first | assumption | omega | (simp_all; done)) (And.intro h4 (And.intro h4 (And.intro h4 (And.intro h5 (And.intro h6 (And.intro h6 (And.intro h6 (And.intro h6 (And.intro h6 (And.intro (show (0 : Int) ≤ IntKind.i64.wrap (i - (1 : Int)) ∧ IntKind.i64.wrap (i - (1 : Int)) < (↑s.nr : Int) by first | assumption | omega | (have := IntWalk.i64_in (i - 1) (by omega); omega) | (simp_all; done)) (And.intro h6 (And.intro h6 (And.intro h6 (And.intro h6 (And.intro h6 (And.intro (show (0 : Int) ≤ i ∧ i < (↑s.nr : Int) by first | assumption | omega | (simp_all; done)) (And.intro h6 (And.intro h6 (And.intro h6 (And.intro h7 (And.intro h7 (And.intro h7 (And.intro h7 (And.intro h7 (And.intro (show (0 : Int) ≤ IntKind.i64.wrap (i - (1 : Int)) ∧ IntKind.i64.wrap (i - (1 : Int)) < (↑s.nl : Int) by first | assumption | omega | (have := IntWalk.i64_in (i - 1) (by omega); omega) | (simp_all; done)) (And.intro h7 (And.intro h7 (And.intro h7 (And.intro h7 (And.intro h7 (And.intro (show (0 : Int) ≤ i ∧ i < (↑s.nl : Int) by first | assumption | omega | (simp_all; done)) (And.intro h7 (And.intro h7 (And.intro h6 (And.intro h7 (And.intro h6 (And.intro h8 (show L67.Next s k_ i (L67.T s (IntKind.i64.wrap (i + 1))) (L67.H s (IntKind.i64.wrap (i + 1))) from LNextP.mk (IntKind.i64.wrap (i + 1)) (show (0 : Int) ≤ IntKind.i64.wrap (i + (1 : Int)) ∧ IntKind.i64.wrap (i + (1 : Int)) ≤ (↑s.nr : Int) by first | assumption | omega | (have := IntWalk.i64_in (i + 1) (by omega); omega) | (simp_all; done)) (show ((↑s.nr : Int) - IntKind.i64.wrap (i + (1 : Int))).toNat < ((↑s.nr : Int) - i).toNat by first | assumption | omega | (have := IntWalk.i64_in (i + 1) (by omega); omega) | (simp_all; done)) (by first | (simp only [L67.N, h1, h2, h3, h4, h5, h6, h7, h8, cond_true, cond_false]; done) | (unfold L67.N; try simp only [h1, cond_true, cond_false]; try simp only [h2, cond_true, cond_false]; try simp only [h3, cond_true, cond_false]; try simp only [h4, cond_true, cond_false]; try simp only [h5, cond_true, cond_false]; try simp only [h6, cond_true, cond_false]; try simp only [h7, cond_true, cond_false]; try simp only [h8, cond_true, cond_false]; try rfl; done)) PopOk.same)))))))))))))))))))))))))))))))))))))))))))))))))))))))))))))⟩
            | false =>
              have h6p := of_decide_eq_false h6
              exact ⟨[.b true, .b false, .b false, .b false, .b false, .b false, .b false, .b false, .b false, .b false, .b false, .b false, .b false, .b false, .b false, .b false, .b false, .b false, .b false, .b false, .b false, .b false, .b false, .b false, .b false, .b false, .b false, .b false, .b false, .b false, .b false, .b false, .b false, .b false, .b false, .b false, .b false, .b false, .b false], kmp (by kernel_rfl) (And.intro h1 (And.intro (show (0 : Int) ≤ i ∧ i < (↑s.nr : Int) by first | assumption | omega | (simp_all; done)) (And.intro h2 (And.intro h2 (And.intro h2 (And.intro h2 (And.intro (show (0 : Int) ≤ i ∧ i < (↑s.nr : Int) by first | assumption | omega | (simp_all; done)) (And.intro h2 (And.intro h2 (And.intro h2 (And.intro h3 (And.intro h3 (And.intro h3 (And.intro h3 (And.intro (show (0 : Int) ≤ i ∧ i < (↑s.nl : Int) by first | assumption | omega | (simp_all; done)) (And.intro h3 (And.intro h3 (And.intro h3 (And.intro h4 (And.intro h4 (And.intro h4 (And.intro h4 (And.intro (show (0 : Int) ≤ i ∧ i < (↑s.nl : Int) by first | assumption | omega | (simp_all; done)) (And.intro h4 (And.intro h4 (And.intro h4 (And.intro h5 (And.intro h6 (And.intro h6 (And.intro h6 (And.intro h6 (And.intro h6 (And.intro h6 (And.intro h6 (And.intro h6 (And.intro h6 (And.intro h6 (And.intro h6 (And.intro h6 (And.intro h6 (And.intro h6 (And.intro h6 (And.intro (rfl : false = false) (show L67.Next s k_ i (L67.T s (IntKind.i64.wrap (i + 1))) (L67.H s (IntKind.i64.wrap (i + 1))) from LNextP.mk (IntKind.i64.wrap (i + 1)) (show (0 : Int) ≤ IntKind.i64.wrap (i + (1 : Int)) ∧ IntKind.i64.wrap (i + (1 : Int)) ≤ (↑s.nr : Int) by first | assumption | omega | (have := IntWalk.i64_in (i + 1) (by omega); omega) | (simp_all; done)) (show ((↑s.nr : Int) - IntKind.i64.wrap (i + (1 : Int))).toNat < ((↑s.nr : Int) - i).toNat by first | assumption | omega | (have := IntWalk.i64_in (i + 1) (by omega); omega) | (simp_all; done)) (by first | (simp only [L67.N, h1, h2, h3, h4, h5, h6, cond_true, cond_false]; done) | (unfold L67.N; try simp only [h1, cond_true, cond_false]; try simp only [h2, cond_true, cond_false]; try simp only [h3, cond_true, cond_false]; try simp only [h4, cond_true, cond_false]; try simp only [h5, cond_true, cond_false]; try simp only [h6, cond_true, cond_false]; try rfl; done)) PopOk.same))))))))))))))))))))))))))))))))))))))))))))⟩
  | false =>
    have h1p := of_decide_eq_false h1
    exact ⟨[.b false], kmp (by kernel_rfl) (And.intro h1 (show L67.End s k_ i (Exit.exit 0) (L67.X s (.e1 : L67.O)) (L67.XH s (.e1 : L67.O)) from LEndP.mk (.e1 : L67.O) (by first | (simp only [L67.N, h1, cond_true, cond_false]; done) | (unfold L67.N; try simp only [h1, cond_true, cond_false]; try rfl; done)) PopOk.same))⟩
theorem L67.e0 (s : SD) (hl : s.nl = s.nr) (hr : s.nr ≤ 9223372036854775807) (i : Int) (hinv : L67.inv s i) (hN : L67.run s i = (.e0 : L67.O)) : LoopTo Try.prog (loopN Try.f67 0) (L67.T s i) (L67.H s i) (Exit.ret) (L67.X s (.e0 : L67.O)) (L67.XH s (.e0 : L67.O)) := by
  have h_ := L67.spec s hl hr (L67.mu s i + 1) i hinv (Nat.lt_succ_self _)
  unfold L67.run at hN
  simp only [hN] at h_
  exact h_
theorem L67.e1 (s : SD) (hl : s.nl = s.nr) (hr : s.nr ≤ 9223372036854775807) (i : Int) (hinv : L67.inv s i) (hN : L67.run s i = (.e1 : L67.O)) : LoopTo Try.prog (loopN Try.f67 0) (L67.T s i) (L67.H s i) (Exit.exit 0) (L67.X s (.e1 : L67.O)) (L67.XH s (.e1 : L67.O)) := by
  have h_ := L67.spec s hl hr (L67.mu s i + 1) i hinv (Nat.lt_succ_self _)
  unfold L67.run at hN
  simp only [hN] at h_
  exact h_

def r67.v (s : SD) : Bool := (bif r15.v s.x s.y then (match L67.run s 0 with | .e0 => false | .e1 => true ) else false)
abbrev r67.h0 (s : SD) : AHeap := ([AObj.var (AV.agg [AV.str s.nm, AV.int IntKind.i64 s.x, AV.int IntKind.i64 s.y, AV.sl 1 s.nr fun (i : Nat) => AV.int IntKind.i64 (s.r i), AV.sl 1 s.nl fun (i : Nat) => AV.int IntKind.i64 (s.l i)])])
theorem r67 (s : SD) (hl : s.nl = s.nr) (h : AHeap) : Ret Try.prog 67 ([s.av]) h (AV.bool (r67.v s)) h := by
  cases h1 : r15.v s.x s.y with
  | true =>
    cases h2 : L67.run s 0 with
    | e0 =>
      exact Ret.of_run1 mix [(AV.bool (r67.v s))] Try.func67 rfl [.ret (AV.bool (r15.v s.x s.y)) (r67.h0 s), .b false, .loop [0, 2, 4, 5, 6, 7, 8, 9, 10, 11, 12, 13, 14, 15, 16, 17, 18, 19, 20, 21, 22, 23, 24, 25, 26, 27, 28, 29, 30, 31, 32, 33, 34, 35, 36, 37, 38, 39, 40, 41, 42, 43, 44, 45, 46, 47, 48, 49, 50, 51, 52, 53, 54, 55, 56, 57, 58, 59, 60, 61, 62, 63, 64, 65, 66, 67, 68, 69, 70, 71, 72, 73, 74] (Exit.ret) (L67.X s L67.O.e0) (L67.XH s L67.O.e0)] (by simp) (by simp) (kmp (by kernel_rfl) (And.intro (r15 (s.x) (s.y) (r67.h0 s)) (And.intro (show (bnot (r15.v s.x s.y)) = false by rw [h1]; try rfl) (And.intro (L67.e0 (s) (show s.nl = s.nr by first | assumption | omega | (simp_all; done)) (show instLENat.1 s.nr (9223372036854775807 : Nat) by first | assumption | omega | (simp_all; done)) (0) (show (0 : Int) ≤ (0 : Int) ∧ (0 : Int) ≤ (↑s.nr : Int) by first | assumption | omega | (simp_all; done)) h2) (And.intro (show AV.bool false = (AV.bool (r67.v s)) by first | (simp only [r67.v, h1, h2, cond_true, cond_false]; done) | (unfold r67.v; try simp only [h1, cond_true, cond_false]; try simp only [h2, cond_true, cond_false]; try rfl; done) | rfl) trivial))))) h
    | e1 =>
      exact Ret.of_run1 mix [(AV.bool (r67.v s))] Try.func67 rfl [.ret (AV.bool (r15.v s.x s.y)) (r67.h0 s), .b false, .loop [0, 2, 4, 5, 6, 7, 8, 9, 10, 11, 12, 13, 14, 15, 16, 17, 18, 19, 20, 21, 22, 23, 24, 25, 26, 27, 28, 29, 30, 31, 32, 33, 34, 35, 36, 37, 38, 39, 40, 41, 42, 43, 44, 45, 46, 47, 48, 49, 50, 51, 52, 53, 54, 55, 56, 57, 58, 59, 60, 61, 62, 63, 64, 65, 66, 67, 68, 69, 70, 71, 72, 73, 74] (Exit.exit 0) (L67.X s L67.O.e1) (L67.XH s L67.O.e1)] (by simp) (by simp) (kmp (by kernel_rfl) (And.intro (r15 (s.x) (s.y) (r67.h0 s)) (And.intro (show (bnot (r15.v s.x s.y)) = false by rw [h1]; try rfl) (And.intro (L67.e1 (s) (show s.nl = s.nr by first | assumption | omega | (simp_all; done)) (show instLENat.1 s.nr (9223372036854775807 : Nat) by first | assumption | omega | (simp_all; done)) (0) (show (0 : Int) ≤ (0 : Int) ∧ (0 : Int) ≤ (↑s.nr : Int) by first | assumption | omega | (simp_all; done)) h2) (And.intro (show AV.bool true = (AV.bool (r67.v s)) by first | (simp only [r67.v, h1, h2, cond_true, cond_false]; done) | (unfold r67.v; try simp only [h1, cond_true, cond_false]; try simp only [h2, cond_true, cond_false]; try rfl; done) | rfl) trivial))))) h
  | false =>
    exact Ret.of_run1 mix [(AV.bool (r67.v s))] Try.func67 rfl [.ret (AV.bool (r15.v s.x s.y)) (r67.h0 s), .b true] (by simp) (by simp) (kmp (by kernel_rfl) (And.intro (r15 (s.x) (s.y) (r67.h0 s)) (And.intro (show (bnot (r15.v s.x s.y)) = true by rw [h1]; try rfl) (And.intro (show AV.bool false = (AV.bool (r67.v s)) by first | (simp only [r67.v, h1, cond_true, cond_false]; done) | (unfold r67.v; try simp only [h1, cond_true, cond_false]; try rfl; done) | rfl) trivial)))) h

inductive L44a.O where
  | e0
  | e1
def L44a.T (n : Nat) (g : Nat → SD) (i : Int) : List AV := [AV.sl 5 n fun (i : Nat) => AV.agg [AV.str (g i).nm, AV.int IntKind.i64 (g i).x, AV.int IntKind.i64 (g i).y, AV.sl 1 (g i).nr fun (i_1 : Nat) => AV.int IntKind.i64 ((g i).r i_1), AV.sl 1 (g i).nl fun (i_1 : Nat) => AV.int IntKind.i64 ((g i).l i_1)], AV.any, AV.any, AV.int IntKind.i64 i, AV.undef, AV.undef, AV.any, AV.any, AV.any, AV.any, AV.any, AV.any, AV.any, AV.any, AV.any, AV.any, AV.any, AV.any, AV.any, AV.undef, AV.undef, AV.undef, AV.undef, AV.undef, AV.undef, AV.undef, AV.undef, AV.undef, AV.undef, AV.undef, AV.undef, AV.undef, AV.undef, AV.undef, AV.undef, AV.undef, AV.undef, AV.undef, AV.undef, AV.undef, AV.undef, AV.undef, AV.undef, AV.undef, AV.undef, AV.undef, AV.undef, AV.undef, AV.undef, AV.undef, AV.undef, AV.undef, AV.undef, AV.undef, AV.undef, AV.undef, AV.undef, AV.undef, AV.undef, AV.undef, AV.undef, AV.undef, AV.undef, AV.undef, AV.undef, AV.undef, AV.undef, AV.undef]
def L44a.H (n : Nat) (g : Nat → SD) (i : Int) : AHeap := []
def L44a.inv (n : Nat) (g : Nat → SD) (i : Int) : Prop := 0 ≤ i ∧ i ≤ (↑n : Int)
def L44a.mu (n : Nat) (g : Nat → SD) (i : Int) : Nat := ((↑n : Int) - i).toNat
def L44a.E : L44a.O → Exit
  | .e0 => Exit.ret
  | .e1 => Exit.exit 0
def L44a.X (n : Nat) (g : Nat → SD) : L44a.O → List AV
  | .e0 => [AV.any, AV.any, (AV.int IntKind.i64 4), AV.any, AV.any, AV.any, AV.any, AV.any, AV.any, AV.any, AV.any, AV.any, AV.any, AV.any, AV.any, AV.any, AV.any, AV.any, AV.any, AV.any, AV.any, AV.any, AV.any, AV.any, AV.any, AV.any, AV.any, AV.any, AV.any, AV.any, AV.any, AV.any, AV.any, AV.any, AV.any, AV.any, AV.any, AV.any, AV.any, AV.any, AV.any, AV.any, AV.any, AV.any, AV.any, AV.any, AV.any, AV.any, AV.any, AV.any, AV.any, AV.any, AV.any, AV.any, AV.any, AV.any, AV.any, AV.any, AV.any, AV.any, AV.any, AV.any, AV.any, AV.any, AV.any, AV.any, AV.any, AV.any]
  | .e1 => [AV.sl 5 n fun (i : Nat) => AV.agg [AV.str (g i).nm, AV.int IntKind.i64 (g i).x, AV.int IntKind.i64 (g i).y, AV.sl 1 (g i).nr fun (i_1 : Nat) => AV.int IntKind.i64 ((g i).r i_1), AV.sl 1 (g i).nl fun (i_1 : Nat) => AV.int IntKind.i64 ((g i).l i_1)], AV.any, (AV.any), AV.any, AV.undef, AV.undef, AV.any, AV.any, AV.any, AV.any, AV.any, AV.any, AV.any, AV.any, AV.any, AV.any, AV.any, AV.any, AV.any, AV.undef, AV.undef, AV.undef, AV.undef, AV.undef, AV.undef, AV.undef, AV.undef, AV.undef, AV.undef, AV.undef, AV.undef, AV.undef, AV.undef, AV.undef, AV.undef, AV.undef, AV.undef, AV.undef, AV.undef, AV.undef, AV.undef, AV.undef, AV.undef, AV.undef, AV.undef, AV.undef, AV.undef, AV.undef, AV.undef, AV.undef, AV.undef, AV.undef, AV.undef, AV.undef, AV.undef, AV.undef, AV.undef, AV.undef, AV.undef, AV.undef, AV.undef, AV.undef, AV.undef, AV.undef, AV.undef, AV.undef, AV.undef, AV.undef]
def L44a.XH (n : Nat) (g : Nat → SD) : L44a.O → AHeap
  | .e0 => ([])
  | .e1 => ([])
def L44a.N (n : Nat) (g : Nat → SD) : Nat → Int → L44a.O
  | 0, _ => .e0
  | k_ + 1, i => (bif decide (i < (↑n : Int)) then (bif r66.v (g i.toNat).nm then (L44a.N n g k_ (IntKind.i64.wrap (i + 1))) else (.e0)) else (.e1))
def L44a.run (n : Nat) (g : Nat → SD) (i : Int) : L44a.O := L44a.N n g (L44a.mu n g i + 1) i
def L44a.Next (n : Nat) (g : Nat → SD) (k_ : Nat) (z_ : Int) (T_ : List AV) (h_ : AHeap) : Prop := LNextP (fun z_ => L44a.T n g z_) (fun z_ => L44a.H n g z_) (fun z_ => L44a.inv n g z_) (fun z_ => L44a.mu n g z_) (fun k_ z_ => L44a.N n g k_ z_) k_ z_ T_ h_
def L44a.End (n : Nat) (g : Nat → SD) (k_ : Nat) (z_ : Int) (e_ : Exit) (T_ : List AV) (h_ : AHeap) : Prop := LEndP (fun z_ => L44a.H n g z_) (fun k_ z_ => L44a.N n g k_ z_) L44a.E (L44a.X n g) (L44a.XH n g) k_ z_ e_ T_ h_
theorem L44a.spec (n : Nat) (g : Nat → SD) (hn : n ≤ 9223372036854775807) (k_ : Nat) (z_ : Int) (hi_ : L44a.inv n g z_) (hm_ : L44a.mu n g z_ < k_) : LoopTo Try.prog (loopN Try.f44 0) (L44a.T n g z_) (L44a.H n g z_) (L44a.E (L44a.N n g k_ z_)) (L44a.X n g (L44a.N n g k_ z_)) (L44a.XH n g (L44a.N n g k_ z_)) := by
  refine LoopTo.fuelP mix (fun z_ => L44a.T n g z_) (fun z_ => L44a.H n g z_) (fun z_ => L44a.inv n g z_) (fun z_ => L44a.mu n g z_) (fun k_ z_ => L44a.N n g k_ z_) L44a.E (L44a.X n g) (L44a.XH n g) [1, 2, 6, 7, 8, 9, 10, 11, 12, 13, 14, 15, 16, 17, 18] [0, 1, 3, 4, 5, 6, 7, 8, 9, 10, 11, 12, 13, 14, 15, 16, 17, 18, 19, 20, 21, 22, 23, 24, 25, 26, 27, 28, 29, 30, 31, 32, 33, 34, 35, 36, 37, 38, 39, 40, 41, 42, 43, 44, 45, 46, 47, 48, 49, 50, 51, 52, 53, 54, 55, 56, 57, 58, 59, 60, 61, 62, 63, 64, 65, 66, 67] [1, 3, 6, 7, 8, 9, 10, 11, 12, 13, 14, 15, 16, 17, 18] ?_ k_ z_ hi_ hm_
  clear hm_ hi_ z_ k_
  intro k_ z_ hinv hmu
  revert hinv hmu; revert z_; intro i hinv hmu
  have hinv : 0 ≤ i ∧ i ≤ (↑n : Int) := hinv
  have hmu : (((↑n : Int) - i).toNat) < k_ + 1 := hmu
  cases h1 : decide (i < (↑n : Int)) with
  | true =>
    have h1p := of_decide_eq_true h1
    cases h2 : r66.v (g i.toNat).nm with
    | true =>
      exact ⟨[.b true, .ret (AV.bool (r66.v (g i.toNat).nm)) ([]), .b false], kmp (by kernel_rfl) (And.intro h1 (And.intro (show (0 : Int) ≤ i ∧ i < (↑n : Int) by first | assumption | omega | (simp_all; done)) (And.intro (r66 ((g i.toNat).nm) (show (g i.toNat).nm.size ≤ (9223372036854775807 : Nat) by first | assumption | omega | (simp_all; done)) ([])) (And.intro (show (bnot (r66.v (g i.toNat).nm)) = false by rw [h2]; try rfl) (show L44a.Next n g k_ i (L44a.T n g (IntKind.i64.wrap (i + 1))) (L44a.H n g (IntKind.i64.wrap (i + 1))) from LNextP.mk (IntKind.i64.wrap (i + 1)) (show (0 : Int) ≤ IntKind.i64.wrap (i + (1 : Int)) ∧ IntKind.i64.wrap (i + (1 : Int)) ≤ (↑n : Int) by first | assumption | omega | (have := IntWalk.i64_in (i + 1) (by omega); omega) | (simp_all; done)) (show ((↑n : Int) - IntKind.i64.wrap (i + (1 : Int))).toNat < ((↑n : Int) - i).toNat by first | assumption | omega | (have := IntWalk.i64_in (i + 1) (by omega); omega) | (simp_all; done)) (by first | (simp only [L44a.N, h1, h2, cond_true, cond_false]; done) | (unfold L44a.N; try simp only [h1, cond_true, cond_false]; try simp only [h2, cond_true, cond_false]; try rfl; done)) PopOk.same)))))⟩
    | false =>
      exact ⟨[.b true, .ret (AV.bool (r66.v (g i.toNat).nm)) ([]), .b true], kmp (by kernel_rfl) (And.intro h1 (And.intro (show (0 : Int) ≤ i ∧ i < (↑n : Int) by first | assumption | omega | (simp_all; done)) (And.intro (r66 ((g i.toNat).nm) (show (g i.toNat).nm.size ≤ (9223372036854775807 : Nat) by first | assumption | omega | (simp_all; done)) ([])) (And.intro (show (bnot (r66.v (g i.toNat).nm)) = true by rw [h2]; try rfl) (show L44a.End n g k_ i (Exit.ret) (L44a.X n g (.e0 : L44a.O)) (L44a.XH n g (.e0 : L44a.O)) from LEndP.mk (.e0 : L44a.O) (by first | (simp only [L44a.N, h1, h2, cond_true, cond_false]; done) | (unfold L44a.N; try simp only [h1, cond_true, cond_false]; try simp only [h2, cond_true, cond_false]; try rfl; done)) PopOk.same)))))⟩
  | false =>
    have h1p := of_decide_eq_false h1
    exact ⟨[.b false], kmp (by kernel_rfl) (And.intro h1 (show L44a.End n g k_ i (Exit.exit 0) (L44a.X n g (.e1 : L44a.O)) (L44a.XH n g (.e1 : L44a.O)) from LEndP.mk (.e1 : L44a.O) (by first | (simp only [L44a.N, h1, cond_true, cond_false]; done) | (unfold L44a.N; try simp only [h1, cond_true, cond_false]; try rfl; done)) PopOk.same))⟩
theorem L44a.e0 (n : Nat) (g : Nat → SD) (hn : n ≤ 9223372036854775807) (i : Int) (hinv : L44a.inv n g i) (hN : L44a.run n g i = (.e0 : L44a.O)) : LoopTo Try.prog (loopN Try.f44 0) (L44a.T n g i) (L44a.H n g i) (Exit.ret) (L44a.X n g (.e0 : L44a.O)) (L44a.XH n g (.e0 : L44a.O)) := by
  have h_ := L44a.spec n g hn (L44a.mu n g i + 1) i hinv (Nat.lt_succ_self _)
  unfold L44a.run at hN
  simp only [hN] at h_
  exact h_
theorem L44a.e1 (n : Nat) (g : Nat → SD) (hn : n ≤ 9223372036854775807) (i : Int) (hinv : L44a.inv n g i) (hN : L44a.run n g i = (.e1 : L44a.O)) : LoopTo Try.prog (loopN Try.f44 0) (L44a.T n g i) (L44a.H n g i) (Exit.exit 0) (L44a.X n g (.e1 : L44a.O)) (L44a.XH n g (.e1 : L44a.O)) := by
  have h_ := L44a.spec n g hn (L44a.mu n g i + 1) i hinv (Nat.lt_succ_self _)
  unfold L44a.run at hN
  simp only [hN] at h_
  exact h_

inductive L44b.O where
  | e0
  | e1
def L44b.T (n : Nat) (g : Nat → SD) (i : Int) : List AV := [AV.sl 5 n fun (i : Nat) => AV.agg [AV.str (g i).nm, AV.int IntKind.i64 (g i).x, AV.int IntKind.i64 (g i).y, AV.sl 1 (g i).nr fun (i_1 : Nat) => AV.int IntKind.i64 ((g i).r i_1), AV.sl 1 (g i).nl fun (i_1 : Nat) => AV.int IntKind.i64 ((g i).l i_1)], AV.any, AV.any, AV.any, AV.int IntKind.i64 i, AV.undef, AV.any, AV.any, AV.any, AV.any, AV.any, AV.any, AV.any, AV.any, AV.any, AV.any, AV.any, AV.any, AV.any, AV.any, AV.any, AV.any, AV.any, AV.any, AV.any, AV.any, AV.any, AV.any, AV.any, AV.any, AV.any, AV.any, AV.any, AV.any, AV.any, AV.any, AV.any, AV.any, AV.any, AV.any, AV.any, AV.any, AV.any, AV.any, AV.any, AV.any, AV.any, AV.any, AV.any, AV.any, AV.any, AV.any, AV.any, AV.any, AV.any, AV.any, AV.undef, AV.undef, AV.undef, AV.undef, AV.undef, AV.undef, AV.undef, AV.undef, AV.undef, AV.undef, AV.undef, AV.undef]
def L44b.H (n : Nat) (g : Nat → SD) (i : Int) : AHeap := []
def L44b.inv (n : Nat) (g : Nat → SD) (i : Int) : Prop := 0 ≤ i ∧ i ≤ (↑n : Int)
def L44b.mu (n : Nat) (g : Nat → SD) (i : Int) : Nat := ((↑n : Int) - i).toNat
def L44b.E : L44b.O → Exit
  | .e0 => Exit.ret
  | .e1 => Exit.exit 2
def L44b.X (n : Nat) (g : Nat → SD) : L44b.O → List AV
  | .e0 => [AV.any, AV.any, (AV.int IntKind.i64 1), AV.any, AV.any, AV.any, AV.any, AV.any, AV.any, AV.any, AV.any, AV.any, AV.any, AV.any, AV.any, AV.any, AV.any, AV.any, AV.any, AV.any, AV.any, AV.any, AV.any, AV.any, AV.any, AV.any, AV.any, AV.any, AV.any, AV.any, AV.any, AV.any, AV.any, AV.any, AV.any, AV.any, AV.any, AV.any, AV.any, AV.any, AV.any, AV.any, AV.any, AV.any, AV.any, AV.any, AV.any, AV.any, AV.any, AV.any, AV.any, AV.any, AV.any, AV.any, AV.any, AV.any, AV.any, AV.any, AV.any, AV.any, AV.any, AV.any, AV.any, AV.any, AV.any, AV.any, AV.any, AV.any]
  | .e1 => [AV.sl 5 n fun (i : Nat) => AV.agg [AV.str (g i).nm, AV.int IntKind.i64 (g i).x, AV.int IntKind.i64 (g i).y, AV.sl 1 (g i).nr fun (i_1 : Nat) => AV.int IntKind.i64 ((g i).r i_1), AV.sl 1 (g i).nl fun (i_1 : Nat) => AV.int IntKind.i64 ((g i).l i_1)], AV.any, (AV.any), AV.any, AV.any, AV.undef, AV.any, AV.any, AV.any, AV.any, AV.any, AV.any, AV.any, AV.any, AV.any, AV.any, AV.any, AV.any, AV.any, AV.any, AV.any, AV.any, AV.any, AV.any, AV.any, AV.any, AV.any, AV.any, AV.any, AV.any, AV.any, AV.any, AV.any, AV.any, AV.any, AV.any, AV.any, AV.any, AV.any, AV.any, AV.any, AV.any, AV.any, AV.any, AV.any, AV.any, AV.any, AV.any, AV.any, AV.any, AV.any, AV.any, AV.any, AV.any, AV.any, AV.any, AV.undef, AV.undef, AV.undef, AV.undef, AV.undef, AV.undef, AV.undef, AV.undef, AV.undef, AV.undef, AV.undef, AV.undef]
def L44b.XH (n : Nat) (g : Nat → SD) : L44b.O → AHeap
  | .e0 => ([])
  | .e1 => ([])
def L44b.N (n : Nat) (g : Nat → SD) : Nat → Int → L44b.O
  | 0, _ => .e0
  | k_ + 1, i => (bif decide (i < (↑n : Int)) then (bif decide ((↑(g i.toNat).nr : Int) < 1) then (.e0) else (bif decide ((↑(g i.toNat).nr : Int) > 16) then (.e0) else (bif (↑(g i.toNat).nl : Int) == (↑(g i.toNat).nr : Int) then (L44b.N n g k_ (IntKind.i64.wrap (i + 1))) else (.e0)))) else (.e1))
def L44b.run (n : Nat) (g : Nat → SD) (i : Int) : L44b.O := L44b.N n g (L44b.mu n g i + 1) i
def L44b.Next (n : Nat) (g : Nat → SD) (k_ : Nat) (z_ : Int) (T_ : List AV) (h_ : AHeap) : Prop := LNextP (fun z_ => L44b.T n g z_) (fun z_ => L44b.H n g z_) (fun z_ => L44b.inv n g z_) (fun z_ => L44b.mu n g z_) (fun k_ z_ => L44b.N n g k_ z_) k_ z_ T_ h_
def L44b.End (n : Nat) (g : Nat → SD) (k_ : Nat) (z_ : Int) (e_ : Exit) (T_ : List AV) (h_ : AHeap) : Prop := LEndP (fun z_ => L44b.H n g z_) (fun k_ z_ => L44b.N n g k_ z_) L44b.E (L44b.X n g) (L44b.XH n g) k_ z_ e_ T_ h_
theorem L44b.spec (n : Nat) (g : Nat → SD) (hn : n ≤ 9223372036854775807) (k_ : Nat) (z_ : Int) (hi_ : L44b.inv n g z_) (hm_ : L44b.mu n g z_ < k_) : LoopTo Try.prog (loopN Try.f44 1) (L44b.T n g z_) (L44b.H n g z_) (L44b.E (L44b.N n g k_ z_)) (L44b.X n g (L44b.N n g k_ z_)) (L44b.XH n g (L44b.N n g k_ z_)) := by
  refine LoopTo.fuelP mix (fun z_ => L44b.T n g z_) (fun z_ => L44b.H n g z_) (fun z_ => L44b.inv n g z_) (fun z_ => L44b.mu n g z_) (fun k_ z_ => L44b.N n g k_ z_) L44b.E (L44b.X n g) (L44b.XH n g) [1, 2, 3, 6, 7, 8, 9, 10, 11, 12, 13, 14, 15, 16, 17, 18, 19, 20, 21, 22, 23, 24, 25, 26, 27, 28, 29, 30, 31, 32, 33, 34, 35, 36, 37, 38, 39, 40, 41, 42, 43, 44, 45, 46, 47, 48, 49, 50, 51, 52, 53, 54, 55] [0, 1, 3, 4, 5, 6, 7, 8, 9, 10, 11, 12, 13, 14, 15, 16, 17, 18, 19, 20, 21, 22, 23, 24, 25, 26, 27, 28, 29, 30, 31, 32, 33, 34, 35, 36, 37, 38, 39, 40, 41, 42, 43, 44, 45, 46, 47, 48, 49, 50, 51, 52, 53, 54, 55, 56, 57, 58, 59, 60, 61, 62, 63, 64, 65, 66, 67] [1, 3, 4, 6, 7, 8, 9, 10, 11, 12, 13, 14, 15, 16, 17, 18, 19, 20, 21, 22, 23, 24, 25, 26, 27, 28, 29, 30, 31, 32, 33, 34, 35, 36, 37, 38, 39, 40, 41, 42, 43, 44, 45, 46, 47, 48, 49, 50, 51, 52, 53, 54, 55] ?_ k_ z_ hi_ hm_
  clear hm_ hi_ z_ k_
  intro k_ z_ hinv hmu
  revert hinv hmu; revert z_; intro i hinv hmu
  have hinv : 0 ≤ i ∧ i ≤ (↑n : Int) := hinv
  have hmu : (((↑n : Int) - i).toNat) < k_ + 1 := hmu
  cases h1 : decide (i < (↑n : Int)) with
  | true =>
    have h1p := of_decide_eq_true h1
    cases h2 : decide ((↑(g i.toNat).nr : Int) < 1) with
    | true =>
      have h2p := of_decide_eq_true h2
      exact ⟨[.b true, .b true, .b true, .b true, .b true, .b true, .b true, .b true, .b true, .b true, .b true, .b true, .b true, .b true, .b true, .b true, .b true, .b true, .b true, .b true, .b true, .b true, .b true, .b true], kmp (by kernel_rfl) (And.intro h1 (And.intro (show (0 : Int) ≤ i ∧ i < (↑n : Int) by first | assumption | omega | (simp_all; done)) (And.intro h2 (And.intro h2 (And.intro h2 (And.intro h2 (And.intro h2 (And.intro h2 (And.intro h2 (And.intro h2 (And.intro (rfl : true = true) (And.intro (rfl : true = true) (And.intro (rfl : true = true) (And.intro (rfl : true = true) (And.intro (rfl : true = true) (And.intro (rfl : true = true) (And.intro (rfl : true = true) (And.intro (rfl : true = true) (And.intro (rfl : true = true) (And.intro (rfl : true = true) (And.intro (rfl : true = true) (And.intro (rfl : true = true) (And.intro (rfl : true = true) (And.intro (rfl : true = true) (And.intro (rfl : true = true) (show L44b.End n g k_ i (Exit.ret) (L44b.X n g (.e0 : L44b.O)) (L44b.XH n g (.e0 : L44b.O)) from LEndP.mk (.e0 : L44b.O) (by first | (simp only [L44b.N, h1, h2, cond_true, cond_false]; done) | (unfold L44b.N; try simp only [h1, cond_true, cond_false]; try simp only [h2, cond_true, cond_false]; try rfl; done)) PopOk.same))))))))))))))))))))))))))⟩
    | false =>
      have h2p := of_decide_eq_false h2
      cases h3 : decide ((↑(g i.toNat).nr : Int) > 16) with
      | true =>
        have h3p := of_decide_eq_true h3
        exact ⟨[.b true, .b false, .b false, .b false, .b false, .b false, .b false, .b false, .b false, .b true, .b true, .b true, .b true, .b true, .b true, .b true, .b true, .b true, .b true, .b true, .b true, .b true, .b true, .b true], kmp (by kernel_rfl) (And.intro h1 (And.intro (show (0 : Int) ≤ i ∧ i < (↑n : Int) by first | assumption | omega | (simp_all; done)) (And.intro h2 (And.intro h2 (And.intro h2 (And.intro (show (0 : Int) ≤ i ∧ i < (↑n : Int) by first | assumption | omega | (simp_all; done)) (And.intro h2 (And.intro h2 (And.intro h2 (And.intro h2 (And.intro h2 (And.intro h3 (And.intro h3 (And.intro h3 (And.intro h3 (And.intro h3 (And.intro h3 (And.intro h3 (And.intro h3 (And.intro h3 (And.intro h3 (And.intro h3 (And.intro h3 (And.intro h3 (And.intro h3 (And.intro (rfl : true = true) (show L44b.End n g k_ i (Exit.ret) (L44b.X n g (.e0 : L44b.O)) (L44b.XH n g (.e0 : L44b.O)) from LEndP.mk (.e0 : L44b.O) (by first | (simp only [L44b.N, h1, h2, h3, cond_true, cond_false]; done) | (unfold L44b.N; try simp only [h1, cond_true, cond_false]; try simp only [h2, cond_true, cond_false]; try simp only [h3, cond_true, cond_false]; try rfl; done)) PopOk.same)))))))))))))))))))))))))))⟩
      | false =>
        have h3p := of_decide_eq_false h3
        cases h4 : (↑(g i.toNat).nl : Int) == (↑(g i.toNat).nr : Int) with
        | true =>
          have h4p := eq_of_beq h4
          exact ⟨[.b true, .b false, .b false, .b false, .b false, .b false, .b false, .b false, .b false, .b false, .b false, .b false, .b false, .b false, .b false, .b false, .b false, .b false, .b false, .b false, .b false, .b false, .b false, .b false], kmp (by kernel_rfl) (And.intro h1 (And.intro (show (0 : Int) ≤ i ∧ i < (↑n : Int) by first | assumption | omega | (simp_all; done)) (And.intro h2 (And.intro h2 (And.intro h2 (And.intro (show (0 : Int) ≤ i ∧ i < (↑n : Int) by first | assumption | omega | (simp_all; done)) (And.intro h2 (And.intro h2 (And.intro h2 (And.intro h2 (And.intro h2 (And.intro h3 (And.intro h3 (And.intro h3 (And.intro (show (0 : Int) ≤ i ∧ i < (↑n : Int) by first | assumption | omega | (simp_all; done)) (And.intro h3 (And.intro h3 (And.intro h3 (And.intro h3 (And.intro h3 (And.intro h3 (And.intro (show (0 : Int) ≤ i ∧ i < (↑n : Int) by first | assumption | omega | (simp_all; done)) (And.intro h3 (And.intro h3 (And.intro h3 (And.intro h3 (And.intro h3 (And.intro (show (bnot ((↑(g i.toNat).nl : Int) == (↑(g i.toNat).nr : Int))) = false by rw [h4]; try rfl) (show L44b.Next n g k_ i (L44b.T n g (IntKind.i64.wrap (i + 1))) (L44b.H n g (IntKind.i64.wrap (i + 1))) from LNextP.mk (IntKind.i64.wrap (i + 1)) (show (0 : Int) ≤ IntKind.i64.wrap (i + (1 : Int)) ∧ IntKind.i64.wrap (i + (1 : Int)) ≤ (↑n : Int) by first | assumption | omega | (have := IntWalk.i64_in (i + 1) (by omega); omega) | (simp_all; done)) (show ((↑n : Int) - IntKind.i64.wrap (i + (1 : Int))).toNat < ((↑n : Int) - i).toNat by first | assumption | omega | (have := IntWalk.i64_in (i + 1) (by omega); omega) | (simp_all; done)) (by first | (simp only [L44b.N, h1, h2, h3, h4, cond_true, cond_false]; done) | (unfold L44b.N; try simp only [h1, cond_true, cond_false]; try simp only [h2, cond_true, cond_false]; try simp only [h3, cond_true, cond_false]; try simp only [h4, cond_true, cond_false]; try rfl; done)) PopOk.same)))))))))))))))))))))))))))))⟩
        | false =>
          have h4p := ne_of_beq_false h4
          exact ⟨[.b true, .b false, .b false, .b false, .b false, .b false, .b false, .b false, .b false, .b false, .b false, .b false, .b false, .b false, .b false, .b false, .b false, .b false, .b false, .b false, .b false, .b false, .b false, .b true], kmp (by kernel_rfl) (And.intro h1 (And.intro (show (0 : Int) ≤ i ∧ i < (↑n : Int) by first | assumption | omega | (simp_all; done)) (And.intro h2 (And.intro h2 (And.intro h2 (And.intro (show (0 : Int) ≤ i ∧ i < (↑n : Int) by first | assumption | omega | (simp_all; done)) (And.intro h2 (And.intro h2 (And.intro h2 (And.intro h2 (And.intro h2 (And.intro h3 (And.intro h3 (And.intro h3 (And.intro (show (0 : Int) ≤ i ∧ i < (↑n : Int) by first | assumption | omega | (simp_all; done)) (And.intro h3 (And.intro h3 (And.intro h3 (And.intro h3 (And.intro h3 (And.intro h3 (And.intro (show (0 : Int) ≤ i ∧ i < (↑n : Int) by first | assumption | omega | (simp_all; done)) (And.intro h3 (And.intro h3 (And.intro h3 (And.intro h3 (And.intro h3 (And.intro (show (bnot ((↑(g i.toNat).nl : Int) == (↑(g i.toNat).nr : Int))) = true by rw [h4]; try rfl) (show L44b.End n g k_ i (Exit.ret) (L44b.X n g (.e0 : L44b.O)) (L44b.XH n g (.e0 : L44b.O)) from LEndP.mk (.e0 : L44b.O) (by first | (simp only [L44b.N, h1, h2, h3, h4, cond_true, cond_false]; done) | (unfold L44b.N; try simp only [h1, cond_true, cond_false]; try simp only [h2, cond_true, cond_false]; try simp only [h3, cond_true, cond_false]; try simp only [h4, cond_true, cond_false]; try rfl; done)) PopOk.same)))))))))))))))))))))))))))))⟩
  | false =>
    have h1p := of_decide_eq_false h1
    exact ⟨[.b false], kmp (by kernel_rfl) (And.intro h1 (show L44b.End n g k_ i (Exit.exit 2) (L44b.X n g (.e1 : L44b.O)) (L44b.XH n g (.e1 : L44b.O)) from LEndP.mk (.e1 : L44b.O) (by first | (simp only [L44b.N, h1, cond_true, cond_false]; done) | (unfold L44b.N; try simp only [h1, cond_true, cond_false]; try rfl; done)) PopOk.same))⟩
theorem L44b.e0 (n : Nat) (g : Nat → SD) (hn : n ≤ 9223372036854775807) (i : Int) (hinv : L44b.inv n g i) (hN : L44b.run n g i = (.e0 : L44b.O)) : LoopTo Try.prog (loopN Try.f44 1) (L44b.T n g i) (L44b.H n g i) (Exit.ret) (L44b.X n g (.e0 : L44b.O)) (L44b.XH n g (.e0 : L44b.O)) := by
  have h_ := L44b.spec n g hn (L44b.mu n g i + 1) i hinv (Nat.lt_succ_self _)
  unfold L44b.run at hN
  simp only [hN] at h_
  exact h_
theorem L44b.e1 (n : Nat) (g : Nat → SD) (hn : n ≤ 9223372036854775807) (i : Int) (hinv : L44b.inv n g i) (hN : L44b.run n g i = (.e1 : L44b.O)) : LoopTo Try.prog (loopN Try.f44 1) (L44b.T n g i) (L44b.H n g i) (Exit.exit 2) (L44b.X n g (.e1 : L44b.O)) (L44b.XH n g (.e1 : L44b.O)) := by
  have h_ := L44b.spec n g hn (L44b.mu n g i + 1) i hinv (Nat.lt_succ_self _)
  unfold L44b.run at hN
  simp only [hN] at h_
  exact h_

inductive L44c.O where
  | e0
  | e1
def L44c.T (n : Nat) (g : Nat → SD) (i : Int) : List AV := [AV.sl 5 n fun (i : Nat) => AV.agg [AV.str (g i).nm, AV.int IntKind.i64 (g i).x, AV.int IntKind.i64 (g i).y, AV.sl 1 (g i).nr fun (i_1 : Nat) => AV.int IntKind.i64 ((g i).r i_1), AV.sl 1 (g i).nl fun (i_1 : Nat) => AV.int IntKind.i64 ((g i).l i_1)], AV.any, AV.any, AV.any, AV.any, AV.int IntKind.i64 i, AV.any, AV.any, AV.any, AV.any, AV.any, AV.any, AV.any, AV.any, AV.any, AV.any, AV.any, AV.any, AV.any, AV.any, AV.any, AV.any, AV.any, AV.any, AV.any, AV.any, AV.any, AV.any, AV.any, AV.any, AV.any, AV.any, AV.any, AV.any, AV.any, AV.any, AV.any, AV.any, AV.any, AV.any, AV.any, AV.any, AV.any, AV.any, AV.any, AV.any, AV.any, AV.any, AV.any, AV.any, AV.any, AV.any, AV.any, AV.any, AV.any, AV.any, AV.any, AV.any, AV.any, AV.any, AV.any, AV.any, AV.any, AV.any, AV.any, AV.any, AV.any, AV.any]
def L44c.H (n : Nat) (g : Nat → SD) (i : Int) : AHeap := []
def L44c.inv (n : Nat) (g : Nat → SD) (i : Int) : Prop := 0 ≤ i ∧ i ≤ (↑n : Int)
def L44c.mu (n : Nat) (g : Nat → SD) (i : Int) : Nat := ((↑n : Int) - i).toNat
def L44c.E : L44c.O → Exit
  | .e0 => Exit.ret
  | .e1 => Exit.exit 4
def L44c.X (n : Nat) (g : Nat → SD) : L44c.O → List AV
  | .e0 => [AV.any, AV.any, (AV.int IntKind.i64 6), AV.any, AV.any, AV.any, AV.any, AV.any, AV.any, AV.any, AV.any, AV.any, AV.any, AV.any, AV.any, AV.any, AV.any, AV.any, AV.any, AV.any, AV.any, AV.any, AV.any, AV.any, AV.any, AV.any, AV.any, AV.any, AV.any, AV.any, AV.any, AV.any, AV.any, AV.any, AV.any, AV.any, AV.any, AV.any, AV.any, AV.any, AV.any, AV.any, AV.any, AV.any, AV.any, AV.any, AV.any, AV.any, AV.any, AV.any, AV.any, AV.any, AV.any, AV.any, AV.any, AV.any, AV.any, AV.any, AV.any, AV.any, AV.any, AV.any, AV.any, AV.any, AV.any, AV.any, AV.any, AV.any]
  | .e1 => [AV.any, AV.any, (AV.any), AV.any, AV.any, AV.any, AV.any, AV.any, AV.any, AV.any, AV.any, AV.any, AV.any, AV.any, AV.any, AV.any, AV.any, AV.any, AV.any, AV.any, AV.any, AV.any, AV.any, AV.any, AV.any, AV.any, AV.any, AV.any, AV.any, AV.any, AV.any, AV.any, AV.any, AV.any, AV.any, AV.any, AV.any, AV.any, AV.any, AV.any, AV.any, AV.any, AV.any, AV.any, AV.any, AV.any, AV.any, AV.any, AV.any, AV.any, AV.any, AV.any, AV.any, AV.any, AV.any, AV.any, AV.any, AV.any, AV.any, AV.any, AV.any, AV.any, AV.any, AV.any, AV.any, AV.any, AV.any, AV.any]
def L44c.XH (n : Nat) (g : Nat → SD) : L44c.O → AHeap
  | .e0 => ([])
  | .e1 => ([])
def L44c.N (n : Nat) (g : Nat → SD) : Nat → Int → L44c.O
  | 0, _ => .e0
  | k_ + 1, i => (bif decide (i < (↑n : Int)) then (bif r67.v (g i.toNat) then (L44c.N n g k_ (IntKind.i64.wrap (i + 1))) else (.e0)) else (.e1))
def L44c.run (n : Nat) (g : Nat → SD) (i : Int) : L44c.O := L44c.N n g (L44c.mu n g i + 1) i
def L44c.Next (n : Nat) (g : Nat → SD) (k_ : Nat) (z_ : Int) (T_ : List AV) (h_ : AHeap) : Prop := LNextP (fun z_ => L44c.T n g z_) (fun z_ => L44c.H n g z_) (fun z_ => L44c.inv n g z_) (fun z_ => L44c.mu n g z_) (fun k_ z_ => L44c.N n g k_ z_) k_ z_ T_ h_
def L44c.End (n : Nat) (g : Nat → SD) (k_ : Nat) (z_ : Int) (e_ : Exit) (T_ : List AV) (h_ : AHeap) : Prop := LEndP (fun z_ => L44c.H n g z_) (fun k_ z_ => L44c.N n g k_ z_) L44c.E (L44c.X n g) (L44c.XH n g) k_ z_ e_ T_ h_
theorem L44c.spec (n : Nat) (g : Nat → SD) (hn : n ≤ 9223372036854775807) (hg : ∀ (i : Nat), i < n → (g i).nl = (g i).nr) (k_ : Nat) (z_ : Int) (hi_ : L44c.inv n g z_) (hm_ : L44c.mu n g z_ < k_) : LoopTo Try.prog (loopN Try.f44 2) (L44c.T n g z_) (L44c.H n g z_) (L44c.E (L44c.N n g k_ z_)) (L44c.X n g (L44c.N n g k_ z_)) (L44c.XH n g (L44c.N n g k_ z_)) := by
  refine LoopTo.fuelP mix (fun z_ => L44c.T n g z_) (fun z_ => L44c.H n g z_) (fun z_ => L44c.inv n g z_) (fun z_ => L44c.mu n g z_) (fun k_ z_ => L44c.N n g k_ z_) L44c.E (L44c.X n g) (L44c.XH n g) [1, 2, 3, 4, 6, 7, 8, 9, 10, 11, 12, 13, 14, 15, 16, 17, 18, 19, 20, 21, 22, 23, 24, 25, 26, 27, 28, 29, 30, 31, 32, 33, 34, 35, 36, 37, 38, 39, 40, 41, 42, 43, 44, 45, 46, 47, 48, 49, 50, 51, 52, 53, 54, 55, 56, 57, 58, 59, 60, 61, 62, 63, 64, 65, 66, 67] [0, 1, 3, 4, 5, 6, 7, 8, 9, 10, 11, 12, 13, 14, 15, 16, 17, 18, 19, 20, 21, 22, 23, 24, 25, 26, 27, 28, 29, 30, 31, 32, 33, 34, 35, 36, 37, 38, 39, 40, 41, 42, 43, 44, 45, 46, 47, 48, 49, 50, 51, 52, 53, 54, 55, 56, 57, 58, 59, 60, 61, 62, 63, 64, 65, 66, 67] [0, 1, 3, 4, 5, 6, 7, 8, 9, 10, 11, 12, 13, 14, 15, 16, 17, 18, 19, 20, 21, 22, 23, 24, 25, 26, 27, 28, 29, 30, 31, 32, 33, 34, 35, 36, 37, 38, 39, 40, 41, 42, 43, 44, 45, 46, 47, 48, 49, 50, 51, 52, 53, 54, 55, 56, 57, 58, 59, 60, 61, 62, 63, 64, 65, 66, 67] ?_ k_ z_ hi_ hm_
  clear hm_ hi_ z_ k_
  intro k_ z_ hinv hmu
  revert hinv hmu; revert z_; intro i hinv hmu
  have hinv : 0 ≤ i ∧ i ≤ (↑n : Int) := hinv
  have hmu : (((↑n : Int) - i).toNat) < k_ + 1 := hmu
  cases h1 : decide (i < (↑n : Int)) with
  | true =>
    have h1p := of_decide_eq_true h1
    cases h2 : r67.v (g i.toNat) with
    | true =>
      exact ⟨[.b true, .ret (AV.bool (r67.v (g i.toNat))) ([]), .b false], kmp (by kernel_rfl) (And.intro h1 (And.intro (show (0 : Int) ≤ i ∧ i < (↑n : Int) by first | assumption | omega | (exact hg _) | (exact hg _ (by omega)) | (simp_all; done)) (And.intro (r67 (g i.toNat) (show (g i.toNat).nl = (g i.toNat).nr by first | assumption | omega | (exact hg _) | (exact hg _ (by omega)) | (simp_all; done)) ([])) (And.intro (show (bnot (r67.v (g i.toNat))) = false by rw [h2]; try rfl) (show L44c.Next n g k_ i (L44c.T n g (IntKind.i64.wrap (i + 1))) (L44c.H n g (IntKind.i64.wrap (i + 1))) from LNextP.mk (IntKind.i64.wrap (i + 1)) (show (0 : Int) ≤ IntKind.i64.wrap (i + (1 : Int)) ∧ IntKind.i64.wrap (i + (1 : Int)) ≤ (↑n : Int) by first | assumption | omega | (have := IntWalk.i64_in (i + 1) (by omega); omega) | (exact hg _) | (exact hg _ (by omega)) | (simp_all; done)) (show ((↑n : Int) - IntKind.i64.wrap (i + (1 : Int))).toNat < ((↑n : Int) - i).toNat by first | assumption | omega | (have := IntWalk.i64_in (i + 1) (by omega); omega) | (exact hg _) | (exact hg _ (by omega)) | (simp_all; done)) (by first | (simp only [L44c.N, h1, h2, cond_true, cond_false]; done) | (unfold L44c.N; try simp only [h1, cond_true, cond_false]; try simp only [h2, cond_true, cond_false]; try rfl; done)) PopOk.same)))))⟩
    | false =>
      exact ⟨[.b true, .ret (AV.bool (r67.v (g i.toNat))) ([]), .b true], kmp (by kernel_rfl) (And.intro h1 (And.intro (show (0 : Int) ≤ i ∧ i < (↑n : Int) by first | assumption | omega | (exact hg _) | (exact hg _ (by omega)) | (simp_all; done)) (And.intro (r67 (g i.toNat) (show (g i.toNat).nl = (g i.toNat).nr by first | assumption | omega | (exact hg _) | (exact hg _ (by omega)) | (simp_all; done)) ([])) (And.intro (show (bnot (r67.v (g i.toNat))) = true by rw [h2]; try rfl) (show L44c.End n g k_ i (Exit.ret) (L44c.X n g (.e0 : L44c.O)) (L44c.XH n g (.e0 : L44c.O)) from LEndP.mk (.e0 : L44c.O) (by first | (simp only [L44c.N, h1, h2, cond_true, cond_false]; done) | (unfold L44c.N; try simp only [h1, cond_true, cond_false]; try simp only [h2, cond_true, cond_false]; try rfl; done)) PopOk.same)))))⟩
  | false =>
    have h1p := of_decide_eq_false h1
    exact ⟨[.b false], kmp (by kernel_rfl) (And.intro h1 (show L44c.End n g k_ i (Exit.exit 4) (L44c.X n g (.e1 : L44c.O)) (L44c.XH n g (.e1 : L44c.O)) from LEndP.mk (.e1 : L44c.O) (by first | (simp only [L44c.N, h1, cond_true, cond_false]; done) | (unfold L44c.N; try simp only [h1, cond_true, cond_false]; try rfl; done)) PopOk.same))⟩
theorem L44c.e0 (n : Nat) (g : Nat → SD) (hn : n ≤ 9223372036854775807) (hg : ∀ (i : Nat), i < n → (g i).nl = (g i).nr) (i : Int) (hinv : L44c.inv n g i) (hN : L44c.run n g i = (.e0 : L44c.O)) : LoopTo Try.prog (loopN Try.f44 2) (L44c.T n g i) (L44c.H n g i) (Exit.ret) (L44c.X n g (.e0 : L44c.O)) (L44c.XH n g (.e0 : L44c.O)) := by
  have h_ := L44c.spec n g hn hg (L44c.mu n g i + 1) i hinv (Nat.lt_succ_self _)
  unfold L44c.run at hN
  simp only [hN] at h_
  exact h_
theorem L44c.e1 (n : Nat) (g : Nat → SD) (hn : n ≤ 9223372036854775807) (hg : ∀ (i : Nat), i < n → (g i).nl = (g i).nr) (i : Int) (hinv : L44c.inv n g i) (hN : L44c.run n g i = (.e1 : L44c.O)) : LoopTo Try.prog (loopN Try.f44 2) (L44c.T n g i) (L44c.H n g i) (Exit.exit 4) (L44c.X n g (.e1 : L44c.O)) (L44c.XH n g (.e1 : L44c.O)) := by
  have h_ := L44c.spec n g hn hg (L44c.mu n g i + 1) i hinv (Nat.lt_succ_self _)
  unfold L44c.run at hN
  simp only [hN] at h_
  exact h_

end Go.Proofs.Ytgmppoappaolkaa
