/- searches in stands. Conditions: none. -/
import Derived.Test.YtgmppoappaolkaaD12
open Go
namespace Go.Proofs.Ytgmppoappaolkaa
set_option linter.unusedSimpArgs false
set_option linter.unusedVariables false
set_option maxHeartbeats 0
set_option maxRecDepth 100000
inductive L79a.O where
  | e0 (a0 : Int)
  | e1
def L79a.T (n : Nat) (g : Nat → SD) (i : Int) : List AV := [AV.sl 5 n fun (i : Nat) => AV.agg [AV.str (g i).nm, AV.int IntKind.i64 (g i).x, AV.int IntKind.i64 (g i).y, AV.sl 1 (g i).nr fun (i_1 : Nat) => AV.int IntKind.i64 ((g i).r i_1), AV.sl 1 (g i).nl fun (i_1 : Nat) => AV.int IntKind.i64 ((g i).l i_1)], AV.fn 62 [], AV.any, AV.any, AV.int IntKind.i64 0, AV.any, AV.any, AV.int IntKind.i64 (↑n : Int), AV.int IntKind.i64 i, AV.any, AV.any, AV.any, AV.any, AV.any, AV.any, AV.any, AV.any, AV.any, AV.any]
def L79a.H (n : Nat) (g : Nat → SD) (i : Int) : AHeap := []
def L79a.inv (n : Nat) (g : Nat → SD) (i : Int) : Prop := 0 ≤ i ∧ i ≤ (↑n : Int)
def L79a.mu (n : Nat) (g : Nat → SD) (i : Int) : Nat := ((↑n : Int) - i).toNat
def L79a.E : L79a.O → Exit
  | .e0 a0 => Exit.ret
  | .e1 => Exit.exit 0
def L79a.X (n : Nat) (g : Nat → SD) : L79a.O → List AV
  | .e0 a0 => [AV.any, AV.any, AV.any, AV.any, (AV.int IntKind.i64 a0), AV.any, AV.any, AV.any, AV.any, AV.any, AV.any, AV.any, AV.any, AV.any, AV.any, AV.any, AV.any, AV.any, AV.any]
  | .e1 => [AV.any, AV.any, AV.any, AV.any, (AV.int IntKind.i64 0), AV.any, AV.any, AV.any, AV.any, AV.any, AV.any, AV.any, AV.any, AV.any, AV.any, AV.any, AV.any, AV.any, AV.any]
def L79a.XH (n : Nat) (g : Nat → SD) : L79a.O → AHeap
  | .e0 a0 => ([])
  | .e1 => ([])
def L79a.N (n : Nat) (g : Nat → SD) : Nat → Int → L79a.O
  | 0, _ => .e0 default
  | k_ + 1, i => (bif decide (i < (↑n : Int)) then (bif r62.v (g i.toNat) then (.e0 (i)) else (L79a.N n g k_ (IntKind.i64.wrap (i + 1)))) else (.e1))
def L79a.run (n : Nat) (g : Nat → SD) (i : Int) : L79a.O := L79a.N n g (L79a.mu n g i + 1) i
def L79a.Next (n : Nat) (g : Nat → SD) (k_ : Nat) (z_ : Int) (T_ : List AV) (h_ : AHeap) : Prop := LNextP (fun z_ => L79a.T n g z_) (fun z_ => L79a.H n g z_) (fun z_ => L79a.inv n g z_) (fun z_ => L79a.mu n g z_) (fun k_ z_ => L79a.N n g k_ z_) k_ z_ T_ h_
def L79a.End (n : Nat) (g : Nat → SD) (k_ : Nat) (z_ : Int) (e_ : Exit) (T_ : List AV) (h_ : AHeap) : Prop := LEndP (fun z_ => L79a.H n g z_) (fun k_ z_ => L79a.N n g k_ z_) L79a.E (L79a.X n g) (L79a.XH n g) k_ z_ e_ T_ h_
theorem L79a.spec (n : Nat) (g : Nat → SD) (hn : n ≤ 9223372036854775807) (k_ : Nat) (z_ : Int) (hi_ : L79a.inv n g z_) (hm_ : L79a.mu n g z_ < k_) : LoopTo Try.prog (loopN Try.f79 0) (L79a.T n g z_) (L79a.H n g z_) (L79a.E (L79a.N n g k_ z_)) (L79a.X n g (L79a.N n g k_ z_)) (L79a.XH n g (L79a.N n g k_ z_)) := by
  refine LoopTo.fuelP mix (fun z_ => L79a.T n g z_) (fun z_ => L79a.H n g z_) (fun z_ => L79a.inv n g z_) (fun z_ => L79a.mu n g z_) (fun k_ z_ => L79a.N n g k_ z_) L79a.E (L79a.X n g) (L79a.XH n g) [2, 3, 5, 6, 9, 10, 11, 12, 13, 14, 15, 16, 17, 18] [0, 1, 2, 3, 5, 6, 7, 8, 9, 10, 11, 12, 13, 14, 15, 16, 17, 18] [0, 1, 2, 3, 5, 6, 7, 8, 9, 10, 11, 12, 13, 14, 15, 16, 17, 18] ?_ k_ z_ hi_ hm_
  clear hm_ hi_ z_ k_
  intro k_ z_ hinv hmu
  revert hinv hmu; revert z_; intro i hinv hmu
  have hinv : 0 ≤ i ∧ i ≤ (↑n : Int) := hinv
  have hmu : (((↑n : Int) - i).toNat) < k_ + 1 := hmu
  cases h1 : decide (i < (↑n : Int)) with
  | true =>
    have h1p := of_decide_eq_true h1
    cases h2 : r62.v (g i.toNat) with
    | true =>
      exact ⟨[.b true, .ret (AV.bool (r62.v (g i.toNat))) ([]), .b true], kmp (by kernel_rfl) (And.intro h1 (And.intro (show (0 : Int) ≤ i ∧ i < (↑n : Int) by first | assumption | omega | (simp_all; done)) (And.intro (r62 (g i.toNat) ([])) (And.intro h2 (show L79a.End n g k_ i (Exit.ret) (L79a.X n g (.e0 (i) : L79a.O)) (L79a.XH n g (.e0 (i) : L79a.O)) from LEndP.mk (.e0 (i) : L79a.O) (by first | (simp only [L79a.N, h1, h2, cond_true, cond_false]; done) | (unfold L79a.N; try simp only [h1, cond_true, cond_false]; try simp only [h2, cond_true, cond_false]; try rfl; done)) PopOk.same)))))⟩
    | false =>
      exact ⟨[.b true, .ret (AV.bool (r62.v (g i.toNat))) ([]), .b false], kmp (by kernel_rfl) (And.intro h1 (And.intro (show (0 : Int) ≤ i ∧ i < (↑n : Int) by first | assumption | omega | (simp_all; done)) (And.intro (r62 (g i.toNat) ([])) (And.intro h2 (show L79a.Next n g k_ i (L79a.T n g (IntKind.i64.wrap (i + 1))) (L79a.H n g (IntKind.i64.wrap (i + 1))) from LNextP.mk (IntKind.i64.wrap (i + 1)) (show (0 : Int) ≤ IntKind.i64.wrap (i + (1 : Int)) ∧ IntKind.i64.wrap (i + (1 : Int)) ≤ (↑n : Int) by first | assumption | omega | (have := IntWalk.i64_in (i + 1) (by omega); omega) | (simp_all; done)) (show ((↑n : Int) - IntKind.i64.wrap (i + (1 : Int))).toNat < ((↑n : Int) - i).toNat by first | assumption | omega | (have := IntWalk.i64_in (i + 1) (by omega); omega) | (simp_all; done)) (by first | (simp only [L79a.N, h1, h2, cond_true, cond_false]; done) | (unfold L79a.N; try simp only [h1, cond_true, cond_false]; try simp only [h2, cond_true, cond_false]; try rfl; done)) PopOk.same)))))⟩
  | false =>
    have h1p := of_decide_eq_false h1
    exact ⟨[.b false], kmp (by kernel_rfl) (And.intro h1 (show L79a.End n g k_ i (Exit.exit 0) (L79a.X n g (.e1 : L79a.O)) (L79a.XH n g (.e1 : L79a.O)) from LEndP.mk (.e1 : L79a.O) (by first | (simp only [L79a.N, h1, cond_true, cond_false]; done) | (unfold L79a.N; try simp only [h1, cond_true, cond_false]; try rfl; done)) PopOk.same))⟩
theorem L79a.e0 (n : Nat) (g : Nat → SD) (hn : n ≤ 9223372036854775807) (i : Int) (hinv : L79a.inv n g i) (a0 : Int) (hN : L79a.run n g i = (.e0 a0 : L79a.O)) : LoopTo Try.prog (loopN Try.f79 0) (L79a.T n g i) (L79a.H n g i) (Exit.ret) (L79a.X n g (.e0 a0 : L79a.O)) (L79a.XH n g (.e0 a0 : L79a.O)) := by
  have h_ := L79a.spec n g hn (L79a.mu n g i + 1) i hinv (Nat.lt_succ_self _)
  unfold L79a.run at hN
  simp only [hN] at h_
  exact h_
theorem L79a.e1 (n : Nat) (g : Nat → SD) (hn : n ≤ 9223372036854775807) (i : Int) (hinv : L79a.inv n g i) (hN : L79a.run n g i = (.e1 : L79a.O)) : LoopTo Try.prog (loopN Try.f79 0) (L79a.T n g i) (L79a.H n g i) (Exit.exit 0) (L79a.X n g (.e1 : L79a.O)) (L79a.XH n g (.e1 : L79a.O)) := by
  have h_ := L79a.spec n g hn (L79a.mu n g i + 1) i hinv (Nat.lt_succ_self _)
  unfold L79a.run at hN
  simp only [hN] at h_
  exact h_

def r79a.v (n : Nat) (g : Nat → SD) : Int := (match L79a.run n g 0 with | .e0 h1d0 => h1d0 | .e1 => -1 )
theorem r79a (n : Nat) (g : Nat → SD) (hn : n ≤ 9223372036854775807) (h : AHeap) : Ret Try.prog 79 ([sts n g, AV.fn 62 []]) h (AV.int IntKind.i64 (r79a.v n g)) h := by
  cases h1 : L79a.run n g 0 with
  | e0 h1d0 =>
    exact Ret.of_run1 mix [(AV.int IntKind.i64 (r79a.v n g))] Try.func79 rfl [.loop [2, 3, 5, 6, 9, 10, 11, 12, 13, 14, 15, 16, 17, 18] (Exit.ret) (L79a.X n g (L79a.O.e0 h1d0)) (L79a.XH n g (L79a.O.e0 h1d0))] (by simp) (by simp) (kmp (by kernel_rfl) (And.intro (L79a.e0 (n) (g) (show instLENat.1 n (9223372036854775807 : Nat) by first | assumption | omega | (simp_all; done)) (0) (show (0 : Int) ≤ (0 : Int) ∧ (0 : Int) ≤ (↑n : Int) by first | assumption | omega | (simp_all; done)) h1d0 h1) (And.intro (show AV.int IntKind.i64 h1d0 = (AV.int IntKind.i64 (r79a.v n g)) by first | (simp only [r79a.v, h1, cond_true, cond_false]; done) | (unfold r79a.v; try simp only [h1, cond_true, cond_false]; try rfl; done) | rfl) trivial))) h
  | e1 =>
    exact Ret.of_run1 mix [(AV.int IntKind.i64 (r79a.v n g))] Try.func79 rfl [.loop [2, 3, 5, 6, 9, 10, 11, 12, 13, 14, 15, 16, 17, 18] (Exit.exit 0) (L79a.X n g L79a.O.e1) (L79a.XH n g L79a.O.e1)] (by simp) (by simp) (kmp (by kernel_rfl) (And.intro (L79a.e1 (n) (g) (show instLENat.1 n (9223372036854775807 : Nat) by first | assumption | omega | (simp_all; done)) (0) (show (0 : Int) ≤ (0 : Int) ∧ (0 : Int) ≤ (↑n : Int) by first | assumption | omega | (simp_all; done)) h1) (And.intro (show AV.int IntKind.i64 (-1) = (AV.int IntKind.i64 (r79a.v n g)) by first | (simp only [r79a.v, h1, cond_true, cond_false]; done) | (unfold r79a.v; try simp only [h1, cond_true, cond_false]; try rfl; done) | rfl) trivial))) h

def r73a.v (n : Nat) (g : Nat → SD) : Bool := decide (r79a.v n g ≥ 0)
theorem r73a (n : Nat) (g : Nat → SD) (hn : n ≤ 9223372036854775807) (h : AHeap) : Ret Try.prog 73 ([sts n g, AV.fn 62 []]) h (AV.bool (r73a.v n g)) h := by
  exact Ret.of_run1 mix [(AV.bool (r73a.v n g))] Try.func73 rfl [.ret (AV.int IntKind.i64 (r79a.v n g)) ([])] (by simp) (by simp) (kmp (by kernel_rfl) (And.intro (r79a (n) (g) (show n ≤ (9223372036854775807 : Nat) by first | assumption | omega | (simp_all; done)) ([])) (And.intro (show AV.bool (decide (r79a.v n g ≥ 0)) = (AV.bool (r73a.v n g)) by first | (simp only [r73a.v, cond_true, cond_false]; done) | (unfold r73a.v; try rfl; done) | rfl) trivial))) h

def r61a.v (n : Nat) (g : Nat → SD) : Bool := r73a.v n g
theorem r61a (n : Nat) (g : Nat → SD) (hn : n ≤ 9223372036854775807) (h : AHeap) : Ret Try.prog 61 ([sts n g, AV.fn 62 []]) h (AV.bool (r61a.v n g)) h := by
  exact Ret.of_run1 mix [(AV.bool (r61a.v n g))] Try.func61 rfl [.ret (AV.bool (r73a.v n g)) ([])] (by simp) (by simp) (kmp (by kernel_rfl) (And.intro (r73a (n) (g) (show n ≤ (9223372036854775807 : Nat) by first | assumption | omega | (simp_all; done)) ([])) (And.intro (show AV.bool (r73a.v n g) = (AV.bool (r61a.v n g)) by first | (simp only [r61a.v, cond_true, cond_false]; done) | (unfold r61a.v; try rfl; done) | rfl) trivial))) h

inductive L79b.O where
  | e0 (a0 : Int)
  | e1
def L79b.T (n : Nat) (g : Nat → SD) (i : Int) : List AV := [AV.sl 5 n fun (i : Nat) => AV.agg [AV.str (g i).nm, AV.int IntKind.i64 (g i).x, AV.int IntKind.i64 (g i).y, AV.sl 1 (g i).nr fun (i_1 : Nat) => AV.int IntKind.i64 ((g i).r i_1), AV.sl 1 (g i).nl fun (i_1 : Nat) => AV.int IntKind.i64 ((g i).l i_1)], AV.fn 64 [], AV.any, AV.any, AV.int IntKind.i64 0, AV.any, AV.any, AV.int IntKind.i64 (↑n : Int), AV.int IntKind.i64 i, AV.any, AV.any, AV.any, AV.any, AV.any, AV.any, AV.any, AV.any, AV.any, AV.any]
def L79b.H (n : Nat) (g : Nat → SD) (i : Int) : AHeap := []
def L79b.inv (n : Nat) (g : Nat → SD) (i : Int) : Prop := 0 ≤ i ∧ i ≤ (↑n : Int)
def L79b.mu (n : Nat) (g : Nat → SD) (i : Int) : Nat := ((↑n : Int) - i).toNat
def L79b.E : L79b.O → Exit
  | .e0 a0 => Exit.ret
  | .e1 => Exit.exit 0
def L79b.X (n : Nat) (g : Nat → SD) : L79b.O → List AV
  | .e0 a0 => [AV.any, AV.any, AV.any, AV.any, (AV.int IntKind.i64 a0), AV.any, AV.any, AV.any, AV.any, AV.any, AV.any, AV.any, AV.any, AV.any, AV.any, AV.any, AV.any, AV.any, AV.any]
  | .e1 => [AV.any, AV.any, AV.any, AV.any, (AV.int IntKind.i64 0), AV.any, AV.any, AV.any, AV.any, AV.any, AV.any, AV.any, AV.any, AV.any, AV.any, AV.any, AV.any, AV.any, AV.any]
def L79b.XH (n : Nat) (g : Nat → SD) : L79b.O → AHeap
  | .e0 a0 => ([])
  | .e1 => ([])
def L79b.N (n : Nat) (g : Nat → SD) : Nat → Int → L79b.O
  | 0, _ => .e0 default
  | k_ + 1, i => (bif decide (i < (↑n : Int)) then (bif r64.v (g i.toNat) then (.e0 (i)) else (L79b.N n g k_ (IntKind.i64.wrap (i + 1)))) else (.e1))
def L79b.run (n : Nat) (g : Nat → SD) (i : Int) : L79b.O := L79b.N n g (L79b.mu n g i + 1) i
def L79b.Next (n : Nat) (g : Nat → SD) (k_ : Nat) (z_ : Int) (T_ : List AV) (h_ : AHeap) : Prop := LNextP (fun z_ => L79b.T n g z_) (fun z_ => L79b.H n g z_) (fun z_ => L79b.inv n g z_) (fun z_ => L79b.mu n g z_) (fun k_ z_ => L79b.N n g k_ z_) k_ z_ T_ h_
def L79b.End (n : Nat) (g : Nat → SD) (k_ : Nat) (z_ : Int) (e_ : Exit) (T_ : List AV) (h_ : AHeap) : Prop := LEndP (fun z_ => L79b.H n g z_) (fun k_ z_ => L79b.N n g k_ z_) L79b.E (L79b.X n g) (L79b.XH n g) k_ z_ e_ T_ h_
theorem L79b.spec (n : Nat) (g : Nat → SD) (hn : n ≤ 9223372036854775807) (k_ : Nat) (z_ : Int) (hi_ : L79b.inv n g z_) (hm_ : L79b.mu n g z_ < k_) : LoopTo Try.prog (loopN Try.f79 0) (L79b.T n g z_) (L79b.H n g z_) (L79b.E (L79b.N n g k_ z_)) (L79b.X n g (L79b.N n g k_ z_)) (L79b.XH n g (L79b.N n g k_ z_)) := by
  refine LoopTo.fuelP mix (fun z_ => L79b.T n g z_) (fun z_ => L79b.H n g z_) (fun z_ => L79b.inv n g z_) (fun z_ => L79b.mu n g z_) (fun k_ z_ => L79b.N n g k_ z_) L79b.E (L79b.X n g) (L79b.XH n g) [2, 3, 5, 6, 9, 10, 11, 12, 13, 14, 15, 16, 17, 18] [0, 1, 2, 3, 5, 6, 7, 8, 9, 10, 11, 12, 13, 14, 15, 16, 17, 18] [0, 1, 2, 3, 5, 6, 7, 8, 9, 10, 11, 12, 13, 14, 15, 16, 17, 18] ?_ k_ z_ hi_ hm_
  clear hm_ hi_ z_ k_
  intro k_ z_ hinv hmu
  revert hinv hmu; revert z_; intro i hinv hmu
  have hinv : 0 ≤ i ∧ i ≤ (↑n : Int) := hinv
  have hmu : (((↑n : Int) - i).toNat) < k_ + 1 := hmu
  cases h1 : decide (i < (↑n : Int)) with
  | true =>
    have h1p := of_decide_eq_true h1
    cases h2 : r64.v (g i.toNat) with
    | true =>
      exact ⟨[.b true, .ret (AV.bool (r64.v (g i.toNat))) ([]), .b true], kmp (by kernel_rfl) (And.intro h1 (And.intro (show (0 : Int) ≤ i ∧ i < (↑n : Int) by first | assumption | omega | (simp_all; done)) (And.intro (r64 (g i.toNat) ([])) (And.intro h2 (show L79b.End n g k_ i (Exit.ret) (L79b.X n g (.e0 (i) : L79b.O)) (L79b.XH n g (.e0 (i) : L79b.O)) from LEndP.mk (.e0 (i) : L79b.O) (by first | (simp only [L79b.N, h1, h2, cond_true, cond_false]; done) | (unfold L79b.N; try simp only [h1, cond_true, cond_false]; try simp only [h2, cond_true, cond_false]; try rfl; done)) PopOk.same)))))⟩
    | false =>
      exact ⟨[.b true, .ret (AV.bool (r64.v (g i.toNat))) ([]), .b false], kmp (by kernel_rfl) (And.intro h1 (And.intro (show (0 : Int) ≤ i ∧ i < (↑n : Int) by first | assumption | omega | (simp_all; done)) (And.intro (r64 (g i.toNat) ([])) (And.intro h2 (show L79b.Next n g k_ i (L79b.T n g (IntKind.i64.wrap (i + 1))) (L79b.H n g (IntKind.i64.wrap (i + 1))) from LNextP.mk (IntKind.i64.wrap (i + 1)) (show (0 : Int) ≤ IntKind.i64.wrap (i + (1 : Int)) ∧ IntKind.i64.wrap (i + (1 : Int)) ≤ (↑n : Int) by first | assumption | omega | (have := IntWalk.i64_in (i + 1) (by omega); omega) | (simp_all; done)) (show ((↑n : Int) - IntKind.i64.wrap (i + (1 : Int))).toNat < ((↑n : Int) - i).toNat by first | assumption | omega | (have := IntWalk.i64_in (i + 1) (by omega); omega) | (simp_all; done)) (by first | (simp only [L79b.N, h1, h2, cond_true, cond_false]; done) | (unfold L79b.N; try simp only [h1, cond_true, cond_false]; try simp only [h2, cond_true, cond_false]; try rfl; done)) PopOk.same)))))⟩
  | false =>
    have h1p := of_decide_eq_false h1
    exact ⟨[.b false], kmp (by kernel_rfl) (And.intro h1 (show L79b.End n g k_ i (Exit.exit 0) (L79b.X n g (.e1 : L79b.O)) (L79b.XH n g (.e1 : L79b.O)) from LEndP.mk (.e1 : L79b.O) (by first | (simp only [L79b.N, h1, cond_true, cond_false]; done) | (unfold L79b.N; try simp only [h1, cond_true, cond_false]; try rfl; done)) PopOk.same))⟩
theorem L79b.e0 (n : Nat) (g : Nat → SD) (hn : n ≤ 9223372036854775807) (i : Int) (hinv : L79b.inv n g i) (a0 : Int) (hN : L79b.run n g i = (.e0 a0 : L79b.O)) : LoopTo Try.prog (loopN Try.f79 0) (L79b.T n g i) (L79b.H n g i) (Exit.ret) (L79b.X n g (.e0 a0 : L79b.O)) (L79b.XH n g (.e0 a0 : L79b.O)) := by
  have h_ := L79b.spec n g hn (L79b.mu n g i + 1) i hinv (Nat.lt_succ_self _)
  unfold L79b.run at hN
  simp only [hN] at h_
  exact h_
theorem L79b.e1 (n : Nat) (g : Nat → SD) (hn : n ≤ 9223372036854775807) (i : Int) (hinv : L79b.inv n g i) (hN : L79b.run n g i = (.e1 : L79b.O)) : LoopTo Try.prog (loopN Try.f79 0) (L79b.T n g i) (L79b.H n g i) (Exit.exit 0) (L79b.X n g (.e1 : L79b.O)) (L79b.XH n g (.e1 : L79b.O)) := by
  have h_ := L79b.spec n g hn (L79b.mu n g i + 1) i hinv (Nat.lt_succ_self _)
  unfold L79b.run at hN
  simp only [hN] at h_
  exact h_

def r79b.v (n : Nat) (g : Nat → SD) : Int := (match L79b.run n g 0 with | .e0 h1d0 => h1d0 | .e1 => -1 )
theorem r79b (n : Nat) (g : Nat → SD) (hn : n ≤ 9223372036854775807) (h : AHeap) : Ret Try.prog 79 ([sts n g, AV.fn 64 []]) h (AV.int IntKind.i64 (r79b.v n g)) h := by
  cases h1 : L79b.run n g 0 with
  | e0 h1d0 =>
    exact Ret.of_run1 mix [(AV.int IntKind.i64 (r79b.v n g))] Try.func79 rfl [.loop [2, 3, 5, 6, 9, 10, 11, 12, 13, 14, 15, 16, 17, 18] (Exit.ret) (L79b.X n g (L79b.O.e0 h1d0)) (L79b.XH n g (L79b.O.e0 h1d0))] (by simp) (by simp) (kmp (by kernel_rfl) (And.intro (L79b.e0 (n) (g) (show instLENat.1 n (9223372036854775807 : Nat) by first | assumption | omega | (simp_all; done)) (0) (show (0 : Int) ≤ (0 : Int) ∧ (0 : Int) ≤ (↑n : Int) by first | assumption | omega | (simp_all; done)) h1d0 h1) (And.intro (show AV.int IntKind.i64 h1d0 = (AV.int IntKind.i64 (r79b.v n g)) by first | (simp only [r79b.v, h1, cond_true, cond_false]; done) | (unfold r79b.v; try simp only [h1, cond_true, cond_false]; try rfl; done) | rfl) trivial))) h
  | e1 =>
    exact Ret.of_run1 mix [(AV.int IntKind.i64 (r79b.v n g))] Try.func79 rfl [.loop [2, 3, 5, 6, 9, 10, 11, 12, 13, 14, 15, 16, 17, 18] (Exit.exit 0) (L79b.X n g L79b.O.e1) (L79b.XH n g L79b.O.e1)] (by simp) (by simp) (kmp (by kernel_rfl) (And.intro (L79b.e1 (n) (g) (show instLENat.1 n (9223372036854775807 : Nat) by first | assumption | omega | (simp_all; done)) (0) (show (0 : Int) ≤ (0 : Int) ∧ (0 : Int) ≤ (↑n : Int) by first | assumption | omega | (simp_all; done)) h1) (And.intro (show AV.int IntKind.i64 (-1) = (AV.int IntKind.i64 (r79b.v n g)) by first | (simp only [r79b.v, h1, cond_true, cond_false]; done) | (unfold r79b.v; try simp only [h1, cond_true, cond_false]; try rfl; done) | rfl) trivial))) h

def r73b.v (n : Nat) (g : Nat → SD) : Bool := decide (r79b.v n g ≥ 0)
theorem r73b (n : Nat) (g : Nat → SD) (hn : n ≤ 9223372036854775807) (h : AHeap) : Ret Try.prog 73 ([sts n g, AV.fn 64 []]) h (AV.bool (r73b.v n g)) h := by
  exact Ret.of_run1 mix [(AV.bool (r73b.v n g))] Try.func73 rfl [.ret (AV.int IntKind.i64 (r79b.v n g)) ([])] (by simp) (by simp) (kmp (by kernel_rfl) (And.intro (r79b (n) (g) (show n ≤ (9223372036854775807 : Nat) by first | assumption | omega | (simp_all; done)) ([])) (And.intro (show AV.bool (decide (r79b.v n g ≥ 0)) = (AV.bool (r73b.v n g)) by first | (simp only [r73b.v, cond_true, cond_false]; done) | (unfold r73b.v; try rfl; done) | rfl) trivial))) h

def r61b.v (n : Nat) (g : Nat → SD) : Bool := r73b.v n g
theorem r61b (n : Nat) (g : Nat → SD) (hn : n ≤ 9223372036854775807) (h : AHeap) : Ret Try.prog 61 ([sts n g, AV.fn 64 []]) h (AV.bool (r61b.v n g)) h := by
  exact Ret.of_run1 mix [(AV.bool (r61b.v n g))] Try.func61 rfl [.ret (AV.bool (r73b.v n g)) ([])] (by simp) (by simp) (kmp (by kernel_rfl) (And.intro (r73b (n) (g) (show n ≤ (9223372036854775807 : Nat) by first | assumption | omega | (simp_all; done)) ([])) (And.intro (show AV.bool (r73b.v n g) = (AV.bool (r61b.v n g)) by first | (simp only [r61b.v, cond_true, cond_false]; done) | (unfold r61b.v; try rfl; done) | rfl) trivial))) h

inductive L79c.O where
  | e0 (a0 : Int)
  | e1
def L79c.T (n : Nat) (g : Nat → SD) (i : Int) : List AV := [AV.sl 5 n fun (i : Nat) => AV.agg [AV.str (g i).nm, AV.int IntKind.i64 (g i).x, AV.int IntKind.i64 (g i).y, AV.sl 1 (g i).nr fun (i_1 : Nat) => AV.int IntKind.i64 ((g i).r i_1), AV.sl 1 (g i).nl fun (i_1 : Nat) => AV.int IntKind.i64 ((g i).l i_1)], AV.fn 65 [], AV.any, AV.any, AV.int IntKind.i64 0, AV.any, AV.any, AV.int IntKind.i64 (↑n : Int), AV.int IntKind.i64 i, AV.any, AV.any, AV.any, AV.any, AV.any, AV.any, AV.any, AV.any, AV.any, AV.any]
def L79c.H (n : Nat) (g : Nat → SD) (i : Int) : AHeap := []
def L79c.inv (n : Nat) (g : Nat → SD) (i : Int) : Prop := 0 ≤ i ∧ i ≤ (↑n : Int)
def L79c.mu (n : Nat) (g : Nat → SD) (i : Int) : Nat := ((↑n : Int) - i).toNat
def L79c.E : L79c.O → Exit
  | .e0 a0 => Exit.ret
  | .e1 => Exit.exit 0
def L79c.X (n : Nat) (g : Nat → SD) : L79c.O → List AV
  | .e0 a0 => [AV.any, AV.any, AV.any, AV.any, (AV.int IntKind.i64 a0), AV.any, AV.any, AV.any, AV.any, AV.any, AV.any, AV.any, AV.any, AV.any, AV.any, AV.any, AV.any, AV.any, AV.any]
  | .e1 => [AV.any, AV.any, AV.any, AV.any, (AV.int IntKind.i64 0), AV.any, AV.any, AV.any, AV.any, AV.any, AV.any, AV.any, AV.any, AV.any, AV.any, AV.any, AV.any, AV.any, AV.any]
def L79c.XH (n : Nat) (g : Nat → SD) : L79c.O → AHeap
  | .e0 a0 => ([])
  | .e1 => ([])
def L79c.N (n : Nat) (g : Nat → SD) : Nat → Int → L79c.O
  | 0, _ => .e0 default
  | k_ + 1, i => (bif decide (i < (↑n : Int)) then (bif r65.v (g i.toNat) then (.e0 (i)) else (L79c.N n g k_ (IntKind.i64.wrap (i + 1)))) else (.e1))
def L79c.run (n : Nat) (g : Nat → SD) (i : Int) : L79c.O := L79c.N n g (L79c.mu n g i + 1) i
def L79c.Next (n : Nat) (g : Nat → SD) (k_ : Nat) (z_ : Int) (T_ : List AV) (h_ : AHeap) : Prop := LNextP (fun z_ => L79c.T n g z_) (fun z_ => L79c.H n g z_) (fun z_ => L79c.inv n g z_) (fun z_ => L79c.mu n g z_) (fun k_ z_ => L79c.N n g k_ z_) k_ z_ T_ h_
def L79c.End (n : Nat) (g : Nat → SD) (k_ : Nat) (z_ : Int) (e_ : Exit) (T_ : List AV) (h_ : AHeap) : Prop := LEndP (fun z_ => L79c.H n g z_) (fun k_ z_ => L79c.N n g k_ z_) L79c.E (L79c.X n g) (L79c.XH n g) k_ z_ e_ T_ h_
theorem L79c.spec (n : Nat) (g : Nat → SD) (hn : n ≤ 9223372036854775807) (hg : ∀ (i : Nat), i < n → (g i).nl = (g i).nr) (k_ : Nat) (z_ : Int) (hi_ : L79c.inv n g z_) (hm_ : L79c.mu n g z_ < k_) : LoopTo Try.prog (loopN Try.f79 0) (L79c.T n g z_) (L79c.H n g z_) (L79c.E (L79c.N n g k_ z_)) (L79c.X n g (L79c.N n g k_ z_)) (L79c.XH n g (L79c.N n g k_ z_)) := by
  refine LoopTo.fuelP mix (fun z_ => L79c.T n g z_) (fun z_ => L79c.H n g z_) (fun z_ => L79c.inv n g z_) (fun z_ => L79c.mu n g z_) (fun k_ z_ => L79c.N n g k_ z_) L79c.E (L79c.X n g) (L79c.XH n g) [2, 3, 5, 6, 9, 10, 11, 12, 13, 14, 15, 16, 17, 18] [0, 1, 2, 3, 5, 6, 7, 8, 9, 10, 11, 12, 13, 14, 15, 16, 17, 18] [0, 1, 2, 3, 5, 6, 7, 8, 9, 10, 11, 12, 13, 14, 15, 16, 17, 18] ?_ k_ z_ hi_ hm_
  clear hm_ hi_ z_ k_
  intro k_ z_ hinv hmu
  revert hinv hmu; revert z_; intro i hinv hmu
  have hinv : 0 ≤ i ∧ i ≤ (↑n : Int) := hinv
  have hmu : (((↑n : Int) - i).toNat) < k_ + 1 := hmu
  cases h1 : decide (i < (↑n : Int)) with
  | true =>
    have h1p := of_decide_eq_true h1
    cases h2 : r65.v (g i.toNat) with
    | true =>
      exact ⟨[.b true, .ret (AV.bool (r65.v (g i.toNat))) ([]), .b true], kmp (by kernel_rfl) (And.intro h1 (And.intro (show (0 : Int) ≤ i ∧ i < (↑n : Int) by first | assumption | omega | (exact hg _) | (exact hg _ (by omega)) | (simp_all; done)) (And.intro (r65 (g i.toNat) (show (g i.toNat).nl = (g i.toNat).nr by first | assumption | omega | (exact hg _) | (exact hg _ (by omega)) | (simp_all; done)) ([])) (And.intro h2 (show L79c.End n g k_ i (Exit.ret) (L79c.X n g (.e0 (i) : L79c.O)) (L79c.XH n g (.e0 (i) : L79c.O)) from LEndP.mk (.e0 (i) : L79c.O) (by first | (simp only [L79c.N, h1, h2, cond_true, cond_false]; done) | (unfold L79c.N; try simp only [h1, cond_true, cond_false]; try simp only [h2, cond_true, cond_false]; try rfl; done)) PopOk.same)))))⟩
    | false =>
      exact ⟨[.b true, .ret (AV.bool (r65.v (g i.toNat))) ([]), .b false], kmp (by kernel_rfl) (And.intro h1 (And.intro (show (0 : Int) ≤ i ∧ i < (↑n : Int) by first | assumption | omega | (exact hg _) | (exact hg _ (by omega)) | (simp_all; done)) (And.intro (r65 (g i.toNat) (show (g i.toNat).nl = (g i.toNat).nr by first | assumption | omega | (exact hg _) | (exact hg _ (by omega)) | (simp_all; done)) ([])) (And.intro h2 (show L79c.Next n g k_ i (L79c.T n g (IntKind.i64.wrap (i + 1))) (L79c.H n g (IntKind.i64.wrap (i + 1))) from LNextP.mk (IntKind.i64.wrap (i + 1)) (show (0 : Int) ≤ IntKind.i64.wrap (i + (1 : Int)) ∧ IntKind.i64.wrap (i + (1 : Int)) ≤ (↑n : Int) by first | assumption | omega | (have := IntWalk.i64_in (i + 1) (by omega); omega) | (exact hg _) | (exact hg _ (by omega)) | (simp_all; done)) (show ((↑n : Int) - IntKind.i64.wrap (i + (1 : Int))).toNat < ((↑n : Int) - i).toNat by first | assumption | omega | (have := IntWalk.i64_in (i + 1) (by omega); omega) | (exact hg _) | (exact hg _ (by omega)) | (simp_all; done)) (by first | (simp only [L79c.N, h1, h2, cond_true, cond_false]; done) | (unfold L79c.N; try simp only [h1, cond_true, cond_false]; try simp only [h2, cond_true, cond_false]; try rfl; done)) PopOk.same)))))⟩
  | false =>
    have h1p := of_decide_eq_false h1
    exact ⟨[.b false], kmp (by kernel_rfl) (And.intro h1 (show L79c.End n g k_ i (Exit.exit 0) (L79c.X n g (.e1 : L79c.O)) (L79c.XH n g (.e1 : L79c.O)) from LEndP.mk (.e1 : L79c.O) (by first | (simp only [L79c.N, h1, cond_true, cond_false]; done) | (unfold L79c.N; try simp only [h1, cond_true, cond_false]; try rfl; done)) PopOk.same))⟩
theorem L79c.e0 (n : Nat) (g : Nat → SD) (hn : n ≤ 9223372036854775807) (hg : ∀ (i : Nat), i < n → (g i).nl = (g i).nr) (i : Int) (hinv : L79c.inv n g i) (a0 : Int) (hN : L79c.run n g i = (.e0 a0 : L79c.O)) : LoopTo Try.prog (loopN Try.f79 0) (L79c.T n g i) (L79c.H n g i) (Exit.ret) (L79c.X n g (.e0 a0 : L79c.O)) (L79c.XH n g (.e0 a0 : L79c.O)) := by
  have h_ := L79c.spec n g hn hg (L79c.mu n g i + 1) i hinv (Nat.lt_succ_self _)
  unfold L79c.run at hN
  simp only [hN] at h_
  exact h_
theorem L79c.e1 (n : Nat) (g : Nat → SD) (hn : n ≤ 9223372036854775807) (hg : ∀ (i : Nat), i < n → (g i).nl = (g i).nr) (i : Int) (hinv : L79c.inv n g i) (hN : L79c.run n g i = (.e1 : L79c.O)) : LoopTo Try.prog (loopN Try.f79 0) (L79c.T n g i) (L79c.H n g i) (Exit.exit 0) (L79c.X n g (.e1 : L79c.O)) (L79c.XH n g (.e1 : L79c.O)) := by
  have h_ := L79c.spec n g hn hg (L79c.mu n g i + 1) i hinv (Nat.lt_succ_self _)
  unfold L79c.run at hN
  simp only [hN] at h_
  exact h_

def r79c.v (n : Nat) (g : Nat → SD) : Int := (match L79c.run n g 0 with | .e0 h1d0 => h1d0 | .e1 => -1 )
theorem r79c (n : Nat) (g : Nat → SD) (hn : n ≤ 9223372036854775807) (hg : ∀ (i : Nat), i < n → (g i).nl = (g i).nr) (h : AHeap) : Ret Try.prog 79 ([sts n g, AV.fn 65 []]) h (AV.int IntKind.i64 (r79c.v n g)) h := by
  cases h1 : L79c.run n g 0 with
  | e0 h1d0 =>
    exact Ret.of_run1 mix [(AV.int IntKind.i64 (r79c.v n g))] Try.func79 rfl [.loop [2, 3, 5, 6, 9, 10, 11, 12, 13, 14, 15, 16, 17, 18] (Exit.ret) (L79c.X n g (L79c.O.e0 h1d0)) (L79c.XH n g (L79c.O.e0 h1d0))] (by simp) (by simp) (kmp (by kernel_rfl) (And.intro (L79c.e0 (n) (g) (show instLENat.1 n (9223372036854775807 : Nat) by first | assumption | omega | (exact hg _) | (exact hg _ (by omega)) | (simp_all; done)) (show ∀ (i : Nat), i < n → (g i).nl = (g i).nr by first | assumption | omega | (exact hg _) | (exact hg _ (by omega)) | (simp_all; done)) (0) (show (0 : Int) ≤ (0 : Int) ∧ (0 : Int) ≤ (↑n : Int) by first | assumption | omega | (exact hg _) | (exact hg _ (by omega)) | (simp_all; done)) h1d0 h1) (And.intro (show AV.int IntKind.i64 h1d0 = (AV.int IntKind.i64 (r79c.v n g)) by first | (simp only [r79c.v, h1, cond_true, cond_false]; done) | (unfold r79c.v; try simp only [h1, cond_true, cond_false]; try rfl; done) | rfl) trivial))) h
  | e1 =>
    exact Ret.of_run1 mix [(AV.int IntKind.i64 (r79c.v n g))] Try.func79 rfl [.loop [2, 3, 5, 6, 9, 10, 11, 12, 13, 14, 15, 16, 17, 18] (Exit.exit 0) (L79c.X n g L79c.O.e1) (L79c.XH n g L79c.O.e1)] (by simp) (by simp) (kmp (by kernel_rfl) (And.intro (L79c.e1 (n) (g) (show instLENat.1 n (9223372036854775807 : Nat) by first | assumption | omega | (exact hg _) | (exact hg _ (by omega)) | (simp_all; done)) (show ∀ (i : Nat), i < n → (g i).nl = (g i).nr by first | assumption | omega | (exact hg _) | (exact hg _ (by omega)) | (simp_all; done)) (0) (show (0 : Int) ≤ (0 : Int) ∧ (0 : Int) ≤ (↑n : Int) by first | assumption | omega | (exact hg _) | (exact hg _ (by omega)) | (simp_all; done)) h1) (And.intro (show AV.int IntKind.i64 (-1) = (AV.int IntKind.i64 (r79c.v n g)) by first | (simp only [r79c.v, h1, cond_true, cond_false]; done) | (unfold r79c.v; try simp only [h1, cond_true, cond_false]; try rfl; done) | rfl) trivial))) h

def r73c.v (n : Nat) (g : Nat → SD) : Bool := decide (r79c.v n g ≥ 0)
theorem r73c (n : Nat) (g : Nat → SD) (hn : n ≤ 9223372036854775807) (hg : ∀ (i : Nat), i < n → (g i).nl = (g i).nr) (h : AHeap) : Ret Try.prog 73 ([sts n g, AV.fn 65 []]) h (AV.bool (r73c.v n g)) h := by
  exact Ret.of_run1 mix [(AV.bool (r73c.v n g))] Try.func73 rfl [.ret (AV.int IntKind.i64 (r79c.v n g)) ([])] (by simp) (by simp) (kmp (by kernel_rfl) (And.intro (r79c (n) (g) (show n ≤ (9223372036854775807 : Nat) by first | assumption | omega | (exact hg _) | (exact hg _ (by omega)) | (simp_all; done)) (show ∀ (i : Nat), i < n → (g i).nl = (g i).nr by first | assumption | omega | (exact hg _) | (exact hg _ (by omega)) | (simp_all; done)) ([])) (And.intro (show AV.bool (decide (r79c.v n g ≥ 0)) = (AV.bool (r73c.v n g)) by first | (simp only [r73c.v, cond_true, cond_false]; done) | (unfold r73c.v; try rfl; done) | rfl) trivial))) h

def r61c.v (n : Nat) (g : Nat → SD) : Bool := r73c.v n g
theorem r61c (n : Nat) (g : Nat → SD) (hn : n ≤ 9223372036854775807) (hg : ∀ (i : Nat), i < n → (g i).nl = (g i).nr) (h : AHeap) : Ret Try.prog 61 ([sts n g, AV.fn 65 []]) h (AV.bool (r61c.v n g)) h := by
  exact Ret.of_run1 mix [(AV.bool (r61c.v n g))] Try.func61 rfl [.ret (AV.bool (r73c.v n g)) ([])] (by simp) (by simp) (kmp (by kernel_rfl) (And.intro (r73c (n) (g) (show n ≤ (9223372036854775807 : Nat) by first | assumption | omega | (exact hg _) | (exact hg _ (by omega)) | (simp_all; done)) (show ∀ (i : Nat), i < n → (g i).nl = (g i).nr by first | assumption | omega | (exact hg _) | (exact hg _ (by omega)) | (simp_all; done)) ([])) (And.intro (show AV.bool (r73c.v n g) = (AV.bool (r61c.v n g)) by first | (simp only [r61c.v, cond_true, cond_false]; done) | (unfold r61c.v; try rfl; done) | rfl) trivial))) h

end Go.Proofs.Ytgmppoappaolkaa
