/- stands. Conditions: none. -/
import Derived.Test.YtgmppoappaolkaaD11
open Go
namespace Go.Proofs.Ytgmppoappaolkaa
set_option linter.unusedSimpArgs false
set_option linter.unusedVariables false
set_option maxHeartbeats 0
set_option maxRecDepth 100000

/-- A stand. -/
structure SD where
  nm : ByteArray
  x : Int
  y : Int
  nr : Nat
  r : Nat → Int
  nl : Nat
  l : Nat → Int
  hnm : nm.size ≤ 9223372036854775807
  hnr : nr ≤ 9223372036854775807
  hnl : nl ≤ 9223372036854775807
instance : Inhabited SD := ⟨⟨ByteArray.empty, 0, 0, 0, fun _ => 0, 0, fun _ => 0, by decide, by decide, by decide⟩⟩
@[simp] theorem SD.hnm' (s : SD) : (s.nm.size ≤ 9223372036854775807) = True := eq_true s.hnm
@[simp] theorem SD.hnr' (s : SD) : (s.nr ≤ 9223372036854775807) = True := eq_true s.hnr
@[simp] theorem SD.hnl' (s : SD) : (s.nl ≤ 9223372036854775807) = True := eq_true s.hnl
def SD.av (s : SD) : AV := .agg [.str s.nm, .int .i64 s.x, .int .i64 s.y, .sl 1 s.nr (fun i => .int .i64 (s.r i)), .sl 1 s.nl (fun i => .int .i64 (s.l i))]
def sts (n : Nat) (g : Nat → SD) : AV := .sl 5 n (fun i => (g i).av)
@[simp] theorem low_sd (lo : Nat) (s : SD) : Low lo s.av = True := by unfold SD.av; simp
@[simp] theorem low_sts (lo n : Nat) (g : Nat → SD) : Low lo (sts n g) = True := by unfold sts; simp

inductive L19.O where
  | e0
  | e1
def L19.T (n : Nat) (g : Nat → SD) (i : Int) : List AV := [AV.sl 5 n fun (i : Nat) => AV.agg [AV.str (g i).nm, AV.int IntKind.i64 (g i).x, AV.int IntKind.i64 (g i).y, AV.sl 1 (g i).nr fun (i_1 : Nat) => AV.int IntKind.i64 ((g i).r i_1), AV.sl 1 (g i).nl fun (i_1 : Nat) => AV.int IntKind.i64 ((g i).l i_1)], AV.any, AV.any, AV.any, AV.any, AV.int IntKind.i64 i, AV.any, AV.any, AV.any, AV.any, AV.any, AV.any, AV.any, AV.any, AV.any, AV.any, AV.any, AV.any, AV.any, AV.any, AV.any, AV.any, AV.any, AV.any, AV.any, AV.any, AV.any, AV.any, AV.any, AV.any, AV.any, AV.any, AV.any, AV.any, AV.any, AV.any, AV.any, AV.any, AV.any, AV.any, AV.any]
def L19.H (n : Nat) (g : Nat → SD) (i : Int) : AHeap := []
def L19.inv (n : Nat) (g : Nat → SD) (i : Int) : Prop := 0 ≤ i ∧ i ≤ (↑n : Int)
def L19.mu (n : Nat) (g : Nat → SD) (i : Int) : Nat := ((↑n : Int) - i).toNat
def L19.E : L19.O → Exit
  | .e0 => Exit.ret
  | .e1 => Exit.exit 0
def L19.X (n : Nat) (g : Nat → SD) : L19.O → List AV
  | .e0 => [AV.any, AV.any, AV.any, AV.any, (AV.bool false), AV.any, AV.any, AV.any, AV.any, AV.any, AV.any, AV.any, AV.any, AV.any, AV.any, AV.any, AV.any, AV.any, AV.any, AV.any, AV.any, AV.any, AV.any, AV.any, AV.any, AV.any, AV.any, AV.any, AV.any, AV.any, AV.any, AV.any, AV.any, AV.any, AV.any, AV.any, AV.any, AV.any, AV.any, AV.any, AV.any]
  | .e1 => [AV.any, AV.any, AV.any, AV.any, (AV.any), AV.any, AV.any, AV.any, AV.any, AV.any, AV.any, AV.any, AV.any, AV.any, AV.any, AV.any, AV.any, AV.any, AV.any, AV.any, AV.any, AV.any, AV.any, AV.any, AV.any, AV.any, AV.any, AV.any, AV.any, AV.any, AV.any, AV.any, AV.any, AV.any, AV.any, AV.any, AV.any, AV.any, AV.any, AV.any, AV.any]
def L19.XH (n : Nat) (g : Nat → SD) : L19.O → AHeap
  | .e0 => ([])
  | .e1 => ([])
def L19.N (n : Nat) (g : Nat → SD) : Nat → Int → L19.O
  | 0, _ => .e0
  | k_ + 1, i => (bif decide (i < (↑n : Int)) then (bif decide ((↑(g i.toNat).nr : Int) > 20) then (.e0) else (bif decide ((↑(g i.toNat).nl : Int) > 20) then (.e0) else (bif decide ((↑(g i.toNat).nm.size : Int) > 60) then (.e0) else (L19.N n g k_ (IntKind.i64.wrap (i + 1)))))) else (.e1))
def L19.run (n : Nat) (g : Nat → SD) (i : Int) : L19.O := L19.N n g (L19.mu n g i + 1) i
def L19.Next (n : Nat) (g : Nat → SD) (k_ : Nat) (z_ : Int) (T_ : List AV) (h_ : AHeap) : Prop := LNextP (fun z_ => L19.T n g z_) (fun z_ => L19.H n g z_) (fun z_ => L19.inv n g z_) (fun z_ => L19.mu n g z_) (fun k_ z_ => L19.N n g k_ z_) k_ z_ T_ h_
def L19.End (n : Nat) (g : Nat → SD) (k_ : Nat) (z_ : Int) (e_ : Exit) (T_ : List AV) (h_ : AHeap) : Prop := LEndP (fun z_ => L19.H n g z_) (fun k_ z_ => L19.N n g k_ z_) L19.E (L19.X n g) (L19.XH n g) k_ z_ e_ T_ h_
theorem L19.spec (n : Nat) (g : Nat → SD) (hn : n ≤ 9223372036854775807) (k_ : Nat) (z_ : Int) (hi_ : L19.inv n g z_) (hm_ : L19.mu n g z_ < k_) : LoopTo Try.prog (loopN Try.f19 0) (L19.T n g z_) (L19.H n g z_) (L19.E (L19.N n g k_ z_)) (L19.X n g (L19.N n g k_ z_)) (L19.XH n g (L19.N n g k_ z_)) := by
  refine LoopTo.fuelP mix (fun z_ => L19.T n g z_) (fun z_ => L19.H n g z_) (fun z_ => L19.inv n g z_) (fun z_ => L19.mu n g z_) (fun k_ z_ => L19.N n g k_ z_) L19.E (L19.X n g) (L19.XH n g) [1, 2, 3, 4, 6, 7, 8, 9, 10, 11, 12, 13, 14, 15, 16, 17, 18, 19, 20, 21, 22, 23, 24, 25, 26, 27, 28, 29, 30, 31, 32, 33, 34, 35, 36, 37, 38, 39, 40] [0, 1, 2, 3, 5, 6, 7, 8, 9, 10, 11, 12, 13, 14, 15, 16, 17, 18, 19, 20, 21, 22, 23, 24, 25, 26, 27, 28, 29, 30, 31, 32, 33, 34, 35, 36, 37, 38, 39, 40] [0, 1, 2, 3, 5, 6, 7, 8, 9, 10, 11, 12, 13, 14, 15, 16, 17, 18, 19, 20, 21, 22, 23, 24, 25, 26, 27, 28, 29, 30, 31, 32, 33, 34, 35, 36, 37, 38, 39, 40] ?_ k_ z_ hi_ hm_
  clear hm_ hi_ z_ k_
  intro k_ z_ hinv hmu
  revert hinv hmu; revert z_; intro i hinv hmu
  have hinv : 0 ≤ i ∧ i ≤ (↑n : Int) := hinv
  have hmu : (((↑n : Int) - i).toNat) < k_ + 1 := hmu
  cases h1 : decide (i < (↑n : Int)) with
  | true =>
    have h1p := of_decide_eq_true h1
    cases h2 : decide ((↑(g i.toNat).nr : Int) > 20) with
    | true =>
      have h2p := of_decide_eq_true h2
      exact ⟨[.b true, .b true, .b true, .b true, .b true, .b true, .b true, .b true, .b true, .b true, .b true, .b true, .b true, .b true, .b true, .b true, .b true, .b true], kmp (by kernel_rfl) (And.intro h1 (And.intro (show (0 : Int) ≤ i ∧ i < (↑n : Int) by first | assumption | omega | (simp_all; done)) (And.intro h2 (And.intro h2 (And.intro h2 (And.intro h2 (And.intro h2 (And.intro h2 (And.intro h2 (And.intro h2 (And.intro (rfl : true = true) (And.intro (rfl : true = true) (And.intro (rfl : true = true) (And.intro (rfl : true = true) (And.intro (rfl : true = true) (And.intro (rfl : true = true) (And.intro (rfl : true = true) (And.intro (rfl : true = true) (And.intro (rfl : true = true) (show L19.End n g k_ i (Exit.ret) (L19.X n g (.e0 : L19.O)) (L19.XH n g (.e0 : L19.O)) from LEndP.mk (.e0 : L19.O) (by first | (simp only [L19.N, h1, h2, cond_true, cond_false]; done) | (unfold L19.N; try simp only [h1, cond_true, cond_false]; try simp only [h2, cond_true, cond_false]; try rfl; done)) PopOk.same))))))))))))))))))))⟩
    | false =>
      have h2p := of_decide_eq_false h2
      cases h3 : decide ((↑(g i.toNat).nl : Int) > 20) with
      | true =>
        have h3p := of_decide_eq_true h3
        exact ⟨[.b true, .b false, .b false, .b false, .b false, .b false, .b false, .b false, .b false, .b true, .b true, .b true, .b true, .b true, .b true, .b true, .b true, .b true], kmp (by kernel_rfl) (And.intro h1 (And.intro (show (0 : Int) ≤ i ∧ i < (↑n : Int) by first | assumption | omega | (simp_all; done)) (And.intro h2 (And.intro h2 (And.intro h2 (And.intro (show (0 : Int) ≤ i ∧ i < (↑n : Int) by first | assumption | omega | (simp_all; done)) (And.intro h2 (And.intro h2 (And.intro h2 (And.intro h2 (And.intro h2 (And.intro h3 (And.intro h3 (And.intro h3 (And.intro h3 (And.intro h3 (And.intro h3 (And.intro h3 (And.intro h3 (And.intro (rfl : true = true) (show L19.End n g k_ i (Exit.ret) (L19.X n g (.e0 : L19.O)) (L19.XH n g (.e0 : L19.O)) from LEndP.mk (.e0 : L19.O) (by first | (simp only [L19.N, h1, h2, h3, cond_true, cond_false]; done) | (unfold L19.N; try simp only [h1, cond_true, cond_false]; try simp only [h2, cond_true, cond_false]; try simp only [h3, cond_true, cond_false]; try rfl; done)) PopOk.same)))))))))))))))))))))⟩
      | false =>
        have h3p := of_decide_eq_false h3
        cases h4 : decide ((↑(g i.toNat).nm.size : Int) > 60) with
        | true =>
          have h4p := of_decide_eq_true h4
          exact ⟨[.b true, .b false, .b false, .b false, .b false, .b false, .b false, .b false, .b false, .b false, .b false, .b false, .b false, .b false, .b false, .b false, .b false, .b true], kmp (by kernel_rfl) (And.intro h1 (And.intro (show (0 : Int) ≤ i ∧ i < (↑n : Int) by first | assumption | omega | (simp_all; done)) (And.intro h2 (And.intro h2 (And.intro h2 (And.intro (show (0 : Int) ≤ i ∧ i < (↑n : Int) by first | assumption | omega | (simp_all; done)) (And.intro h2 (And.intro h2 (And.intro h2 (And.intro h2 (And.intro h2 (And.intro h3 (And.intro h3 (And.intro h3 (And.intro (show (0 : Int) ≤ i ∧ i < (↑n : Int) by first | assumption | omega | (simp_all; done)) (And.intro h3 (And.intro h3 (And.intro h3 (And.intro h3 (And.intro h3 (And.intro h4 (show L19.End n g k_ i (Exit.ret) (L19.X n g (.e0 : L19.O)) (L19.XH n g (.e0 : L19.O)) from LEndP.mk (.e0 : L19.O) (by first | (simp only [L19.N, h1, h2, h3, h4, cond_true, cond_false]; done) | (unfold L19.N; try simp only [h1, cond_true, cond_false]; try simp only [h2, cond_true, cond_false]; try simp only [h3, cond_true, cond_false]; try simp only [h4, cond_true, cond_false]; try rfl; done)) PopOk.same))))))))))))))))))))))⟩
        | false =>
          have h4p := of_decide_eq_false h4
          exact ⟨[.b true, .b false, .b false, .b false, .b false, .b false, .b false, .b false, .b false, .b false, .b false, .b false, .b false, .b false, .b false, .b false, .b false, .b false], kmp (by kernel_rfl) (And.intro h1 (And.intro (show (0 : Int) ≤ i ∧ i < (↑n : Int) by first | assumption | omega | (simp_all; done)) (And.intro h2 (And.intro h2 (And.intro h2 (And.intro (show (0 : Int) ≤ i ∧ i < (↑n : Int) by first | assumption | omega | (simp_all; done)) (And.intro h2 (And.intro h2 (And.intro h2 (And.intro h2 (And.intro h2 (And.intro h3 (And.intro h3 (And.intro h3 (And.intro (show (0 : Int) ≤ i ∧ i < (↑n : Int) by first | assumption | omega | (simp_all; done)) (And.intro h3 (And.intro h3 (And.intro h3 (And.intro h3 (And.intro h3 (And.intro h4 (show L19.Next n g k_ i (L19.T n g (IntKind.i64.wrap (i + 1))) (L19.H n g (IntKind.i64.wrap (i + 1))) from LNextP.mk (IntKind.i64.wrap (i + 1)) (show (0 : Int) ≤ IntKind.i64.wrap (i + (1 : Int)) ∧ IntKind.i64.wrap (i + (1 : Int)) ≤ (↑n : Int) by first | assumption | omega | (have := IntWalk.i64_in (i + 1) (by omega); omega) | (simp_all; done)) (show ((↑n : Int) - IntKind.i64.wrap (i + (1 : Int))).toNat < ((↑n : Int) - i).toNat by first | assumption | omega | (have := IntWalk.i64_in (i + 1) (by omega); omega) | (simp_all; done)) (by first | (simp only [L19.N, h1, h2, h3, h4, cond_true, cond_false]; done) | (unfold L19.N; try simp only [h1, cond_true, cond_false]; try simp only [h2, cond_true, cond_false]; try simp only [h3, cond_true, cond_false]; try simp only [h4, cond_true, cond_false]; try rfl; done)) PopOk.same))))))))))))))))))))))⟩
  | false =>
    have h1p := of_decide_eq_false h1
    exact ⟨[.b false], kmp (by kernel_rfl) (And.intro h1 (show L19.End n g k_ i (Exit.exit 0) (L19.X n g (.e1 : L19.O)) (L19.XH n g (.e1 : L19.O)) from LEndP.mk (.e1 : L19.O) (by first | (simp only [L19.N, h1, cond_true, cond_false]; done) | (unfold L19.N; try simp only [h1, cond_true, cond_false]; try rfl; done)) PopOk.same))⟩
theorem L19.e0 (n : Nat) (g : Nat → SD) (hn : n ≤ 9223372036854775807) (i : Int) (hinv : L19.inv n g i) (hN : L19.run n g i = (.e0 : L19.O)) : LoopTo Try.prog (loopN Try.f19 0) (L19.T n g i) (L19.H n g i) (Exit.ret) (L19.X n g (.e0 : L19.O)) (L19.XH n g (.e0 : L19.O)) := by
  have h_ := L19.spec n g hn (L19.mu n g i + 1) i hinv (Nat.lt_succ_self _)
  unfold L19.run at hN
  simp only [hN] at h_
  exact h_
theorem L19.e1 (n : Nat) (g : Nat → SD) (hn : n ≤ 9223372036854775807) (i : Int) (hinv : L19.inv n g i) (hN : L19.run n g i = (.e1 : L19.O)) : LoopTo Try.prog (loopN Try.f19 0) (L19.T n g i) (L19.H n g i) (Exit.exit 0) (L19.X n g (.e1 : L19.O)) (L19.XH n g (.e1 : L19.O)) := by
  have h_ := L19.spec n g hn (L19.mu n g i + 1) i hinv (Nat.lt_succ_self _)
  unfold L19.run at hN
  simp only [hN] at h_
  exact h_

def r19.v (n : Nat) (g : Nat → SD) (m : Int) : Bool := (bif decide ((↑n : Int) > m) then false else (match L19.run n g 0 with | .e0 => false | .e1 => true ))
theorem r19 (n : Nat) (g : Nat → SD) (m : Int) (hn : n ≤ 9223372036854775807) (h : AHeap) : Ret Try.prog 19 ([sts n g, AV.int IntKind.i64 m]) h (AV.bool (r19.v n g m)) h := by
  cases h1 : decide ((↑n : Int) > m) with
  | true =>
    have h1p := of_decide_eq_true h1
    exact Ret.of_run1 mix [(AV.bool (r19.v n g m))] Try.func19 rfl [.b true] (by simp) (by simp) (kmp (by kernel_rfl) (And.intro h1 (And.intro (show AV.bool false = (AV.bool (r19.v n g m)) by first | (simp only [r19.v, h1, cond_true, cond_false]; done) | (unfold r19.v; try simp only [h1, cond_true, cond_false]; try rfl; done) | rfl) trivial))) h
  | false =>
    have h1p := of_decide_eq_false h1
    cases h2 : L19.run n g 0 with
    | e0 =>
      exact Ret.of_run1 mix [(AV.bool (r19.v n g m))] Try.func19 rfl [.b false, .loop [1, 2, 3, 4, 6, 7, 8, 9, 10, 11, 12, 13, 14, 15, 16, 17, 18, 19, 20, 21, 22, 23, 24, 25, 26, 27, 28, 29, 30, 31, 32, 33, 34, 35, 36, 37, 38, 39, 40] (Exit.ret) (L19.X n g L19.O.e0) (L19.XH n g L19.O.e0)] (by simp) (by simp) (kmp (by kernel_rfl) (And.intro h1 (And.intro (L19.e0 (n) (g) (show instLENat.1 n (9223372036854775807 : Nat) by first | assumption | omega | (simp_all; done)) (0) (show (0 : Int) ≤ (0 : Int) ∧ (0 : Int) ≤ (↑n : Int) by first | assumption | omega | (simp_all; done)) h2) (And.intro (show AV.bool false = (AV.bool (r19.v n g m)) by first | (simp only [r19.v, h1, h2, cond_true, cond_false]; done) | (unfold r19.v; try simp only [h1, cond_true, cond_false]; try simp only [h2, cond_true, cond_false]; try rfl; done) | rfl) trivial)))) h
    | e1 =>
      exact Ret.of_run1 mix [(AV.bool (r19.v n g m))] Try.func19 rfl [.b false, .loop [1, 2, 3, 4, 6, 7, 8, 9, 10, 11, 12, 13, 14, 15, 16, 17, 18, 19, 20, 21, 22, 23, 24, 25, 26, 27, 28, 29, 30, 31, 32, 33, 34, 35, 36, 37, 38, 39, 40] (Exit.exit 0) (L19.X n g L19.O.e1) (L19.XH n g L19.O.e1)] (by simp) (by simp) (kmp (by kernel_rfl) (And.intro h1 (And.intro (L19.e1 (n) (g) (show instLENat.1 n (9223372036854775807 : Nat) by first | assumption | omega | (simp_all; done)) (0) (show (0 : Int) ≤ (0 : Int) ∧ (0 : Int) ≤ (↑n : Int) by first | assumption | omega | (simp_all; done)) h2) (And.intro (show AV.bool true = (AV.bool (r19.v n g m)) by first | (simp only [r19.v, h1, h2, cond_true, cond_false]; done) | (unfold r19.v; try simp only [h1, cond_true, cond_false]; try simp only [h2, cond_true, cond_false]; try rfl; done) | rfl) trivial)))) h

def r62.v (s : SD) : Bool := bnot (r63.v s.nm)
theorem r62 (s : SD) (h : AHeap) : Ret Try.prog 62 ([s.av]) h (AV.bool (r62.v s)) h := by
  exact Ret.of_run1 mix [(AV.bool (r62.v s))] Try.func62 rfl [.ret (AV.bool (r63.v s.nm)) ([AObj.var (AV.agg [AV.str s.nm, AV.int IntKind.i64 s.x, AV.int IntKind.i64 s.y, AV.sl 1 s.nr fun (i : Nat) => AV.int IntKind.i64 (s.r i), AV.sl 1 s.nl fun (i : Nat) => AV.int IntKind.i64 (s.l i)])])] (by simp) (by simp) (kmp (by kernel_rfl) (And.intro (r63 (s.nm) (show s.nm.size ≤ (9223372036854775807 : Nat) by first | assumption | omega | (simp_all; done)) ([AObj.var (AV.agg [AV.str s.nm, AV.int IntKind.i64 s.x, AV.int IntKind.i64 s.y, AV.sl 1 s.nr fun (i : Nat) => AV.int IntKind.i64 (s.r i), AV.sl 1 s.nl fun (i : Nat) => AV.int IntKind.i64 (s.l i)])])) (And.intro (show AV.bool (bnot (r63.v s.nm)) = (AV.bool (r62.v s)) by first | (simp only [r62.v, cond_true, cond_false]; done) | (unfold r62.v; try rfl; done) | rfl) trivial))) h

def r64.v (s : SD) : Bool := (bif decide ((↑s.nr : Int) < 1) then true else (bif decide ((↑s.nr : Int) > 16) then true else (↑s.nl : Int) != (↑s.nr : Int)))
theorem r64 (s : SD) (h : AHeap) : Ret Try.prog 64 ([s.av]) h (AV.bool (r64.v s)) h := by
  cases h1 : decide ((↑s.nr : Int) < 1) with
  | true =>
    have h1p := of_decide_eq_true h1
    exact Ret.of_run1 mix [(AV.bool (r64.v s))] Try.func64 rfl [.b true, .b true, .b true, .b true, .b true, .b true, .b true, .b true, .b true, .b true, .b true, .b true, .b true] (by simp) (by simp) (kmp (by kernel_rfl) (And.intro h1 (And.intro h1 (And.intro h1 (And.intro h1 (And.intro h1 (And.intro (rfl : true = true) (And.intro (rfl : true = true) (And.intro (rfl : true = true) (And.intro (rfl : true = true) (And.intro (rfl : true = true) (And.intro (rfl : true = true) (And.intro (rfl : true = true) (And.intro (rfl : true = true) (And.intro (show AV.bool true = (AV.bool (r64.v s)) by first | (simp only [r64.v, h1, cond_true, cond_false]; done) | (unfold r64.v; try simp only [h1, cond_true, cond_false]; try rfl; done) | rfl) trivial))))))))))))))) h
  | false =>
    have h1p := of_decide_eq_false h1
    cases h2 : decide ((↑s.nr : Int) > 16) with
    | true =>
      have h2p := of_decide_eq_true h2
      exact Ret.of_run1 mix [(AV.bool (r64.v s))] Try.func64 rfl [.b false, .b false, .b false, .b false, .b false, .b true, .b true, .b true, .b true, .b true, .b true, .b true, .b true] (by simp) (by simp) (kmp (by kernel_rfl) (And.intro h1 (And.intro h1 (And.intro h1 (And.intro h1 (And.intro h1 (And.intro h2 (And.intro h2 (And.intro h2 (And.intro h2 (And.intro h2 (And.intro h2 (And.intro h2 (And.intro h2 (And.intro (show AV.bool true = (AV.bool (r64.v s)) by first | (simp only [r64.v, h1, h2, cond_true, cond_false]; done) | (unfold r64.v; try simp only [h1, cond_true, cond_false]; try simp only [h2, cond_true, cond_false]; try rfl; done) | rfl) trivial))))))))))))))) h
    | false =>
      have h2p := of_decide_eq_false h2
      exact Ret.of_run1 mix [(AV.bool (r64.v s))] Try.func64 rfl [.b false, .b false, .b false, .b false, .b false, .b false, .b false, .b false, .b false, .b false, .b false, .b false, .b false] (by simp) (by simp) (kmp (by kernel_rfl) (And.intro h1 (And.intro h1 (And.intro h1 (And.intro h1 (And.intro h1 (And.intro h2 (And.intro h2 (And.intro h2 (And.intro h2 (And.intro h2 (And.intro h2 (And.intro h2 (And.intro h2 (And.intro (show AV.bool ((↑s.nl : Int) != (↑s.nr : Int)) = (AV.bool (r64.v s)) by first | (simp only [r64.v, h1, h2, cond_true, cond_false]; done) | (unfold r64.v; try simp only [h1, cond_true, cond_false]; try simp only [h2, cond_true, cond_false]; try rfl; done) | rfl) trivial))))))))))))))) h

inductive L65.O where
  | e0
  | e1
def L65.T (s : SD) (i : Int) : List AV := [AV.any, AV.ptr 0 1 5 0 0, AV.bool false, AV.any, AV.any, AV.any, AV.any, AV.any, AV.any, AV.any, AV.any, AV.any, AV.any, AV.any, AV.any, AV.any, AV.any, AV.any, AV.sl 1 s.nr fun (i : Nat) => AV.int IntKind.i64 (s.r i), AV.int IntKind.i64 (↑s.nr : Int), AV.int IntKind.i64 i, AV.any, AV.any, AV.any, AV.any, AV.any, AV.any, AV.any, AV.any, AV.any, AV.any, AV.any, AV.any, AV.any, AV.any, AV.any, AV.any, AV.any, AV.any, AV.any, AV.any, AV.any, AV.any, AV.any, AV.any, AV.any, AV.any, AV.any, AV.any, AV.any, AV.any, AV.any, AV.any, AV.any, AV.any, AV.any, AV.any, AV.any, AV.any, AV.any, AV.any, AV.any, AV.any, AV.any, AV.any, AV.any, AV.any, AV.any, AV.any, AV.any, AV.any, AV.any, AV.any, AV.any]
def L65.H (s : SD) (i : Int) : AHeap := [AObj.var s.av]
def L65.inv (s : SD) (i : Int) : Prop := 0 ≤ i ∧ i ≤ (↑s.nr : Int)
def L65.mu (s : SD) (i : Int) : Nat := ((↑s.nr : Int) - i).toNat
def L65.E : L65.O → Exit
  | .e0 => Exit.ret
  | .e1 => Exit.exit 0
def L65.X (s : SD) : L65.O → List AV
  | .e0 => [AV.any, AV.any, (AV.bool true), AV.any, AV.any, AV.any, AV.any, AV.any, AV.any, AV.any, AV.any, AV.any, AV.any, AV.any, AV.any, AV.any, AV.any, AV.any, AV.any, AV.any, AV.any, AV.any, AV.any, AV.any, AV.any, AV.any, AV.any, AV.any, AV.any, AV.any, AV.any, AV.any, AV.any, AV.any, AV.any, AV.any, AV.any, AV.any, AV.any, AV.any, AV.any, AV.any, AV.any, AV.any, AV.any, AV.any, AV.any, AV.any, AV.any, AV.any, AV.any, AV.any, AV.any, AV.any, AV.any, AV.any, AV.any, AV.any, AV.any, AV.any, AV.any, AV.any, AV.any, AV.any, AV.any, AV.any, AV.any, AV.any, AV.any, AV.any, AV.any, AV.any, AV.any, AV.any]
  | .e1 => [AV.any, AV.any, (AV.bool false), AV.any, AV.any, AV.any, AV.any, AV.any, AV.any, AV.any, AV.any, AV.any, AV.any, AV.any, AV.any, AV.any, AV.any, AV.any, AV.any, AV.any, AV.any, AV.any, AV.any, AV.any, AV.any, AV.any, AV.any, AV.any, AV.any, AV.any, AV.any, AV.any, AV.any, AV.any, AV.any, AV.any, AV.any, AV.any, AV.any, AV.any, AV.any, AV.any, AV.any, AV.any, AV.any, AV.any, AV.any, AV.any, AV.any, AV.any, AV.any, AV.any, AV.any, AV.any, AV.any, AV.any, AV.any, AV.any, AV.any, AV.any, AV.any, AV.any, AV.any, AV.any, AV.any, AV.any, AV.any, AV.any, AV.any, AV.any, AV.any, AV.any, AV.any, AV.any]
def L65.XH (s : SD) : L65.O → AHeap
  | .e0 => ([AObj.var (AV.agg [AV.str s.nm, AV.int IntKind.i64 s.x, AV.int IntKind.i64 s.y, AV.sl 1 s.nr fun (i : Nat) => AV.int IntKind.i64 (s.r i), AV.sl 1 s.nl fun (i : Nat) => AV.int IntKind.i64 (s.l i)])])
  | .e1 => ([AObj.var (AV.agg [AV.str s.nm, AV.int IntKind.i64 s.x, AV.int IntKind.i64 s.y, AV.sl 1 s.nr fun (i : Nat) => AV.int IntKind.i64 (s.r i), AV.sl 1 s.nl fun (i : Nat) => AV.int IntKind.i64 (s.l i)])])
def L65.N (s : SD) : Nat → Int → L65.O
  | 0, _ => .e0
  | k_ + 1, i => (bif decide (i < (↑s.nr : Int)) then (bif decide (s.r i.toNat < 1) then (.e0) else (bif decide (s.r i.toNat > 500000) then (.e0) else (bif decide (s.l i.toNat < 0) then (.e0) else (bif decide (s.l i.toNat > 1000000000000000) then (.e0) else (bif decide (i > 0) then (bif decide (s.r (IntKind.i64.wrap (i - 1)).toNat ≥ s.r i.toNat) then (.e0) else (bif decide (s.l i.toNat > s.l (IntKind.i64.wrap (i - 1)).toNat) then (.e0) else (L65.N s k_ (IntKind.i64.wrap (i + 1))))) else (L65.N s k_ (IntKind.i64.wrap (i + 1)))))))) else (.e1))
def L65.run (s : SD) (i : Int) : L65.O := L65.N s (L65.mu s i + 1) i
def L65.Next (s : SD) (k_ : Nat) (z_ : Int) (T_ : List AV) (h_ : AHeap) : Prop := LNextP (fun z_ => L65.T s z_) (fun z_ => L65.H s z_) (fun z_ => L65.inv s z_) (fun z_ => L65.mu s z_) (fun k_ z_ => L65.N s k_ z_) k_ z_ T_ h_
def L65.End (s : SD) (k_ : Nat) (z_ : Int) (e_ : Exit) (T_ : List AV) (h_ : AHeap) : Prop := LEndP (fun z_ => L65.H s z_) (fun k_ z_ => L65.N s k_ z_) L65.E (L65.X s) (L65.XH s) k_ z_ e_ T_ h_
theorem L65.spec (s : SD) (hl : s.nl = s.nr) (hr : s.nr ≤ 9223372036854775807) (k_ : Nat) (z_ : Int) (hi_ : L65.inv s z_) (hm_ : L65.mu s z_ < k_) : LoopTo Try.prog (loopN Try.f65 0) (L65.T s z_) (L65.H s z_) (L65.E (L65.N s k_ z_)) (L65.X s (L65.N s k_ z_)) (L65.XH s (L65.N s k_ z_)) := by
  refine LoopTo.fuelP mix (fun z_ => L65.T s z_) (fun z_ => L65.H s z_) (fun z_ => L65.inv s z_) (fun z_ => L65.mu s z_) (fun k_ z_ => L65.N s k_ z_) L65.E (L65.X s) (L65.XH s) [0, 3, 4, 5, 6, 7, 8, 9, 10, 11, 12, 13, 14, 15, 16, 17, 21, 22, 23, 24, 25, 26, 27, 28, 29, 30, 31, 32, 33, 34, 35, 36, 37, 38, 39, 40, 41, 42, 43, 44, 45, 46, 47, 48, 49, 50, 51, 52, 53, 54, 55, 56, 57, 58, 59, 60, 61, 62, 63, 64, 65, 66, 67, 68, 69, 70, 71, 72, 73] [0, 1, 3, 4, 5, 6, 7, 8, 9, 10, 11, 12, 13, 14, 15, 16, 17, 18, 19, 20, 21, 22, 23, 24, 25, 26, 27, 28, 29, 30, 31, 32, 33, 34, 35, 36, 37, 38, 39, 40, 41, 42, 43, 44, 45, 46, 47, 48, 49, 50, 51, 52, 53, 54, 55, 56, 57, 58, 59, 60, 61, 62, 63, 64, 65, 66, 67, 68, 69, 70, 71, 72, 73] [0, 1, 3, 4, 5, 6, 7, 8, 9, 10, 11, 12, 13, 14, 15, 16, 17, 18, 19, 20, 21, 22, 23, 24, 25, 26, 27, 28, 29, 30, 31, 32, 33, 34, 35, 36, 37, 38, 39, 40, 41, 42, 43, 44, 45, 46, 47, 48, 49, 50, 51, 52, 53, 54, 55, 56, 57, 58, 59, 60, 61, 62, 63, 64, 65, 66, 67, 68, 69, 70, 71, 72, 73] ?_ k_ z_ hi_ hm_
  clear hm_ hi_ z_ k_
  intro k_ z_ hinv hmu
  revert hinv hmu; revert z_; intro i hinv hmu
  have hinv : 0 ≤ i ∧ i ≤ (↑s.nr : Int) := hinv
  have hmu : (((↑s.nr : Int) - i).toNat) < k_ + 1 := hmu
  cases h1 : decide (i < (↑s.nr : Int)) with
  | true =>
    have h1p := of_decide_eq_true h1
    cases h2 : decide (s.r i.toNat < 1) with
    | true =>
      have h2p := of_decide_eq_true h2
      exact ⟨[.b true, .b true, .b true, .b true, .b true, .b true, .b true, .b true, .b true, .b true, .b true, .b true, .b true, .b true, .b true, .b true, .b true, .b true, .b true], kmp (by kernel_rfl) (And.intro h1 (And.intro (show (0 : Int) ≤ i ∧ i < (↑s.nr : Int) by first | assumption | omega | (simp_all; done)) (And.intro h2 (And.intro h2 (And.intro h2 (And.intro (rfl : true = true) (And.intro (rfl : true = true) (And.intro (rfl : true = true) (And.intro (rfl : true = true) (And.intro (rfl : true = true) (And.intro (rfl : true = true) (And.intro (rfl : true = true) (And.intro (rfl : true = true) (And.intro (rfl : true = true) (And.intro (rfl : true = true) (And.intro (rfl : true = true) (And.intro (rfl : true = true) (And.intro (rfl : true = true) (And.intro (rfl : true = true) (And.intro (rfl : true = true) (show L65.End s k_ i (Exit.ret) (L65.X s (.e0 : L65.O)) (L65.XH s (.e0 : L65.O)) from LEndP.mk (.e0 : L65.O) (by first | (simp only [L65.N, h1, h2, cond_true, cond_false]; done) | (unfold L65.N; try simp only [h1, cond_true, cond_false]; try simp only [h2, cond_true, cond_false]; try rfl; done)) PopOk.same)))))))))))))))))))))⟩
    | false =>
      have h2p := of_decide_eq_false h2
      cases h3 : decide (s.r i.toNat > 500000) with
      | true =>
        have h3p := of_decide_eq_true h3
        exact ⟨[.b true, .b false, .b false, .b false, .b true, .b true, .b true, .b true, .b true, .b true, .b true, .b true, .b true, .b true, .b true, .b true, .b true, .b true, .b true], kmp (by kernel_rfl) (And.intro h1 (And.intro (show (0 : Int) ≤ i ∧ i < (↑s.nr : Int) by first | assumption | omega | (simp_all; done)) (And.intro h2 (And.intro h2 (And.intro h2 (And.intro h3 (And.intro h3 (And.intro h3 (And.intro h3 (And.intro h3 (And.intro h3 (And.intro h3 (And.intro (rfl : true = true) (And.intro (rfl : true = true) (And.intro (rfl : true = true) (And.intro (rfl : true = true) (And.intro (rfl : true = true) (And.intro (rfl : true = true) (And.intro (rfl : true = true) (And.intro (rfl : true = true) (show L65.End s k_ i (Exit.ret) (L65.X s (.e0 : L65.O)) (L65.XH s (.e0 : L65.O)) from LEndP.mk (.e0 : L65.O) (by first | (simp only [L65.N, h1, h2, h3, cond_true, cond_false]; done) | (unfold L65.N; try simp only [h1, cond_true, cond_false]; try simp only [h2, cond_true, cond_false]; try simp only [h3, cond_true, cond_false]; try rfl; done)) PopOk.same)))))))))))))))))))))⟩
      | false =>
        have h3p := of_decide_eq_false h3
        cases h4 : decide (s.l i.toNat < 0) with
        | true =>
          have h4p := of_decide_eq_true h4
          exact ⟨[.b true, .b false, .b false, .b false, .b false, .b false, .b false, .b false, .b false, .b false, .b false, .b true, .b true, .b true, .b true, .b true, .b true, .b true, .b true], kmp (by kernel_rfl) (And.intro h1 (And.intro (show (0 : Int) ≤ i ∧ i < (↑s.nr : Int) by first | assumption | omega | (simp_all; done)) (And.intro h2 (And.intro h2 (And.intro h2 (And.intro h3 (And.intro h3 (And.intro h3 (And.intro h3 (And.intro (show (0 : Int) ≤ i ∧ i < (↑s.nl : Int) by first | assumption | omega | (simp_all; done)) (And.intro h3 (And.intro h3 (And.intro h3 (And.intro h4 (And.intro h4 (And.intro h4 (And.intro h4 (And.intro h4 (And.intro h4 (And.intro h4 (And.intro (rfl : true = true) (show L65.End s k_ i (Exit.ret) (L65.X s (.e0 : L65.O)) (L65.XH s (.e0 : L65.O)) from LEndP.mk (.e0 : L65.O) (by first | (simp only [L65.N, h1, h2, h3, h4, cond_true, cond_false]; done) | (unfold L65.N; try simp only [h1, cond_true, cond_false]; try simp only [h2, cond_true, cond_false]; try simp only [h3, cond_true, cond_false]; try simp only [h4, cond_true, cond_false]; try rfl; done)) PopOk.same))))))))))))))))))))))⟩
        | false =>
          have h4p := of_decide_eq_false h4
          cases h5 : decide (s.l i.toNat > 1000000000000000) with
          | true =>
            have h5p := of_decide_eq_true h5
            exact ⟨[.b true, .b false, .b false, .b false, .b false, .b false, .b false, .b false, .b false, .b false, .b false, .b false, .b false, .b false, .b false, .b false, .b false, .b false, .b true], kmp (by kernel_rfl) (And.intro h1 (And.intro (show (0 : Int) ≤ i ∧ i < (↑s.nr : Int) by first | assumption | omega | (simp_all; done)) (And.intro h2 (And.intro h2 (And.intro h2 (And.intro h3 (And.intro h3 (And.intro h3 (And.intro h3 (And.intro (show (0 : Int) ≤ i ∧ i < (↑s.nl : Int) by first | assumption | omega | (simp_all; done)) (And.intro h3 (And.intro h3 (And.intro h3 (And.intro h4 (And.intro h4 (And.intro h4 (And.intro h4 (And.intro (show (0 : Int) ≤ i ∧ i < (↑s.nl : Int) by first | assumption | omega | (simp_all; done)) (And.intro h4 (And.intro h4 (And.intro h4 (And.intro h5 (show L65.End s k_ i (Exit.ret) (L65.X s (.e0 : L65.O)) (L65.XH s (.e0 : L65.O)) from LEndP.mk (.e0 : L65.O) (by first | (simp only [L65.N, h1, h2, h3, h4, h5, cond_true, cond_false]; done) | (unfold L65.N; try simp only [h1, cond_true, cond_false]; try simp only [h2, cond_true, cond_false]; try simp only [h3, cond_true, cond_false]; try simp only [h4, cond_true, cond_false]; try simp only [h5, cond_true, cond_false]; try rfl; done)) PopOk.same)))))))))))))))))))))))⟩
          | false =>
            have h5p := of_decide_eq_false h5
            cases h6 : decide (i > 0) with
            | true =>
              have h6p := of_decide_eq_true h6
              cases h7 : decide (s.r (IntKind.i64.wrap (i - 1)).toNat ≥ s.r i.toNat) with
              | true =>
                have h7p := of_decide_eq_true h7
                exact ⟨[.b true, .b false, .b false, .b false, .b false, .b false, .b false, .b false, .b false, .b false, .b false, .b false, .b false, .b false, .b false, .b false, .b false, .b false, .b false, .b true, .b true, .b true, .b true, .b true, .b true, .b true, .b true, .b true, .b true, .b true, .b true, .b true, .b true, .b true, .b true, .b true, .b true, .b true, .b true, .b true, .b true, .b true, .b true, .b true], kmp (by kernel_rfl) (And.intro h1 (And.intro (show (0 : Int) ≤ i ∧ i < (↑s.nr : Int) by first | assumption | omega | (simp_all; done)) (And.intro h2 (And.intro h2 (And.intro h2 (And.intro h3 (And.intro h3 (And.intro h3 (And.intro h3 (And.intro (show (0 : Int) ≤ i ∧ i < (↑s.nl : Int) by first | assumption | omega | (simp_all; done)) (And.intro h3 (And.intro h3 (And.intro h3 (And.intro h4 (And.intro h4 (And.intro h4 (And.intro h4 (And.intro (show (0 : Int) ≤ i ∧ i < (↑s.nl : Int) by first | assumption | omega | (simp_all; done)) (And.intro h4 (And.intro h4 (And.intro h4 (And.intro h5 (And.intro h6 (And.intro h6 (And.intro h6 (And.intro h6 (And.intro h6 (And.intro (show (0 : Int) ≤ IntKind.i64.wrap (i - (1 : Int)) ∧ IntKind.i64.wrap (i - (1 : Int)) < (↑s.nr : Int) by first | assumption | omega | (have := IntWalk.i64_in (i - 1) (by omega); omega) | (simp_all; done)) (And.intro h6 (And.intro h6 (And.intro h6 (And.intro h6 (And.intro h7 (And.intro h7 (And.intro h7 (And.intro h7 (And.intro h7 (And.intro h7 (And.intro h7 (And.intro h7 (And.intro h7 (And.intro h7 (And.intro h7 (And.intro h7 (And.intro h6 (And.intro h7 (And.intro h6 (And.intro (rfl : true = true) (show L65.End s k_ i (Exit.ret) (L65.X s (.e0 : L65.O)) (L65.XH s (.e0 : L65.O)) from LEndP.mk (.e0 : L65.O) (by first | (simp only [L65.N, h1, h2, h3, h4, h5, h6, h7, cond_true, cond_false]; done) | (unfold L65.N; try simp only [h1, cond_true, cond_false]; try simp only [h2, cond_true, cond_false]; try simp only [h3, cond_true, cond_false]; try simp only [h4, cond_true, cond_false]; try simp only [h5, cond_true, cond_false]; try simp only [h6, cond_true, cond_false]; try simp only [h7, cond_true, cond_false]; try rfl; done)) PopOk.same)))))))))))))))))))))))))))))))))))))))))))))))))⟩
              | false =>
                have h7p := of_decide_eq_false h7
                cases h8 : decide (s.l i.toNat > s.l (IntKind.i64.wrap (i - 1)).toNat) with
                | true =>
                  have h8p := of_decide_eq_true h8
                  exact ⟨[.b true, .b false, .b false, .b false, .b false, .b false, .b false, .b false, .b false, .b false, .b false, .b false, .b false, .b false, .b false, .b false, .b false, .b false, .b false, .b true, .b true, .b true, .b true, .b true, .b true, .b true, .b true, .b true, .b false, .b false, .b false, .b false, .b false, .b false, .b false, .b false, .b false, .b false, .b false, .b false, .b true, .b false, .b true, .b true], kmp (by kernel_rfl) (And.intro h1 (And.intro (show (0 : Int) ≤ i ∧ i < (↑s.nr : Int) by first | assumption | omega | (simp_all; done)) (And.intro h2 (And.intro h2 (And.intro h2 (And.intro h3 (And.intro h3 (And.intro h3 (And.intro h3 (And.intro (show (0 : Int) ≤ i ∧ i < (↑s.nl : Int) by first | assumption | omega | (simp_all; done)) (And.intro h3 (And.intro h3 (And.intro h3 (And.intro h4 (And.intro h4 (And.intro h4 (And.intro h4 (And.intro (show (0 : Int) ≤ i ∧ i < (↑s.nl : Int) by first | assumption | omega | (simp_all; done)) (And.intro h4 (And.intro h4 (And.intro h4 (And.intro h5 (And.intro h6 (And.intro h6 (And.intro h6 (And.intro h6 (And.intro h6 (And.intro (show (0 : Int) ≤ IntKind.i64.wrap (i - (1 : Int)) ∧ IntKind.i64.wrap (i - (1 : Int)) < (↑s.nr : Int) by first | assumption | omega | (have := IntWalk.i64_in (i - 1) (by omega); omega) | (simp_all; done)) (And.intro h6 (And.intro h6 (And.intro h6 (And.intro h6 (And.intro h7 (And.intro h7 (And.intro h7 (And.intro h7 (And.intro (show (0 : Int) ≤ i ∧ i < (↑s.nl : Int) by first | assumption | omega | (simp_all; done)) (And.intro h7 (And.intro h7 (And.intro h7 (And.intro h7 (And.intro h7 (And.intro h7 (And.intro (show (0 : Int) ≤ IntKind.i64.wrap (i - (1 : Int)) ∧ IntKind.i64.wrap (i - (1 : Int)) < (↑s.nl : Int) by first | assumption | omega | (have := IntWalk.i64_in (i - 1) (by omega); omega) | (simp_all; done)) (And.intro h7 (And.intro h7 (And.intro h6 (And.intro h7 (And.intro h6 (And.intro h8 (show L65.End s k_ i (Exit.ret) (L65.X s (.e0 : L65.O)) (L65.XH s (.e0 : L65.O)) from LEndP.mk (.e0 : L65.O) (by first | (simp only [L65.N, h1, h2, h3, h4, h5, h6, h7, h8, cond_true, cond_false]; done) | (unfold L65.N; try simp only [h1, cond_true, cond_false]; try simp only [h2, cond_true, cond_false]; try simp only [h3, cond_true, cond_false]; try simp only [h4, cond_true, cond_false]; try simp only [h5, cond_true, cond_false]; try simp only [h6, cond_true, cond_false]; try simp only [h7, cond_true, cond_false]; try simp only [h8, cond_true, cond_false]; try rfl; done)) PopOk.same)))))))))))))))))))))))))))))))))))))))))))))))))))⟩
                | false =>
                  have h8p := of_decide_eq_false h8
                  exact ⟨[.b true, .b false, .b false, .b false, .b false, .b false, .b false, .b false, .b false, .b false, .b false, .b false, .b false, .b false, .b false, .b false, .b false, .b false, .b false, .b true, .b true, .b true, .b true, .b true, .b true, .b true, .b true, .b true, .b false, .b false, .b false, .b false, .b false, .b false, .b false, .b false, .b false, .b false, .b false, .b false, .b true, .b false, .b true, .b false], kmp (by kernel_rfl) (And.intro h1 (And.intro (show (0 : Int) ≤ i ∧ i < (↑s.nr : Int) by first | assumption | omega | (simp_all; done)) (And.intro h2 (And.intro h2 (And.intro h2 (And.intro h3 (And.intro h3 (And.intro h3 (And.intro h3 (And.intro (show (0 : Int) ≤ i ∧ i < (↑s.nl : Int) by first | assumption | omega | (simp_all; done)) (And.intro h3 (And.intro h3 (And.intro h3 (And.intro h4 (And.intro h4 (And.intro h4 (And.intro h4 (And.intro (show (0 : Int) ≤ i ∧ i < (↑s.nl : Int) by first | assumption | omega | (simp_all; done)) (And.intro h4 (And.intro h4 (And.intro h4 (And.intro h5 (And.intro h6 (And.intro h6 (And.intro h6 (And.intro h6 (And.intro h6 (And.intro (show (0 : Int) ≤ IntKind.i64.wrap (i - (1 : Int)) ∧ IntKind.i64.wrap (i - (1 : Int)) < (↑s.nr : Int) by first | assumption | omega | (have := IntWalk.i64_in (i - 1) (by omega); omega) | (simp_all; done)) (And.intro h6 (And.intro h6 (And.intro h6 (And.intro h6 (And.intro h7 (And.intro h7 (And.intro h7 (And.intro h7 (And.intro (show (0 : Int) ≤ i ∧ i < (↑s.nl : Int) by first | assumption | omega | (simp_all; done)) (And.intro h7 (And.intro h7 (And.intro h7 (And.intro h7 (And.intro h7 (And.intro h7 (And.intro (show (0 : Int) ≤ IntKind.i64.wrap (i - (1 : Int)) ∧ IntKind.i64.wrap (i - (1 : Int)) < (↑s.nl : Int) by first | assumption | omega | (have := IntWalk.i64_in (i - 1) (by omega); omega) | (simp_all; done)) (And.intro h7 (And.intro h7 (And.intro h6 (And.intro h7 (And.intro h6 (And.intro h8 (show L65.Next s k_ i (L65.T s (IntKind.i64.wrap (i + 1))) (L65.H s (IntKind.i64.wrap (i + 1))) from LNextP.mk (IntKind.i64.wrap (i + 1)) (show (0 : Int) ≤ IntKind.i64.wrap (i + (1 : Int)) ∧ IntKind.i64.wrap (i + (1 : Int)) ≤ (↑s.nr : Int) by first | assumption | omega | (have := IntWalk.i64_in (i + 1) (by omega); omega) | (simp_all; done)) (show ((↑s.nr : Int) - IntKind.i64.wrap (i + (1 : Int))).toNat < ((↑s.nr : Int) - i).toNat by first | assumption | omega | (have := IntWalk.i64_in (i + 1) (by omega); omega) | (simp_all; done)) (by first | (simp only [L65.N, h1, h2, h3, h4, h5, h6, h7, h8, cond_true, cond_false]; done) | (unfold L65.N; try simp only [h1, cond_true, cond_false]; try simp only [h2, cond_true, cond_false]; try simp only [h3, cond_true, cond_false]; try simp only [h4, cond_true, cond_false]; try simp only [h5, cond_true, cond_false]; try simp only [h6, cond_true, cond_false]; try simp only [h7, cond_true, cond_false]; try simp only [h8, cond_true, cond_false]; try rfl; done)) PopOk.same)))))))))))))))))))))))))))))))))))))))))))))))))))⟩
            | false =>
              have h6p := of_decide_eq_false h6
              exact ⟨[.b true, .b false, .b false, .b false, .b false, .b false, .b false, .b false, .b false, .b false, .b false, .b false, .b false, .b false, .b false, .b false, .b false, .b false, .b false, .b false, .b false, .b false, .b false, .b false, .b false, .b false, .b false, .b false, .b false, .b false, .b false], kmp (by kernel_rfl) (And.intro h1 (And.intro (show (0 : Int) ≤ i ∧ i < (↑s.nr : Int) by first | assumption | omega | (simp_all; done)) (And.intro h2 (And.intro h2 (And.intro h2 (And.intro h3 (And.intro h3 (And.intro h3 (And.intro h3 (And.intro (show (0 : Int) ≤ i ∧ i < (↑s.nl : Int) by first | assumption | omega | (simp_all; done)) (And.intro h3 (And.intro h3 (And.intro h3 (And.intro h4 (And.intro h4 (And.intro h4 (And.intro h4 (And.intro (show (0 : Int) ≤ i ∧ i < (↑s.nl : Int) by first | assumption | omega | (simp_all; done)) (And.intro h4 (And.intro h4 (And.intro h4 (And.intro h5 (And.intro h6 (And.intro h6 (And.intro h6 (And.intro h6 (And.intro h6 (And.intro h6 (And.intro h6 (And.intro h6 (And.intro h6 (And.intro h6 (And.intro h6 (And.intro (rfl : false = false) (show L65.Next s k_ i (L65.T s (IntKind.i64.wrap (i + 1))) (L65.H s (IntKind.i64.wrap (i + 1))) from LNextP.mk (IntKind.i64.wrap (i + 1)) (show (0 : Int) ≤ IntKind.i64.wrap (i + (1 : Int)) ∧ IntKind.i64.wrap (i + (1 : Int)) ≤ (↑s.nr : Int) by first | assumption | omega | (have := IntWalk.i64_in (i + 1) (by omega); omega) | (simp_all; done)) (show ((↑s.nr : Int) - IntKind.i64.wrap (i + (1 : Int))).toNat < ((↑s.nr : Int) - i).toNat by first | assumption | omega | (have := IntWalk.i64_in (i + 1) (by omega); omega) | (simp_all; done)) (by first | (simp only [L65.N, h1, h2, h3, h4, h5, h6, cond_true, cond_false]; done) | (unfold L65.N; try simp only [h1, cond_true, cond_false]; try simp only [h2, cond_true, cond_false]; try simp only [h3, cond_true, cond_false]; try simp only [h4, cond_true, cond_false]; try simp only [h5, cond_true, cond_false]; try simp only [h6, cond_true, cond_false]; try rfl; done)) PopOk.same)))))))))))))))))))))))))))))))))))⟩
  | false =>
    have h1p := of_decide_eq_false h1
    exact ⟨[.b false], kmp (by kernel_rfl) (And.intro h1 (show L65.End s k_ i (Exit.exit 0) (L65.X s (.e1 : L65.O)) (L65.XH s (.e1 : L65.O)) from LEndP.mk (.e1 : L65.O) (by first | (simp only [L65.N, h1, cond_true, cond_false]; done) | (unfold L65.N; try simp only [h1, cond_true, cond_false]; try rfl; done)) PopOk.same))⟩
theorem L65.e0 (s : SD) (hl : s.nl = s.nr) (hr : s.nr ≤ 9223372036854775807) (i : Int) (hinv : L65.inv s i) (hN : L65.run s i = (.e0 : L65.O)) : LoopTo Try.prog (loopN Try.f65 0) (L65.T s i) (L65.H s i) (Exit.ret) (L65.X s (.e0 : L65.O)) (L65.XH s (.e0 : L65.O)) := by
  have h_ := L65.spec s hl hr (L65.mu s i + 1) i hinv (Nat.lt_succ_self _)
  unfold L65.run at hN
  simp only [hN] at h_
  exact h_
theorem L65.e1 (s : SD) (hl : s.nl = s.nr) (hr : s.nr ≤ 9223372036854775807) (i : Int) (hinv : L65.inv s i) (hN : L65.run s i = (.e1 : L65.O)) : LoopTo Try.prog (loopN Try.f65 0) (L65.T s i) (L65.H s i) (Exit.exit 0) (L65.X s (.e1 : L65.O)) (L65.XH s (.e1 : L65.O)) := by
  have h_ := L65.spec s hl hr (L65.mu s i + 1) i hinv (Nat.lt_succ_self _)
  unfold L65.run at hN
  simp only [hN] at h_
  exact h_

def r65.v (s : SD) : Bool := (bif r39.v s.x then (bif r39.v s.y then (match L65.run s 0 with | .e0 => true | .e1 => false ) else true) else true)
abbrev r65.h0 (s : SD) : AHeap := ([AObj.var (AV.agg [AV.str s.nm, AV.int IntKind.i64 s.x, AV.int IntKind.i64 s.y, AV.sl 1 s.nr fun (i : Nat) => AV.int IntKind.i64 (s.r i), AV.sl 1 s.nl fun (i : Nat) => AV.int IntKind.i64 (s.l i)])])
theorem r65 (s : SD) (hl : s.nl = s.nr) (h : AHeap) : Ret Try.prog 65 ([s.av]) h (AV.bool (r65.v s)) h := by
  cases h1 : r39.v s.x with
  | true =>
    cases h2 : r39.v s.y with
    | true =>
      cases h3 : L65.run s 0 with
      | e0 =>
        exact Ret.of_run1 mix [(AV.bool (r65.v s))] Try.func65 rfl [.ret (AV.bool (r39.v s.x)) (r65.h0 s), .b false, .b false, .b false, .b false, .ret (AV.bool (r39.v s.y)) (r65.h0 s), .b false, .b false, .b false, .loop [0, 3, 4, 5, 6, 7, 8, 9, 10, 11, 12, 13, 14, 15, 16, 17, 21, 22, 23, 24, 25, 26, 27, 28, 29, 30, 31, 32, 33, 34, 35, 36, 37, 38, 39, 40, 41, 42, 43, 44, 45, 46, 47, 48, 49, 50, 51, 52, 53, 54, 55, 56, 57, 58, 59, 60, 61, 62, 63, 64, 65, 66, 67, 68, 69, 70, 71, 72, 73] (Exit.ret) (L65.X s L65.O.e0) (L65.XH s L65.O.e0)] (by simp) (by simp) (kmp (by kernel_rfl) (And.intro (r39 (s.x) (r65.h0 s)) (And.intro (show (bnot (r39.v s.x)) = false by rw [h1]; try rfl) (And.intro (show (bnot (r39.v s.x)) = false by rw [h1]; try rfl) (And.intro (show (bnot (r39.v s.x)) = false by rw [h1]; try rfl) (And.intro (show (bnot (r39.v s.x)) = false by rw [h1]; try rfl) (And.intro (r39 (s.y) (r65.h0 s)) (And.intro (show (bnot (r39.v s.x)) = false by rw [h1]; try rfl) (And.intro (show (bnot (r39.v s.x)) = false by rw [h1]; try rfl) (And.intro (show (bnot (r39.v s.y)) = false by rw [h2]; try rfl) (And.intro (L65.e0 (s) (show s.nl = s.nr by first | assumption | omega | (simp_all; done)) (show instLENat.1 s.nr (9223372036854775807 : Nat) by first | assumption | omega | (simp_all; done)) (0) (show (0 : Int) ≤ (0 : Int) ∧ (0 : Int) ≤ (↑s.nr : Int) by first | assumption | omega | (simp_all; done)) h3) (And.intro (show AV.bool true = (AV.bool (r65.v s)) by first | (simp only [r65.v, h1, h2, h3, cond_true, cond_false]; done) | (unfold r65.v; try simp only [h1, cond_true, cond_false]; try simp only [h2, cond_true, cond_false]; try simp only [h3, cond_true, cond_false]; try rfl; done) | rfl) trivial)))))))))))) h
      | e1 =>
        exact Ret.of_run1 mix [(AV.bool (r65.v s))] Try.func65 rfl [.ret (AV.bool (r39.v s.x)) (r65.h0 s), .b false, .b false, .b false, .b false, .ret (AV.bool (r39.v s.y)) (r65.h0 s), .b false, .b false, .b false, .loop [0, 3, 4, 5, 6, 7, 8, 9, 10, 11, 12, 13, 14, 15, 16, 17, 21, 22, 23, 24, 25, 26, 27, 28, 29, 30, 31, 32, 33, 34, 35, 36, 37, 38, 39, 40, 41, 42, 43, 44, 45, 46, 47, 48, 49, 50, 51, 52, 53, 54, 55, 56, 57, 58, 59, 60, 61, 62, 63, 64, 65, 66, 67, 68, 69, 70, 71, 72, 73] (Exit.exit 0) (L65.X s L65.O.e1) (L65.XH s L65.O.e1)] (by simp) (by simp) (kmp (by kernel_rfl) (And.intro (r39 (s.x) (r65.h0 s)) (And.intro (show (bnot (r39.v s.x)) = false by rw [h1]; try rfl) (And.intro (show (bnot (r39.v s.x)) = false by rw [h1]; try rfl) (And.intro (show (bnot (r39.v s.x)) = false by rw [h1]; try rfl) (And.intro (show (bnot (r39.v s.x)) = false by rw [h1]; try rfl) (And.intro (r39 (s.y) (r65.h0 s)) (And.intro (show (bnot (r39.v s.x)) = false by rw [h1]; try rfl) (And.intro (show (bnot (r39.v s.x)) = false by rw [h1]; try rfl) (And.intro (show (bnot (r39.v s.y)) = false by rw [h2]; try rfl) (And.intro (L65.e1 (s) (show s.nl = s.nr by first | assumption | omega | (simp_all; done)) (show instLENat.1 s.nr (9223372036854775807 : Nat) by first | assumption | omega | (simp_all; done)) (0) (show (0 : Int) ≤ (0 : Int) ∧ (0 : Int) ≤ (↑s.nr : Int) by first | assumption | omega | (simp_all; done)) h3) (And.intro (show AV.bool false = (AV.bool (r65.v s)) by first | (simp only [r65.v, h1, h2, h3, cond_true, cond_false]; done) | (unfold r65.v; try simp only [h1, cond_true, cond_false]; try simp only [h2, cond_true, cond_false]; try simp only [h3, cond_true, cond_false]; try rfl; done) | rfl) trivial)))))))))))) h
    | false =>
      exact Ret.of_run1 mix [(AV.bool (r65.v s))] Try.func65 rfl [.ret (AV.bool (r39.v s.x)) (r65.h0 s), .b false, .b false, .b false, .b false, .ret (AV.bool (r39.v s.y)) (r65.h0 s), .b false, .b false, .b true] (by simp) (by simp) (kmp (by kernel_rfl) (And.intro (r39 (s.x) (r65.h0 s)) (And.intro (show (bnot (r39.v s.x)) = false by rw [h1]; try rfl) (And.intro (show (bnot (r39.v s.x)) = false by rw [h1]; try rfl) (And.intro (show (bnot (r39.v s.x)) = false by rw [h1]; try rfl) (And.intro (show (bnot (r39.v s.x)) = false by rw [h1]; try rfl) (And.intro (r39 (s.y) (r65.h0 s)) (And.intro (show (bnot (r39.v s.x)) = false by rw [h1]; try rfl) (And.intro (show (bnot (r39.v s.x)) = false by rw [h1]; try rfl) (And.intro (show (bnot (r39.v s.y)) = true by rw [h2]; try rfl) (And.intro (show AV.bool true = (AV.bool (r65.v s)) by first | (simp only [r65.v, h1, h2, cond_true, cond_false]; done) | (unfold r65.v; try simp only [h1, cond_true, cond_false]; try simp only [h2, cond_true, cond_false]; try rfl; done) | rfl) trivial))))))))))) h
  | false =>
    exact Ret.of_run1 mix [(AV.bool (r65.v s))] Try.func65 rfl [.ret (AV.bool (r39.v s.x)) (r65.h0 s), .b true, .b true, .b true, .b true, .b true, .b true, .b true] (by simp) (by simp) (kmp (by kernel_rfl) (And.intro (r39 (s.x) (r65.h0 s)) (And.intro (show (bnot (r39.v s.x)) = true by rw [h1]; try rfl) (And.intro (show (bnot (r39.v s.x)) = true by rw [h1]; try rfl) (And.intro (show (bnot (r39.v s.x)) = true by rw [h1]; try rfl) (And.intro (show (bnot (r39.v s.x)) = true by rw [h1]; try rfl) (And.intro (show (bnot (r39.v s.x)) = true by rw [h1]; try rfl) (And.intro (show (bnot (r39.v s.x)) = true by rw [h1]; try rfl) (And.intro (rfl : true = true) (And.intro (show AV.bool true = (AV.bool (r65.v s)) by first | (simp only [r65.v, h1, cond_true, cond_false]; done) | (unfold r65.v; try simp only [h1, cond_true, cond_false]; try rfl; done) | rfl) trivial)))))))))) h

end Go.Proofs.Ytgmppoappaolkaa
