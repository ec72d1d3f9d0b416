/- Contracts of the functions and plain laws, part 2. Conditions: none. -/
import Derived.Test.YtgmppoappaolkaaK1
import Derived.Test.YtgmppoappaolkaaRows

open Go

namespace Go.Proofs.Ytgmppoappaolkaa

set_option linter.unusedSimpArgs false

set_option linter.unusedVariables false

set_option maxHeartbeats 0

set_option maxRecDepth 100000

/-- A stand. -/
structure SD where
  nm : ByteArray
  x : Int
  y : Int
  nr : Nat
  r : Nat → Int
  nl : Nat
  l : Nat → Int
  hnm : nm.size ≤ 9223372036854775807
  hnr : nr ≤ 9223372036854775807
  hnl : nl ≤ 9223372036854775807

instance : Inhabited SD := ⟨⟨ByteArray.empty, 0, 0, 0, fun _ => 0, 0, fun _ => 0, by decide, by decide, by decide⟩⟩

@[simp] theorem SD.hnm' (s : SD) : (s.nm.size ≤ 9223372036854775807) = True := eq_true s.hnm

@[simp] theorem SD.hnr' (s : SD) : (s.nr ≤ 9223372036854775807) = True := eq_true s.hnr

@[simp] theorem SD.hnl' (s : SD) : (s.nl ≤ 9223372036854775807) = True := eq_true s.hnl

def SD.av (s : SD) : AV := .agg [.str s.nm, .int .i64 s.x, .int .i64 s.y, .sl 1 s.nr (fun i => .int .i64 (s.r i)), .sl 1 s.nl (fun i => .int .i64 (s.l i))]

def sts (n : Nat) (g : Nat → SD) : AV := .sl 5 n (fun i => (g i).av)

@[simp] theorem low_sd (lo : Nat) (s : SD) : Low lo s.av = True := by unfold SD.av; simp

@[simp] theorem low_sts (lo n : Nat) (g : Nat → SD) : Low lo (sts n g) = True := by unfold sts; simp

inductive L19.O where
  | e0
  | e1

noncomputable def L19.T (n : Nat) (g : Nat → SD) (i : Int) : List AV := mkT 41 [(0, AV.sl 5 n fun (i : Nat) => AV.agg [AV.str (g i).nm, AV.int IntKind.i64 (g i).x, AV.int IntKind.i64 (g i).y, AV.sl 1 (g i).nr fun (i_1 : Nat) => AV.int IntKind.i64 ((g i).r i_1), AV.sl 1 (g i).nl fun (i_1 : Nat) => AV.int IntKind.i64 ((g i).l i_1)]), (5, AV.int IntKind.i64 i)]

noncomputable def L19.H (n : Nat) (g : Nat → SD) (i : Int) : AHeap := []

def L19.inv (n : Nat) (g : Nat → SD) (i : Int) : Prop := 0 ≤ i ∧ i ≤ (↑n : Int)

noncomputable def L19.mu (n : Nat) (g : Nat → SD) (i : Int) : Nat := ((↑n : Int) - i).toNat

noncomputable def L19.E : L19.O → Exit
  | .e0 => Exit.ret
  | .e1 => Exit.exit 0

noncomputable def L19.X (n : Nat) (g : Nat → SD) : L19.O → List AV
  | .e0 => mkT 41 [(4, (AV.bool false))]
  | .e1 => mkT 41 []

noncomputable def L19.XH (n : Nat) (g : Nat → SD) : L19.O → AHeap
  | .e0 => ([])
  | .e1 => ([])

noncomputable def L19.N (n : Nat) (g : Nat → SD) : Nat → Int → L19.O
  | 0, _ => .e0
  | k_ + 1, i => (bif decide (i < (↑n : Int)) then (bif decide ((↑(g i.toNat).nr : Int) > 20) then (.e0) else (bif decide ((↑(g i.toNat).nl : Int) > 20) then (.e0) else (bif decide ((↑(g i.toNat).nm.size : Int) > 60) then (.e0) else (L19.N n g k_ (IntKind.i64.wrap (i + 1)))))) else (.e1))

noncomputable def L19.run (n : Nat) (g : Nat → SD) (i : Int) : L19.O := L19.N n g ((((↑n : Int) - i).toNat) + 1) i

theorem L19.nx (n : Nat) (g : Nat → SD) {k_ : Nat} {z_ : Int} {h_ : AHeap} (s_ : Int) (h1 : L19.inv n g s_) (h2 : L19.mu n g s_ < L19.mu n g z_) (h3 : L19.N n g k_ s_ = L19.N n g (k_ + 1) z_) (h4 : PopOk (L19.H n g z_) h_ (L19.T n g s_) (L19.H n g s_)) : LNextP (fun (z_ : Int) => L19.T n g z_) (fun (z_ : Int) => L19.H n g z_) (fun (z_ : Int) => L19.inv n g z_) (fun (z_ : Int) => L19.mu n g z_) (fun (k_ : Nat) (z_ : Int) => L19.N n g k_ z_) k_ z_ (L19.T n g s_) h_ := LNextP.mk (Tm := (fun (z_ : Int) => L19.T n g z_)) (Hp := (fun (z_ : Int) => L19.H n g z_)) (inv := (fun (z_ : Int) => L19.inv n g z_)) (mu := (fun (z_ : Int) => L19.mu n g z_)) (l := (fun (k_ : Nat) (z_ : Int) => L19.N n g k_ z_)) s_ h1 h2 h3 h4

theorem L19.en (n : Nat) (g : Nat → SD) {k_ : Nat} {z_ : Int} {h_ : AHeap} (o_ : L19.O) (h3 : L19.N n g (k_ + 1) z_ = o_) (h4 : PopOk (L19.H n g z_) h_ (L19.X n g o_) (L19.XH n g o_)) : LEndP (fun (z_ : Int) => L19.H n g z_) (fun (k_ : Nat) (z_ : Int) => L19.N n g k_ z_) L19.E (L19.X n g) (L19.XH n g) k_ z_ (L19.E o_) (L19.X n g o_) h_ := LEndP.mk (Hp := (fun (z_ : Int) => L19.H n g z_)) (l := (fun (k_ : Nat) (z_ : Int) => L19.N n g k_ z_)) (oE := L19.E) (oT := L19.X n g) (oH := L19.XH n g) o_ h3 h4

theorem L19.spec (n : Nat) (g : Nat → SD) (hn : n ≤ 9223372036854775807) (k_ : Nat) (z_ : Int) (hi_ : L19.inv n g z_) (hm_ : L19.mu n g z_ < k_) : LoopTo Try.prog (loopN Try.f19 0) (L19.T n g z_) (L19.H n g z_) (L19.E (L19.N n g k_ z_)) (L19.X n g (L19.N n g k_ z_)) (L19.XH n g (L19.N n g k_ z_)) := by
  refine LoopTo.fuelP mix (fun (z_ : Int) => L19.T n g z_) (fun (z_ : Int) => L19.H n g z_) (fun (z_ : Int) => L19.inv n g z_) (fun (z_ : Int) => L19.mu n g z_) (fun (k_ : Nat) (z_ : Int) => L19.N n g k_ z_) L19.E (L19.X n g) (L19.XH n g) (others 41 [0, 5]) (others 41 [4]) (others 41 []) ?_ k_ z_ hi_ hm_
  clear hm_ hi_ z_ k_
  intro k_ z_ hinv hmu
  revert hinv hmu; revert z_; intro i hinv hmu
  have hinv : 0 ≤ i ∧ i ≤ (↑n : Int) := hinv
  have hmu : (((↑n : Int) - i).toNat) < k_ + 1 := hmu
  cases h1 : decide (i < (↑n : Int)) with
  | true =>
    have h1p := of_decide_eq_true h1
    have o0 : (0 : Int) ≤ i := by first | assumption | omega | (simp_all; done)
    have o1 : i < (↑n : Int) := by first | assumption | omega | (simp_all; done)
    cases h2 : decide ((↑(g i.toNat).nr : Int) > 20) with
    | true =>
      have h2p := of_decide_eq_true h2
      exact ⟨[.b true, .b true, .b true, .b true, .b true, .b true, .b true, .b true, .b true, .b true, .b true, .b true, .b true, .b true, .b true, .b true, .b true, .b true], kmp (by kernel_rfl) (And.intro h1 (And.intro (And.intro o0 o1) (And.intro h2 (And.intro h2 (And.intro h2 (And.intro h2 (And.intro h2 (And.intro h2 (And.intro h2 (And.intro h2 (And.intro (rfl : true = true) (And.intro (rfl : true = true) (And.intro (rfl : true = true) (And.intro (rfl : true = true) (And.intro (rfl : true = true) (And.intro (rfl : true = true) (And.intro (rfl : true = true) (And.intro (rfl : true = true) (And.intro (rfl : true = true) (L19.en n g (k_ := k_) (z_ := i) (.e0 : L19.O) (by first | (simp only [L19.N, h1, h2, cond_true, cond_false]; done) | (try unfold L19.N; try simp only [h1, cond_true, cond_false]; try simp only [h2, cond_true, cond_false]; try rfl; done)) PopOk.same))))))))))))))))))))⟩
    | false =>
      have h2p := of_decide_eq_false h2
      cases h3 : decide ((↑(g i.toNat).nl : Int) > 20) with
      | true =>
        have h3p := of_decide_eq_true h3
        exact ⟨[.b true, .b false, .b false, .b false, .b false, .b false, .b false, .b false, .b false, .b true, .b true, .b true, .b true, .b true, .b true, .b true, .b true, .b true], kmp (by kernel_rfl) (And.intro h1 (And.intro (And.intro o0 o1) (And.intro h2 (And.intro h2 (And.intro h2 (And.intro (And.intro o0 o1) (And.intro h2 (And.intro h2 (And.intro h2 (And.intro h2 (And.intro h2 (And.intro h3 (And.intro h3 (And.intro h3 (And.intro h3 (And.intro h3 (And.intro h3 (And.intro h3 (And.intro h3 (And.intro (rfl : true = true) (L19.en n g (k_ := k_) (z_ := i) (.e0 : L19.O) (by first | (simp only [L19.N, h1, h2, h3, cond_true, cond_false]; done) | (try unfold L19.N; try simp only [h1, cond_true, cond_false]; try simp only [h2, cond_true, cond_false]; try simp only [h3, cond_true, cond_false]; try rfl; done)) PopOk.same)))))))))))))))))))))⟩
      | false =>
        have h3p := of_decide_eq_false h3
        cases h4 : decide ((↑(g i.toNat).nm.size : Int) > 60) with
        | true =>
          have h4p := of_decide_eq_true h4
          exact ⟨[.b true, .b false, .b false, .b false, .b false, .b false, .b false, .b false, .b false, .b false, .b false, .b false, .b false, .b false, .b false, .b false, .b false, .b true], kmp (by kernel_rfl) (And.intro h1 (And.intro (And.intro o0 o1) (And.intro h2 (And.intro h2 (And.intro h2 (And.intro (And.intro o0 o1) (And.intro h2 (And.intro h2 (And.intro h2 (And.intro h2 (And.intro h2 (And.intro h3 (And.intro h3 (And.intro h3 (And.intro (And.intro o0 o1) (And.intro h3 (And.intro h3 (And.intro h3 (And.intro h3 (And.intro h3 (And.intro h4 (L19.en n g (k_ := k_) (z_ := i) (.e0 : L19.O) (by first | (simp only [L19.N, h1, h2, h3, h4, cond_true, cond_false]; done) | (try unfold L19.N; try simp only [h1, cond_true, cond_false]; try simp only [h2, cond_true, cond_false]; try simp only [h3, cond_true, cond_false]; try simp only [h4, cond_true, cond_false]; try rfl; done)) PopOk.same))))))))))))))))))))))⟩
        | false =>
          have h4p := of_decide_eq_false h4
          try have := IntWalk.i64_in (i + 1) (by omega)
          have o2 : (0 : Int) ≤ IntKind.i64.wrap (i + (1 : Int)) := by first | assumption | omega | (simp_all; done)
          have o3 : IntKind.i64.wrap (i + (1 : Int)) ≤ (↑n : Int) := by first | assumption | omega | (simp_all; done)
          have o4 : ((↑n : Int) - IntKind.i64.wrap (i + (1 : Int))).toNat < ((↑n : Int) - i).toNat := by first | assumption | omega | (simp_all; done)
          exact ⟨[.b true, .b false, .b false, .b false, .b false, .b false, .b false, .b false, .b false, .b false, .b false, .b false, .b false, .b false, .b false, .b false, .b false, .b false], kmp (by kernel_rfl) (And.intro h1 (And.intro (And.intro o0 o1) (And.intro h2 (And.intro h2 (And.intro h2 (And.intro (And.intro o0 o1) (And.intro h2 (And.intro h2 (And.intro h2 (And.intro h2 (And.intro h2 (And.intro h3 (And.intro h3 (And.intro h3 (And.intro (And.intro o0 o1) (And.intro h3 (And.intro h3 (And.intro h3 (And.intro h3 (And.intro h3 (And.intro h4 (L19.nx n g (k_ := k_) (z_ := i) (IntKind.i64.wrap (i + 1)) (And.intro o2 o3) o4 (by first | (simp only [L19.N, h1, h2, h3, h4, cond_true, cond_false]; done) | (try unfold L19.N; try simp only [h1, cond_true, cond_false]; try simp only [h2, cond_true, cond_false]; try simp only [h3, cond_true, cond_false]; try simp only [h4, cond_true, cond_false]; try rfl; done)) PopOk.same))))))))))))))))))))))⟩
  | false =>
    have h1p := of_decide_eq_false h1
    exact ⟨[.b false], kmp (by kernel_rfl) (And.intro h1 (L19.en n g (k_ := k_) (z_ := i) (.e1 : L19.O) (by first | (simp only [L19.N, h1, cond_true, cond_false]; done) | (try unfold L19.N; try simp only [h1, cond_true, cond_false]; try rfl; done)) PopOk.same))⟩

theorem L19.e0 (n : Nat) (g : Nat → SD) (hn : n ≤ 9223372036854775807) (i : Int) (hinv : L19.inv n g i) (hN : L19.run n g i = (.e0 : L19.O)) : LoopTo Try.prog (loopN Try.f19 0) (L19.T n g i) (L19.H n g i) (Exit.ret) (L19.X n g (.e0 : L19.O)) (L19.XH n g (.e0 : L19.O)) := by
  have h_ := L19.spec n g hn ((((↑n : Int) - i).toNat) + 1) i hinv (Nat.lt_succ_self _)
  unfold L19.run at hN
  simp only [hN] at h_
  exact h_

theorem L19.e1 (n : Nat) (g : Nat → SD) (hn : n ≤ 9223372036854775807) (i : Int) (hinv : L19.inv n g i) (hN : L19.run n g i = (.e1 : L19.O)) : LoopTo Try.prog (loopN Try.f19 0) (L19.T n g i) (L19.H n g i) (Exit.exit 0) (L19.X n g (.e1 : L19.O)) (L19.XH n g (.e1 : L19.O)) := by
  have h_ := L19.spec n g hn ((((↑n : Int) - i).toNat) + 1) i hinv (Nat.lt_succ_self _)
  unfold L19.run at hN
  simp only [hN] at h_
  exact h_

noncomputable def r19.v (n : Nat) (g : Nat → SD) (m : Int) : Bool := (bif decide ((↑n : Int) > m) then false else (match L19.run n g 0 with | .e0 => false | .e1 => true ))

theorem r19 (n : Nat) (g : Nat → SD) (m : Int) (hn : n ≤ 9223372036854775807) (h : AHeap) : Ret Try.prog 19 ([sts n g, AV.int IntKind.i64 m]) h (AV.bool (r19.v n g m)) h := by
  cases h1 : decide ((↑n : Int) > m) with
  | true =>
    have h1p := of_decide_eq_true h1
    exact Ret.of_run1 mix [(AV.bool (r19.v n g m))] Try.func19 rfl [.b true] (by simp) (by simp) (kmp (by kernel_rfl) (And.intro h1 (And.intro (show (AV.bool false) = ((AV.bool (r19.v n g m))) by first | (simp only [r19.v, h1, cond_true, cond_false]; done) | (try unfold r19.v; try simp only [h1, cond_true, cond_false]; try rfl; done) | rfl) trivial))) h
  | false =>
    have h1p := of_decide_eq_false h1
    have o0 : n ≤ (9223372036854775807 : Nat) := by first | assumption | omega | (simp_all; done)
    have o1 : (0 : Int) ≤ (↑n : Int) := by first | assumption | omega | (simp_all; done)
    cases h2 : L19.run n g 0 with
    | e0 =>
      exact Ret.of_run1 mix [(AV.bool (r19.v n g m))] Try.func19 rfl [.b false, .loop (others 41 [0, 5]) (Exit.ret) (L19.X n g L19.O.e0) (L19.XH n g L19.O.e0)] (by simp) (by simp) (kmp (by kernel_rfl) (And.intro h1 (And.intro (L19.e0 (n) (g) o0 (0) (And.intro (show (0 : Int) ≤ (0 : Int) by first | decide | exact Int.NonNeg.mk _) o1) h2) (And.intro (show (AV.bool false) = ((AV.bool (r19.v n g m))) by first | (simp only [r19.v, h1, h2, cond_true, cond_false]; done) | (try unfold r19.v; try simp only [h1, cond_true, cond_false]; try simp only [h2, cond_true, cond_false]; try rfl; done) | rfl) trivial)))) h
    | e1 =>
      exact Ret.of_run1 mix [(AV.bool (r19.v n g m))] Try.func19 rfl [.b false, .loop (others 41 [0, 5]) (Exit.exit 0) (L19.X n g L19.O.e1) (L19.XH n g L19.O.e1)] (by simp) (by simp) (kmp (by kernel_rfl) (And.intro h1 (And.intro (L19.e1 (n) (g) o0 (0) (And.intro (show (0 : Int) ≤ (0 : Int) by first | decide | exact Int.NonNeg.mk _) o1) h2) (And.intro (show (AV.bool true) = ((AV.bool (r19.v n g m))) by first | (simp only [r19.v, h1, h2, cond_true, cond_false]; done) | (try unfold r19.v; try simp only [h1, cond_true, cond_false]; try simp only [h2, cond_true, cond_false]; try rfl; done) | rfl) trivial)))) h

noncomputable def r62.v (s : SD) : Bool := bnot (r63.v s.nm)

theorem r62 (s : SD) (h : AHeap) : Ret Try.prog 62 ([s.av]) h (AV.bool (r62.v s)) h := by
  have o0 : s.nm.size ≤ (9223372036854775807 : Nat) := by first | assumption | omega | (simp_all; done)
  exact Ret.of_run1 mix [(AV.bool (r62.v s))] Try.func62 rfl [.ret (AV.bool (r63.v s.nm)) ([AObj.var (AV.agg [AV.str s.nm, AV.int IntKind.i64 s.x, AV.int IntKind.i64 s.y, AV.sl 1 s.nr fun (i : Nat) => AV.int IntKind.i64 (s.r i), AV.sl 1 s.nl fun (i : Nat) => AV.int IntKind.i64 (s.l i)])])] (by simp) (by simp) (kmp (by kernel_rfl) (And.intro (r63 (s.nm) o0 ([AObj.var (AV.agg [AV.str s.nm, AV.int IntKind.i64 s.x, AV.int IntKind.i64 s.y, AV.sl 1 s.nr fun (i : Nat) => AV.int IntKind.i64 (s.r i), AV.sl 1 s.nl fun (i : Nat) => AV.int IntKind.i64 (s.l i)])])) (And.intro (show (AV.bool (bnot (r63.v s.nm))) = ((AV.bool (r62.v s))) by first | (simp only [r62.v, cond_true, cond_false]; done) | (try unfold r62.v; try rfl; done) | rfl) trivial))) h

noncomputable def r64.v (s : SD) : Bool := (bif decide ((↑s.nr : Int) < 1) then true else (bif decide ((↑s.nr : Int) > 16) then true else (↑s.nl : Int) != (↑s.nr : Int)))

theorem r64 (s : SD) (h : AHeap) : Ret Try.prog 64 ([s.av]) h (AV.bool (r64.v s)) h := by
  cases h1 : decide ((↑s.nr : Int) < 1) with
  | true =>
    have h1p := of_decide_eq_true h1
    exact Ret.of_run1 mix [(AV.bool (r64.v s))] Try.func64 rfl [.b true, .b true, .b true, .b true, .b true, .b true, .b true, .b true, .b true, .b true, .b true, .b true, .b true] (by simp) (by simp) (kmp (by kernel_rfl) (And.intro h1 (And.intro h1 (And.intro h1 (And.intro h1 (And.intro h1 (And.intro (rfl : true = true) (And.intro (rfl : true = true) (And.intro (rfl : true = true) (And.intro (rfl : true = true) (And.intro (rfl : true = true) (And.intro (rfl : true = true) (And.intro (rfl : true = true) (And.intro (rfl : true = true) (And.intro (show (AV.bool true) = ((AV.bool (r64.v s))) by first | (simp only [r64.v, h1, cond_true, cond_false]; done) | (try unfold r64.v; try simp only [h1, cond_true, cond_false]; try rfl; done) | rfl) trivial))))))))))))))) h
  | false =>
    have h1p := of_decide_eq_false h1
    cases h2 : decide ((↑s.nr : Int) > 16) with
    | true =>
      have h2p := of_decide_eq_true h2
      exact Ret.of_run1 mix [(AV.bool (r64.v s))] Try.func64 rfl [.b false, .b false, .b false, .b false, .b false, .b true, .b true, .b true, .b true, .b true, .b true, .b true, .b true] (by simp) (by simp) (kmp (by kernel_rfl) (And.intro h1 (And.intro h1 (And.intro h1 (And.intro h1 (And.intro h1 (And.intro h2 (And.intro h2 (And.intro h2 (And.intro h2 (And.intro h2 (And.intro h2 (And.intro h2 (And.intro h2 (And.intro (show (AV.bool true) = ((AV.bool (r64.v s))) by first | (simp only [r64.v, h1, h2, cond_true, cond_false]; done) | (try unfold r64.v; try simp only [h1, cond_true, cond_false]; try simp only [h2, cond_true, cond_false]; try rfl; done) | rfl) trivial))))))))))))))) h
    | false =>
      have h2p := of_decide_eq_false h2
      exact Ret.of_run1 mix [(AV.bool (r64.v s))] Try.func64 rfl [.b false, .b false, .b false, .b false, .b false, .b false, .b false, .b false, .b false, .b false, .b false, .b false, .b false] (by simp) (by simp) (kmp (by kernel_rfl) (And.intro h1 (And.intro h1 (And.intro h1 (And.intro h1 (And.intro h1 (And.intro h2 (And.intro h2 (And.intro h2 (And.intro h2 (And.intro h2 (And.intro h2 (And.intro h2 (And.intro h2 (And.intro (show (AV.bool ((↑s.nl : Int) != (↑s.nr : Int))) = ((AV.bool (r64.v s))) by first | (simp only [r64.v, h1, h2, cond_true, cond_false]; done) | (try unfold r64.v; try simp only [h1, cond_true, cond_false]; try simp only [h2, cond_true, cond_false]; try rfl; done) | rfl) trivial))))))))))))))) h

inductive L65.O where
  | e0
  | e1

noncomputable def L65.T (s : SD) (i : Int) : List AV := mkT 74 [(1, AV.ptr 0 1 5 0 0), (2, AV.bool false), (18, AV.sl 1 s.nr fun (i : Nat) => AV.int IntKind.i64 (s.r i)), (19, AV.int IntKind.i64 (↑s.nr : Int)), (20, AV.int IntKind.i64 i)]

noncomputable def L65.H (s : SD) (i : Int) : AHeap := [AObj.var s.av]

def L65.inv (s : SD) (i : Int) : Prop := 0 ≤ i ∧ i ≤ (↑s.nr : Int)

noncomputable def L65.mu (s : SD) (i : Int) : Nat := ((↑s.nr : Int) - i).toNat

noncomputable def L65.E : L65.O → Exit
  | .e0 => Exit.ret
  | .e1 => Exit.exit 0

noncomputable def L65.X (s : SD) : L65.O → List AV
  | .e0 => mkT 74 [(2, (AV.bool true))]
  | .e1 => mkT 74 []

noncomputable def L65.XH (s : SD) : L65.O → AHeap
  | .e0 => ([AObj.var (AV.agg [AV.str s.nm, AV.int IntKind.i64 s.x, AV.int IntKind.i64 s.y, AV.sl 1 s.nr fun (i : Nat) => AV.int IntKind.i64 (s.r i), AV.sl 1 s.nl fun (i : Nat) => AV.int IntKind.i64 (s.l i)])])
  | .e1 => ([AObj.var (AV.agg [AV.str s.nm, AV.int IntKind.i64 s.x, AV.int IntKind.i64 s.y, AV.sl 1 s.nr fun (i : Nat) => AV.int IntKind.i64 (s.r i), AV.sl 1 s.nl fun (i : Nat) => AV.int IntKind.i64 (s.l i)])])

noncomputable def L65.N (s : SD) : Nat → Int → L65.O
  | 0, _ => .e0
  | k_ + 1, i => (bif decide (i < (↑s.nr : Int)) then (bif decide (s.r i.toNat < 1) then (.e0) else (bif decide (s.r i.toNat > 500000) then (.e0) else (bif decide (s.l i.toNat < 0) then (.e0) else (bif decide (s.l i.toNat > 1000000000000000) then (.e0) else (bif decide (i > 0) then (bif decide (s.r (IntKind.i64.wrap (i - 1)).toNat ≥ s.r i.toNat) then (.e0) else (bif decide (s.l i.toNat > s.l (IntKind.i64.wrap (i - 1)).toNat) then (.e0) else (L65.N s k_ (IntKind.i64.wrap (i + 1))))) else (L65.N s k_ (IntKind.i64.wrap (i + 1)))))))) else (.e1))

noncomputable def L65.run (s : SD) (i : Int) : L65.O := L65.N s ((((↑s.nr : Int) - i).toNat) + 1) i

theorem L65.nx (s : SD) {k_ : Nat} {z_ : Int} {h_ : AHeap} (s_ : Int) (h1 : L65.inv s s_) (h2 : L65.mu s s_ < L65.mu s z_) (h3 : L65.N s k_ s_ = L65.N s (k_ + 1) z_) (h4 : PopOk (L65.H s z_) h_ (L65.T s s_) (L65.H s s_)) : LNextP (fun (z_ : Int) => L65.T s z_) (fun (z_ : Int) => L65.H s z_) (fun (z_ : Int) => L65.inv s z_) (fun (z_ : Int) => L65.mu s z_) (fun (k_ : Nat) (z_ : Int) => L65.N s k_ z_) k_ z_ (L65.T s s_) h_ := LNextP.mk (Tm := (fun (z_ : Int) => L65.T s z_)) (Hp := (fun (z_ : Int) => L65.H s z_)) (inv := (fun (z_ : Int) => L65.inv s z_)) (mu := (fun (z_ : Int) => L65.mu s z_)) (l := (fun (k_ : Nat) (z_ : Int) => L65.N s k_ z_)) s_ h1 h2 h3 h4

theorem L65.en (s : SD) {k_ : Nat} {z_ : Int} {h_ : AHeap} (o_ : L65.O) (h3 : L65.N s (k_ + 1) z_ = o_) (h4 : PopOk (L65.H s z_) h_ (L65.X s o_) (L65.XH s o_)) : LEndP (fun (z_ : Int) => L65.H s z_) (fun (k_ : Nat) (z_ : Int) => L65.N s k_ z_) L65.E (L65.X s) (L65.XH s) k_ z_ (L65.E o_) (L65.X s o_) h_ := LEndP.mk (Hp := (fun (z_ : Int) => L65.H s z_)) (l := (fun (k_ : Nat) (z_ : Int) => L65.N s k_ z_)) (oE := L65.E) (oT := L65.X s) (oH := L65.XH s) o_ h3 h4

theorem L65.spec (s : SD) (hl : s.nl = s.nr) (hr : s.nr ≤ 9223372036854775807) (k_ : Nat) (z_ : Int) (hi_ : L65.inv s z_) (hm_ : L65.mu s z_ < k_) : LoopTo Try.prog (loopN Try.f65 0) (L65.T s z_) (L65.H s z_) (L65.E (L65.N s k_ z_)) (L65.X s (L65.N s k_ z_)) (L65.XH s (L65.N s k_ z_)) := by
  refine LoopTo.fuelP mix (fun (z_ : Int) => L65.T s z_) (fun (z_ : Int) => L65.H s z_) (fun (z_ : Int) => L65.inv s z_) (fun (z_ : Int) => L65.mu s z_) (fun (k_ : Nat) (z_ : Int) => L65.N s k_ z_) L65.E (L65.X s) (L65.XH s) (others 74 [1, 2, 18, 19, 20]) (others 74 [2]) (others 74 []) ?_ k_ z_ hi_ hm_
  clear hm_ hi_ z_ k_
  intro k_ z_ hinv hmu
  revert hinv hmu; revert z_; intro i hinv hmu
  have hinv : 0 ≤ i ∧ i ≤ (↑s.nr : Int) := hinv
  have hmu : (((↑s.nr : Int) - i).toNat) < k_ + 1 := hmu
  cases h1 : decide (i < (↑s.nr : Int)) with
  | true =>
    have h1p := of_decide_eq_true h1
    have o0 : (0 : Int) ≤ i := by first | assumption | omega | (simp_all; done)
    have o1 : i < (↑s.nr : Int) := by first | assumption | omega | (simp_all; done)
    cases h2 : decide (s.r i.toNat < 1) with
    | true =>
      have h2p := of_decide_eq_true h2
      exact ⟨[.b true, .b true, .b true, .b true, .b true, .b true, .b true, .b true, .b true, .b true, .b true, .b true, .b true, .b true, .b true, .b true, .b true, .b true, .b true], kmp (by kernel_rfl) (And.intro h1 (And.intro (And.intro o0 o1) (And.intro h2 (And.intro h2 (And.intro h2 (And.intro (rfl : true = true) (And.intro (rfl : true = true) (And.intro (rfl : true = true) (And.intro (rfl : true = true) (And.intro (rfl : true = true) (And.intro (rfl : true = true) (And.intro (rfl : true = true) (And.intro (rfl : true = true) (And.intro (rfl : true = true) (And.intro (rfl : true = true) (And.intro (rfl : true = true) (And.intro (rfl : true = true) (And.intro (rfl : true = true) (And.intro (rfl : true = true) (And.intro (rfl : true = true) (L65.en s (k_ := k_) (z_ := i) (.e0 : L65.O) (by first | (simp only [L65.N, h1, h2, cond_true, cond_false]; done) | (try unfold L65.N; try simp only [h1, cond_true, cond_false]; try simp only [h2, cond_true, cond_false]; try rfl; done)) PopOk.same)))))))))))))))))))))⟩
    | false =>
      have h2p := of_decide_eq_false h2
      cases h3 : decide (s.r i.toNat > 500000) with
      | true =>
        have h3p := of_decide_eq_true h3
        exact ⟨[.b true, .b false, .b false, .b false, .b true, .b true, .b true, .b true, .b true, .b true, .b true, .b true, .b true, .b true, .b true, .b true, .b true, .b true, .b true], kmp (by kernel_rfl) (And.intro h1 (And.intro (And.intro o0 o1) (And.intro h2 (And.intro h2 (And.intro h2 (And.intro h3 (And.intro h3 (And.intro h3 (And.intro h3 (And.intro h3 (And.intro h3 (And.intro h3 (And.intro (rfl : true = true) (And.intro (rfl : true = true) (And.intro (rfl : true = true) (And.intro (rfl : true = true) (And.intro (rfl : true = true) (And.intro (rfl : true = true) (And.intro (rfl : true = true) (And.intro (rfl : true = true) (L65.en s (k_ := k_) (z_ := i) (.e0 : L65.O) (by first | (simp only [L65.N, h1, h2, h3, cond_true, cond_false]; done) | (try unfold L65.N; try simp only [h1, cond_true, cond_false]; try simp only [h2, cond_true, cond_false]; try simp only [h3, cond_true, cond_false]; try rfl; done)) PopOk.same)))))))))))))))))))))⟩
      | false =>
        have h3p := of_decide_eq_false h3
        have o2 : i < (↑s.nl : Int) := by first | assumption | omega | (simp_all; done)
        cases h4 : decide (s.l i.toNat < 0) with
        | true =>
          have h4p := of_decide_eq_true h4
          exact ⟨[.b true, .b false, .b false, .b false, .b false, .b false, .b false, .b false, .b false, .b false, .b false, .b true, .b true, .b true, .b true, .b true, .b true, .b true, .b true], kmp (by kernel_rfl) (And.intro h1 (And.intro (And.intro o0 o1) (And.intro h2 (And.intro h2 (And.intro h2 (And.intro h3 (And.intro h3 (And.intro h3 (And.intro h3 (And.intro (And.intro o0 o2) (And.intro h3 (And.intro h3 (And.intro h3 (And.intro h4 (And.intro h4 (And.intro h4 (And.intro h4 (And.intro h4 (And.intro h4 (And.intro h4 (And.intro (rfl : true = true) (L65.en s (k_ := k_) (z_ := i) (.e0 : L65.O) (by first | (simp only [L65.N, h1, h2, h3, h4, cond_true, cond_false]; done) | (try unfold L65.N; try simp only [h1, cond_true, cond_false]; try simp only [h2, cond_true, cond_false]; try simp only [h3, cond_true, cond_false]; try simp only [h4, cond_true, cond_false]; try rfl; done)) PopOk.same))))))))))))))))))))))⟩
        | false =>
          have h4p := of_decide_eq_false h4
          cases h5 : decide (s.l i.toNat > 1000000000000000) with
          | true =>
            have h5p := of_decide_eq_true h5
            exact ⟨[.b true, .b false, .b false, .b false, .b false, .b false, .b false, .b false, .b false, .b false, .b false, .b false, .b false, .b false, .b false, .b false, .b false, .b false, .b true], kmp (by kernel_rfl) (And.intro h1 (And.intro (And.intro o0 o1) (And.intro h2 (And.intro h2 (And.intro h2 (And.intro h3 (And.intro h3 (And.intro h3 (And.intro h3 (And.intro (And.intro o0 o2) (And.intro h3 (And.intro h3 (And.intro h3 (And.intro h4 (And.intro h4 (And.intro h4 (And.intro h4 (And.intro (And.intro o0 o2) (And.intro h4 (And.intro h4 (And.intro h4 (And.intro h5 (L65.en s (k_ := k_) (z_ := i) (.e0 : L65.O) (by first | (simp only [L65.N, h1, h2, h3, h4, h5, cond_true, cond_false]; done) | (try unfold L65.N; try simp only [h1, cond_true, cond_false]; try simp only [h2, cond_true, cond_false]; try simp only [h3, cond_true, cond_false]; try simp only [h4, cond_true, cond_false]; try simp only [h5, cond_true, cond_false]; try rfl; done)) PopOk.same)))))))))))))))))))))))⟩
          | false =>
            have h5p := of_decide_eq_false h5
            cases h6 : decide (i > 0) with
            | true =>
              have h6p := of_decide_eq_true h6
              try have := IntWalk.i64_in (i - 1) (by omega)
              have o3 : (0 : Int) ≤ IntKind.i64.wrap (i - (1 : Int)) := by first | assumption | omega | (simp_all; done)
              have o4 : IntKind.i64.wrap (i - (1 : Int)) < (↑s.nr : Int) := by first | assumption | omega | (simp_all; done)
              cases h7 : decide (s.r (IntKind.i64.wrap (i - 1)).toNat ≥ s.r i.toNat) with
              | true =>
                have h7p := of_decide_eq_true h7
                exact ⟨[.b true, .b false, .b false, .b false, .b false, .b false, .b false, .b false, .b false, .b false, .b false, .b false, .b false, .b false, .b false, .b false, .b false, .b false, .b false, .b true, .b true, .b true, .b true, .b true, .b true, .b true, .b true, .b true, .b true, .b true, .b true, .b true, .b true, .b true, .b true, .b true, .b true, .b true, .b true, .b true, .b true, .b true, .b true, .b true], kmp (by kernel_rfl) (And.intro h1 (And.intro (And.intro o0 o1) (And.intro h2 (And.intro h2 (And.intro h2 (And.intro h3 (And.intro h3 (And.intro h3 (And.intro h3 (And.intro (And.intro o0 o2) (And.intro h3 (And.intro h3 (And.intro h3 (And.intro h4 (And.intro h4 (And.intro h4 (And.intro h4 (And.intro (And.intro o0 o2) (And.intro h4 (And.intro h4 (And.intro h4 (And.intro h5 (And.intro h6 (And.intro h6 (And.intro h6 (And.intro h6 (And.intro h6 (And.intro (And.intro o3 o4) (And.intro h6 (And.intro h6 (And.intro h6 (And.intro h6 (And.intro h7 (And.intro h7 (And.intro h7 (And.intro h7 (And.intro h7 (And.intro h7 (And.intro h7 (And.intro h7 (And.intro h7 (And.intro h7 (And.intro h7 (And.intro h7 (And.intro h6 (And.intro h7 (And.intro h6 (And.intro (rfl : true = true) (L65.en s (k_ := k_) (z_ := i) (.e0 : L65.O) (by first | (simp only [L65.N, h1, h2, h3, h4, h5, h6, h7, cond_true, cond_false]; done) | (try unfold L65.N; try simp only [h1, cond_true, cond_false]; try simp only [h2, cond_true, cond_false]; try simp only [h3, cond_true, cond_false]; try simp only [h4, cond_true, cond_false]; try simp only [h5, cond_true, cond_false]; try simp only [h6, cond_true, cond_false]; try simp only [h7, cond_true, cond_false]; try rfl; done)) PopOk.same)))))))))))))))))))))))))))))))))))))))))))))))))⟩
              | false =>
                have h7p := of_decide_eq_false h7
                try have := IntWalk.i64_in (i - 1) (by omega)
                have o5 : IntKind.i64.wrap (i - (1 : Int)) < (↑s.nl : Int) := by first | assumption | omega | (simp_all; done)
                cases h8 : decide (s.l i.toNat > s.l (IntKind.i64.wrap (i - 1)).toNat) with
                | true =>
                  have h8p := of_decide_eq_true h8
                  exact ⟨[.b true, .b false, .b false, .b false, .b false, .b false, .b false, .b false, .b false, .b false, .b false, .b false, .b false, .b false, .b false, .b false, .b false, .b false, .b false, .b true, .b true, .b true, .b true, .b true, .b true, .b true, .b true, .b true, .b false, .b false, .b false, .b false, .b false, .b false, .b false, .b false, .b false, .b false, .b false, .b false, .b true, .b false, .b true, .b true], kmp (by kernel_rfl) (And.intro h1 (And.intro (And.intro o0 o1) (And.intro h2 (And.intro h2 (And.intro h2 (And.intro h3 (And.intro h3 (And.intro h3 (And.intro h3 (And.intro (And.intro o0 o2) (And.intro h3 (And.intro h3 (And.intro h3 (And.intro h4 (And.intro h4 (And.intro h4 (And.intro h4 (And.intro (And.intro o0 o2) (And.intro h4 (And.intro h4 (And.intro h4 (And.intro h5 (And.intro h6 (And.intro h6 (And.intro h6 (And.intro h6 (And.intro h6 (And.intro (And.intro o3 o4) (And.intro h6 (And.intro h6 (And.intro h6 (And.intro h6 (And.intro h7 (And.intro h7 (And.intro h7 (And.intro h7 (And.intro (And.intro o0 o2) (And.intro h7 (And.intro h7 (And.intro h7 (And.intro h7 (And.intro h7 (And.intro h7 (And.intro (And.intro o3 o5) (And.intro h7 (And.intro h7 (And.intro h6 (And.intro h7 (And.intro h6 (And.intro h8 (L65.en s (k_ := k_) (z_ := i) (.e0 : L65.O) (by first | (simp only [L65.N, h1, h2, h3, h4, h5, h6, h7, h8, cond_true, cond_false]; done) | (try unfold L65.N; try simp only [h1, cond_true, cond_false]; try simp only [h2, cond_true, cond_false]; try simp only [h3, cond_true, cond_false]; try simp only [h4, cond_true, cond_false]; try simp only [h5, cond_true, cond_false]; try simp only [h6, cond_true, cond_false]; try simp only [h7, cond_true, cond_false]; try simp only [h8, cond_true, cond_false]; try rfl; done)) PopOk.same)))))))))))))))))))))))))))))))))))))))))))))))))))⟩
                | false =>
                  have h8p := of_decide_eq_false h8
                  try have := IntWalk.i64_in (i + 1) (by omega)
                  have o6 : (0 : Int) ≤ IntKind.i64.wrap (i + (1 : Int)) := by first | assumption | omega | (simp_all; done)
                  have o7 : IntKind.i64.wrap (i + (1 : Int)) ≤ (↑s.nr : Int) := by first | assumption | omega | (simp_all; done)
                  have o8 : ((↑s.nr : Int) - IntKind.i64.wrap (i + (1 : Int))).toNat < ((↑s.nr : Int) - i).toNat := by first | assumption | omega | (simp_all; done)
                  exact ⟨[.b true, .b false, .b false, .b false, .b false, .b false, .b false, .b false, .b false, .b false, .b false, .b false, .b false, .b false, .b false, .b false, .b false, .b false, .b false, .b true, .b true, .b true, .b true, .b true, .b true, .b true, .b true, .b true, .b false, .b false, .b false, .b false, .b false, .b false, .b false, .b false, .b false, .b false, .b false, .b false, .b true, .b false, .b true, .b false], kmp (by kernel_rfl) (And.intro h1 (And.intro (And.intro o0 o1) (And.intro h2 (And.intro h2 (And.intro h2 (And.intro h3 (And.intro h3 (And.intro h3 (And.intro h3 (And.intro (And.intro o0 o2) (And.intro h3 (And.intro h3 (And.intro h3 (And.intro h4 (And.intro h4 (And.intro h4 (And.intro h4 (And.intro (And.intro o0 o2) (And.intro h4 (And.intro h4 (And.intro h4 (And.intro h5 (And.intro h6 (And.intro h6 (And.intro h6 (And.intro h6 (And.intro h6 (And.intro (And.intro o3 o4) (And.intro h6 (And.intro h6 (And.intro h6 (And.intro h6 (And.intro h7 (And.intro h7 (And.intro h7 (And.intro h7 (And.intro (And.intro o0 o2) (And.intro h7 (And.intro h7 (And.intro h7 (And.intro h7 (And.intro h7 (And.intro h7 (And.intro (And.intro o3 o5) (And.intro h7 (And.intro h7 (And.intro h6 (And.intro h7 (And.intro h6 (And.intro h8 (L65.nx s (k_ := k_) (z_ := i) (IntKind.i64.wrap (i + 1)) (And.intro o6 o7) o8 (by first | (simp only [L65.N, h1, h2, h3, h4, h5, h6, h7, h8, cond_true, cond_false]; done) | (try unfold L65.N; try simp only [h1, cond_true, cond_false]; try simp only [h2, cond_true, cond_false]; try simp only [h3, cond_true, cond_false]; try simp only [h4, cond_true, cond_false]; try simp only [h5, cond_true, cond_false]; try simp only [h6, cond_true, cond_false]; try simp only [h7, cond_true, cond_false]; try simp only [h8, cond_true, cond_false]; try rfl; done)) PopOk.same)))))))))))))))))))))))))))))))))))))))))))))))))))⟩
            | false =>
              have h6p := of_decide_eq_false h6
              try have := IntWalk.i64_in (i + 1) (by omega)
              have o6 : (0 : Int) ≤ IntKind.i64.wrap (i + (1 : Int)) := by first | assumption | omega | (simp_all; done)
              have o7 : IntKind.i64.wrap (i + (1 : Int)) ≤ (↑s.nr : Int) := by first | assumption | omega | (simp_all; done)
              have o8 : ((↑s.nr : Int) - IntKind.i64.wrap (i + (1 : Int))).toNat < ((↑s.nr : Int) - i).toNat := by first | assumption | omega | (simp_all; done)
              exact ⟨[.b true, .b false, .b false, .b false, .b false, .b false, .b false, .b false, .b false, .b false, .b false, .b false, .b false, .b false, .b false, .b false, .b false, .b false, .b false, .b false, .b false, .b false, .b false, .b false, .b false, .b false, .b false, .b false, .b false, .b false, .b false], kmp (by kernel_rfl) (And.intro h1 (And.intro (And.intro o0 o1) (And.intro h2 (And.intro h2 (And.intro h2 (And.intro h3 (And.intro h3 (And.intro h3 (And.intro h3 (And.intro (And.intro o0 o2) (And.intro h3 (And.intro h3 (And.intro h3 (And.intro h4 (And.intro h4 (And.intro h4 (And.intro h4 (And.intro (And.intro o0 o2) (And.intro h4 (And.intro h4 (And.intro h4 (And.intro h5 (And.intro h6 (And.intro h6 (And.intro h6 (And.intro h6 (And.intro h6 (And.intro h6 (And.intro h6 (And.intro h6 (And.intro h6 (And.intro h6 (And.intro h6 (And.intro (rfl : false = false) (L65.nx s (k_ := k_) (z_ := i) (IntKind.i64.wrap (i + 1)) (And.intro o6 o7) o8 (by first | (simp only [L65.N, h1, h2, h3, h4, h5, h6, cond_true, cond_false]; done) | (try unfold L65.N; try simp only [h1, cond_true, cond_false]; try simp only [h2, cond_true, cond_false]; try simp only [h3, cond_true, cond_false]; try simp only [h4, cond_true, cond_false]; try simp only [h5, cond_true, cond_false]; try simp only [h6, cond_true, cond_false]; try rfl; done)) PopOk.same)))))))))))))))))))))))))))))))))))⟩
  | false =>
    have h1p := of_decide_eq_false h1
    exact ⟨[.b false], kmp (by kernel_rfl) (And.intro h1 (L65.en s (k_ := k_) (z_ := i) (.e1 : L65.O) (by first | (simp only [L65.N, h1, cond_true, cond_false]; done) | (try unfold L65.N; try simp only [h1, cond_true, cond_false]; try rfl; done)) PopOk.same))⟩

theorem L65.e0 (s : SD) (hl : s.nl = s.nr) (hr : s.nr ≤ 9223372036854775807) (i : Int) (hinv : L65.inv s i) (hN : L65.run s i = (.e0 : L65.O)) : LoopTo Try.prog (loopN Try.f65 0) (L65.T s i) (L65.H s i) (Exit.ret) (L65.X s (.e0 : L65.O)) (L65.XH s (.e0 : L65.O)) := by
  have h_ := L65.spec s hl hr ((((↑s.nr : Int) - i).toNat) + 1) i hinv (Nat.lt_succ_self _)
  unfold L65.run at hN
  simp only [hN] at h_
  exact h_

theorem L65.e1 (s : SD) (hl : s.nl = s.nr) (hr : s.nr ≤ 9223372036854775807) (i : Int) (hinv : L65.inv s i) (hN : L65.run s i = (.e1 : L65.O)) : LoopTo Try.prog (loopN Try.f65 0) (L65.T s i) (L65.H s i) (Exit.exit 0) (L65.X s (.e1 : L65.O)) (L65.XH s (.e1 : L65.O)) := by
  have h_ := L65.spec s hl hr ((((↑s.nr : Int) - i).toNat) + 1) i hinv (Nat.lt_succ_self _)
  unfold L65.run at hN
  simp only [hN] at h_
  exact h_

noncomputable def r65.v (s : SD) : Bool := (bif r39.v s.x then (bif r39.v s.y then (match L65.run s 0 with | .e0 => true | .e1 => false ) else true) else true)

noncomputable abbrev r65.h0 (s : SD) : AHeap := ([AObj.var (AV.agg [AV.str s.nm, AV.int IntKind.i64 s.x, AV.int IntKind.i64 s.y, AV.sl 1 s.nr fun (i : Nat) => AV.int IntKind.i64 (s.r i), AV.sl 1 s.nl fun (i : Nat) => AV.int IntKind.i64 (s.l i)])])

theorem r65 (s : SD) (hl : s.nl = s.nr) (h : AHeap) : Ret Try.prog 65 ([s.av]) h (AV.bool (r65.v s)) h := by
  cases h1 : r39.v s.x with
  | true =>
    cases h2 : r39.v s.y with
    | true =>
      have o0 : s.nl = s.nr := by first | assumption | omega | (simp_all; done)
      have o1 : s.nr ≤ (9223372036854775807 : Nat) := by first | assumption | omega | (simp_all; done)
      have o2 : (0 : Int) ≤ (↑s.nr : Int) := by first | assumption | omega | (simp_all; done)
      cases h3 : L65.run s 0 with
      | e0 =>
        exact Ret.of_run1 mix [(AV.bool (r65.v s))] Try.func65 rfl [.ret (AV.bool (r39.v s.x)) (r65.h0 s), .b false, .b false, .b false, .b false, .ret (AV.bool (r39.v s.y)) (r65.h0 s), .b false, .b false, .b false, .loop (others 74 [1, 2, 18, 19, 20]) (Exit.ret) (L65.X s L65.O.e0) (L65.XH s L65.O.e0)] (by simp) (by simp) (kmp (by kernel_rfl) (And.intro (r39 (s.x) (r65.h0 s)) (And.intro (show (bnot (r39.v s.x)) = false by rw [h1]; try rfl) (And.intro (show (bnot (r39.v s.x)) = false by rw [h1]; try rfl) (And.intro (show (bnot (r39.v s.x)) = false by rw [h1]; try rfl) (And.intro (show (bnot (r39.v s.x)) = false by rw [h1]; try rfl) (And.intro (r39 (s.y) (r65.h0 s)) (And.intro (show (bnot (r39.v s.x)) = false by rw [h1]; try rfl) (And.intro (show (bnot (r39.v s.x)) = false by rw [h1]; try rfl) (And.intro (show (bnot (r39.v s.y)) = false by rw [h2]; try rfl) (And.intro (L65.e0 (s) o0 o1 (0) (And.intro (show (0 : Int) ≤ (0 : Int) by first | decide | exact Int.NonNeg.mk _) o2) h3) (And.intro (show (AV.bool true) = ((AV.bool (r65.v s))) by first | (simp only [r65.v, h1, h2, h3, cond_true, cond_false]; done) | (try unfold r65.v; try simp only [h1, cond_true, cond_false]; try simp only [h2, cond_true, cond_false]; try simp only [h3, cond_true, cond_false]; try rfl; done) | rfl) trivial)))))))))))) h
      | e1 =>
        exact Ret.of_run1 mix [(AV.bool (r65.v s))] Try.func65 rfl [.ret (AV.bool (r39.v s.x)) (r65.h0 s), .b false, .b false, .b false, .b false, .ret (AV.bool (r39.v s.y)) (r65.h0 s), .b false, .b false, .b false, .loop (others 74 [1, 2, 18, 19, 20]) (Exit.exit 0) (L65.X s L65.O.e1) (L65.XH s L65.O.e1)] (by simp) (by simp) (kmp (by kernel_rfl) (And.intro (r39 (s.x) (r65.h0 s)) (And.intro (show (bnot (r39.v s.x)) = false by rw [h1]; try rfl) (And.intro (show (bnot (r39.v s.x)) = false by rw [h1]; try rfl) (And.intro (show (bnot (r39.v s.x)) = false by rw [h1]; try rfl) (And.intro (show (bnot (r39.v s.x)) = false by rw [h1]; try rfl) (And.intro (r39 (s.y) (r65.h0 s)) (And.intro (show (bnot (r39.v s.x)) = false by rw [h1]; try rfl) (And.intro (show (bnot (r39.v s.x)) = false by rw [h1]; try rfl) (And.intro (show (bnot (r39.v s.y)) = false by rw [h2]; try rfl) (And.intro (L65.e1 (s) o0 o1 (0) (And.intro (show (0 : Int) ≤ (0 : Int) by first | decide | exact Int.NonNeg.mk _) o2) h3) (And.intro (show (AV.bool false) = ((AV.bool (r65.v s))) by first | (simp only [r65.v, h1, h2, h3, cond_true, cond_false]; done) | (try unfold r65.v; try simp only [h1, cond_true, cond_false]; try simp only [h2, cond_true, cond_false]; try simp only [h3, cond_true, cond_false]; try rfl; done) | rfl) trivial)))))))))))) h
    | false =>
      exact Ret.of_run1 mix [(AV.bool (r65.v s))] Try.func65 rfl [.ret (AV.bool (r39.v s.x)) (r65.h0 s), .b false, .b false, .b false, .b false, .ret (AV.bool (r39.v s.y)) (r65.h0 s), .b false, .b false, .b true] (by simp) (by simp) (kmp (by kernel_rfl) (And.intro (r39 (s.x) (r65.h0 s)) (And.intro (show (bnot (r39.v s.x)) = false by rw [h1]; try rfl) (And.intro (show (bnot (r39.v s.x)) = false by rw [h1]; try rfl) (And.intro (show (bnot (r39.v s.x)) = false by rw [h1]; try rfl) (And.intro (show (bnot (r39.v s.x)) = false by rw [h1]; try rfl) (And.intro (r39 (s.y) (r65.h0 s)) (And.intro (show (bnot (r39.v s.x)) = false by rw [h1]; try rfl) (And.intro (show (bnot (r39.v s.x)) = false by rw [h1]; try rfl) (And.intro (show (bnot (r39.v s.y)) = true by rw [h2]; try rfl) (And.intro (show (AV.bool true) = ((AV.bool (r65.v s))) by first | (simp only [r65.v, h1, h2, cond_true, cond_false]; done) | (try unfold r65.v; try simp only [h1, cond_true, cond_false]; try simp only [h2, cond_true, cond_false]; try rfl; done) | rfl) trivial))))))))))) h
  | false =>
    exact Ret.of_run1 mix [(AV.bool (r65.v s))] Try.func65 rfl [.ret (AV.bool (r39.v s.x)) (r65.h0 s), .b true, .b true, .b true, .b true, .b true, .b true, .b true] (by simp) (by simp) (kmp (by kernel_rfl) (And.intro (r39 (s.x) (r65.h0 s)) (And.intro (show (bnot (r39.v s.x)) = true by rw [h1]; try rfl) (And.intro (show (bnot (r39.v s.x)) = true by rw [h1]; try rfl) (And.intro (show (bnot (r39.v s.x)) = true by rw [h1]; try rfl) (And.intro (show (bnot (r39.v s.x)) = true by rw [h1]; try rfl) (And.intro (show (bnot (r39.v s.x)) = true by rw [h1]; try rfl) (And.intro (show (bnot (r39.v s.x)) = true by rw [h1]; try rfl) (And.intro (rfl : true = true) (And.intro (show (AV.bool true) = ((AV.bool (r65.v s))) by first | (simp only [r65.v, h1, cond_true, cond_false]; done) | (try unfold r65.v; try simp only [h1, cond_true, cond_false]; try rfl; done) | rfl) trivial)))))))))) h

end Go.Proofs.Ytgmppoappaolkaa

open Go

namespace Go.Proofs.Ytgmppoappaolkaa

open Go.ChangeShapes Go.WideShapes Go.ChangeAt Go.RowKit

theorem own : ownKnob Try.prog.godebug = none := by kernel_rfl

theorem laidOut : laidOutB Try.prog = true := by kernel_rfl

theorem lf_int {P : Program} {a : AV} (h : LfFits P [.int .i64] [a]) : ∃ n, a = .int .i64 n := by
  obtain ⟨n, _, e, _, rfl⟩ := h
  cases e
  exact ⟨n, rfl⟩

theorem lf_stand {P : Program} {k e1 e2 : Nat} {cs : List AV} (f1 : flat P k e1 = some [.int .i64]) (f2 : flat P k e2 = some [.int .i64]) (h : LfFits P [.str, .int .i64, .int .i64, .sl k e1 1, .sl k e2 1] cs) : ∃ s : SD, ImpL cs s.av.cells := by
  obtain ⟨nm, _, rfl, h1, x, _, rfl, _, y, _, rfl, _, nr, r, _, rfl, h2, h3, nl, l, _, rfl, h4, h5, rfl⟩ := h
  obtain ⟨r', hr⟩ := imp_ints f1 h3
  obtain ⟨l', hl⟩ := imp_ints f2 h5
  exact ⟨⟨nm, x, y, nr, r', nl, l', le_max h1, le_max h2, le_max h4⟩, .cons (.refl _) (.cons (.refl _) (.cons (.refl _) (.cons hr (.cons hl .nil))))⟩

set_option maxRecDepth 100000 in
theorem arg_int {a : AV} (h : FitsV Try.prog 5 3 a) : ∃ n, a = .int .i64 n :=
  lf_int (fitsV_one (by kernel_rfl) (by kernel_rfl : flat Try.prog 5 3 = some [.int .i64]) h)

set_option maxRecDepth 100000 in
theorem flat40' : flat Try.prog 2 3 = some [.int .i64] := by kernel_rfl

set_option maxRecDepth 100000 in
theorem flat41' : flat Try.prog 2 2 = some [.int .i64] := by kernel_rfl

set_option maxRecDepth 100000 in
theorem flat43 : flat Try.prog 4 43 = some [.str, .int .i64, .int .i64, .sl 2 3 1, .sl 2 2 1] := by kernel_rfl

theorem lf_sl {P : Program} {k e sz : Nat} {a : AV} (h : LfFits P [.sl k e sz] [a]) : ∃ n f, a = .sl sz n f ∧ n ≤ maxLen ∧ ∀ i, i < n → Fits P k e (f i).cells := by
  obtain ⟨n, f, _, e, h1, h2, rfl⟩ := h
  cases e
  exact ⟨n, f, rfl, h1, h2⟩

set_option maxRecDepth 100000 in
theorem arg_stands {a : AV} (h : FitsV Try.prog 5 39 a) : ∃ (n : Nat) (g : Nat → SD), n ≤ 9223372036854775807 ∧ Imp a (sts n g) := by
  obtain ⟨n, f, e, h1, h2⟩ := lf_sl (fitsV_one (by kernel_rfl) (by kernel_rfl : flat Try.prog 5 39 = some [.sl 4 43 5]) h)
  obtain ⟨g, hg⟩ := imp_structs (D := SD) SD.av (sz := 5) flat43 (fun cs hc => lf_stand flat40' flat41' hc) h2
  rw [e]
  exact ⟨n, g, le_max h1, hg⟩

end Go.Proofs.Ytgmppoappaolkaa

open Go

namespace Go.Proofs.Ytgmppoappaolkaa

set_option linter.unusedSimpArgs false

set_option linter.unusedVariables false

set_option maxHeartbeats 0

set_option maxRecDepth 100000

inductive L79a.O where
  | e0 (a0 : Int)
  | e1

noncomputable def L79a.T (n : Nat) (g : Nat → SD) (i : Int) : List AV := mkT 19 [(0, AV.sl 5 n fun (i : Nat) => AV.agg [AV.str (g i).nm, AV.int IntKind.i64 (g i).x, AV.int IntKind.i64 (g i).y, AV.sl 1 (g i).nr fun (i_1 : Nat) => AV.int IntKind.i64 ((g i).r i_1), AV.sl 1 (g i).nl fun (i_1 : Nat) => AV.int IntKind.i64 ((g i).l i_1)]), (1, AV.fn 62 []), (4, AV.int IntKind.i64 0), (7, AV.int IntKind.i64 (↑n : Int)), (8, AV.int IntKind.i64 i)]

noncomputable def L79a.H (n : Nat) (g : Nat → SD) (i : Int) : AHeap := []

def L79a.inv (n : Nat) (g : Nat → SD) (i : Int) : Prop := 0 ≤ i ∧ i ≤ (↑n : Int)

noncomputable def L79a.mu (n : Nat) (g : Nat → SD) (i : Int) : Nat := ((↑n : Int) - i).toNat

noncomputable def L79a.E : L79a.O → Exit
  | .e0 a0 => Exit.ret
  | .e1 => Exit.exit 0

noncomputable def L79a.X (n : Nat) (g : Nat → SD) : L79a.O → List AV
  | .e0 a0 => mkT 19 [(4, (AV.int IntKind.i64 a0))]
  | .e1 => mkT 19 []

noncomputable def L79a.XH (n : Nat) (g : Nat → SD) : L79a.O → AHeap
  | .e0 a0 => ([])
  | .e1 => ([])

noncomputable def L79a.N (n : Nat) (g : Nat → SD) : Nat → Int → L79a.O
  | 0, i => .e0 i
  | k_ + 1, i => (bif decide (i < (↑n : Int)) then (bif r62.v (g i.toNat) then (.e0 (i)) else (L79a.N n g k_ (IntKind.i64.wrap (i + 1)))) else (.e1))

noncomputable def L79a.run (n : Nat) (g : Nat → SD) (i : Int) : L79a.O := L79a.N n g ((((↑n : Int) - i).toNat) + 1) i

theorem L79a.nx (n : Nat) (g : Nat → SD) {k_ : Nat} {z_ : Int} {h_ : AHeap} (s_ : Int) (h1 : L79a.inv n g s_) (h2 : L79a.mu n g s_ < L79a.mu n g z_) (h3 : L79a.N n g k_ s_ = L79a.N n g (k_ + 1) z_) (h4 : PopOk (L79a.H n g z_) h_ (L79a.T n g s_) (L79a.H n g s_)) : LNextP (fun (z_ : Int) => L79a.T n g z_) (fun (z_ : Int) => L79a.H n g z_) (fun (z_ : Int) => L79a.inv n g z_) (fun (z_ : Int) => L79a.mu n g z_) (fun (k_ : Nat) (z_ : Int) => L79a.N n g k_ z_) k_ z_ (L79a.T n g s_) h_ := LNextP.mk (Tm := (fun (z_ : Int) => L79a.T n g z_)) (Hp := (fun (z_ : Int) => L79a.H n g z_)) (inv := (fun (z_ : Int) => L79a.inv n g z_)) (mu := (fun (z_ : Int) => L79a.mu n g z_)) (l := (fun (k_ : Nat) (z_ : Int) => L79a.N n g k_ z_)) s_ h1 h2 h3 h4

theorem L79a.en (n : Nat) (g : Nat → SD) {k_ : Nat} {z_ : Int} {h_ : AHeap} (o_ : L79a.O) (h3 : L79a.N n g (k_ + 1) z_ = o_) (h4 : PopOk (L79a.H n g z_) h_ (L79a.X n g o_) (L79a.XH n g o_)) : LEndP (fun (z_ : Int) => L79a.H n g z_) (fun (k_ : Nat) (z_ : Int) => L79a.N n g k_ z_) L79a.E (L79a.X n g) (L79a.XH n g) k_ z_ (L79a.E o_) (L79a.X n g o_) h_ := LEndP.mk (Hp := (fun (z_ : Int) => L79a.H n g z_)) (l := (fun (k_ : Nat) (z_ : Int) => L79a.N n g k_ z_)) (oE := L79a.E) (oT := L79a.X n g) (oH := L79a.XH n g) o_ h3 h4

theorem L79a.spec (n : Nat) (g : Nat → SD) (hn : n ≤ 9223372036854775807) (k_ : Nat) (z_ : Int) (hi_ : L79a.inv n g z_) (hm_ : L79a.mu n g z_ < k_) : LoopTo Try.prog (loopN Try.f79 0) (L79a.T n g z_) (L79a.H n g z_) (L79a.E (L79a.N n g k_ z_)) (L79a.X n g (L79a.N n g k_ z_)) (L79a.XH n g (L79a.N n g k_ z_)) := by
  refine LoopTo.fuelP mix (fun (z_ : Int) => L79a.T n g z_) (fun (z_ : Int) => L79a.H n g z_) (fun (z_ : Int) => L79a.inv n g z_) (fun (z_ : Int) => L79a.mu n g z_) (fun (k_ : Nat) (z_ : Int) => L79a.N n g k_ z_) L79a.E (L79a.X n g) (L79a.XH n g) (others 19 [0, 1, 4, 7, 8]) (others 19 [4]) (others 19 []) ?_ k_ z_ hi_ hm_
  clear hm_ hi_ z_ k_
  intro k_ z_ hinv hmu
  revert hinv hmu; revert z_; intro i hinv hmu
  have hinv : 0 ≤ i ∧ i ≤ (↑n : Int) := hinv
  have hmu : (((↑n : Int) - i).toNat) < k_ + 1 := hmu
  cases h1 : decide (i < (↑n : Int)) with
  | true =>
    have h1p := of_decide_eq_true h1
    have o0 : (0 : Int) ≤ i := by first | assumption | omega | (simp_all; done)
    have o1 : i < (↑n : Int) := by first | assumption | omega | (simp_all; done)
    cases h2 : r62.v (g i.toNat) with
    | true =>
      exact ⟨[.b true, .ret (AV.bool (r62.v (g i.toNat))) ([]), .b true], kmp (by kernel_rfl) (And.intro h1 (And.intro (And.intro o0 o1) (And.intro (r62 (g i.toNat) ([])) (And.intro h2 (L79a.en n g (k_ := k_) (z_ := i) (.e0 (i) : L79a.O) (by first | (simp only [L79a.N, h1, h2, cond_true, cond_false]; done) | (try unfold L79a.N; try simp only [h1, cond_true, cond_false]; try simp only [h2, cond_true, cond_false]; try rfl; done)) PopOk.same)))))⟩
    | false =>
      try have := IntWalk.i64_in (i + 1) (by omega)
      have o2 : (0 : Int) ≤ IntKind.i64.wrap (i + (1 : Int)) := by first | assumption | omega | (simp_all; done)
      have o3 : IntKind.i64.wrap (i + (1 : Int)) ≤ (↑n : Int) := by first | assumption | omega | (simp_all; done)
      have o4 : ((↑n : Int) - IntKind.i64.wrap (i + (1 : Int))).toNat < ((↑n : Int) - i).toNat := by first | assumption | omega | (simp_all; done)
      exact ⟨[.b true, .ret (AV.bool (r62.v (g i.toNat))) ([]), .b false], kmp (by kernel_rfl) (And.intro h1 (And.intro (And.intro o0 o1) (And.intro (r62 (g i.toNat) ([])) (And.intro h2 (L79a.nx n g (k_ := k_) (z_ := i) (IntKind.i64.wrap (i + 1)) (And.intro o2 o3) o4 (by first | (simp only [L79a.N, h1, h2, cond_true, cond_false]; done) | (try unfold L79a.N; try simp only [h1, cond_true, cond_false]; try simp only [h2, cond_true, cond_false]; try rfl; done)) PopOk.same)))))⟩
  | false =>
    have h1p := of_decide_eq_false h1
    exact ⟨[.b false], kmp (by kernel_rfl) (And.intro h1 (L79a.en n g (k_ := k_) (z_ := i) (.e1 : L79a.O) (by first | (simp only [L79a.N, h1, cond_true, cond_false]; done) | (try unfold L79a.N; try simp only [h1, cond_true, cond_false]; try rfl; done)) PopOk.same))⟩

theorem L79a.e0 (n : Nat) (g : Nat → SD) (hn : n ≤ 9223372036854775807) (i : Int) (hinv : L79a.inv n g i) (a0 : Int) (hN : L79a.run n g i = (.e0 a0 : L79a.O)) : LoopTo Try.prog (loopN Try.f79 0) (L79a.T n g i) (L79a.H n g i) (Exit.ret) (L79a.X n g (.e0 a0 : L79a.O)) (L79a.XH n g (.e0 a0 : L79a.O)) := by
  have h_ := L79a.spec n g hn ((((↑n : Int) - i).toNat) + 1) i hinv (Nat.lt_succ_self _)
  unfold L79a.run at hN
  simp only [hN] at h_
  exact h_

theorem L79a.e1 (n : Nat) (g : Nat → SD) (hn : n ≤ 9223372036854775807) (i : Int) (hinv : L79a.inv n g i) (hN : L79a.run n g i = (.e1 : L79a.O)) : LoopTo Try.prog (loopN Try.f79 0) (L79a.T n g i) (L79a.H n g i) (Exit.exit 0) (L79a.X n g (.e1 : L79a.O)) (L79a.XH n g (.e1 : L79a.O)) := by
  have h_ := L79a.spec n g hn ((((↑n : Int) - i).toNat) + 1) i hinv (Nat.lt_succ_self _)
  unfold L79a.run at hN
  simp only [hN] at h_
  exact h_

noncomputable def r79a.v (n : Nat) (g : Nat → SD) : Int := (match L79a.run n g 0 with | .e0 h1d0 => h1d0 | .e1 => -1 )

theorem r79a (n : Nat) (g : Nat → SD) (hn : n ≤ 9223372036854775807) (h : AHeap) : Ret Try.prog 79 ([sts n g, AV.fn 62 []]) h (AV.int IntKind.i64 (r79a.v n g)) h := by
  have o0 : n ≤ (9223372036854775807 : Nat) := by first | assumption | omega | (simp_all; done)
  have o1 : (0 : Int) ≤ (↑n : Int) := by first | assumption | omega | (simp_all; done)
  cases h1 : L79a.run n g 0 with
  | e0 h1d0 =>
    exact Ret.of_run1 mix [(AV.int IntKind.i64 (r79a.v n g))] Try.func79 rfl [.loop (others 19 [0, 1, 4, 7, 8]) (Exit.ret) (L79a.X n g (L79a.O.e0 h1d0)) (L79a.XH n g (L79a.O.e0 h1d0))] (by simp) (by simp) (kmp (by kernel_rfl) (And.intro (L79a.e0 (n) (g) o0 (0) (And.intro (show (0 : Int) ≤ (0 : Int) by first | decide | exact Int.NonNeg.mk _) o1) h1d0 h1) (And.intro (show (AV.int IntKind.i64 h1d0) = ((AV.int IntKind.i64 (r79a.v n g))) by first | (simp only [r79a.v, h1, cond_true, cond_false]; done) | (try unfold r79a.v; try simp only [h1, cond_true, cond_false]; try rfl; done) | rfl) trivial))) h
  | e1 =>
    exact Ret.of_run1 mix [(AV.int IntKind.i64 (r79a.v n g))] Try.func79 rfl [.loop (others 19 [0, 1, 4, 7, 8]) (Exit.exit 0) (L79a.X n g L79a.O.e1) (L79a.XH n g L79a.O.e1)] (by simp) (by simp) (kmp (by kernel_rfl) (And.intro (L79a.e1 (n) (g) o0 (0) (And.intro (show (0 : Int) ≤ (0 : Int) by first | decide | exact Int.NonNeg.mk _) o1) h1) (And.intro (show (AV.int IntKind.i64 (-1)) = ((AV.int IntKind.i64 (r79a.v n g))) by first | (simp only [r79a.v, h1, cond_true, cond_false]; done) | (try unfold r79a.v; try simp only [h1, cond_true, cond_false]; try rfl; done) | rfl) trivial))) h

noncomputable def r73a.v (n : Nat) (g : Nat → SD) : Bool := decide (r79a.v n g ≥ 0)

theorem r73a (n : Nat) (g : Nat → SD) (hn : n ≤ 9223372036854775807) (h : AHeap) : Ret Try.prog 73 ([sts n g, AV.fn 62 []]) h (AV.bool (r73a.v n g)) h := by
  have o0 : n ≤ (9223372036854775807 : Nat) := by first | assumption | omega | (simp_all; done)
  exact Ret.of_run1 mix [(AV.bool (r73a.v n g))] Try.func73 rfl [.ret (AV.int IntKind.i64 (r79a.v n g)) ([])] (by simp) (by simp) (kmp (by kernel_rfl) (And.intro (r79a (n) (g) o0 ([])) (And.intro (show (AV.bool (decide (r79a.v n g ≥ 0))) = ((AV.bool (r73a.v n g))) by first | (simp only [r73a.v, cond_true, cond_false]; done) | (try unfold r73a.v; try rfl; done) | rfl) trivial))) h

noncomputable def r61a.v (n : Nat) (g : Nat → SD) : Bool := r73a.v n g

theorem r61a (n : Nat) (g : Nat → SD) (hn : n ≤ 9223372036854775807) (h : AHeap) : Ret Try.prog 61 ([sts n g, AV.fn 62 []]) h (AV.bool (r61a.v n g)) h := by
  have o0 : n ≤ (9223372036854775807 : Nat) := by first | assumption | omega | (simp_all; done)
  exact Ret.of_run1 mix [(AV.bool (r61a.v n g))] Try.func61 rfl [.ret (AV.bool (r73a.v n g)) ([])] (by simp) (by simp) (kmp (by kernel_rfl) (And.intro (r73a (n) (g) o0 ([])) (And.intro (show (AV.bool (r73a.v n g)) = ((AV.bool (r61a.v n g))) by first | (simp only [r61a.v, cond_true, cond_false]; done) | (try unfold r61a.v; try rfl; done) | rfl) trivial))) h

inductive L79b.O where
  | e0 (a0 : Int)
  | e1

noncomputable def L79b.T (n : Nat) (g : Nat → SD) (i : Int) : List AV := mkT 19 [(0, AV.sl 5 n fun (i : Nat) => AV.agg [AV.str (g i).nm, AV.int IntKind.i64 (g i).x, AV.int IntKind.i64 (g i).y, AV.sl 1 (g i).nr fun (i_1 : Nat) => AV.int IntKind.i64 ((g i).r i_1), AV.sl 1 (g i).nl fun (i_1 : Nat) => AV.int IntKind.i64 ((g i).l i_1)]), (1, AV.fn 64 []), (4, AV.int IntKind.i64 0), (7, AV.int IntKind.i64 (↑n : Int)), (8, AV.int IntKind.i64 i)]

noncomputable def L79b.H (n : Nat) (g : Nat → SD) (i : Int) : AHeap := []

def L79b.inv (n : Nat) (g : Nat → SD) (i : Int) : Prop := 0 ≤ i ∧ i ≤ (↑n : Int)

noncomputable def L79b.mu (n : Nat) (g : Nat → SD) (i : Int) : Nat := ((↑n : Int) - i).toNat

noncomputable def L79b.E : L79b.O → Exit
  | .e0 a0 => Exit.ret
  | .e1 => Exit.exit 0

noncomputable def L79b.X (n : Nat) (g : Nat → SD) : L79b.O → List AV
  | .e0 a0 => mkT 19 [(4, (AV.int IntKind.i64 a0))]
  | .e1 => mkT 19 []

noncomputable def L79b.XH (n : Nat) (g : Nat → SD) : L79b.O → AHeap
  | .e0 a0 => ([])
  | .e1 => ([])

noncomputable def L79b.N (n : Nat) (g : Nat → SD) : Nat → Int → L79b.O
  | 0, i => .e0 i
  | k_ + 1, i => (bif decide (i < (↑n : Int)) then (bif r64.v (g i.toNat) then (.e0 (i)) else (L79b.N n g k_ (IntKind.i64.wrap (i + 1)))) else (.e1))

noncomputable def L79b.run (n : Nat) (g : Nat → SD) (i : Int) : L79b.O := L79b.N n g ((((↑n : Int) - i).toNat) + 1) i

theorem L79b.nx (n : Nat) (g : Nat → SD) {k_ : Nat} {z_ : Int} {h_ : AHeap} (s_ : Int) (h1 : L79b.inv n g s_) (h2 : L79b.mu n g s_ < L79b.mu n g z_) (h3 : L79b.N n g k_ s_ = L79b.N n g (k_ + 1) z_) (h4 : PopOk (L79b.H n g z_) h_ (L79b.T n g s_) (L79b.H n g s_)) : LNextP (fun (z_ : Int) => L79b.T n g z_) (fun (z_ : Int) => L79b.H n g z_) (fun (z_ : Int) => L79b.inv n g z_) (fun (z_ : Int) => L79b.mu n g z_) (fun (k_ : Nat) (z_ : Int) => L79b.N n g k_ z_) k_ z_ (L79b.T n g s_) h_ := LNextP.mk (Tm := (fun (z_ : Int) => L79b.T n g z_)) (Hp := (fun (z_ : Int) => L79b.H n g z_)) (inv := (fun (z_ : Int) => L79b.inv n g z_)) (mu := (fun (z_ : Int) => L79b.mu n g z_)) (l := (fun (k_ : Nat) (z_ : Int) => L79b.N n g k_ z_)) s_ h1 h2 h3 h4

theorem L79b.en (n : Nat) (g : Nat → SD) {k_ : Nat} {z_ : Int} {h_ : AHeap} (o_ : L79b.O) (h3 : L79b.N n g (k_ + 1) z_ = o_) (h4 : PopOk (L79b.H n g z_) h_ (L79b.X n g o_) (L79b.XH n g o_)) : LEndP (fun (z_ : Int) => L79b.H n g z_) (fun (k_ : Nat) (z_ : Int) => L79b.N n g k_ z_) L79b.E (L79b.X n g) (L79b.XH n g) k_ z_ (L79b.E o_) (L79b.X n g o_) h_ := LEndP.mk (Hp := (fun (z_ : Int) => L79b.H n g z_)) (l := (fun (k_ : Nat) (z_ : Int) => L79b.N n g k_ z_)) (oE := L79b.E) (oT := L79b.X n g) (oH := L79b.XH n g) o_ h3 h4

theorem L79b.spec (n : Nat) (g : Nat → SD) (hn : n ≤ 9223372036854775807) (k_ : Nat) (z_ : Int) (hi_ : L79b.inv n g z_) (hm_ : L79b.mu n g z_ < k_) : LoopTo Try.prog (loopN Try.f79 0) (L79b.T n g z_) (L79b.H n g z_) (L79b.E (L79b.N n g k_ z_)) (L79b.X n g (L79b.N n g k_ z_)) (L79b.XH n g (L79b.N n g k_ z_)) := by
  refine LoopTo.fuelP mix (fun (z_ : Int) => L79b.T n g z_) (fun (z_ : Int) => L79b.H n g z_) (fun (z_ : Int) => L79b.inv n g z_) (fun (z_ : Int) => L79b.mu n g z_) (fun (k_ : Nat) (z_ : Int) => L79b.N n g k_ z_) L79b.E (L79b.X n g) (L79b.XH n g) (others 19 [0, 1, 4, 7, 8]) (others 19 [4]) (others 19 []) ?_ k_ z_ hi_ hm_
  clear hm_ hi_ z_ k_
  intro k_ z_ hinv hmu
  revert hinv hmu; revert z_; intro i hinv hmu
  have hinv : 0 ≤ i ∧ i ≤ (↑n : Int) := hinv
  have hmu : (((↑n : Int) - i).toNat) < k_ + 1 := hmu
  cases h1 : decide (i < (↑n : Int)) with
  | true =>
    have h1p := of_decide_eq_true h1
    have o0 : (0 : Int) ≤ i := by first | assumption | omega | (simp_all; done)
    have o1 : i < (↑n : Int) := by first | assumption | omega | (simp_all; done)
    cases h2 : r64.v (g i.toNat) with
    | true =>
      exact ⟨[.b true, .ret (AV.bool (r64.v (g i.toNat))) ([]), .b true], kmp (by kernel_rfl) (And.intro h1 (And.intro (And.intro o0 o1) (And.intro (r64 (g i.toNat) ([])) (And.intro h2 (L79b.en n g (k_ := k_) (z_ := i) (.e0 (i) : L79b.O) (by first | (simp only [L79b.N, h1, h2, cond_true, cond_false]; done) | (try unfold L79b.N; try simp only [h1, cond_true, cond_false]; try simp only [h2, cond_true, cond_false]; try rfl; done)) PopOk.same)))))⟩
    | false =>
      try have := IntWalk.i64_in (i + 1) (by omega)
      have o2 : (0 : Int) ≤ IntKind.i64.wrap (i + (1 : Int)) := by first | assumption | omega | (simp_all; done)
      have o3 : IntKind.i64.wrap (i + (1 : Int)) ≤ (↑n : Int) := by first | assumption | omega | (simp_all; done)
      have o4 : ((↑n : Int) - IntKind.i64.wrap (i + (1 : Int))).toNat < ((↑n : Int) - i).toNat := by first | assumption | omega | (simp_all; done)
      exact ⟨[.b true, .ret (AV.bool (r64.v (g i.toNat))) ([]), .b false], kmp (by kernel_rfl) (And.intro h1 (And.intro (And.intro o0 o1) (And.intro (r64 (g i.toNat) ([])) (And.intro h2 (L79b.nx n g (k_ := k_) (z_ := i) (IntKind.i64.wrap (i + 1)) (And.intro o2 o3) o4 (by first | (simp only [L79b.N, h1, h2, cond_true, cond_false]; done) | (try unfold L79b.N; try simp only [h1, cond_true, cond_false]; try simp only [h2, cond_true, cond_false]; try rfl; done)) PopOk.same)))))⟩
  | false =>
    have h1p := of_decide_eq_false h1
    exact ⟨[.b false], kmp (by kernel_rfl) (And.intro h1 (L79b.en n g (k_ := k_) (z_ := i) (.e1 : L79b.O) (by first | (simp only [L79b.N, h1, cond_true, cond_false]; done) | (try unfold L79b.N; try simp only [h1, cond_true, cond_false]; try rfl; done)) PopOk.same))⟩

theorem L79b.e0 (n : Nat) (g : Nat → SD) (hn : n ≤ 9223372036854775807) (i : Int) (hinv : L79b.inv n g i) (a0 : Int) (hN : L79b.run n g i = (.e0 a0 : L79b.O)) : LoopTo Try.prog (loopN Try.f79 0) (L79b.T n g i) (L79b.H n g i) (Exit.ret) (L79b.X n g (.e0 a0 : L79b.O)) (L79b.XH n g (.e0 a0 : L79b.O)) := by
  have h_ := L79b.spec n g hn ((((↑n : Int) - i).toNat) + 1) i hinv (Nat.lt_succ_self _)
  unfold L79b.run at hN
  simp only [hN] at h_
  exact h_

theorem L79b.e1 (n : Nat) (g : Nat → SD) (hn : n ≤ 9223372036854775807) (i : Int) (hinv : L79b.inv n g i) (hN : L79b.run n g i = (.e1 : L79b.O)) : LoopTo Try.prog (loopN Try.f79 0) (L79b.T n g i) (L79b.H n g i) (Exit.exit 0) (L79b.X n g (.e1 : L79b.O)) (L79b.XH n g (.e1 : L79b.O)) := by
  have h_ := L79b.spec n g hn ((((↑n : Int) - i).toNat) + 1) i hinv (Nat.lt_succ_self _)
  unfold L79b.run at hN
  simp only [hN] at h_
  exact h_

noncomputable def r79b.v (n : Nat) (g : Nat → SD) : Int := (match L79b.run n g 0 with | .e0 h1d0 => h1d0 | .e1 => -1 )

theorem r79b (n : Nat) (g : Nat → SD) (hn : n ≤ 9223372036854775807) (h : AHeap) : Ret Try.prog 79 ([sts n g, AV.fn 64 []]) h (AV.int IntKind.i64 (r79b.v n g)) h := by
  have o0 : n ≤ (9223372036854775807 : Nat) := by first | assumption | omega | (simp_all; done)
  have o1 : (0 : Int) ≤ (↑n : Int) := by first | assumption | omega | (simp_all; done)
  cases h1 : L79b.run n g 0 with
  | e0 h1d0 =>
    exact Ret.of_run1 mix [(AV.int IntKind.i64 (r79b.v n g))] Try.func79 rfl [.loop (others 19 [0, 1, 4, 7, 8]) (Exit.ret) (L79b.X n g (L79b.O.e0 h1d0)) (L79b.XH n g (L79b.O.e0 h1d0))] (by simp) (by simp) (kmp (by kernel_rfl) (And.intro (L79b.e0 (n) (g) o0 (0) (And.intro (show (0 : Int) ≤ (0 : Int) by first | decide | exact Int.NonNeg.mk _) o1) h1d0 h1) (And.intro (show (AV.int IntKind.i64 h1d0) = ((AV.int IntKind.i64 (r79b.v n g))) by first | (simp only [r79b.v, h1, cond_true, cond_false]; done) | (try unfold r79b.v; try simp only [h1, cond_true, cond_false]; try rfl; done) | rfl) trivial))) h
  | e1 =>
    exact Ret.of_run1 mix [(AV.int IntKind.i64 (r79b.v n g))] Try.func79 rfl [.loop (others 19 [0, 1, 4, 7, 8]) (Exit.exit 0) (L79b.X n g L79b.O.e1) (L79b.XH n g L79b.O.e1)] (by simp) (by simp) (kmp (by kernel_rfl) (And.intro (L79b.e1 (n) (g) o0 (0) (And.intro (show (0 : Int) ≤ (0 : Int) by first | decide | exact Int.NonNeg.mk _) o1) h1) (And.intro (show (AV.int IntKind.i64 (-1)) = ((AV.int IntKind.i64 (r79b.v n g))) by first | (simp only [r79b.v, h1, cond_true, cond_false]; done) | (try unfold r79b.v; try simp only [h1, cond_true, cond_false]; try rfl; done) | rfl) trivial))) h

noncomputable def r73b.v (n : Nat) (g : Nat → SD) : Bool := decide (r79b.v n g ≥ 0)

theorem r73b (n : Nat) (g : Nat → SD) (hn : n ≤ 9223372036854775807) (h : AHeap) : Ret Try.prog 73 ([sts n g, AV.fn 64 []]) h (AV.bool (r73b.v n g)) h := by
  have o0 : n ≤ (9223372036854775807 : Nat) := by first | assumption | omega | (simp_all; done)
  exact Ret.of_run1 mix [(AV.bool (r73b.v n g))] Try.func73 rfl [.ret (AV.int IntKind.i64 (r79b.v n g)) ([])] (by simp) (by simp) (kmp (by kernel_rfl) (And.intro (r79b (n) (g) o0 ([])) (And.intro (show (AV.bool (decide (r79b.v n g ≥ 0))) = ((AV.bool (r73b.v n g))) by first | (simp only [r73b.v, cond_true, cond_false]; done) | (try unfold r73b.v; try rfl; done) | rfl) trivial))) h

noncomputable def r61b.v (n : Nat) (g : Nat → SD) : Bool := r73b.v n g

theorem r61b (n : Nat) (g : Nat → SD) (hn : n ≤ 9223372036854775807) (h : AHeap) : Ret Try.prog 61 ([sts n g, AV.fn 64 []]) h (AV.bool (r61b.v n g)) h := by
  have o0 : n ≤ (9223372036854775807 : Nat) := by first | assumption | omega | (simp_all; done)
  exact Ret.of_run1 mix [(AV.bool (r61b.v n g))] Try.func61 rfl [.ret (AV.bool (r73b.v n g)) ([])] (by simp) (by simp) (kmp (by kernel_rfl) (And.intro (r73b (n) (g) o0 ([])) (And.intro (show (AV.bool (r73b.v n g)) = ((AV.bool (r61b.v n g))) by first | (simp only [r61b.v, cond_true, cond_false]; done) | (try unfold r61b.v; try rfl; done) | rfl) trivial))) h

inductive L79c.O where
  | e0 (a0 : Int)
  | e1

noncomputable def L79c.T (n : Nat) (g : Nat → SD) (i : Int) : List AV := mkT 19 [(0, AV.sl 5 n fun (i : Nat) => AV.agg [AV.str (g i).nm, AV.int IntKind.i64 (g i).x, AV.int IntKind.i64 (g i).y, AV.sl 1 (g i).nr fun (i_1 : Nat) => AV.int IntKind.i64 ((g i).r i_1), AV.sl 1 (g i).nl fun (i_1 : Nat) => AV.int IntKind.i64 ((g i).l i_1)]), (1, AV.fn 65 []), (4, AV.int IntKind.i64 0), (7, AV.int IntKind.i64 (↑n : Int)), (8, AV.int IntKind.i64 i)]

noncomputable def L79c.H (n : Nat) (g : Nat → SD) (i : Int) : AHeap := []

def L79c.inv (n : Nat) (g : Nat → SD) (i : Int) : Prop := 0 ≤ i ∧ i ≤ (↑n : Int)

noncomputable def L79c.mu (n : Nat) (g : Nat → SD) (i : Int) : Nat := ((↑n : Int) - i).toNat

noncomputable def L79c.E : L79c.O → Exit
  | .e0 a0 => Exit.ret
  | .e1 => Exit.exit 0

noncomputable def L79c.X (n : Nat) (g : Nat → SD) : L79c.O → List AV
  | .e0 a0 => mkT 19 [(4, (AV.int IntKind.i64 a0))]
  | .e1 => mkT 19 []

noncomputable def L79c.XH (n : Nat) (g : Nat → SD) : L79c.O → AHeap
  | .e0 a0 => ([])
  | .e1 => ([])

noncomputable def L79c.N (n : Nat) (g : Nat → SD) : Nat → Int → L79c.O
  | 0, i => .e0 i
  | k_ + 1, i => (bif decide (i < (↑n : Int)) then (bif r65.v (g i.toNat) then (.e0 (i)) else (L79c.N n g k_ (IntKind.i64.wrap (i + 1)))) else (.e1))

noncomputable def L79c.run (n : Nat) (g : Nat → SD) (i : Int) : L79c.O := L79c.N n g ((((↑n : Int) - i).toNat) + 1) i

theorem L79c.nx (n : Nat) (g : Nat → SD) {k_ : Nat} {z_ : Int} {h_ : AHeap} (s_ : Int) (h1 : L79c.inv n g s_) (h2 : L79c.mu n g s_ < L79c.mu n g z_) (h3 : L79c.N n g k_ s_ = L79c.N n g (k_ + 1) z_) (h4 : PopOk (L79c.H n g z_) h_ (L79c.T n g s_) (L79c.H n g s_)) : LNextP (fun (z_ : Int) => L79c.T n g z_) (fun (z_ : Int) => L79c.H n g z_) (fun (z_ : Int) => L79c.inv n g z_) (fun (z_ : Int) => L79c.mu n g z_) (fun (k_ : Nat) (z_ : Int) => L79c.N n g k_ z_) k_ z_ (L79c.T n g s_) h_ := LNextP.mk (Tm := (fun (z_ : Int) => L79c.T n g z_)) (Hp := (fun (z_ : Int) => L79c.H n g z_)) (inv := (fun (z_ : Int) => L79c.inv n g z_)) (mu := (fun (z_ : Int) => L79c.mu n g z_)) (l := (fun (k_ : Nat) (z_ : Int) => L79c.N n g k_ z_)) s_ h1 h2 h3 h4

theorem L79c.en (n : Nat) (g : Nat → SD) {k_ : Nat} {z_ : Int} {h_ : AHeap} (o_ : L79c.O) (h3 : L79c.N n g (k_ + 1) z_ = o_) (h4 : PopOk (L79c.H n g z_) h_ (L79c.X n g o_) (L79c.XH n g o_)) : LEndP (fun (z_ : Int) => L79c.H n g z_) (fun (k_ : Nat) (z_ : Int) => L79c.N n g k_ z_) L79c.E (L79c.X n g) (L79c.XH n g) k_ z_ (L79c.E o_) (L79c.X n g o_) h_ := LEndP.mk (Hp := (fun (z_ : Int) => L79c.H n g z_)) (l := (fun (k_ : Nat) (z_ : Int) => L79c.N n g k_ z_)) (oE := L79c.E) (oT := L79c.X n g) (oH := L79c.XH n g) o_ h3 h4

theorem L79c.spec (n : Nat) (g : Nat → SD) (hn : n ≤ 9223372036854775807) (hg : ∀ (i : Nat), i < n → (g i).nl = (g i).nr) (k_ : Nat) (z_ : Int) (hi_ : L79c.inv n g z_) (hm_ : L79c.mu n g z_ < k_) : LoopTo Try.prog (loopN Try.f79 0) (L79c.T n g z_) (L79c.H n g z_) (L79c.E (L79c.N n g k_ z_)) (L79c.X n g (L79c.N n g k_ z_)) (L79c.XH n g (L79c.N n g k_ z_)) := by
  refine LoopTo.fuelP mix (fun (z_ : Int) => L79c.T n g z_) (fun (z_ : Int) => L79c.H n g z_) (fun (z_ : Int) => L79c.inv n g z_) (fun (z_ : Int) => L79c.mu n g z_) (fun (k_ : Nat) (z_ : Int) => L79c.N n g k_ z_) L79c.E (L79c.X n g) (L79c.XH n g) (others 19 [0, 1, 4, 7, 8]) (others 19 [4]) (others 19 []) ?_ k_ z_ hi_ hm_
  clear hm_ hi_ z_ k_
  intro k_ z_ hinv hmu
  revert hinv hmu; revert z_; intro i hinv hmu
  have hinv : 0 ≤ i ∧ i ≤ (↑n : Int) := hinv
  have hmu : (((↑n : Int) - i).toNat) < k_ + 1 := hmu
  cases h1 : decide (i < (↑n : Int)) with
  | true =>
    have h1p := of_decide_eq_true h1
    have o0 : (0 : Int) ≤ i := by first | assumption | omega | (exact hg _) | (exact hg _ (by omega)) | (simp_all; done)
    have o1 : i < (↑n : Int) := by first | assumption | omega | (exact hg _) | (exact hg _ (by omega)) | (simp_all; done)
    have o2 : (g i.toNat).nl = (g i.toNat).nr := by first | assumption | omega | (exact hg _) | (exact hg _ (by omega)) | (simp_all; done)
    cases h2 : r65.v (g i.toNat) with
    | true =>
      exact ⟨[.b true, .ret (AV.bool (r65.v (g i.toNat))) ([]), .b true], kmp (by kernel_rfl) (And.intro h1 (And.intro (And.intro o0 o1) (And.intro (r65 (g i.toNat) o2 ([])) (And.intro h2 (L79c.en n g (k_ := k_) (z_ := i) (.e0 (i) : L79c.O) (by first | (simp only [L79c.N, h1, h2, cond_true, cond_false]; done) | (try unfold L79c.N; try simp only [h1, cond_true, cond_false]; try simp only [h2, cond_true, cond_false]; try rfl; done)) PopOk.same)))))⟩
    | false =>
      try have := IntWalk.i64_in (i + 1) (by omega)
      have o3 : (0 : Int) ≤ IntKind.i64.wrap (i + (1 : Int)) := by first | assumption | omega | (exact hg _) | (exact hg _ (by omega)) | (simp_all; done)
      have o4 : IntKind.i64.wrap (i + (1 : Int)) ≤ (↑n : Int) := by first | assumption | omega | (exact hg _) | (exact hg _ (by omega)) | (simp_all; done)
      have o5 : ((↑n : Int) - IntKind.i64.wrap (i + (1 : Int))).toNat < ((↑n : Int) - i).toNat := by first | assumption | omega | (exact hg _) | (exact hg _ (by omega)) | (simp_all; done)
      exact ⟨[.b true, .ret (AV.bool (r65.v (g i.toNat))) ([]), .b false], kmp (by kernel_rfl) (And.intro h1 (And.intro (And.intro o0 o1) (And.intro (r65 (g i.toNat) o2 ([])) (And.intro h2 (L79c.nx n g (k_ := k_) (z_ := i) (IntKind.i64.wrap (i + 1)) (And.intro o3 o4) o5 (by first | (simp only [L79c.N, h1, h2, cond_true, cond_false]; done) | (try unfold L79c.N; try simp only [h1, cond_true, cond_false]; try simp only [h2, cond_true, cond_false]; try rfl; done)) PopOk.same)))))⟩
  | false =>
    have h1p := of_decide_eq_false h1
    exact ⟨[.b false], kmp (by kernel_rfl) (And.intro h1 (L79c.en n g (k_ := k_) (z_ := i) (.e1 : L79c.O) (by first | (simp only [L79c.N, h1, cond_true, cond_false]; done) | (try unfold L79c.N; try simp only [h1, cond_true, cond_false]; try rfl; done)) PopOk.same))⟩

theorem L79c.e0 (n : Nat) (g : Nat → SD) (hn : n ≤ 9223372036854775807) (hg : ∀ (i : Nat), i < n → (g i).nl = (g i).nr) (i : Int) (hinv : L79c.inv n g i) (a0 : Int) (hN : L79c.run n g i = (.e0 a0 : L79c.O)) : LoopTo Try.prog (loopN Try.f79 0) (L79c.T n g i) (L79c.H n g i) (Exit.ret) (L79c.X n g (.e0 a0 : L79c.O)) (L79c.XH n g (.e0 a0 : L79c.O)) := by
  have h_ := L79c.spec n g hn hg ((((↑n : Int) - i).toNat) + 1) i hinv (Nat.lt_succ_self _)
  unfold L79c.run at hN
  simp only [hN] at h_
  exact h_

theorem L79c.e1 (n : Nat) (g : Nat → SD) (hn : n ≤ 9223372036854775807) (hg : ∀ (i : Nat), i < n → (g i).nl = (g i).nr) (i : Int) (hinv : L79c.inv n g i) (hN : L79c.run n g i = (.e1 : L79c.O)) : LoopTo Try.prog (loopN Try.f79 0) (L79c.T n g i) (L79c.H n g i) (Exit.exit 0) (L79c.X n g (.e1 : L79c.O)) (L79c.XH n g (.e1 : L79c.O)) := by
  have h_ := L79c.spec n g hn hg ((((↑n : Int) - i).toNat) + 1) i hinv (Nat.lt_succ_self _)
  unfold L79c.run at hN
  simp only [hN] at h_
  exact h_

noncomputable def r79c.v (n : Nat) (g : Nat → SD) : Int := (match L79c.run n g 0 with | .e0 h1d0 => h1d0 | .e1 => -1 )

theorem r79c (n : Nat) (g : Nat → SD) (hn : n ≤ 9223372036854775807) (hg : ∀ (i : Nat), i < n → (g i).nl = (g i).nr) (h : AHeap) : Ret Try.prog 79 ([sts n g, AV.fn 65 []]) h (AV.int IntKind.i64 (r79c.v n g)) h := by
  have o0 : n ≤ (9223372036854775807 : Nat) := by first | assumption | omega | (exact hg _) | (exact hg _ (by omega)) | (simp_all; done)
  have o1 : ∀ (i : Nat), i < n → (g i).nl = (g i).nr := by first | assumption | omega | (exact hg _) | (exact hg _ (by omega)) | (simp_all; done)
  have o2 : (0 : Int) ≤ (↑n : Int) := by first | assumption | omega | (exact hg _) | (exact hg _ (by omega)) | (simp_all; done)
  cases h1 : L79c.run n g 0 with
  | e0 h1d0 =>
    exact Ret.of_run1 mix [(AV.int IntKind.i64 (r79c.v n g))] Try.func79 rfl [.loop (others 19 [0, 1, 4, 7, 8]) (Exit.ret) (L79c.X n g (L79c.O.e0 h1d0)) (L79c.XH n g (L79c.O.e0 h1d0))] (by simp) (by simp) (kmp (by kernel_rfl) (And.intro (L79c.e0 (n) (g) o0 o1 (0) (And.intro (show (0 : Int) ≤ (0 : Int) by first | decide | exact Int.NonNeg.mk _) o2) h1d0 h1) (And.intro (show (AV.int IntKind.i64 h1d0) = ((AV.int IntKind.i64 (r79c.v n g))) by first | (simp only [r79c.v, h1, cond_true, cond_false]; done) | (try unfold r79c.v; try simp only [h1, cond_true, cond_false]; try rfl; done) | rfl) trivial))) h
  | e1 =>
    exact Ret.of_run1 mix [(AV.int IntKind.i64 (r79c.v n g))] Try.func79 rfl [.loop (others 19 [0, 1, 4, 7, 8]) (Exit.exit 0) (L79c.X n g L79c.O.e1) (L79c.XH n g L79c.O.e1)] (by simp) (by simp) (kmp (by kernel_rfl) (And.intro (L79c.e1 (n) (g) o0 o1 (0) (And.intro (show (0 : Int) ≤ (0 : Int) by first | decide | exact Int.NonNeg.mk _) o2) h1) (And.intro (show (AV.int IntKind.i64 (-1)) = ((AV.int IntKind.i64 (r79c.v n g))) by first | (simp only [r79c.v, h1, cond_true, cond_false]; done) | (try unfold r79c.v; try simp only [h1, cond_true, cond_false]; try rfl; done) | rfl) trivial))) h

noncomputable def r73c.v (n : Nat) (g : Nat → SD) : Bool := decide (r79c.v n g ≥ 0)

theorem r73c (n : Nat) (g : Nat → SD) (hn : n ≤ 9223372036854775807) (hg : ∀ (i : Nat), i < n → (g i).nl = (g i).nr) (h : AHeap) : Ret Try.prog 73 ([sts n g, AV.fn 65 []]) h (AV.bool (r73c.v n g)) h := by
  have o0 : n ≤ (9223372036854775807 : Nat) := by first | assumption | omega | (exact hg _) | (exact hg _ (by omega)) | (simp_all; done)
  have o1 : ∀ (i : Nat), i < n → (g i).nl = (g i).nr := by first | assumption | omega | (exact hg _) | (exact hg _ (by omega)) | (simp_all; done)
  exact Ret.of_run1 mix [(AV.bool (r73c.v n g))] Try.func73 rfl [.ret (AV.int IntKind.i64 (r79c.v n g)) ([])] (by simp) (by simp) (kmp (by kernel_rfl) (And.intro (r79c (n) (g) o0 o1 ([])) (And.intro (show (AV.bool (decide (r79c.v n g ≥ 0))) = ((AV.bool (r73c.v n g))) by first | (simp only [r73c.v, cond_true, cond_false]; done) | (try unfold r73c.v; try rfl; done) | rfl) trivial))) h

noncomputable def r61c.v (n : Nat) (g : Nat → SD) : Bool := r73c.v n g

theorem r61c (n : Nat) (g : Nat → SD) (hn : n ≤ 9223372036854775807) (hg : ∀ (i : Nat), i < n → (g i).nl = (g i).nr) (h : AHeap) : Ret Try.prog 61 ([sts n g, AV.fn 65 []]) h (AV.bool (r61c.v n g)) h := by
  have o0 : n ≤ (9223372036854775807 : Nat) := by first | assumption | omega | (exact hg _) | (exact hg _ (by omega)) | (simp_all; done)
  have o1 : ∀ (i : Nat), i < n → (g i).nl = (g i).nr := by first | assumption | omega | (exact hg _) | (exact hg _ (by omega)) | (simp_all; done)
  exact Ret.of_run1 mix [(AV.bool (r61c.v n g))] Try.func61 rfl [.ret (AV.bool (r73c.v n g)) ([])] (by simp) (by simp) (kmp (by kernel_rfl) (And.intro (r73c (n) (g) o0 o1 ([])) (And.intro (show (AV.bool (r73c.v n g)) = ((AV.bool (r61c.v n g))) by first | (simp only [r61c.v, cond_true, cond_false]; done) | (try unfold r61c.v; try rfl; done) | rfl) trivial))) h

end Go.Proofs.Ytgmppoappaolkaa

open Go

namespace Go.Proofs.Ytgmppoappaolkaa

set_option linter.unusedVariables false

set_option linter.unusedSimpArgs false

variable {n : Nat} {g : Nat → SD}

theorem L79a_run (hn : n ≤ 9223372036854775807) : L79a.run n g 0 = srch (fun i => r62.v (g i)) (fun i => .e0 i) .e1 0 n := by
  have := search_eq (n := n) (fun i => r62.v (g i)) (fun i => L79a.O.e0 i) .e1 (N := L79a.N n g) (fun k i h => by
    simp only [L79a.N, wrap_succ hn h, Int.toNat_natCast]; rw [decide_eq_true (by omega)]; rfl) (fun k => by simp [L79a.N]) (n + 1) 0 (Nat.zero_le _) (by omega)
  simpa [L79a.run, L79a.mu] using this

theorem L79b_run (hn : n ≤ 9223372036854775807) : L79b.run n g 0 = srch (fun i => r64.v (g i)) (fun i => .e0 i) .e1 0 n := by
  have := search_eq (n := n) (fun i => r64.v (g i)) (fun i => L79b.O.e0 i) .e1 (N := L79b.N n g) (fun k i h => by
    simp only [L79b.N, wrap_succ hn h, Int.toNat_natCast]; rw [decide_eq_true (by omega)]; rfl) (fun k => by simp [L79b.N]) (n + 1) 0 (Nat.zero_le _) (by omega)
  simpa [L79b.run, L79b.mu] using this

theorem L79c_run (hn : n ≤ 9223372036854775807) : L79c.run n g 0 = srch (fun i => r65.v (g i)) (fun i => .e0 i) .e1 0 n := by
  have := search_eq (n := n) (fun i => r65.v (g i)) (fun i => L79c.O.e0 i) .e1 (N := L79c.N n g) (fun k i h => by
    simp only [L79c.N, wrap_succ hn h, Int.toNat_natCast]; rw [decide_eq_true (by omega)]; rfl) (fun k => by simp [L79c.N]) (n + 1) 0 (Nat.zero_le _) (by omega)
  simpa [L79c.run, L79c.mu] using this

theorem r61a_any (hn : n ≤ 9223372036854775807) : r61a.v n g = anyN n fun i => r62.v (g i) := by
  unfold r61a.v r73a.v r79a.v
  rw [L79a_run hn]
  rcases srch_cases (fun i => r62.v (g i)) (fun i => L79a.O.e0 i) .e1 n 0 with ⟨h1, h2⟩ | ⟨j, h1, h2, h3, h4, h5⟩
  · rw [h2, anyN_false.2 fun i hi => h1 i (Nat.zero_le _) (by omega)]; rfl
  · rw [h5, anyN_true.2 ⟨j, by omega, h3⟩]; simp

theorem r61b_any (hn : n ≤ 9223372036854775807) : r61b.v n g = anyN n fun i => r64.v (g i) := by
  unfold r61b.v r73b.v r79b.v
  rw [L79b_run hn]
  rcases srch_cases (fun i => r64.v (g i)) (fun i => L79b.O.e0 i) .e1 n 0 with ⟨h1, h2⟩ | ⟨j, h1, h2, h3, h4, h5⟩
  · rw [h2, anyN_false.2 fun i hi => h1 i (Nat.zero_le _) (by omega)]; rfl
  · rw [h5, anyN_true.2 ⟨j, by omega, h3⟩]; simp

theorem r61c_any (hn : n ≤ 9223372036854775807) : r61c.v n g = anyN n fun i => r65.v (g i) := by
  unfold r61c.v r73c.v r79c.v
  rw [L79c_run hn]
  rcases srch_cases (fun i => r65.v (g i)) (fun i => L79c.O.e0 i) .e1 n 0 with ⟨h1, h2⟩ | ⟨j, h1, h2, h3, h4, h5⟩
  · rw [h2, anyN_false.2 fun i hi => h1 i (Nat.zero_le _) (by omega)]; rfl
  · rw [h5, anyN_true.2 ⟨j, by omega, h3⟩]; simp

theorem r64_false {s : SD} (h : r64.v s = false) : 1 ≤ s.nr ∧ s.nr ≤ 16 ∧ s.nl = s.nr := by
  unfold r64.v at h
  cases h1 : decide ((s.nr : Int) < 1) <;> cases h2 : decide ((s.nr : Int) > 16) <;> simp [h1, h2] at h
  have := of_decide_eq_false h1
  have := of_decide_eq_false h2
  omega

theorem r61c' (n : Nat) (g : Nat → SD) (hn : n ≤ 9223372036854775807) (hb : r61b.v n g = false) (h : AHeap) : Ret Try.prog 61 ([sts n g, AV.fn 65 []]) h (AV.bool (r61c.v n g)) h := by
  refine r61c n g hn (fun i hi => ?_) h
  rw [r61b_any hn] at hb
  exact (r64_false (anyN_false.1 hb i hi)).2.2

end Go.Proofs.Ytgmppoappaolkaa

open Go

namespace Go.Proofs.Ytgmppoappaolkaa

set_option linter.unusedSimpArgs false

set_option linter.unusedVariables false

set_option maxHeartbeats 0

set_option maxRecDepth 100000

noncomputable def r43.v (n : Nat) (g : Nat → SD) : Int := (bif r61a.v n g then 4 else (bif r61b.v n g then 1 else (bif r61c.v n g then 6 else 0)))

theorem r43 (n : Nat) (g : Nat → SD) (hn : n ≤ 9223372036854775807) (h : AHeap) : Ret Try.prog 43 ([sts n g]) h (AV.int IntKind.i64 (r43.v n g)) h := by
  have o0 : n ≤ (9223372036854775807 : Nat) := by first | assumption | omega | (simp_all; done)
  cases h1 : r61a.v n g with
  | true =>
    exact Ret.of_run1 mix [(AV.int IntKind.i64 (r43.v n g))] Try.func43 rfl [.ret (AV.bool (r61a.v n g)) ([]), .b true] (by simp) (by simp) (kmp (by kernel_rfl) (And.intro (r61a (n) (g) o0 ([])) (And.intro h1 (And.intro (show (AV.int IntKind.i64 4) = ((AV.int IntKind.i64 (r43.v n g))) by first | (simp only [r43.v, h1, cond_true, cond_false]; done) | (try unfold r43.v; try simp only [h1, cond_true, cond_false]; try rfl; done) | rfl) trivial)))) h
  | false =>
    cases h2 : r61b.v n g with
    | true =>
      exact Ret.of_run1 mix [(AV.int IntKind.i64 (r43.v n g))] Try.func43 rfl [.ret (AV.bool (r61a.v n g)) ([]), .b false, .ret (AV.bool (r61b.v n g)) ([]), .b true] (by simp) (by simp) (kmp (by kernel_rfl) (And.intro (r61a (n) (g) o0 ([])) (And.intro h1 (And.intro (r61b (n) (g) o0 ([])) (And.intro h2 (And.intro (show (AV.int IntKind.i64 1) = ((AV.int IntKind.i64 (r43.v n g))) by first | (simp only [r43.v, h1, h2, cond_true, cond_false]; done) | (try unfold r43.v; try simp only [h1, cond_true, cond_false]; try simp only [h2, cond_true, cond_false]; try rfl; done) | rfl) trivial)))))) h
    | false =>
      have o1 : r61b.v n g = false := by first | assumption | omega | (simp_all; done)
      cases h3 : r61c.v n g with
      | true =>
        exact Ret.of_run1 mix [(AV.int IntKind.i64 (r43.v n g))] Try.func43 rfl [.ret (AV.bool (r61a.v n g)) ([]), .b false, .ret (AV.bool (r61b.v n g)) ([]), .b false, .ret (AV.bool (r61c.v n g)) ([]), .b true] (by simp) (by simp) (kmp (by kernel_rfl) (And.intro (r61a (n) (g) o0 ([])) (And.intro h1 (And.intro (r61b (n) (g) o0 ([])) (And.intro h2 (And.intro (r61c' (n) (g) o0 o1 ([])) (And.intro h3 (And.intro (show (AV.int IntKind.i64 6) = ((AV.int IntKind.i64 (r43.v n g))) by first | (simp only [r43.v, h1, h2, h3, cond_true, cond_false]; done) | (try unfold r43.v; try simp only [h1, cond_true, cond_false]; try simp only [h2, cond_true, cond_false]; try simp only [h3, cond_true, cond_false]; try rfl; done) | rfl) trivial)))))))) h
      | false =>
        exact Ret.of_run1 mix [(AV.int IntKind.i64 (r43.v n g))] Try.func43 rfl [.ret (AV.bool (r61a.v n g)) ([]), .b false, .ret (AV.bool (r61b.v n g)) ([]), .b false, .ret (AV.bool (r61c.v n g)) ([]), .b false] (by simp) (by simp) (kmp (by kernel_rfl) (And.intro (r61a (n) (g) o0 ([])) (And.intro h1 (And.intro (r61b (n) (g) o0 ([])) (And.intro h2 (And.intro (r61c' (n) (g) o0 o1 ([])) (And.intro h3 (And.intro (show (AV.int IntKind.i64 0) = ((AV.int IntKind.i64 (r43.v n g))) by first | (simp only [r43.v, h1, h2, h3, cond_true, cond_false]; done) | (try unfold r43.v; try simp only [h1, cond_true, cond_false]; try simp only [h2, cond_true, cond_false]; try simp only [h3, cond_true, cond_false]; try rfl; done) | rfl) trivial)))))))) h

inductive L20.O where
  | e0
  | e1

noncomputable def L20.T (n : Nat) (g : Nat → SD) (i : Int) : List AV := mkT 31 [(0, AV.sl 5 n fun (i : Nat) => AV.agg [AV.str (g i).nm, AV.int IntKind.i64 (g i).x, AV.int IntKind.i64 (g i).y, AV.sl 1 (g i).nr fun (i_1 : Nat) => AV.int IntKind.i64 ((g i).r i_1), AV.sl 1 (g i).nl fun (i_1 : Nat) => AV.int IntKind.i64 ((g i).l i_1)]), (4, AV.int IntKind.i64 i)]

noncomputable def L20.H (n : Nat) (g : Nat → SD) (i : Int) : AHeap := []

def L20.inv (n : Nat) (g : Nat → SD) (i : Int) : Prop := 1 ≤ i ∧ (i ≤ (↑n : Int) ∨ i = 1)

noncomputable def L20.mu (n : Nat) (g : Nat → SD) (i : Int) : Nat := ((↑n : Int) - i).toNat

noncomputable def L20.E : L20.O → Exit
  | .e0 => Exit.ret
  | .e1 => Exit.exit 0

noncomputable def L20.X (n : Nat) (g : Nat → SD) : L20.O → List AV
  | .e0 => mkT 31 [(2, (AV.int IntKind.i64 5))]
  | .e1 => mkT 31 []

noncomputable def L20.XH (n : Nat) (g : Nat → SD) : L20.O → AHeap
  | .e0 => ([])
  | .e1 => ([])

noncomputable def L20.N (n : Nat) (g : Nat → SD) : Nat → Int → L20.O
  | 0, _ => .e0
  | k_ + 1, i => (bif decide (i < (↑n : Int)) then (bif Op.bytesLess (g (IntKind.i64.wrap (i - 1)).toNat).nm.toList (g i.toNat).nm.toList then (L20.N n g k_ (IntKind.i64.wrap (i + 1))) else (.e0)) else (.e1))

noncomputable def L20.run (n : Nat) (g : Nat → SD) (i : Int) : L20.O := L20.N n g ((((↑n : Int) - i).toNat) + 1) i

theorem L20.nx (n : Nat) (g : Nat → SD) {k_ : Nat} {z_ : Int} {h_ : AHeap} (s_ : Int) (h1 : L20.inv n g s_) (h2 : L20.mu n g s_ < L20.mu n g z_) (h3 : L20.N n g k_ s_ = L20.N n g (k_ + 1) z_) (h4 : PopOk (L20.H n g z_) h_ (L20.T n g s_) (L20.H n g s_)) : LNextP (fun (z_ : Int) => L20.T n g z_) (fun (z_ : Int) => L20.H n g z_) (fun (z_ : Int) => L20.inv n g z_) (fun (z_ : Int) => L20.mu n g z_) (fun (k_ : Nat) (z_ : Int) => L20.N n g k_ z_) k_ z_ (L20.T n g s_) h_ := LNextP.mk (Tm := (fun (z_ : Int) => L20.T n g z_)) (Hp := (fun (z_ : Int) => L20.H n g z_)) (inv := (fun (z_ : Int) => L20.inv n g z_)) (mu := (fun (z_ : Int) => L20.mu n g z_)) (l := (fun (k_ : Nat) (z_ : Int) => L20.N n g k_ z_)) s_ h1 h2 h3 h4

theorem L20.en (n : Nat) (g : Nat → SD) {k_ : Nat} {z_ : Int} {h_ : AHeap} (o_ : L20.O) (h3 : L20.N n g (k_ + 1) z_ = o_) (h4 : PopOk (L20.H n g z_) h_ (L20.X n g o_) (L20.XH n g o_)) : LEndP (fun (z_ : Int) => L20.H n g z_) (fun (k_ : Nat) (z_ : Int) => L20.N n g k_ z_) L20.E (L20.X n g) (L20.XH n g) k_ z_ (L20.E o_) (L20.X n g o_) h_ := LEndP.mk (Hp := (fun (z_ : Int) => L20.H n g z_)) (l := (fun (k_ : Nat) (z_ : Int) => L20.N n g k_ z_)) (oE := L20.E) (oT := L20.X n g) (oH := L20.XH n g) o_ h3 h4

theorem L20.spec (n : Nat) (g : Nat → SD) (hn : n ≤ 9223372036854775807) (k_ : Nat) (z_ : Int) (hi_ : L20.inv n g z_) (hm_ : L20.mu n g z_ < k_) : LoopTo Try.prog (loopN Try.f20 0) (L20.T n g z_) (L20.H n g z_) (L20.E (L20.N n g k_ z_)) (L20.X n g (L20.N n g k_ z_)) (L20.XH n g (L20.N n g k_ z_)) := by
  refine LoopTo.fuelP mix (fun (z_ : Int) => L20.T n g z_) (fun (z_ : Int) => L20.H n g z_) (fun (z_ : Int) => L20.inv n g z_) (fun (z_ : Int) => L20.mu n g z_) (fun (k_ : Nat) (z_ : Int) => L20.N n g k_ z_) L20.E (L20.X n g) (L20.XH n g) (others 31 [0, 4]) (others 31 [2]) (others 31 []) ?_ k_ z_ hi_ hm_
  clear hm_ hi_ z_ k_
  intro k_ z_ hinv hmu
  revert hinv hmu; revert z_; intro i hinv hmu
  have hinv : 1 ≤ i ∧ (i ≤ (↑n : Int) ∨ i = 1) := hinv
  have hmu : (((↑n : Int) - i).toNat) < k_ + 1 := hmu
  cases h1 : decide (i < (↑n : Int)) with
  | true =>
    have h1p := of_decide_eq_true h1
    try have := IntWalk.i64_in (i - 1) (by omega)
    have o1 : (0 : Int) ≤ IntKind.i64.wrap (i - (1 : Int)) := by first | assumption | omega | (simp_all; done)
    have o2 : IntKind.i64.wrap (i - (1 : Int)) < (↑n : Int) := by first | assumption | omega | (simp_all; done)
    have o3 : (0 : Int) ≤ i := by first | assumption | omega | (simp_all; done)
    have o4 : i < (↑n : Int) := by first | assumption | omega | (simp_all; done)
    cases h2 : Op.bytesLess (g (IntKind.i64.wrap (i - 1)).toNat).nm.toList (g i.toNat).nm.toList with
    | true =>
      try have := IntWalk.i64_in (i + 1) (by omega)
      have o5 : (1 : Int) ≤ IntKind.i64.wrap (i + (1 : Int)) := by first | assumption | omega | (simp_all; done)
      have o6 : IntKind.i64.wrap (i + (1 : Int)) ≤ (↑n : Int) ∨ IntKind.i64.wrap (i + (1 : Int)) = (1 : Int) := by first | assumption | omega | (simp_all; done)
      have o7 : ((↑n : Int) - IntKind.i64.wrap (i + (1 : Int))).toNat < ((↑n : Int) - i).toNat := by first | assumption | omega | (simp_all; done)
      exact ⟨[.b true, .b false], kmp (by kernel_rfl) (And.intro h1 (And.intro (And.intro o1 o2) (And.intro (And.intro o3 o4) (And.intro (show (bnot (Op.bytesLess (g (IntKind.i64.wrap (i - 1)).toNat).nm.toList (g i.toNat).nm.toList)) = false by rw [h2]; try rfl) (L20.nx n g (k_ := k_) (z_ := i) (IntKind.i64.wrap (i + 1)) (And.intro o5 o6) o7 (by first | (simp only [L20.N, h1, h2, cond_true, cond_false]; done) | (try unfold L20.N; try simp only [h1, cond_true, cond_false]; try simp only [h2, cond_true, cond_false]; try rfl; done)) PopOk.same)))))⟩
    | false =>
      exact ⟨[.b true, .b true], kmp (by kernel_rfl) (And.intro h1 (And.intro (And.intro o1 o2) (And.intro (And.intro o3 o4) (And.intro (show (bnot (Op.bytesLess (g (IntKind.i64.wrap (i - 1)).toNat).nm.toList (g i.toNat).nm.toList)) = true by rw [h2]; try rfl) (L20.en n g (k_ := k_) (z_ := i) (.e0 : L20.O) (by first | (simp only [L20.N, h1, h2, cond_true, cond_false]; done) | (try unfold L20.N; try simp only [h1, cond_true, cond_false]; try simp only [h2, cond_true, cond_false]; try rfl; done)) PopOk.same)))))⟩
  | false =>
    have h1p := of_decide_eq_false h1
    exact ⟨[.b false], kmp (by kernel_rfl) (And.intro h1 (L20.en n g (k_ := k_) (z_ := i) (.e1 : L20.O) (by first | (simp only [L20.N, h1, cond_true, cond_false]; done) | (try unfold L20.N; try simp only [h1, cond_true, cond_false]; try rfl; done)) PopOk.same))⟩

theorem L20.e0 (n : Nat) (g : Nat → SD) (hn : n ≤ 9223372036854775807) (i : Int) (hinv : L20.inv n g i) (hN : L20.run n g i = (.e0 : L20.O)) : LoopTo Try.prog (loopN Try.f20 0) (L20.T n g i) (L20.H n g i) (Exit.ret) (L20.X n g (.e0 : L20.O)) (L20.XH n g (.e0 : L20.O)) := by
  have h_ := L20.spec n g hn ((((↑n : Int) - i).toNat) + 1) i hinv (Nat.lt_succ_self _)
  unfold L20.run at hN
  simp only [hN] at h_
  exact h_

theorem L20.e1 (n : Nat) (g : Nat → SD) (hn : n ≤ 9223372036854775807) (i : Int) (hinv : L20.inv n g i) (hN : L20.run n g i = (.e1 : L20.O)) : LoopTo Try.prog (loopN Try.f20 0) (L20.T n g i) (L20.H n g i) (Exit.exit 0) (L20.X n g (.e1 : L20.O)) (L20.XH n g (.e1 : L20.O)) := by
  have h_ := L20.spec n g hn ((((↑n : Int) - i).toNat) + 1) i hinv (Nat.lt_succ_self _)
  unfold L20.run at hN
  simp only [hN] at h_
  exact h_

noncomputable def r20.v (n : Nat) (g : Nat → SD) : Int := (bif decide ((↑n : Int) > 16) then 7 else (bif r43.v n g == 0 then (match L20.run n g 1 with | .e0 => 5 | .e1 => 0 ) else r43.v n g))

theorem r20 (n : Nat) (g : Nat → SD) (hn : n ≤ 9223372036854775807) (h : AHeap) : Ret Try.prog 20 ([sts n g]) h (AV.int IntKind.i64 (r20.v n g)) h := by
  cases h1 : decide ((↑n : Int) > 16) with
  | true =>
    have h1p := of_decide_eq_true h1
    exact Ret.of_run1 mix [(AV.int IntKind.i64 (r20.v n g))] Try.func20 rfl [.b true] (by simp) (by simp) (kmp (by kernel_rfl) (And.intro h1 (And.intro (show (AV.int IntKind.i64 7) = ((AV.int IntKind.i64 (r20.v n g))) by first | (simp only [r20.v, h1, cond_true, cond_false]; done) | (try unfold r20.v; try simp only [h1, cond_true, cond_false]; try rfl; done) | rfl) trivial))) h
  | false =>
    have h1p := of_decide_eq_false h1
    have o0 : n ≤ (9223372036854775807 : Nat) := by first | assumption | omega | (simp_all; done)
    cases h2 : r43.v n g == 0 with
    | true =>
      have h2p := eq_of_beq h2
      have o1 : (1 : Int) ≤ (↑n : Int) ∨ (1 : Int) = (1 : Int) := by first | assumption | omega | (simp_all; done)
      cases h3 : L20.run n g 1 with
      | e0 =>
        exact Ret.of_run1 mix [(AV.int IntKind.i64 (r20.v n g))] Try.func20 rfl [.b false, .ret (AV.int IntKind.i64 (r43.v n g)) ([]), .b false, .loop (others 31 [0, 4]) (Exit.ret) (L20.X n g L20.O.e0) (L20.XH n g L20.O.e0)] (by simp) (by simp) (kmp (by kernel_rfl) (And.intro h1 (And.intro (r43 (n) (g) o0 ([])) (And.intro (show (bnot (r43.v n g == 0)) = false by rw [h2]; try rfl) (And.intro (L20.e0 (n) (g) o0 (1) (And.intro (show (1 : Int) ≤ (1 : Int) by first | decide | exact Int.NonNeg.mk _) o1) h3) (And.intro (show (AV.int IntKind.i64 5) = ((AV.int IntKind.i64 (r20.v n g))) by first | (simp only [r20.v, h1, h2, h3, cond_true, cond_false]; done) | (try unfold r20.v; try simp only [h1, cond_true, cond_false]; try simp only [h2, cond_true, cond_false]; try simp only [h3, cond_true, cond_false]; try rfl; done) | rfl) trivial)))))) h
      | e1 =>
        exact Ret.of_run1 mix [(AV.int IntKind.i64 (r20.v n g))] Try.func20 rfl [.b false, .ret (AV.int IntKind.i64 (r43.v n g)) ([]), .b false, .loop (others 31 [0, 4]) (Exit.exit 0) (L20.X n g L20.O.e1) (L20.XH n g L20.O.e1)] (by simp) (by simp) (kmp (by kernel_rfl) (And.intro h1 (And.intro (r43 (n) (g) o0 ([])) (And.intro (show (bnot (r43.v n g == 0)) = false by rw [h2]; try rfl) (And.intro (L20.e1 (n) (g) o0 (1) (And.intro (show (1 : Int) ≤ (1 : Int) by first | decide | exact Int.NonNeg.mk _) o1) h3) (And.intro (show (AV.int IntKind.i64 0) = ((AV.int IntKind.i64 (r20.v n g))) by first | (simp only [r20.v, h1, h2, h3, cond_true, cond_false]; done) | (try unfold r20.v; try simp only [h1, cond_true, cond_false]; try simp only [h2, cond_true, cond_false]; try simp only [h3, cond_true, cond_false]; try rfl; done) | rfl) trivial)))))) h
    | false =>
      have h2p := ne_of_beq_false h2
      exact Ret.of_run1 mix [(AV.int IntKind.i64 (r20.v n g))] Try.func20 rfl [.b false, .ret (AV.int IntKind.i64 (r43.v n g)) ([]), .b true] (by simp) (by simp) (kmp (by kernel_rfl) (And.intro h1 (And.intro (r43 (n) (g) o0 ([])) (And.intro (show (bnot (r43.v n g == 0)) = true by rw [h2]; try rfl) (And.intro (show (AV.int IntKind.i64 (r43.v n g)) = ((AV.int IntKind.i64 (r20.v n g))) by first | (simp only [r20.v, h1, h2, cond_true, cond_false]; done) | (try unfold r20.v; try simp only [h1, cond_true, cond_false]; try simp only [h2, cond_true, cond_false]; try rfl; done) | rfl) trivial))))) h

inductive L67.O where
  | e0
  | e1

noncomputable def L67.T (s : SD) (i : Int) : List AV := mkT 75 [(1, AV.ptr 0 1 5 0 0), (3, AV.int IntKind.i64 i)]

noncomputable def L67.H (s : SD) (i : Int) : AHeap := [AObj.var s.av]

def L67.inv (s : SD) (i : Int) : Prop := 0 ≤ i ∧ i ≤ (↑s.nr : Int)

noncomputable def L67.mu (s : SD) (i : Int) : Nat := ((↑s.nr : Int) - i).toNat

noncomputable def L67.E : L67.O → Exit
  | .e0 => Exit.ret
  | .e1 => Exit.exit 0

noncomputable def L67.X (s : SD) : L67.O → List AV
  | .e0 => mkT 75 [(2, (AV.bool false))]
  | .e1 => mkT 75 []

noncomputable def L67.XH (s : SD) : L67.O → AHeap
  | .e0 => ([AObj.var (AV.agg [AV.str s.nm, AV.int IntKind.i64 s.x, AV.int IntKind.i64 s.y, AV.sl 1 s.nr fun (i : Nat) => AV.int IntKind.i64 (s.r i), AV.sl 1 s.nl fun (i : Nat) => AV.int IntKind.i64 (s.l i)])])
  | .e1 => ([AObj.var (AV.agg [AV.str s.nm, AV.int IntKind.i64 s.x, AV.int IntKind.i64 s.y, AV.sl 1 s.nr fun (i : Nat) => AV.int IntKind.i64 (s.r i), AV.sl 1 s.nl fun (i : Nat) => AV.int IntKind.i64 (s.l i)])])

noncomputable def L67.N (s : SD) : Nat → Int → L67.O
  | 0, _ => .e0
  | k_ + 1, i => (bif decide (i < (↑s.nr : Int)) then (bif decide (s.r i.toNat < 1) then (.e0) else (bif decide (s.r i.toNat > 500000) then (.e0) else (bif decide (s.l i.toNat < 0) then (.e0) else (bif decide (s.l i.toNat > 1000000000000000) then (.e0) else (bif decide (i > 0) then (bif decide (s.r (IntKind.i64.wrap (i - 1)).toNat ≥ s.r i.toNat) then (.e0) else (bif decide (s.l (IntKind.i64.wrap (i - 1)).toNat < s.l i.toNat) then (.e0) else (L67.N s k_ (IntKind.i64.wrap (i + 1))))) else (L67.N s k_ (IntKind.i64.wrap (i + 1)))))))) else (.e1))

noncomputable def L67.run (s : SD) (i : Int) : L67.O := L67.N s ((((↑s.nr : Int) - i).toNat) + 1) i

theorem L67.nx (s : SD) {k_ : Nat} {z_ : Int} {h_ : AHeap} (s_ : Int) (h1 : L67.inv s s_) (h2 : L67.mu s s_ < L67.mu s z_) (h3 : L67.N s k_ s_ = L67.N s (k_ + 1) z_) (h4 : PopOk (L67.H s z_) h_ (L67.T s s_) (L67.H s s_)) : LNextP (fun (z_ : Int) => L67.T s z_) (fun (z_ : Int) => L67.H s z_) (fun (z_ : Int) => L67.inv s z_) (fun (z_ : Int) => L67.mu s z_) (fun (k_ : Nat) (z_ : Int) => L67.N s k_ z_) k_ z_ (L67.T s s_) h_ := LNextP.mk (Tm := (fun (z_ : Int) => L67.T s z_)) (Hp := (fun (z_ : Int) => L67.H s z_)) (inv := (fun (z_ : Int) => L67.inv s z_)) (mu := (fun (z_ : Int) => L67.mu s z_)) (l := (fun (k_ : Nat) (z_ : Int) => L67.N s k_ z_)) s_ h1 h2 h3 h4

theorem L67.en (s : SD) {k_ : Nat} {z_ : Int} {h_ : AHeap} (o_ : L67.O) (h3 : L67.N s (k_ + 1) z_ = o_) (h4 : PopOk (L67.H s z_) h_ (L67.X s o_) (L67.XH s o_)) : LEndP (fun (z_ : Int) => L67.H s z_) (fun (k_ : Nat) (z_ : Int) => L67.N s k_ z_) L67.E (L67.X s) (L67.XH s) k_ z_ (L67.E o_) (L67.X s o_) h_ := LEndP.mk (Hp := (fun (z_ : Int) => L67.H s z_)) (l := (fun (k_ : Nat) (z_ : Int) => L67.N s k_ z_)) (oE := L67.E) (oT := L67.X s) (oH := L67.XH s) o_ h3 h4

theorem L67.spec (s : SD) (hl : s.nl = s.nr) (hr : s.nr ≤ 9223372036854775807) (k_ : Nat) (z_ : Int) (hi_ : L67.inv s z_) (hm_ : L67.mu s z_ < k_) : LoopTo Try.prog (loopN Try.f67 0) (L67.T s z_) (L67.H s z_) (L67.E (L67.N s k_ z_)) (L67.X s (L67.N s k_ z_)) (L67.XH s (L67.N s k_ z_)) := by
  refine LoopTo.fuelP mix (fun (z_ : Int) => L67.T s z_) (fun (z_ : Int) => L67.H s z_) (fun (z_ : Int) => L67.inv s z_) (fun (z_ : Int) => L67.mu s z_) (fun (k_ : Nat) (z_ : Int) => L67.N s k_ z_) L67.E (L67.X s) (L67.XH s) (others 75 [1, 3]) (others 75 [2]) (others 75 []) ?_ k_ z_ hi_ hm_
  clear hm_ hi_ z_ k_
  intro k_ z_ hinv hmu
  revert hinv hmu; revert z_; intro i hinv hmu
  have hinv : 0 ≤ i ∧ i ≤ (↑s.nr : Int) := hinv
  have hmu : (((↑s.nr : Int) - i).toNat) < k_ + 1 := hmu
  cases h1 : decide (i < (↑s.nr : Int)) with
  | true =>
    have h1p := of_decide_eq_true h1
    have o0 : (0 : Int) ≤ i := by first | assumption | omega | (simp_all; done)
    have o1 : i < (↑s.nr : Int) := by first | assumption | omega | (simp_all; done)
    cases h2 : decide (s.r i.toNat < 1) with
    | true =>
      have h2p := of_decide_eq_true h2
      exact ⟨[.b true, .b true, .b true, .b true, .b true, .b true, .b true, .b true, .b true, .b true, .b true, .b true, .b true, .b true, .b true, .b true, .b true, .b true, .b true, .b true, .b true, .b true, .b true], kmp (by kernel_rfl) (And.intro h1 (And.intro (And.intro o0 o1) (And.intro h2 (And.intro h2 (And.intro h2 (And.intro h2 (And.intro h2 (And.intro h2 (And.intro h2 (And.intro (rfl : true = true) (And.intro (rfl : true = true) (And.intro (rfl : true = true) (And.intro (rfl : true = true) (And.intro (rfl : true = true) (And.intro (rfl : true = true) (And.intro (rfl : true = true) (And.intro (rfl : true = true) (And.intro (rfl : true = true) (And.intro (rfl : true = true) (And.intro (rfl : true = true) (And.intro (rfl : true = true) (And.intro (rfl : true = true) (And.intro (rfl : true = true) (And.intro (rfl : true = true) (L67.en s (k_ := k_) (z_ := i) (.e0 : L67.O) (by first | (simp only [L67.N, h1, h2, cond_true, cond_false]; done) | (try unfold L67.N; try simp only [h1, cond_true, cond_false]; try simp only [h2, cond_true, cond_false]; try rfl; done)) PopOk.same)))))))))))))))))))))))))⟩
    | false =>
      have h2p := of_decide_eq_false h2
      cases h3 : decide (s.r i.toNat > 500000) with
      | true =>
        have h3p := of_decide_eq_true h3
        exact ⟨[.b true, .b false, .b false, .b false, .b false, .b false, .b false, .b false, .b true, .b true, .b true, .b true, .b true, .b true, .b true, .b true, .b true, .b true, .b true, .b true, .b true, .b true, .b true], kmp (by kernel_rfl) (And.intro h1 (And.intro (And.intro o0 o1) (And.intro h2 (And.intro h2 (And.intro h2 (And.intro h2 (And.intro (And.intro o0 o1) (And.intro h2 (And.intro h2 (And.intro h2 (And.intro h3 (And.intro h3 (And.intro h3 (And.intro h3 (And.intro h3 (And.intro h3 (And.intro h3 (And.intro (rfl : true = true) (And.intro (rfl : true = true) (And.intro (rfl : true = true) (And.intro (rfl : true = true) (And.intro (rfl : true = true) (And.intro (rfl : true = true) (And.intro (rfl : true = true) (And.intro (rfl : true = true) (L67.en s (k_ := k_) (z_ := i) (.e0 : L67.O) (by first | (simp only [L67.N, h1, h2, h3, cond_true, cond_false]; done) | (try unfold L67.N; try simp only [h1, cond_true, cond_false]; try simp only [h2, cond_true, cond_false]; try simp only [h3, cond_true, cond_false]; try rfl; done)) PopOk.same))))))))))))))))))))))))))⟩
      | false =>
        have h3p := of_decide_eq_false h3
        have o2 : i < (↑s.nl : Int) := by first | assumption | omega | (simp_all; done)
        cases h4 : decide (s.l i.toNat < 0) with
        | true =>
          have h4p := of_decide_eq_true h4
          exact ⟨[.b true, .b false, .b false, .b false, .b false, .b false, .b false, .b false, .b false, .b false, .b false, .b false, .b false, .b false, .b false, .b true, .b true, .b true, .b true, .b true, .b true, .b true, .b true], kmp (by kernel_rfl) (And.intro h1 (And.intro (And.intro o0 o1) (And.intro h2 (And.intro h2 (And.intro h2 (And.intro h2 (And.intro (And.intro o0 o1) (And.intro h2 (And.intro h2 (And.intro h2 (And.intro h3 (And.intro h3 (And.intro h3 (And.intro h3 (And.intro (And.intro o0 o2) (And.intro h3 (And.intro h3 (And.intro h3 (And.intro h4 (And.intro h4 (And.intro h4 (And.intro h4 (And.intro h4 (And.intro h4 (And.intro h4 (And.intro (rfl : true = true) (L67.en s (k_ := k_) (z_ := i) (.e0 : L67.O) (by first | (simp only [L67.N, h1, h2, h3, h4, cond_true, cond_false]; done) | (try unfold L67.N; try simp only [h1, cond_true, cond_false]; try simp only [h2, cond_true, cond_false]; try simp only [h3, cond_true, cond_false]; try simp only [h4, cond_true, cond_false]; try rfl; done)) PopOk.same)))))))))))))))))))))))))))⟩
        | false =>
          have h4p := of_decide_eq_false h4
          cases h5 : decide (s.l i.toNat > 1000000000000000) with
          | true =>
            have h5p := of_decide_eq_true h5
            exact ⟨[.b true, .b false, .b false, .b false, .b false, .b false, .b false, .b false, .b false, .b false, .b false, .b false, .b false, .b false, .b false, .b false, .b false, .b false, .b false, .b false, .b false, .b false, .b true], kmp (by kernel_rfl) (And.intro h1 (And.intro (And.intro o0 o1) (And.intro h2 (And.intro h2 (And.intro h2 (And.intro h2 (And.intro (And.intro o0 o1) (And.intro h2 (And.intro h2 (And.intro h2 (And.intro h3 (And.intro h3 (And.intro h3 (And.intro h3 (And.intro (And.intro o0 o2) (And.intro h3 (And.intro h3 (And.intro h3 (And.intro h4 (And.intro h4 (And.intro h4 (And.intro h4 (And.intro (And.intro o0 o2) (And.intro h4 (And.intro h4 (And.intro h4 (And.intro h5 (L67.en s (k_ := k_) (z_ := i) (.e0 : L67.O) (by first | (simp only [L67.N, h1, h2, h3, h4, h5, cond_true, cond_false]; done) | (try unfold L67.N; try simp only [h1, cond_true, cond_false]; try simp only [h2, cond_true, cond_false]; try simp only [h3, cond_true, cond_false]; try simp only [h4, cond_true, cond_false]; try simp only [h5, cond_true, cond_false]; try rfl; done)) PopOk.same))))))))))))))))))))))))))))⟩
          | false =>
            have h5p := of_decide_eq_false h5
            cases h6 : decide (i > 0) with
            | true =>
              have h6p := of_decide_eq_true h6
              try have := IntWalk.i64_in (i - 1) (by omega)
              have o3 : (0 : Int) ≤ IntKind.i64.wrap (i - (1 : Int)) := by first | assumption | omega | (simp_all; done)
              have o4 : IntKind.i64.wrap (i - (1 : Int)) < (↑s.nr : Int) := by first | assumption | omega | (simp_all; done)
              cases h7 : decide (s.r (IntKind.i64.wrap (i - 1)).toNat ≥ s.r i.toNat) with
              | true =>
                have h7p := of_decide_eq_true h7
                exact ⟨[.b true, .b false, .b false, .b false, .b false, .b false, .b false, .b false, .b false, .b false, .b false, .b false, .b false, .b false, .b false, .b false, .b false, .b false, .b false, .b false, .b false, .b false, .b false, .b true, .b true, .b true, .b true, .b true, .b true, .b true, .b true, .b true, .b true, .b true, .b true, .b true, .b true, .b true, .b true, .b true, .b true, .b true, .b true, .b true, .b true, .b true, .b true, .b true, .b true, .b true, .b true, .b true], kmp (by kernel_rfl) (And.intro h1 (And.intro (And.intro o0 o1) (And.intro h2 (And.intro h2 (And.intro h2 (And.intro h2 (And.intro (And.intro o0 o1) (And.intro h2 (And.intro h2 (And.intro h2 (And.intro h3 (And.intro h3 (And.intro h3 (And.intro h3 (And.intro (And.intro o0 o2) (And.intro h3 (And.intro h3 (And.intro h3 (And.intro h4 (And.intro h4 (And.intro h4 (And.intro h4 (And.intro (And.intro o0 o2) (And.intro h4 (And.intro h4 (And.intro h4 (And.intro h5 (And.intro h6 (And.intro h6 (And.intro h6 (And.intro h6 (And.intro h6 (And.intro (And.intro o3 o4) (And.intro h6 (And.intro h6 (And.intro h6 (And.intro h6 (And.intro h6 (And.intro (And.intro o0 o1) (And.intro h6 (And.intro h6 (And.intro h6 (And.intro h7 (And.intro h7 (And.intro h7 (And.intro h7 (And.intro h7 (And.intro h7 (And.intro h7 (And.intro h7 (And.intro h7 (And.intro h7 (And.intro h7 (And.intro h7 (And.intro h6 (And.intro h7 (And.intro h6 (And.intro (rfl : true = true) (L67.en s (k_ := k_) (z_ := i) (.e0 : L67.O) (by first | (simp only [L67.N, h1, h2, h3, h4, h5, h6, h7, cond_true, cond_false]; done) | (try unfold L67.N; try simp only [h1, cond_true, cond_false]; try simp only [h2, cond_true, cond_false]; try simp only [h3, cond_true, cond_false]; try simp only [h4, cond_true, cond_false]; try simp only [h5, cond_true, cond_false]; try simp only [h6, cond_true, cond_false]; try simp only [h7, cond_true, cond_false]; try rfl; done)) PopOk.same)))))))))))))))))))))))))))))))))))))))))))))))))))))))))))⟩
              | false =>
                have h7p := of_decide_eq_false h7
                try have := IntWalk.i64_in (i - 1) (by omega)
                have o5 : IntKind.i64.wrap (i - (1 : Int)) < (↑s.nl : Int) := by first | assumption | omega | (simp_all; done)
                cases h8 : decide (s.l (IntKind.i64.wrap (i - 1)).toNat < s.l i.toNat) with
                | true =>
                  have h8p := of_decide_eq_true h8
                  exact ⟨[.b true, .b false, .b false, .b false, .b false, .b false, .b false, .b false, .b false, .b false, .b false, .b false, .b false, .b false, .b false, .b false, .b false, .b false, .b false, .b false, .b false, .b false, .b false, .b true, .b true, .b true, .b true, .b true, .b true, .b true, .b true, .b true, .b true, .b true, .b true, .b true, .b false, .b false, .b false, .b false, .b false, .b false, .b false, .b false, .b false, .b false, .b false, .b false, .b true, .b false, .b true, .b true], kmp (by kernel_rfl) (And.intro h1 (And.intro (And.intro o0 o1) (And.intro h2 (And.intro h2 (And.intro h2 (And.intro h2 (And.intro (And.intro o0 o1) (And.intro h2 (And.intro h2 (And.intro h2 (And.intro h3 (And.intro h3 (And.intro h3 (And.intro h3 (And.intro (And.intro o0 o2) (And.intro h3 (And.intro h3 (And.intro h3 (And.intro h4 (And.intro h4 (And.intro h4 (And.intro h4 (And.intro (And.intro o0 o2) (And.intro h4 (And.intro h4 (And.intro h4 (And.intro h5 (And.intro h6 (And.intro h6 (And.intro h6 (And.intro h6 (And.intro h6 (And.intro (And.intro o3 o4) (And.intro h6 (And.intro h6 (And.intro h6 (And.intro h6 (And.intro h6 (And.intro (And.intro o0 o1) (And.intro h6 (And.intro h6 (And.intro h6 (And.intro h7 (And.intro h7 (And.intro h7 (And.intro h7 (And.intro h7 (And.intro (And.intro o3 o5) (And.intro h7 (And.intro h7 (And.intro h7 (And.intro h7 (And.intro h7 (And.intro (And.intro o0 o2) (And.intro h7 (And.intro h7 (And.intro h6 (And.intro h7 (And.intro h6 (And.intro h8 (L67.en s (k_ := k_) (z_ := i) (.e0 : L67.O) (by first | (simp only [L67.N, h1, h2, h3, h4, h5, h6, h7, h8, cond_true, cond_false]; done) | (try unfold L67.N; try simp only [h1, cond_true, cond_false]; try simp only [h2, cond_true, cond_false]; try simp only [h3, cond_true, cond_false]; try simp only [h4, cond_true, cond_false]; try simp only [h5, cond_true, cond_false]; try simp only [h6, cond_true, cond_false]; try simp only [h7, cond_true, cond_false]; try simp only [h8, cond_true, cond_false]; try rfl; done)) PopOk.same)))))))))))))))))))))))))))))))))))))))))))))))))))))))))))))⟩
                | false =>
                  have h8p := of_decide_eq_false h8
                  try have := IntWalk.i64_in (i + 1) (by omega)
                  have o6 : (0 : Int) ≤ IntKind.i64.wrap (i + (1 : Int)) := by first | assumption | omega | (simp_all; done)
                  have o7 : IntKind.i64.wrap (i + (1 : Int)) ≤ (↑s.nr : Int) := by first | assumption | omega | (simp_all; done)
                  have o8 : ((↑s.nr : Int) - IntKind.i64.wrap (i + (1 : Int))).toNat < ((↑s.nr : Int) - i).toNat := by first | assumption | omega | (simp_all; done)
                  exact ⟨[.b true, .b false, .b false, .b false, .b false, .b false, .b false, .b false, .b false, .b false, .b false, .b false, .b false, .b false, .b false, .b false, .b false, .b false, .b false, .b false, .b false, .b false, .b false, .b true, .b true, .b true, .b true, .b true, .b true, .b true, .b true, .b true, .b true, .b true, .b true, .b true, .b false, .b false, .b false, .b false, .b false, .b false, .b false, .b false, .b false, .b false, .b false, .b false, .b true, .b false, .b true, .b false], kmp (by kernel_rfl) (And.intro h1 (And.intro (And.intro o0 o1) (And.intro h2 (And.intro h2 (And.intro h2 (And.intro h2 (And.intro (And.intro o0 o1) (And.intro h2 (And.intro h2 (And.intro h2 (And.intro h3 (And.intro h3 (And.intro h3 (And.intro h3 (And.intro (And.intro o0 o2) (And.intro h3 (And.intro h3 (And.intro h3 (And.intro h4 (And.intro h4 (And.intro h4 (And.intro h4 (And.intro (And.intro o0 o2) (And.intro h4 (And.intro h4 (And.intro h4 (And.intro h5 (And.intro h6 (And.intro h6 (And.intro h6 (And.intro h6 (And.intro h6 (And.intro (And.intro o3 o4) (And.intro h6 (And.intro h6 (And.intro h6 (And.intro h6 (And.intro h6 (And.intro (And.intro o0 o1) (And.intro h6 (And.intro h6 (And.intro h6 (And.intro h7 (And.intro h7 (And.intro h7 (And.intro h7 (And.intro h7 (And.intro (And.intro o3 o5) (And.intro h7 (And.intro h7 (And.intro h7 (And.intro h7 (And.intro h7 (And.intro (And.intro o0 o2) (And.intro h7 (And.intro h7 (And.intro h6 (And.intro h7 (And.intro h6 (And.intro h8 (L67.nx s (k_ := k_) (z_ := i) (IntKind.i64.wrap (i + 1)) (And.intro o6 o7) o8 (by first | (simp only [L67.N, h1, h2, h3, h4, h5, h6, h7, h8, cond_true, cond_false]; done) | (try unfold L67.N; try simp only [h1, cond_true, cond_false]; try simp only [h2, cond_true, cond_false]; try simp only [h3, cond_true, cond_false]; try simp only [h4, cond_true, cond_false]; try simp only [h5, cond_true, cond_false]; try simp only [h6, cond_true, cond_false]; try simp only [h7, cond_true, cond_false]; try simp only [h8, cond_true, cond_false]; try rfl; done)) PopOk.same)))))))))))))))))))))))))))))))))))))))))))))))))))))))))))))⟩
            | false =>
              have h6p := of_decide_eq_false h6
              try have := IntWalk.i64_in (i + 1) (by omega)
              have o6 : (0 : Int) ≤ IntKind.i64.wrap (i + (1 : Int)) := by first | assumption | omega | (simp_all; done)
              have o7 : IntKind.i64.wrap (i + (1 : Int)) ≤ (↑s.nr : Int) := by first | assumption | omega | (simp_all; done)
              have o8 : ((↑s.nr : Int) - IntKind.i64.wrap (i + (1 : Int))).toNat < ((↑s.nr : Int) - i).toNat := by first | assumption | omega | (simp_all; done)
              exact ⟨[.b true, .b false, .b false, .b false, .b false, .b false, .b false, .b false, .b false, .b false, .b false, .b false, .b false, .b false, .b false, .b false, .b false, .b false, .b false, .b false, .b false, .b false, .b false, .b false, .b false, .b false, .b false, .b false, .b false, .b false, .b false, .b false, .b false, .b false, .b false, .b false, .b false, .b false, .b false], kmp (by kernel_rfl) (And.intro h1 (And.intro (And.intro o0 o1) (And.intro h2 (And.intro h2 (And.intro h2 (And.intro h2 (And.intro (And.intro o0 o1) (And.intro h2 (And.intro h2 (And.intro h2 (And.intro h3 (And.intro h3 (And.intro h3 (And.intro h3 (And.intro (And.intro o0 o2) (And.intro h3 (And.intro h3 (And.intro h3 (And.intro h4 (And.intro h4 (And.intro h4 (And.intro h4 (And.intro (And.intro o0 o2) (And.intro h4 (And.intro h4 (And.intro h4 (And.intro h5 (And.intro h6 (And.intro h6 (And.intro h6 (And.intro h6 (And.intro h6 (And.intro h6 (And.intro h6 (And.intro h6 (And.intro h6 (And.intro h6 (And.intro h6 (And.intro h6 (And.intro h6 (And.intro h6 (And.intro h6 (And.intro (rfl : false = false) (L67.nx s (k_ := k_) (z_ := i) (IntKind.i64.wrap (i + 1)) (And.intro o6 o7) o8 (by first | (simp only [L67.N, h1, h2, h3, h4, h5, h6, cond_true, cond_false]; done) | (try unfold L67.N; try simp only [h1, cond_true, cond_false]; try simp only [h2, cond_true, cond_false]; try simp only [h3, cond_true, cond_false]; try simp only [h4, cond_true, cond_false]; try simp only [h5, cond_true, cond_false]; try simp only [h6, cond_true, cond_false]; try rfl; done)) PopOk.same))))))))))))))))))))))))))))))))))))))))))))⟩
  | false =>
    have h1p := of_decide_eq_false h1
    exact ⟨[.b false], kmp (by kernel_rfl) (And.intro h1 (L67.en s (k_ := k_) (z_ := i) (.e1 : L67.O) (by first | (simp only [L67.N, h1, cond_true, cond_false]; done) | (try unfold L67.N; try simp only [h1, cond_true, cond_false]; try rfl; done)) PopOk.same))⟩

theorem L67.e0 (s : SD) (hl : s.nl = s.nr) (hr : s.nr ≤ 9223372036854775807) (i : Int) (hinv : L67.inv s i) (hN : L67.run s i = (.e0 : L67.O)) : LoopTo Try.prog (loopN Try.f67 0) (L67.T s i) (L67.H s i) (Exit.ret) (L67.X s (.e0 : L67.O)) (L67.XH s (.e0 : L67.O)) := by
  have h_ := L67.spec s hl hr ((((↑s.nr : Int) - i).toNat) + 1) i hinv (Nat.lt_succ_self _)
  unfold L67.run at hN
  simp only [hN] at h_
  exact h_

theorem L67.e1 (s : SD) (hl : s.nl = s.nr) (hr : s.nr ≤ 9223372036854775807) (i : Int) (hinv : L67.inv s i) (hN : L67.run s i = (.e1 : L67.O)) : LoopTo Try.prog (loopN Try.f67 0) (L67.T s i) (L67.H s i) (Exit.exit 0) (L67.X s (.e1 : L67.O)) (L67.XH s (.e1 : L67.O)) := by
  have h_ := L67.spec s hl hr ((((↑s.nr : Int) - i).toNat) + 1) i hinv (Nat.lt_succ_self _)
  unfold L67.run at hN
  simp only [hN] at h_
  exact h_

noncomputable def r67.v (s : SD) : Bool := (bif r15.v s.x s.y then (match L67.run s 0 with | .e0 => false | .e1 => true ) else false)

noncomputable abbrev r67.h0 (s : SD) : AHeap := ([AObj.var (AV.agg [AV.str s.nm, AV.int IntKind.i64 s.x, AV.int IntKind.i64 s.y, AV.sl 1 s.nr fun (i : Nat) => AV.int IntKind.i64 (s.r i), AV.sl 1 s.nl fun (i : Nat) => AV.int IntKind.i64 (s.l i)])])

theorem r67 (s : SD) (hl : s.nl = s.nr) (h : AHeap) : Ret Try.prog 67 ([s.av]) h (AV.bool (r67.v s)) h := by
  cases h1 : r15.v s.x s.y with
  | true =>
    have o0 : s.nl = s.nr := by first | assumption | omega | (simp_all; done)
    have o1 : s.nr ≤ (9223372036854775807 : Nat) := by first | assumption | omega | (simp_all; done)
    have o2 : (0 : Int) ≤ (↑s.nr : Int) := by first | assumption | omega | (simp_all; done)
    cases h2 : L67.run s 0 with
    | e0 =>
      exact Ret.of_run1 mix [(AV.bool (r67.v s))] Try.func67 rfl [.ret (AV.bool (r15.v s.x s.y)) (r67.h0 s), .b false, .loop (others 75 [1, 3]) (Exit.ret) (L67.X s L67.O.e0) (L67.XH s L67.O.e0)] (by simp) (by simp) (kmp (by kernel_rfl) (And.intro (r15 (s.x) (s.y) (r67.h0 s)) (And.intro (show (bnot (r15.v s.x s.y)) = false by rw [h1]; try rfl) (And.intro (L67.e0 (s) o0 o1 (0) (And.intro (show (0 : Int) ≤ (0 : Int) by first | decide | exact Int.NonNeg.mk _) o2) h2) (And.intro (show (AV.bool false) = ((AV.bool (r67.v s))) by first | (simp only [r67.v, h1, h2, cond_true, cond_false]; done) | (try unfold r67.v; try simp only [h1, cond_true, cond_false]; try simp only [h2, cond_true, cond_false]; try rfl; done) | rfl) trivial))))) h
    | e1 =>
      exact Ret.of_run1 mix [(AV.bool (r67.v s))] Try.func67 rfl [.ret (AV.bool (r15.v s.x s.y)) (r67.h0 s), .b false, .loop (others 75 [1, 3]) (Exit.exit 0) (L67.X s L67.O.e1) (L67.XH s L67.O.e1)] (by simp) (by simp) (kmp (by kernel_rfl) (And.intro (r15 (s.x) (s.y) (r67.h0 s)) (And.intro (show (bnot (r15.v s.x s.y)) = false by rw [h1]; try rfl) (And.intro (L67.e1 (s) o0 o1 (0) (And.intro (show (0 : Int) ≤ (0 : Int) by first | decide | exact Int.NonNeg.mk _) o2) h2) (And.intro (show (AV.bool true) = ((AV.bool (r67.v s))) by first | (simp only [r67.v, h1, h2, cond_true, cond_false]; done) | (try unfold r67.v; try simp only [h1, cond_true, cond_false]; try simp only [h2, cond_true, cond_false]; try rfl; done) | rfl) trivial))))) h
  | false =>
    exact Ret.of_run1 mix [(AV.bool (r67.v s))] Try.func67 rfl [.ret (AV.bool (r15.v s.x s.y)) (r67.h0 s), .b true] (by simp) (by simp) (kmp (by kernel_rfl) (And.intro (r15 (s.x) (s.y) (r67.h0 s)) (And.intro (show (bnot (r15.v s.x s.y)) = true by rw [h1]; try rfl) (And.intro (show (AV.bool false) = ((AV.bool (r67.v s))) by first | (simp only [r67.v, h1, cond_true, cond_false]; done) | (try unfold r67.v; try simp only [h1, cond_true, cond_false]; try rfl; done) | rfl) trivial)))) h

inductive L44a.O where
  | e0
  | e1

noncomputable def L44a.T (n : Nat) (g : Nat → SD) (i : Int) : List AV := mkT 68 [(0, AV.sl 5 n fun (i : Nat) => AV.agg [AV.str (g i).nm, AV.int IntKind.i64 (g i).x, AV.int IntKind.i64 (g i).y, AV.sl 1 (g i).nr fun (i_1 : Nat) => AV.int IntKind.i64 ((g i).r i_1), AV.sl 1 (g i).nl fun (i_1 : Nat) => AV.int IntKind.i64 ((g i).l i_1)]), (3, AV.int IntKind.i64 i)]

noncomputable def L44a.H (n : Nat) (g : Nat → SD) (i : Int) : AHeap := []

def L44a.inv (n : Nat) (g : Nat → SD) (i : Int) : Prop := 0 ≤ i ∧ i ≤ (↑n : Int)

noncomputable def L44a.mu (n : Nat) (g : Nat → SD) (i : Int) : Nat := ((↑n : Int) - i).toNat

noncomputable def L44a.E : L44a.O → Exit
  | .e0 => Exit.ret
  | .e1 => Exit.exit 0

noncomputable def L44a.X (n : Nat) (g : Nat → SD) : L44a.O → List AV
  | .e0 => mkT 68 [(2, (AV.int IntKind.i64 4))]
  | .e1 => mkT 68 [(0, AV.sl 5 n fun (i : Nat) => AV.agg [AV.str (g i).nm, AV.int IntKind.i64 (g i).x, AV.int IntKind.i64 (g i).y, AV.sl 1 (g i).nr fun (i_1 : Nat) => AV.int IntKind.i64 ((g i).r i_1), AV.sl 1 (g i).nl fun (i_1 : Nat) => AV.int IntKind.i64 ((g i).l i_1)])]

noncomputable def L44a.XH (n : Nat) (g : Nat → SD) : L44a.O → AHeap
  | .e0 => ([])
  | .e1 => ([])

noncomputable def L44a.N (n : Nat) (g : Nat → SD) : Nat → Int → L44a.O
  | 0, _ => .e0
  | k_ + 1, i => (bif decide (i < (↑n : Int)) then (bif r66.v (g i.toNat).nm then (L44a.N n g k_ (IntKind.i64.wrap (i + 1))) else (.e0)) else (.e1))

noncomputable def L44a.run (n : Nat) (g : Nat → SD) (i : Int) : L44a.O := L44a.N n g ((((↑n : Int) - i).toNat) + 1) i

theorem L44a.nx (n : Nat) (g : Nat → SD) {k_ : Nat} {z_ : Int} {h_ : AHeap} (s_ : Int) (h1 : L44a.inv n g s_) (h2 : L44a.mu n g s_ < L44a.mu n g z_) (h3 : L44a.N n g k_ s_ = L44a.N n g (k_ + 1) z_) (h4 : PopOk (L44a.H n g z_) h_ (L44a.T n g s_) (L44a.H n g s_)) : LNextP (fun (z_ : Int) => L44a.T n g z_) (fun (z_ : Int) => L44a.H n g z_) (fun (z_ : Int) => L44a.inv n g z_) (fun (z_ : Int) => L44a.mu n g z_) (fun (k_ : Nat) (z_ : Int) => L44a.N n g k_ z_) k_ z_ (L44a.T n g s_) h_ := LNextP.mk (Tm := (fun (z_ : Int) => L44a.T n g z_)) (Hp := (fun (z_ : Int) => L44a.H n g z_)) (inv := (fun (z_ : Int) => L44a.inv n g z_)) (mu := (fun (z_ : Int) => L44a.mu n g z_)) (l := (fun (k_ : Nat) (z_ : Int) => L44a.N n g k_ z_)) s_ h1 h2 h3 h4

theorem L44a.en (n : Nat) (g : Nat → SD) {k_ : Nat} {z_ : Int} {h_ : AHeap} (o_ : L44a.O) (h3 : L44a.N n g (k_ + 1) z_ = o_) (h4 : PopOk (L44a.H n g z_) h_ (L44a.X n g o_) (L44a.XH n g o_)) : LEndP (fun (z_ : Int) => L44a.H n g z_) (fun (k_ : Nat) (z_ : Int) => L44a.N n g k_ z_) L44a.E (L44a.X n g) (L44a.XH n g) k_ z_ (L44a.E o_) (L44a.X n g o_) h_ := LEndP.mk (Hp := (fun (z_ : Int) => L44a.H n g z_)) (l := (fun (k_ : Nat) (z_ : Int) => L44a.N n g k_ z_)) (oE := L44a.E) (oT := L44a.X n g) (oH := L44a.XH n g) o_ h3 h4

theorem L44a.spec (n : Nat) (g : Nat → SD) (hn : n ≤ 9223372036854775807) (k_ : Nat) (z_ : Int) (hi_ : L44a.inv n g z_) (hm_ : L44a.mu n g z_ < k_) : LoopTo Try.prog (loopN Try.f44 0) (L44a.T n g z_) (L44a.H n g z_) (L44a.E (L44a.N n g k_ z_)) (L44a.X n g (L44a.N n g k_ z_)) (L44a.XH n g (L44a.N n g k_ z_)) := by
  refine LoopTo.fuelP mix (fun (z_ : Int) => L44a.T n g z_) (fun (z_ : Int) => L44a.H n g z_) (fun (z_ : Int) => L44a.inv n g z_) (fun (z_ : Int) => L44a.mu n g z_) (fun (k_ : Nat) (z_ : Int) => L44a.N n g k_ z_) L44a.E (L44a.X n g) (L44a.XH n g) (others 68 [0, 3]) (others 68 [2]) (others 68 [0]) ?_ k_ z_ hi_ hm_
  clear hm_ hi_ z_ k_
  intro k_ z_ hinv hmu
  revert hinv hmu; revert z_; intro i hinv hmu
  have hinv : 0 ≤ i ∧ i ≤ (↑n : Int) := hinv
  have hmu : (((↑n : Int) - i).toNat) < k_ + 1 := hmu
  cases h1 : decide (i < (↑n : Int)) with
  | true =>
    have h1p := of_decide_eq_true h1
    have o0 : (0 : Int) ≤ i := by first | assumption | omega | (simp_all; done)
    have o1 : i < (↑n : Int) := by first | assumption | omega | (simp_all; done)
    have o2 : (g i.toNat).nm.size ≤ (9223372036854775807 : Nat) := by first | assumption | omega | (simp_all; done)
    cases h2 : r66.v (g i.toNat).nm with
    | true =>
      try have := IntWalk.i64_in (i + 1) (by omega)
      have o3 : (0 : Int) ≤ IntKind.i64.wrap (i + (1 : Int)) := by first | assumption | omega | (simp_all; done)
      have o4 : IntKind.i64.wrap (i + (1 : Int)) ≤ (↑n : Int) := by first | assumption | omega | (simp_all; done)
      have o5 : ((↑n : Int) - IntKind.i64.wrap (i + (1 : Int))).toNat < ((↑n : Int) - i).toNat := by first | assumption | omega | (simp_all; done)
      exact ⟨[.b true, .ret (AV.bool (r66.v (g i.toNat).nm)) ([]), .b false], kmp (by kernel_rfl) (And.intro h1 (And.intro (And.intro o0 o1) (And.intro (r66 ((g i.toNat).nm) o2 ([])) (And.intro (show (bnot (r66.v (g i.toNat).nm)) = false by rw [h2]; try rfl) (L44a.nx n g (k_ := k_) (z_ := i) (IntKind.i64.wrap (i + 1)) (And.intro o3 o4) o5 (by first | (simp only [L44a.N, h1, h2, cond_true, cond_false]; done) | (try unfold L44a.N; try simp only [h1, cond_true, cond_false]; try simp only [h2, cond_true, cond_false]; try rfl; done)) PopOk.same)))))⟩
    | false =>
      exact ⟨[.b true, .ret (AV.bool (r66.v (g i.toNat).nm)) ([]), .b true], kmp (by kernel_rfl) (And.intro h1 (And.intro (And.intro o0 o1) (And.intro (r66 ((g i.toNat).nm) o2 ([])) (And.intro (show (bnot (r66.v (g i.toNat).nm)) = true by rw [h2]; try rfl) (L44a.en n g (k_ := k_) (z_ := i) (.e0 : L44a.O) (by first | (simp only [L44a.N, h1, h2, cond_true, cond_false]; done) | (try unfold L44a.N; try simp only [h1, cond_true, cond_false]; try simp only [h2, cond_true, cond_false]; try rfl; done)) PopOk.same)))))⟩
  | false =>
    have h1p := of_decide_eq_false h1
    exact ⟨[.b false], kmp (by kernel_rfl) (And.intro h1 (L44a.en n g (k_ := k_) (z_ := i) (.e1 : L44a.O) (by first | (simp only [L44a.N, h1, cond_true, cond_false]; done) | (try unfold L44a.N; try simp only [h1, cond_true, cond_false]; try rfl; done)) PopOk.same))⟩

theorem L44a.e0 (n : Nat) (g : Nat → SD) (hn : n ≤ 9223372036854775807) (i : Int) (hinv : L44a.inv n g i) (hN : L44a.run n g i = (.e0 : L44a.O)) : LoopTo Try.prog (loopN Try.f44 0) (L44a.T n g i) (L44a.H n g i) (Exit.ret) (L44a.X n g (.e0 : L44a.O)) (L44a.XH n g (.e0 : L44a.O)) := by
  have h_ := L44a.spec n g hn ((((↑n : Int) - i).toNat) + 1) i hinv (Nat.lt_succ_self _)
  unfold L44a.run at hN
  simp only [hN] at h_
  exact h_

theorem L44a.e1 (n : Nat) (g : Nat → SD) (hn : n ≤ 9223372036854775807) (i : Int) (hinv : L44a.inv n g i) (hN : L44a.run n g i = (.e1 : L44a.O)) : LoopTo Try.prog (loopN Try.f44 0) (L44a.T n g i) (L44a.H n g i) (Exit.exit 0) (L44a.X n g (.e1 : L44a.O)) (L44a.XH n g (.e1 : L44a.O)) := by
  have h_ := L44a.spec n g hn ((((↑n : Int) - i).toNat) + 1) i hinv (Nat.lt_succ_self _)
  unfold L44a.run at hN
  simp only [hN] at h_
  exact h_

inductive L44b.O where
  | e0
  | e1

noncomputable def L44b.T (n : Nat) (g : Nat → SD) (i : Int) : List AV := mkT 68 [(0, AV.sl 5 n fun (i : Nat) => AV.agg [AV.str (g i).nm, AV.int IntKind.i64 (g i).x, AV.int IntKind.i64 (g i).y, AV.sl 1 (g i).nr fun (i_1 : Nat) => AV.int IntKind.i64 ((g i).r i_1), AV.sl 1 (g i).nl fun (i_1 : Nat) => AV.int IntKind.i64 ((g i).l i_1)]), (4, AV.int IntKind.i64 i)]

noncomputable def L44b.H (n : Nat) (g : Nat → SD) (i : Int) : AHeap := []

def L44b.inv (n : Nat) (g : Nat → SD) (i : Int) : Prop := 0 ≤ i ∧ i ≤ (↑n : Int)

noncomputable def L44b.mu (n : Nat) (g : Nat → SD) (i : Int) : Nat := ((↑n : Int) - i).toNat

noncomputable def L44b.E : L44b.O → Exit
  | .e0 => Exit.ret
  | .e1 => Exit.exit 2

noncomputable def L44b.X (n : Nat) (g : Nat → SD) : L44b.O → List AV
  | .e0 => mkT 68 [(2, (AV.int IntKind.i64 1))]
  | .e1 => mkT 68 [(0, AV.sl 5 n fun (i : Nat) => AV.agg [AV.str (g i).nm, AV.int IntKind.i64 (g i).x, AV.int IntKind.i64 (g i).y, AV.sl 1 (g i).nr fun (i_1 : Nat) => AV.int IntKind.i64 ((g i).r i_1), AV.sl 1 (g i).nl fun (i_1 : Nat) => AV.int IntKind.i64 ((g i).l i_1)])]

noncomputable def L44b.XH (n : Nat) (g : Nat → SD) : L44b.O → AHeap
  | .e0 => ([])
  | .e1 => ([])

noncomputable def L44b.N (n : Nat) (g : Nat → SD) : Nat → Int → L44b.O
  | 0, _ => .e0
  | k_ + 1, i => (bif decide (i < (↑n : Int)) then (bif decide ((↑(g i.toNat).nr : Int) < 1) then (.e0) else (bif decide ((↑(g i.toNat).nr : Int) > 16) then (.e0) else (bif (↑(g i.toNat).nl : Int) == (↑(g i.toNat).nr : Int) then (L44b.N n g k_ (IntKind.i64.wrap (i + 1))) else (.e0)))) else (.e1))

noncomputable def L44b.run (n : Nat) (g : Nat → SD) (i : Int) : L44b.O := L44b.N n g ((((↑n : Int) - i).toNat) + 1) i

theorem L44b.nx (n : Nat) (g : Nat → SD) {k_ : Nat} {z_ : Int} {h_ : AHeap} (s_ : Int) (h1 : L44b.inv n g s_) (h2 : L44b.mu n g s_ < L44b.mu n g z_) (h3 : L44b.N n g k_ s_ = L44b.N n g (k_ + 1) z_) (h4 : PopOk (L44b.H n g z_) h_ (L44b.T n g s_) (L44b.H n g s_)) : LNextP (fun (z_ : Int) => L44b.T n g z_) (fun (z_ : Int) => L44b.H n g z_) (fun (z_ : Int) => L44b.inv n g z_) (fun (z_ : Int) => L44b.mu n g z_) (fun (k_ : Nat) (z_ : Int) => L44b.N n g k_ z_) k_ z_ (L44b.T n g s_) h_ := LNextP.mk (Tm := (fun (z_ : Int) => L44b.T n g z_)) (Hp := (fun (z_ : Int) => L44b.H n g z_)) (inv := (fun (z_ : Int) => L44b.inv n g z_)) (mu := (fun (z_ : Int) => L44b.mu n g z_)) (l := (fun (k_ : Nat) (z_ : Int) => L44b.N n g k_ z_)) s_ h1 h2 h3 h4

theorem L44b.en (n : Nat) (g : Nat → SD) {k_ : Nat} {z_ : Int} {h_ : AHeap} (o_ : L44b.O) (h3 : L44b.N n g (k_ + 1) z_ = o_) (h4 : PopOk (L44b.H n g z_) h_ (L44b.X n g o_) (L44b.XH n g o_)) : LEndP (fun (z_ : Int) => L44b.H n g z_) (fun (k_ : Nat) (z_ : Int) => L44b.N n g k_ z_) L44b.E (L44b.X n g) (L44b.XH n g) k_ z_ (L44b.E o_) (L44b.X n g o_) h_ := LEndP.mk (Hp := (fun (z_ : Int) => L44b.H n g z_)) (l := (fun (k_ : Nat) (z_ : Int) => L44b.N n g k_ z_)) (oE := L44b.E) (oT := L44b.X n g) (oH := L44b.XH n g) o_ h3 h4

theorem L44b.spec (n : Nat) (g : Nat → SD) (hn : n ≤ 9223372036854775807) (k_ : Nat) (z_ : Int) (hi_ : L44b.inv n g z_) (hm_ : L44b.mu n g z_ < k_) : LoopTo Try.prog (loopN Try.f44 1) (L44b.T n g z_) (L44b.H n g z_) (L44b.E (L44b.N n g k_ z_)) (L44b.X n g (L44b.N n g k_ z_)) (L44b.XH n g (L44b.N n g k_ z_)) := by
  refine LoopTo.fuelP mix (fun (z_ : Int) => L44b.T n g z_) (fun (z_ : Int) => L44b.H n g z_) (fun (z_ : Int) => L44b.inv n g z_) (fun (z_ : Int) => L44b.mu n g z_) (fun (k_ : Nat) (z_ : Int) => L44b.N n g k_ z_) L44b.E (L44b.X n g) (L44b.XH n g) (others 68 [0, 4]) (others 68 [2]) (others 68 [0]) ?_ k_ z_ hi_ hm_
  clear hm_ hi_ z_ k_
  intro k_ z_ hinv hmu
  revert hinv hmu; revert z_; intro i hinv hmu
  have hinv : 0 ≤ i ∧ i ≤ (↑n : Int) := hinv
  have hmu : (((↑n : Int) - i).toNat) < k_ + 1 := hmu
  cases h1 : decide (i < (↑n : Int)) with
  | true =>
    have h1p := of_decide_eq_true h1
    have o2 : (0 : Int) ≤ i := by first | assumption | omega | (simp_all; done)
    have o3 : i < (↑n : Int) := by first | assumption | omega | (simp_all; done)
    cases h2 : decide ((↑(g i.toNat).nr : Int) < 1) with
    | true =>
      have h2p := of_decide_eq_true h2
      exact ⟨[.b true, .b true, .b true, .b true, .b true, .b true, .b true, .b true, .b true, .b true, .b true, .b true, .b true, .b true, .b true, .b true, .b true, .b true, .b true, .b true, .b true, .b true, .b true, .b true], kmp (by kernel_rfl) (And.intro h1 (And.intro (And.intro o2 o3) (And.intro h2 (And.intro h2 (And.intro h2 (And.intro h2 (And.intro h2 (And.intro h2 (And.intro h2 (And.intro h2 (And.intro (rfl : true = true) (And.intro (rfl : true = true) (And.intro (rfl : true = true) (And.intro (rfl : true = true) (And.intro (rfl : true = true) (And.intro (rfl : true = true) (And.intro (rfl : true = true) (And.intro (rfl : true = true) (And.intro (rfl : true = true) (And.intro (rfl : true = true) (And.intro (rfl : true = true) (And.intro (rfl : true = true) (And.intro (rfl : true = true) (And.intro (rfl : true = true) (And.intro (rfl : true = true) (L44b.en n g (k_ := k_) (z_ := i) (.e0 : L44b.O) (by first | (simp only [L44b.N, h1, h2, cond_true, cond_false]; done) | (try unfold L44b.N; try simp only [h1, cond_true, cond_false]; try simp only [h2, cond_true, cond_false]; try rfl; done)) PopOk.same))))))))))))))))))))))))))⟩
    | false =>
      have h2p := of_decide_eq_false h2
      cases h3 : decide ((↑(g i.toNat).nr : Int) > 16) with
      | true =>
        have h3p := of_decide_eq_true h3
        exact ⟨[.b true, .b false, .b false, .b false, .b false, .b false, .b false, .b false, .b false, .b true, .b true, .b true, .b true, .b true, .b true, .b true, .b true, .b true, .b true, .b true, .b true, .b true, .b true, .b true], kmp (by kernel_rfl) (And.intro h1 (And.intro (And.intro o2 o3) (And.intro h2 (And.intro h2 (And.intro h2 (And.intro (And.intro o2 o3) (And.intro h2 (And.intro h2 (And.intro h2 (And.intro h2 (And.intro h2 (And.intro h3 (And.intro h3 (And.intro h3 (And.intro h3 (And.intro h3 (And.intro h3 (And.intro h3 (And.intro h3 (And.intro h3 (And.intro h3 (And.intro h3 (And.intro h3 (And.intro h3 (And.intro h3 (And.intro (rfl : true = true) (L44b.en n g (k_ := k_) (z_ := i) (.e0 : L44b.O) (by first | (simp only [L44b.N, h1, h2, h3, cond_true, cond_false]; done) | (try unfold L44b.N; try simp only [h1, cond_true, cond_false]; try simp only [h2, cond_true, cond_false]; try simp only [h3, cond_true, cond_false]; try rfl; done)) PopOk.same)))))))))))))))))))))))))))⟩
      | false =>
        have h3p := of_decide_eq_false h3
        cases h4 : (↑(g i.toNat).nl : Int) == (↑(g i.toNat).nr : Int) with
        | true =>
          have h4p := eq_of_beq h4
          try have := IntWalk.i64_in (i + 1) (by omega)
          have o4 : (0 : Int) ≤ IntKind.i64.wrap (i + (1 : Int)) := by first | assumption | omega | (simp_all; done)
          have o5 : IntKind.i64.wrap (i + (1 : Int)) ≤ (↑n : Int) := by first | assumption | omega | (simp_all; done)
          have o6 : ((↑n : Int) - IntKind.i64.wrap (i + (1 : Int))).toNat < ((↑n : Int) - i).toNat := by first | assumption | omega | (simp_all; done)
          exact ⟨[.b true, .b false, .b false, .b false, .b false, .b false, .b false, .b false, .b false, .b false, .b false, .b false, .b false, .b false, .b false, .b false, .b false, .b false, .b false, .b false, .b false, .b false, .b false, .b false], kmp (by kernel_rfl) (And.intro h1 (And.intro (And.intro o2 o3) (And.intro h2 (And.intro h2 (And.intro h2 (And.intro (And.intro o2 o3) (And.intro h2 (And.intro h2 (And.intro h2 (And.intro h2 (And.intro h2 (And.intro h3 (And.intro h3 (And.intro h3 (And.intro (And.intro o2 o3) (And.intro h3 (And.intro h3 (And.intro h3 (And.intro h3 (And.intro h3 (And.intro h3 (And.intro (And.intro o2 o3) (And.intro h3 (And.intro h3 (And.intro h3 (And.intro h3 (And.intro h3 (And.intro (show (bnot ((↑(g i.toNat).nl : Int) == (↑(g i.toNat).nr : Int))) = false by rw [h4]; try rfl) (L44b.nx n g (k_ := k_) (z_ := i) (IntKind.i64.wrap (i + 1)) (And.intro o4 o5) o6 (by first | (simp only [L44b.N, h1, h2, h3, h4, cond_true, cond_false]; done) | (try unfold L44b.N; try simp only [h1, cond_true, cond_false]; try simp only [h2, cond_true, cond_false]; try simp only [h3, cond_true, cond_false]; try simp only [h4, cond_true, cond_false]; try rfl; done)) PopOk.same)))))))))))))))))))))))))))))⟩
        | false =>
          have h4p := ne_of_beq_false h4
          exact ⟨[.b true, .b false, .b false, .b false, .b false, .b false, .b false, .b false, .b false, .b false, .b false, .b false, .b false, .b false, .b false, .b false, .b false, .b false, .b false, .b false, .b false, .b false, .b false, .b true], kmp (by kernel_rfl) (And.intro h1 (And.intro (And.intro o2 o3) (And.intro h2 (And.intro h2 (And.intro h2 (And.intro (And.intro o2 o3) (And.intro h2 (And.intro h2 (And.intro h2 (And.intro h2 (And.intro h2 (And.intro h3 (And.intro h3 (And.intro h3 (And.intro (And.intro o2 o3) (And.intro h3 (And.intro h3 (And.intro h3 (And.intro h3 (And.intro h3 (And.intro h3 (And.intro (And.intro o2 o3) (And.intro h3 (And.intro h3 (And.intro h3 (And.intro h3 (And.intro h3 (And.intro (show (bnot ((↑(g i.toNat).nl : Int) == (↑(g i.toNat).nr : Int))) = true by rw [h4]; try rfl) (L44b.en n g (k_ := k_) (z_ := i) (.e0 : L44b.O) (by first | (simp only [L44b.N, h1, h2, h3, h4, cond_true, cond_false]; done) | (try unfold L44b.N; try simp only [h1, cond_true, cond_false]; try simp only [h2, cond_true, cond_false]; try simp only [h3, cond_true, cond_false]; try simp only [h4, cond_true, cond_false]; try rfl; done)) PopOk.same)))))))))))))))))))))))))))))⟩
  | false =>
    have h1p := of_decide_eq_false h1
    exact ⟨[.b false], kmp (by kernel_rfl) (And.intro h1 (L44b.en n g (k_ := k_) (z_ := i) (.e1 : L44b.O) (by first | (simp only [L44b.N, h1, cond_true, cond_false]; done) | (try unfold L44b.N; try simp only [h1, cond_true, cond_false]; try rfl; done)) PopOk.same))⟩

theorem L44b.e0 (n : Nat) (g : Nat → SD) (hn : n ≤ 9223372036854775807) (i : Int) (hinv : L44b.inv n g i) (hN : L44b.run n g i = (.e0 : L44b.O)) : LoopTo Try.prog (loopN Try.f44 1) (L44b.T n g i) (L44b.H n g i) (Exit.ret) (L44b.X n g (.e0 : L44b.O)) (L44b.XH n g (.e0 : L44b.O)) := by
  have h_ := L44b.spec n g hn ((((↑n : Int) - i).toNat) + 1) i hinv (Nat.lt_succ_self _)
  unfold L44b.run at hN
  simp only [hN] at h_
  exact h_

theorem L44b.e1 (n : Nat) (g : Nat → SD) (hn : n ≤ 9223372036854775807) (i : Int) (hinv : L44b.inv n g i) (hN : L44b.run n g i = (.e1 : L44b.O)) : LoopTo Try.prog (loopN Try.f44 1) (L44b.T n g i) (L44b.H n g i) (Exit.exit 2) (L44b.X n g (.e1 : L44b.O)) (L44b.XH n g (.e1 : L44b.O)) := by
  have h_ := L44b.spec n g hn ((((↑n : Int) - i).toNat) + 1) i hinv (Nat.lt_succ_self _)
  unfold L44b.run at hN
  simp only [hN] at h_
  exact h_

inductive L44c.O where
  | e0
  | e1

noncomputable def L44c.T (n : Nat) (g : Nat → SD) (i : Int) : List AV := mkT 68 [(0, AV.sl 5 n fun (i : Nat) => AV.agg [AV.str (g i).nm, AV.int IntKind.i64 (g i).x, AV.int IntKind.i64 (g i).y, AV.sl 1 (g i).nr fun (i_1 : Nat) => AV.int IntKind.i64 ((g i).r i_1), AV.sl 1 (g i).nl fun (i_1 : Nat) => AV.int IntKind.i64 ((g i).l i_1)]), (5, AV.int IntKind.i64 i)]

noncomputable def L44c.H (n : Nat) (g : Nat → SD) (i : Int) : AHeap := []

def L44c.inv (n : Nat) (g : Nat → SD) (i : Int) : Prop := 0 ≤ i ∧ i ≤ (↑n : Int)

noncomputable def L44c.mu (n : Nat) (g : Nat → SD) (i : Int) : Nat := ((↑n : Int) - i).toNat

noncomputable def L44c.E : L44c.O → Exit
  | .e0 => Exit.ret
  | .e1 => Exit.exit 4

noncomputable def L44c.X (n : Nat) (g : Nat → SD) : L44c.O → List AV
  | .e0 => mkT 68 [(2, (AV.int IntKind.i64 6))]
  | .e1 => mkT 68 []

noncomputable def L44c.XH (n : Nat) (g : Nat → SD) : L44c.O → AHeap
  | .e0 => ([])
  | .e1 => ([])

noncomputable def L44c.N (n : Nat) (g : Nat → SD) : Nat → Int → L44c.O
  | 0, _ => .e0
  | k_ + 1, i => (bif decide (i < (↑n : Int)) then (bif r67.v (g i.toNat) then (L44c.N n g k_ (IntKind.i64.wrap (i + 1))) else (.e0)) else (.e1))

noncomputable def L44c.run (n : Nat) (g : Nat → SD) (i : Int) : L44c.O := L44c.N n g ((((↑n : Int) - i).toNat) + 1) i

theorem L44c.nx (n : Nat) (g : Nat → SD) {k_ : Nat} {z_ : Int} {h_ : AHeap} (s_ : Int) (h1 : L44c.inv n g s_) (h2 : L44c.mu n g s_ < L44c.mu n g z_) (h3 : L44c.N n g k_ s_ = L44c.N n g (k_ + 1) z_) (h4 : PopOk (L44c.H n g z_) h_ (L44c.T n g s_) (L44c.H n g s_)) : LNextP (fun (z_ : Int) => L44c.T n g z_) (fun (z_ : Int) => L44c.H n g z_) (fun (z_ : Int) => L44c.inv n g z_) (fun (z_ : Int) => L44c.mu n g z_) (fun (k_ : Nat) (z_ : Int) => L44c.N n g k_ z_) k_ z_ (L44c.T n g s_) h_ := LNextP.mk (Tm := (fun (z_ : Int) => L44c.T n g z_)) (Hp := (fun (z_ : Int) => L44c.H n g z_)) (inv := (fun (z_ : Int) => L44c.inv n g z_)) (mu := (fun (z_ : Int) => L44c.mu n g z_)) (l := (fun (k_ : Nat) (z_ : Int) => L44c.N n g k_ z_)) s_ h1 h2 h3 h4

theorem L44c.en (n : Nat) (g : Nat → SD) {k_ : Nat} {z_ : Int} {h_ : AHeap} (o_ : L44c.O) (h3 : L44c.N n g (k_ + 1) z_ = o_) (h4 : PopOk (L44c.H n g z_) h_ (L44c.X n g o_) (L44c.XH n g o_)) : LEndP (fun (z_ : Int) => L44c.H n g z_) (fun (k_ : Nat) (z_ : Int) => L44c.N n g k_ z_) L44c.E (L44c.X n g) (L44c.XH n g) k_ z_ (L44c.E o_) (L44c.X n g o_) h_ := LEndP.mk (Hp := (fun (z_ : Int) => L44c.H n g z_)) (l := (fun (k_ : Nat) (z_ : Int) => L44c.N n g k_ z_)) (oE := L44c.E) (oT := L44c.X n g) (oH := L44c.XH n g) o_ h3 h4

theorem L44c.spec (n : Nat) (g : Nat → SD) (hn : n ≤ 9223372036854775807) (hg : ∀ (i : Nat), i < n → (g i).nl = (g i).nr) (k_ : Nat) (z_ : Int) (hi_ : L44c.inv n g z_) (hm_ : L44c.mu n g z_ < k_) : LoopTo Try.prog (loopN Try.f44 2) (L44c.T n g z_) (L44c.H n g z_) (L44c.E (L44c.N n g k_ z_)) (L44c.X n g (L44c.N n g k_ z_)) (L44c.XH n g (L44c.N n g k_ z_)) := by
  refine LoopTo.fuelP mix (fun (z_ : Int) => L44c.T n g z_) (fun (z_ : Int) => L44c.H n g z_) (fun (z_ : Int) => L44c.inv n g z_) (fun (z_ : Int) => L44c.mu n g z_) (fun (k_ : Nat) (z_ : Int) => L44c.N n g k_ z_) L44c.E (L44c.X n g) (L44c.XH n g) (others 68 [0, 5]) (others 68 [2]) (others 68 []) ?_ k_ z_ hi_ hm_
  clear hm_ hi_ z_ k_
  intro k_ z_ hinv hmu
  revert hinv hmu; revert z_; intro i hinv hmu
  have hinv : 0 ≤ i ∧ i ≤ (↑n : Int) := hinv
  have hmu : (((↑n : Int) - i).toNat) < k_ + 1 := hmu
  cases h1 : decide (i < (↑n : Int)) with
  | true =>
    have h1p := of_decide_eq_true h1
    have o2 : (0 : Int) ≤ i := by first | assumption | omega | (exact hg _) | (exact hg _ (by omega)) | (simp_all; done)
    have o3 : i < (↑n : Int) := by first | assumption | omega | (exact hg _) | (exact hg _ (by omega)) | (simp_all; done)
    have o4 : (g i.toNat).nl = (g i.toNat).nr := by first | assumption | omega | (exact hg _) | (exact hg _ (by omega)) | (simp_all; done)
    cases h2 : r67.v (g i.toNat) with
    | true =>
      try have := IntWalk.i64_in (i + 1) (by omega)
      have o5 : (0 : Int) ≤ IntKind.i64.wrap (i + (1 : Int)) := by first | assumption | omega | (exact hg _) | (exact hg _ (by omega)) | (simp_all; done)
      have o6 : IntKind.i64.wrap (i + (1 : Int)) ≤ (↑n : Int) := by first | assumption | omega | (exact hg _) | (exact hg _ (by omega)) | (simp_all; done)
      have o7 : ((↑n : Int) - IntKind.i64.wrap (i + (1 : Int))).toNat < ((↑n : Int) - i).toNat := by first | assumption | omega | (exact hg _) | (exact hg _ (by omega)) | (simp_all; done)
      exact ⟨[.b true, .ret (AV.bool (r67.v (g i.toNat))) ([]), .b false], kmp (by kernel_rfl) (And.intro h1 (And.intro (And.intro o2 o3) (And.intro (r67 (g i.toNat) o4 ([])) (And.intro (show (bnot (r67.v (g i.toNat))) = false by rw [h2]; try rfl) (L44c.nx n g (k_ := k_) (z_ := i) (IntKind.i64.wrap (i + 1)) (And.intro o5 o6) o7 (by first | (simp only [L44c.N, h1, h2, cond_true, cond_false]; done) | (try unfold L44c.N; try simp only [h1, cond_true, cond_false]; try simp only [h2, cond_true, cond_false]; try rfl; done)) PopOk.same)))))⟩
    | false =>
      exact ⟨[.b true, .ret (AV.bool (r67.v (g i.toNat))) ([]), .b true], kmp (by kernel_rfl) (And.intro h1 (And.intro (And.intro o2 o3) (And.intro (r67 (g i.toNat) o4 ([])) (And.intro (show (bnot (r67.v (g i.toNat))) = true by rw [h2]; try rfl) (L44c.en n g (k_ := k_) (z_ := i) (.e0 : L44c.O) (by first | (simp only [L44c.N, h1, h2, cond_true, cond_false]; done) | (try unfold L44c.N; try simp only [h1, cond_true, cond_false]; try simp only [h2, cond_true, cond_false]; try rfl; done)) PopOk.same)))))⟩
  | false =>
    have h1p := of_decide_eq_false h1
    exact ⟨[.b false], kmp (by kernel_rfl) (And.intro h1 (L44c.en n g (k_ := k_) (z_ := i) (.e1 : L44c.O) (by first | (simp only [L44c.N, h1, cond_true, cond_false]; done) | (try unfold L44c.N; try simp only [h1, cond_true, cond_false]; try rfl; done)) PopOk.same))⟩

theorem L44c.e0 (n : Nat) (g : Nat → SD) (hn : n ≤ 9223372036854775807) (hg : ∀ (i : Nat), i < n → (g i).nl = (g i).nr) (i : Int) (hinv : L44c.inv n g i) (hN : L44c.run n g i = (.e0 : L44c.O)) : LoopTo Try.prog (loopN Try.f44 2) (L44c.T n g i) (L44c.H n g i) (Exit.ret) (L44c.X n g (.e0 : L44c.O)) (L44c.XH n g (.e0 : L44c.O)) := by
  have h_ := L44c.spec n g hn hg ((((↑n : Int) - i).toNat) + 1) i hinv (Nat.lt_succ_self _)
  unfold L44c.run at hN
  simp only [hN] at h_
  exact h_

theorem L44c.e1 (n : Nat) (g : Nat → SD) (hn : n ≤ 9223372036854775807) (hg : ∀ (i : Nat), i < n → (g i).nl = (g i).nr) (i : Int) (hinv : L44c.inv n g i) (hN : L44c.run n g i = (.e1 : L44c.O)) : LoopTo Try.prog (loopN Try.f44 2) (L44c.T n g i) (L44c.H n g i) (Exit.exit 4) (L44c.X n g (.e1 : L44c.O)) (L44c.XH n g (.e1 : L44c.O)) := by
  have h_ := L44c.spec n g hn hg ((((↑n : Int) - i).toNat) + 1) i hinv (Nat.lt_succ_self _)
  unfold L44c.run at hN
  simp only [hN] at h_
  exact h_

end Go.Proofs.Ytgmppoappaolkaa

open Go

namespace Go.Proofs.Ytgmppoappaolkaa

set_option linter.unusedVariables false

set_option linter.unusedSimpArgs false

def ok66 (c : Int) : Bool := !((decide (c < 97) || decide (c > 122)) && (decide (c < 48) || decide (c > 57)) && !(c == 95))

theorem L66_run {s : ByteArray} (hs : s.size ≤ 9223372036854775807) : L66.run s 0 = srch (fun i => !ok66 (sbyte s i)) (fun _ => L66.O.e0) .e1 0 s.size := by
  have := search_eq (n := s.size) (fun i => !ok66 (sbyte s i)) (fun _ => L66.O.e0) .e1 (N := L66.N s) (fun k i h => by
    simp only [L66.N, wrap_succ hs h, Int.toNat_natCast]; rw [decide_eq_true (by omega)]
    unfold ok66
    cases decide (sbyte s i < 97) <;> cases decide (sbyte s i > 122) <;> cases decide (sbyte s i < 48) <;> cases decide (sbyte s i > 57) <;> cases (sbyte s i == 95) <;> rfl) (fun k => by simp [L66.N]) (s.size + 1) 0 (Nat.zero_le _) (by omega)
  simpa [L66.run, L66.mu] using this

theorem L74_run {s : ByteArray} (hs : s.size ≤ 9223372036854775807) : L74.run s 0 = srch (fun i => !r75.v (sbyte s i)) (fun i => L74.O.e0 i) (.e0 s.size) 0 s.size := by
  have := search_eq (n := s.size) (fun i => !r75.v (sbyte s i)) (fun i => L74.O.e0 i) (.e0 s.size) (N := L74.N s) (fun k i h => by
    simp only [L74.N, wrap_succ hs h, Int.toNat_natCast]; rw [decide_eq_true (by omega)]
    cases r75.v (sbyte s i) <;> rfl) (fun k => by simp [L74.N]) (s.size + 1) 0 (Nat.zero_le _) (by omega)
  simpa [L74.run, L74.mu] using this

theorem r75_all : ((List.range 256).all fun c => r75.v (c : Int) == ok66 (c : Int)) = true := by kernel_rfl

theorem r75_ok {c : Int} (h0 : 0 ≤ c) (h1 : c ≤ 255) : r75.v c = ok66 c := by
  have := List.all_eq_true.1 r75_all c.toNat (List.mem_range.2 (by omega))
  have e : ((c.toNat : Nat) : Int) = c := Int.toNat_of_nonneg h0
  rw [e] at this
  exact eq_of_beq this

theorem name_eq {s : ByteArray} (hs : s.size ≤ 9223372036854775807) : r63.v s = r66.v s := by
  unfold r63.v r66.v r74.v
  rw [L66_run hs, L74_run hs]
  have hp : (fun i => !r75.v (sbyte s i)) = fun i => !ok66 (sbyte s i) := by
    funext i
    rw [r75_ok (sbyte_bd s i).1 (sbyte_bd s i).2]
  rw [hp]
  have h1 : (s.toList == (ByteArray.mk #[]).toList) = decide ((s.size : Int) < 1) := by
    cases h : (s.toList == (ByteArray.mk #[]).toList) with
    | true => rw [str_eq h]; rfl
    | false => have := str_pos h; exact (decide_eq_false (by omega)).symm
  rw [h1]
  have h2 : ((match srch (fun i => !ok66 (sbyte s i)) (fun i => L74.O.e0 i) (.e0 s.size) 0 s.size with | .e0 a => a) == (s.size : Int)) = (match srch (fun i => !ok66 (sbyte s i)) (fun _ => L66.O.e0) .e1 0 s.size with | .e0 => false | .e1 => true) := by
    rw [srch_any]
    rcases srch_cases (fun i => !ok66 (sbyte s i)) (fun i => L74.O.e0 i) (.e0 s.size) s.size 0 with ⟨a1, a2⟩ | ⟨j, a1, a2, a3, a4, a5⟩
    · rw [a2, anyN_false.2 fun i hi => a1 i (Nat.zero_le _) (by omega)]; simp
    · rw [a5, anyN_true.2 ⟨j, by omega, a3⟩]
      have : ((j : Int) == (s.size : Int)) = false := by rw [beq_eq_false_iff_ne]; omega
      simpa using this
  simp only [h2]
  rfl

def badR (s : SD) (i : Nat) : Bool := decide (s.r i < 1) || decide (s.r i > 500000) || decide (s.l i < 0) || decide (s.l i > 1000000000000000) || (decide (0 < i) && (decide (s.r (i - 1) ≥ s.r i) || decide (s.l i > s.l (i - 1))))

theorem wrap_pred {n i : Nat} (hn : n ≤ 9223372036854775807) (h : i < n) (h0 : 0 < i) : (IntKind.i64.wrap ((i : Int) - 1)).toNat = i - 1 := by
  rw [IntWalk.i64_in _ (by omega)]
  omega

theorem L65_run (s : SD) : L65.run s 0 = srch (badR s) (fun _ => L65.O.e0) .e1 0 s.nr := by
  have := search_eq (n := s.nr) (badR s) (fun _ => L65.O.e0) .e1 (N := L65.N s) (fun k i h => by
    simp only [L65.N, wrap_succ s.hnr h, Int.toNat_natCast]; rw [decide_eq_true (by omega)]
    unfold badR
    rcases Nat.eq_zero_or_pos i with e | e
    · subst e
      rw [decide_eq_false (show ¬ ((0 : Nat) : Int) > 0 by decide), decide_eq_false (show ¬ 0 < 0 by decide)]
      cases decide (s.r 0 < 1) <;> cases decide (s.r 0 > 500000) <;> cases decide (s.l 0 < 0) <;> cases decide (s.l 0 > 1000000000000000) <;> rfl
    · rw [decide_eq_true (show (i : Int) > 0 by omega), decide_eq_true e, wrap_pred s.hnr h e]
      cases decide (s.r i < 1) <;> cases decide (s.r i > 500000) <;> cases decide (s.l i < 0) <;> cases decide (s.l i > 1000000000000000) <;> cases decide (s.r (i - 1) ≥ s.r i) <;> cases decide (s.l i > s.l (i - 1)) <;> rfl) (fun k => by simp [L65.N]) (s.nr + 1) 0 (Nat.zero_le _) (by omega)
  simpa [L65.run, L65.mu] using this

theorem L67_run (s : SD) : L67.run s 0 = srch (badR s) (fun _ => L67.O.e0) .e1 0 s.nr := by
  have := search_eq (n := s.nr) (badR s) (fun _ => L67.O.e0) .e1 (N := L67.N s) (fun k i h => by
    simp only [L67.N, wrap_succ s.hnr h, Int.toNat_natCast]; rw [decide_eq_true (by omega)]
    unfold badR
    rcases Nat.eq_zero_or_pos i with e | e
    · subst e
      rw [decide_eq_false (show ¬ ((0 : Nat) : Int) > 0 by decide), decide_eq_false (show ¬ 0 < 0 by decide)]
      cases decide (s.r 0 < 1) <;> cases decide (s.r 0 > 500000) <;> cases decide (s.l 0 < 0) <;> cases decide (s.l 0 > 1000000000000000) <;> rfl
    · rw [decide_eq_true (show (i : Int) > 0 by omega), decide_eq_true e, wrap_pred s.hnr h e]
      show _ = bif (_ || _ || _ || _ || (_ && (_ || decide (s.l (i - 1) < s.l i)))) then _ else _
      cases decide (s.r i < 1) <;> cases decide (s.r i > 500000) <;> cases decide (s.l i < 0) <;> cases decide (s.l i > 1000000000000000) <;> cases decide (s.r (i - 1) ≥ s.r i) <;> cases decide (s.l (i - 1) < s.l i) <;> rfl) (fun k => by simp [L67.N]) (s.nr + 1) 0 (Nat.zero_le _) (by omega)
  simpa [L67.run, L67.mu] using this

theorem num_eq (s : SD) : r65.v s = !r67.v s := by
  have e42 : r42.v = r39.v := rfl
  unfold r65.v r67.v r15.v
  rw [L65_run, L67_run, srch_any, srch_any, e42]
  cases r39.v s.x <;> cases r39.v s.y <;> cases anyN s.nr (badR s) <;> rfl

variable {n : Nat} {g : Nat → SD}

theorem L44a_run (hn : n ≤ 9223372036854775807) : L44a.run n g 0 = bif anyN n (fun i => r62.v (g i)) then .e0 else .e1 := by
  have := search_eq (n := n) (fun i => r62.v (g i)) (fun _ => L44a.O.e0) .e1 (N := L44a.N n g) (fun k i h => by
    simp only [L44a.N, wrap_succ hn h, Int.toNat_natCast]; rw [decide_eq_true (by omega)]
    unfold r62.v
    rw [name_eq (g i).hnm]
    cases r66.v (g i).nm <;> rfl) (fun k => by simp [L44a.N]) (n + 1) 0 (Nat.zero_le _) (by omega)
  rw [Nat.sub_zero, srch_any] at this
  simpa [L44a.run, L44a.mu] using this

theorem L44b_run (hn : n ≤ 9223372036854775807) : L44b.run n g 0 = bif anyN n (fun i => r64.v (g i)) then .e0 else .e1 := by
  have := search_eq (n := n) (fun i => r64.v (g i)) (fun _ => L44b.O.e0) .e1 (N := L44b.N n g) (fun k i h => by
    simp only [L44b.N, wrap_succ hn h, Int.toNat_natCast]; rw [decide_eq_true (by omega)]
    unfold r64.v
    show _ = bif (bif _ then _ else (bif _ then _ else !(((g i).nl : Int) == ((g i).nr : Int)))) then _ else _
    cases decide (((g i).nr : Int) < 1) <;> cases decide (((g i).nr : Int) > 16) <;> cases (((g i).nl : Int) == ((g i).nr : Int)) <;> rfl) (fun k => by simp [L44b.N]) (n + 1) 0 (Nat.zero_le _) (by omega)
  rw [Nat.sub_zero, srch_any] at this
  simpa [L44b.run, L44b.mu] using this

theorem L44c_run (hn : n ≤ 9223372036854775807) : L44c.run n g 0 = bif anyN n (fun i => r65.v (g i)) then .e0 else .e1 := by
  have := search_eq (n := n) (fun i => r65.v (g i)) (fun _ => L44c.O.e0) .e1 (N := L44c.N n g) (fun k i h => by
    simp only [L44c.N, wrap_succ hn h, Int.toNat_natCast]; rw [decide_eq_true (by omega), num_eq]
    cases r67.v (g i) <;> rfl) (fun k => by simp [L44c.N]) (n + 1) 0 (Nat.zero_le _) (by omega)
  rw [Nat.sub_zero, srch_any] at this
  simpa [L44c.run, L44c.mu] using this

theorem ok44 (hn : n ≤ 9223372036854775807) (h : L44b.run n g 0 = .e1) : ∀ i, i < n → (g i).nl = (g i).nr := by
  intro i hi
  rw [L44b_run hn] at h
  cases hb : anyN n (fun i => r64.v (g i)) with
  | true => rw [hb] at h; cases h
  | false => exact (r64_false (anyN_false.1 hb i hi)).2.2

theorem r43_any (hn : n ≤ 9223372036854775807) : r43.v n g = bif anyN n (fun i => r62.v (g i)) then 4 else bif anyN n (fun i => r64.v (g i)) then 1 else bif anyN n (fun i => r65.v (g i)) then 6 else 0 := by
  unfold r43.v
  rw [r61a_any hn, r61b_any hn, r61c_any hn]

end Go.Proofs.Ytgmppoappaolkaa

open Go

namespace Go.Proofs.Ytgmppoappaolkaa

set_option linter.unusedSimpArgs false

set_option linter.unusedVariables false

set_option maxHeartbeats 0

set_option maxRecDepth 100000

noncomputable def r44.v (n : Nat) (g : Nat → SD) : Int := (match L44a.run n g 0 with | .e0 => 4 | .e1 => (match L44b.run n g 0 with | .e0 => 1 | .e1 => (match L44c.run n g 0 with | .e0 => 6 | .e1 => 0 ) ) )

theorem r44 (n : Nat) (g : Nat → SD) (hn : n ≤ 9223372036854775807) (h : AHeap) : Ret Try.prog 44 ([sts n g]) h (AV.int IntKind.i64 (r44.v n g)) h := by
  have o0 : n ≤ (9223372036854775807 : Nat) := by first | assumption | omega | (simp_all; done)
  have o1 : (0 : Int) ≤ (↑n : Int) := by first | assumption | omega | (simp_all; done)
  cases h1 : L44a.run n g 0 with
  | e0 =>
    exact Ret.of_run1 mix [(AV.int IntKind.i64 (r44.v n g))] Try.func44 rfl [.loop (others 68 [0, 3]) (Exit.ret) (L44a.X n g L44a.O.e0) (L44a.XH n g L44a.O.e0)] (by simp) (by simp) (kmp (by kernel_rfl) (And.intro (L44a.e0 (n) (g) o0 (0) (And.intro (show (0 : Int) ≤ (0 : Int) by first | decide | exact Int.NonNeg.mk _) o1) h1) (And.intro (show (AV.int IntKind.i64 4) = ((AV.int IntKind.i64 (r44.v n g))) by first | (simp only [r44.v, h1, cond_true, cond_false]; done) | (try unfold r44.v; try simp only [h1, cond_true, cond_false]; try rfl; done) | rfl) trivial))) h
  | e1 =>
    cases h2 : L44b.run n g 0 with
    | e0 =>
      exact Ret.of_run1 mix [(AV.int IntKind.i64 (r44.v n g))] Try.func44 rfl [.loop (others 68 [0, 3]) (Exit.exit 0) (L44a.X n g L44a.O.e1) (L44a.XH n g L44a.O.e1), .loop (others 68 [0, 4]) (Exit.ret) (L44b.X n g L44b.O.e0) (L44b.XH n g L44b.O.e0)] (by simp) (by simp) (kmp (by kernel_rfl) (And.intro (L44a.e1 (n) (g) o0 (0) (And.intro (show (0 : Int) ≤ (0 : Int) by first | decide | exact Int.NonNeg.mk _) o1) h1) (And.intro (L44b.e0 (n) (g) o0 (0) (And.intro (show (0 : Int) ≤ (0 : Int) by first | decide | exact Int.NonNeg.mk _) o1) h2) (And.intro (show (AV.int IntKind.i64 1) = ((AV.int IntKind.i64 (r44.v n g))) by first | (simp only [r44.v, h1, h2, cond_true, cond_false]; done) | (try unfold r44.v; try simp only [h1, cond_true, cond_false]; try simp only [h2, cond_true, cond_false]; try rfl; done) | rfl) trivial)))) h
    | e1 =>
      have o2 : ∀ (i : Nat), i < n → (g i).nl = (g i).nr := by first | assumption | omega | (apply ok44 <;> first | assumption | omega) | (simp_all; done)
      cases h3 : L44c.run n g 0 with
      | e0 =>
        exact Ret.of_run1 mix [(AV.int IntKind.i64 (r44.v n g))] Try.func44 rfl [.loop (others 68 [0, 3]) (Exit.exit 0) (L44a.X n g L44a.O.e1) (L44a.XH n g L44a.O.e1), .loop (others 68 [0, 4]) (Exit.exit 2) (L44b.X n g L44b.O.e1) (L44b.XH n g L44b.O.e1), .loop (others 68 [0, 5]) (Exit.ret) (L44c.X n g L44c.O.e0) (L44c.XH n g L44c.O.e0)] (by simp) (by simp) (kmp (by kernel_rfl) (And.intro (L44a.e1 (n) (g) o0 (0) (And.intro (show (0 : Int) ≤ (0 : Int) by first | decide | exact Int.NonNeg.mk _) o1) h1) (And.intro (L44b.e1 (n) (g) o0 (0) (And.intro (show (0 : Int) ≤ (0 : Int) by first | decide | exact Int.NonNeg.mk _) o1) h2) (And.intro (L44c.e0 (n) (g) o0 o2 (0) (And.intro (show (0 : Int) ≤ (0 : Int) by first | decide | exact Int.NonNeg.mk _) o1) h3) (And.intro (show (AV.int IntKind.i64 6) = ((AV.int IntKind.i64 (r44.v n g))) by first | (simp only [r44.v, h1, h2, h3, cond_true, cond_false]; done) | (try unfold r44.v; try simp only [h1, cond_true, cond_false]; try simp only [h2, cond_true, cond_false]; try simp only [h3, cond_true, cond_false]; try rfl; done) | rfl) trivial))))) h
      | e1 =>
        exact Ret.of_run1 mix [(AV.int IntKind.i64 (r44.v n g))] Try.func44 rfl [.loop (others 68 [0, 3]) (Exit.exit 0) (L44a.X n g L44a.O.e1) (L44a.XH n g L44a.O.e1), .loop (others 68 [0, 4]) (Exit.exit 2) (L44b.X n g L44b.O.e1) (L44b.XH n g L44b.O.e1), .loop (others 68 [0, 5]) (Exit.exit 4) (L44c.X n g L44c.O.e1) (L44c.XH n g L44c.O.e1)] (by simp) (by simp) (kmp (by kernel_rfl) (And.intro (L44a.e1 (n) (g) o0 (0) (And.intro (show (0 : Int) ≤ (0 : Int) by first | decide | exact Int.NonNeg.mk _) o1) h1) (And.intro (L44b.e1 (n) (g) o0 (0) (And.intro (show (0 : Int) ≤ (0 : Int) by first | decide | exact Int.NonNeg.mk _) o1) h2) (And.intro (L44c.e1 (n) (g) o0 o2 (0) (And.intro (show (0 : Int) ≤ (0 : Int) by first | decide | exact Int.NonNeg.mk _) o1) h3) (And.intro (show (AV.int IntKind.i64 0) = ((AV.int IntKind.i64 (r44.v n g))) by first | (simp only [r44.v, h1, h2, h3, cond_true, cond_false]; done) | (try unfold r44.v; try simp only [h1, cond_true, cond_false]; try simp only [h2, cond_true, cond_false]; try simp only [h3, cond_true, cond_false]; try rfl; done) | rfl) trivial))))) h

inductive L21.O where
  | e0
  | e1

noncomputable def L21.T (n : Nat) (g : Nat → SD) (i : Int) : List AV := mkT 31 [(0, AV.sl 5 n fun (i : Nat) => AV.agg [AV.str (g i).nm, AV.int IntKind.i64 (g i).x, AV.int IntKind.i64 (g i).y, AV.sl 1 (g i).nr fun (i_1 : Nat) => AV.int IntKind.i64 ((g i).r i_1), AV.sl 1 (g i).nl fun (i_1 : Nat) => AV.int IntKind.i64 ((g i).l i_1)]), (4, AV.int IntKind.i64 i)]

noncomputable def L21.H (n : Nat) (g : Nat → SD) (i : Int) : AHeap := []

def L21.inv (n : Nat) (g : Nat → SD) (i : Int) : Prop := 1 ≤ i ∧ (i ≤ (↑n : Int) ∨ i = 1)

noncomputable def L21.mu (n : Nat) (g : Nat → SD) (i : Int) : Nat := ((↑n : Int) - i).toNat

noncomputable def L21.E : L21.O → Exit
  | .e0 => Exit.ret
  | .e1 => Exit.exit 0

noncomputable def L21.X (n : Nat) (g : Nat → SD) : L21.O → List AV
  | .e0 => mkT 31 [(2, (AV.int IntKind.i64 5))]
  | .e1 => mkT 31 []

noncomputable def L21.XH (n : Nat) (g : Nat → SD) : L21.O → AHeap
  | .e0 => ([])
  | .e1 => ([])

noncomputable def L21.N (n : Nat) (g : Nat → SD) : Nat → Int → L21.O
  | 0, _ => .e0
  | k_ + 1, i => (bif decide (i < (↑n : Int)) then (bif Op.bytesLess (g (IntKind.i64.wrap (i - 1)).toNat).nm.toList (g i.toNat).nm.toList then (L21.N n g k_ (IntKind.i64.wrap (i + 1))) else (.e0)) else (.e1))

noncomputable def L21.run (n : Nat) (g : Nat → SD) (i : Int) : L21.O := L21.N n g ((((↑n : Int) - i).toNat) + 1) i

theorem L21.nx (n : Nat) (g : Nat → SD) {k_ : Nat} {z_ : Int} {h_ : AHeap} (s_ : Int) (h1 : L21.inv n g s_) (h2 : L21.mu n g s_ < L21.mu n g z_) (h3 : L21.N n g k_ s_ = L21.N n g (k_ + 1) z_) (h4 : PopOk (L21.H n g z_) h_ (L21.T n g s_) (L21.H n g s_)) : LNextP (fun (z_ : Int) => L21.T n g z_) (fun (z_ : Int) => L21.H n g z_) (fun (z_ : Int) => L21.inv n g z_) (fun (z_ : Int) => L21.mu n g z_) (fun (k_ : Nat) (z_ : Int) => L21.N n g k_ z_) k_ z_ (L21.T n g s_) h_ := LNextP.mk (Tm := (fun (z_ : Int) => L21.T n g z_)) (Hp := (fun (z_ : Int) => L21.H n g z_)) (inv := (fun (z_ : Int) => L21.inv n g z_)) (mu := (fun (z_ : Int) => L21.mu n g z_)) (l := (fun (k_ : Nat) (z_ : Int) => L21.N n g k_ z_)) s_ h1 h2 h3 h4

theorem L21.en (n : Nat) (g : Nat → SD) {k_ : Nat} {z_ : Int} {h_ : AHeap} (o_ : L21.O) (h3 : L21.N n g (k_ + 1) z_ = o_) (h4 : PopOk (L21.H n g z_) h_ (L21.X n g o_) (L21.XH n g o_)) : LEndP (fun (z_ : Int) => L21.H n g z_) (fun (k_ : Nat) (z_ : Int) => L21.N n g k_ z_) L21.E (L21.X n g) (L21.XH n g) k_ z_ (L21.E o_) (L21.X n g o_) h_ := LEndP.mk (Hp := (fun (z_ : Int) => L21.H n g z_)) (l := (fun (k_ : Nat) (z_ : Int) => L21.N n g k_ z_)) (oE := L21.E) (oT := L21.X n g) (oH := L21.XH n g) o_ h3 h4

theorem L21.spec (n : Nat) (g : Nat → SD) (hn : n ≤ 9223372036854775807) (k_ : Nat) (z_ : Int) (hi_ : L21.inv n g z_) (hm_ : L21.mu n g z_ < k_) : LoopTo Try.prog (loopN Try.f21 0) (L21.T n g z_) (L21.H n g z_) (L21.E (L21.N n g k_ z_)) (L21.X n g (L21.N n g k_ z_)) (L21.XH n g (L21.N n g k_ z_)) := by
  refine LoopTo.fuelP mix (fun (z_ : Int) => L21.T n g z_) (fun (z_ : Int) => L21.H n g z_) (fun (z_ : Int) => L21.inv n g z_) (fun (z_ : Int) => L21.mu n g z_) (fun (k_ : Nat) (z_ : Int) => L21.N n g k_ z_) L21.E (L21.X n g) (L21.XH n g) (others 31 [0, 4]) (others 31 [2]) (others 31 []) ?_ k_ z_ hi_ hm_
  clear hm_ hi_ z_ k_
  intro k_ z_ hinv hmu
  revert hinv hmu; revert z_; intro i hinv hmu
  have hinv : 1 ≤ i ∧ (i ≤ (↑n : Int) ∨ i = 1) := hinv
  have hmu : (((↑n : Int) - i).toNat) < k_ + 1 := hmu
  cases h1 : decide (i < (↑n : Int)) with
  | true =>
    have h1p := of_decide_eq_true h1
    try have := IntWalk.i64_in (i - 1) (by omega)
    have o1 : (0 : Int) ≤ IntKind.i64.wrap (i - (1 : Int)) := by first | assumption | omega | (simp_all; done)
    have o2 : IntKind.i64.wrap (i - (1 : Int)) < (↑n : Int) := by first | assumption | omega | (simp_all; done)
    have o3 : (0 : Int) ≤ i := by first | assumption | omega | (simp_all; done)
    have o4 : i < (↑n : Int) := by first | assumption | omega | (simp_all; done)
    cases h2 : Op.bytesLess (g (IntKind.i64.wrap (i - 1)).toNat).nm.toList (g i.toNat).nm.toList with
    | true =>
      try have := IntWalk.i64_in (i + 1) (by omega)
      have o5 : (1 : Int) ≤ IntKind.i64.wrap (i + (1 : Int)) := by first | assumption | omega | (simp_all; done)
      have o6 : IntKind.i64.wrap (i + (1 : Int)) ≤ (↑n : Int) ∨ IntKind.i64.wrap (i + (1 : Int)) = (1 : Int) := by first | assumption | omega | (simp_all; done)
      have o7 : ((↑n : Int) - IntKind.i64.wrap (i + (1 : Int))).toNat < ((↑n : Int) - i).toNat := by first | assumption | omega | (simp_all; done)
      exact ⟨[.b true, .b false], kmp (by kernel_rfl) (And.intro h1 (And.intro (And.intro o1 o2) (And.intro (And.intro o3 o4) (And.intro (show (bnot (Op.bytesLess (g (IntKind.i64.wrap (i - 1)).toNat).nm.toList (g i.toNat).nm.toList)) = false by rw [h2]; try rfl) (L21.nx n g (k_ := k_) (z_ := i) (IntKind.i64.wrap (i + 1)) (And.intro o5 o6) o7 (by first | (simp only [L21.N, h1, h2, cond_true, cond_false]; done) | (try unfold L21.N; try simp only [h1, cond_true, cond_false]; try simp only [h2, cond_true, cond_false]; try rfl; done)) PopOk.same)))))⟩
    | false =>
      exact ⟨[.b true, .b true], kmp (by kernel_rfl) (And.intro h1 (And.intro (And.intro o1 o2) (And.intro (And.intro o3 o4) (And.intro (show (bnot (Op.bytesLess (g (IntKind.i64.wrap (i - 1)).toNat).nm.toList (g i.toNat).nm.toList)) = true by rw [h2]; try rfl) (L21.en n g (k_ := k_) (z_ := i) (.e0 : L21.O) (by first | (simp only [L21.N, h1, h2, cond_true, cond_false]; done) | (try unfold L21.N; try simp only [h1, cond_true, cond_false]; try simp only [h2, cond_true, cond_false]; try rfl; done)) PopOk.same)))))⟩
  | false =>
    have h1p := of_decide_eq_false h1
    exact ⟨[.b false], kmp (by kernel_rfl) (And.intro h1 (L21.en n g (k_ := k_) (z_ := i) (.e1 : L21.O) (by first | (simp only [L21.N, h1, cond_true, cond_false]; done) | (try unfold L21.N; try simp only [h1, cond_true, cond_false]; try rfl; done)) PopOk.same))⟩

theorem L21.e0 (n : Nat) (g : Nat → SD) (hn : n ≤ 9223372036854775807) (i : Int) (hinv : L21.inv n g i) (hN : L21.run n g i = (.e0 : L21.O)) : LoopTo Try.prog (loopN Try.f21 0) (L21.T n g i) (L21.H n g i) (Exit.ret) (L21.X n g (.e0 : L21.O)) (L21.XH n g (.e0 : L21.O)) := by
  have h_ := L21.spec n g hn ((((↑n : Int) - i).toNat) + 1) i hinv (Nat.lt_succ_self _)
  unfold L21.run at hN
  simp only [hN] at h_
  exact h_

theorem L21.e1 (n : Nat) (g : Nat → SD) (hn : n ≤ 9223372036854775807) (i : Int) (hinv : L21.inv n g i) (hN : L21.run n g i = (.e1 : L21.O)) : LoopTo Try.prog (loopN Try.f21 0) (L21.T n g i) (L21.H n g i) (Exit.exit 0) (L21.X n g (.e1 : L21.O)) (L21.XH n g (.e1 : L21.O)) := by
  have h_ := L21.spec n g hn ((((↑n : Int) - i).toNat) + 1) i hinv (Nat.lt_succ_self _)
  unfold L21.run at hN
  simp only [hN] at h_
  exact h_

noncomputable def r21.v (n : Nat) (g : Nat → SD) : Int := (bif decide ((↑n : Int) > 16) then 7 else (bif r44.v n g == 0 then (match L21.run n g 1 with | .e0 => 5 | .e1 => 0 ) else r44.v n g))

theorem r21 (n : Nat) (g : Nat → SD) (hn : n ≤ 9223372036854775807) (h : AHeap) : Ret Try.prog 21 ([sts n g]) h (AV.int IntKind.i64 (r21.v n g)) h := by
  cases h1 : decide ((↑n : Int) > 16) with
  | true =>
    have h1p := of_decide_eq_true h1
    exact Ret.of_run1 mix [(AV.int IntKind.i64 (r21.v n g))] Try.func21 rfl [.b true] (by simp) (by simp) (kmp (by kernel_rfl) (And.intro h1 (And.intro (show (AV.int IntKind.i64 7) = ((AV.int IntKind.i64 (r21.v n g))) by first | (simp only [r21.v, h1, cond_true, cond_false]; done) | (try unfold r21.v; try simp only [h1, cond_true, cond_false]; try rfl; done) | rfl) trivial))) h
  | false =>
    have h1p := of_decide_eq_false h1
    have o0 : n ≤ (9223372036854775807 : Nat) := by first | assumption | omega | (simp_all; done)
    cases h2 : r44.v n g == 0 with
    | true =>
      have h2p := eq_of_beq h2
      have o1 : (1 : Int) ≤ (↑n : Int) ∨ (1 : Int) = (1 : Int) := by first | assumption | omega | (simp_all; done)
      cases h3 : L21.run n g 1 with
      | e0 =>
        exact Ret.of_run1 mix [(AV.int IntKind.i64 (r21.v n g))] Try.func21 rfl [.b false, .ret (AV.int IntKind.i64 (r44.v n g)) ([]), .b false, .loop (others 31 [0, 4]) (Exit.ret) (L21.X n g L21.O.e0) (L21.XH n g L21.O.e0)] (by simp) (by simp) (kmp (by kernel_rfl) (And.intro h1 (And.intro (r44 (n) (g) o0 ([])) (And.intro (show (bnot (r44.v n g == 0)) = false by rw [h2]; try rfl) (And.intro (L21.e0 (n) (g) o0 (1) (And.intro (show (1 : Int) ≤ (1 : Int) by first | decide | exact Int.NonNeg.mk _) o1) h3) (And.intro (show (AV.int IntKind.i64 5) = ((AV.int IntKind.i64 (r21.v n g))) by first | (simp only [r21.v, h1, h2, h3, cond_true, cond_false]; done) | (try unfold r21.v; try simp only [h1, cond_true, cond_false]; try simp only [h2, cond_true, cond_false]; try simp only [h3, cond_true, cond_false]; try rfl; done) | rfl) trivial)))))) h
      | e1 =>
        exact Ret.of_run1 mix [(AV.int IntKind.i64 (r21.v n g))] Try.func21 rfl [.b false, .ret (AV.int IntKind.i64 (r44.v n g)) ([]), .b false, .loop (others 31 [0, 4]) (Exit.exit 0) (L21.X n g L21.O.e1) (L21.XH n g L21.O.e1)] (by simp) (by simp) (kmp (by kernel_rfl) (And.intro h1 (And.intro (r44 (n) (g) o0 ([])) (And.intro (show (bnot (r44.v n g == 0)) = false by rw [h2]; try rfl) (And.intro (L21.e1 (n) (g) o0 (1) (And.intro (show (1 : Int) ≤ (1 : Int) by first | decide | exact Int.NonNeg.mk _) o1) h3) (And.intro (show (AV.int IntKind.i64 0) = ((AV.int IntKind.i64 (r21.v n g))) by first | (simp only [r21.v, h1, h2, h3, cond_true, cond_false]; done) | (try unfold r21.v; try simp only [h1, cond_true, cond_false]; try simp only [h2, cond_true, cond_false]; try simp only [h3, cond_true, cond_false]; try rfl; done) | rfl) trivial)))))) h
    | false =>
      have h2p := ne_of_beq_false h2
      exact Ret.of_run1 mix [(AV.int IntKind.i64 (r21.v n g))] Try.func21 rfl [.b false, .ret (AV.int IntKind.i64 (r44.v n g)) ([]), .b true] (by simp) (by simp) (kmp (by kernel_rfl) (And.intro h1 (And.intro (r44 (n) (g) o0 ([])) (And.intro (show (bnot (r44.v n g == 0)) = true by rw [h2]; try rfl) (And.intro (show (AV.int IntKind.i64 (r44.v n g)) = ((AV.int IntKind.i64 (r21.v n g))) by first | (simp only [r21.v, h1, h2, cond_true, cond_false]; done) | (try unfold r21.v; try simp only [h1, cond_true, cond_false]; try simp only [h2, cond_true, cond_false]; try rfl; done) | rfl) trivial))))) h

noncomputable def r69.v (s : SD) (a : Int) (b : Int) (d : Int) (e : Int) (r : Int) : Bool := decide (IntKind.i64.wrap (IntKind.i64.wrap (4 * r) * r) ≥ r40.v s.x s.y a b d e)

theorem r69 (s : SD) (a : Int) (b : Int) (c : Int) (d : Int) (e : Int) (f : Int) (r : Int) : Ret Try.prog 69 ([AV.int IntKind.i64 r, AV.ptr 0 1 5 0 0, AV.ptr 1 1 6 0 0]) ([AObj.var s.av, AObj.var (bx a b c d e f)]) (AV.bool (r69.v s a b d e r)) ([AObj.var s.av, AObj.var (bx a b c d e f)]) := by
  exact Ret.of_runH mix [(AV.bool (r69.v s a b d e r))] ([AObj.var s.av, AObj.var (bx a b c d e f)]) Try.func69 rfl [.ret (AV.int IntKind.i64 (r40.v s.x s.y a b d e)) ([AObj.var (AV.agg [AV.str s.nm, AV.int IntKind.i64 s.x, AV.int IntKind.i64 s.y, AV.sl 1 s.nr fun (i : Nat) => AV.int IntKind.i64 (s.r i), AV.sl 1 s.nl fun (i : Nat) => AV.int IntKind.i64 (s.l i)]), AObj.var (AV.agg [AV.int IntKind.i64 a, AV.int IntKind.i64 b, AV.int IntKind.i64 c, AV.int IntKind.i64 d, AV.int IntKind.i64 e, AV.int IntKind.i64 f])])] (by simp) (kmp (by kernel_rfl) (And.intro (r40 (s.x) (s.y) (a) (b) (c) (d) (e) (f) ([AObj.var (AV.agg [AV.str s.nm, AV.int IntKind.i64 s.x, AV.int IntKind.i64 s.y, AV.sl 1 s.nr fun (i : Nat) => AV.int IntKind.i64 (s.r i), AV.sl 1 s.nl fun (i : Nat) => AV.int IntKind.i64 (s.l i)]), AObj.var (AV.agg [AV.int IntKind.i64 a, AV.int IntKind.i64 b, AV.int IntKind.i64 c, AV.int IntKind.i64 d, AV.int IntKind.i64 e, AV.int IntKind.i64 f])])) (And.intro (And.intro (show (AV.bool (decide (IntKind.i64.wrap (IntKind.i64.wrap (4 * r) * r) ≥ r40.v s.x s.y a b d e))) = ((AV.bool (r69.v s a b d e r))) by first | (simp only [r69.v, cond_true, cond_false]; done) | (try unfold r69.v; try rfl; done) | rfl) trivial) (rfl : ([AObj.var s.av, AObj.var (bx a b c d e f)] : AHeap) = [AObj.var s.av, AObj.var (bx a b c d e f)]))))

inductive L68.O where
  | e0 (a0 : Int)
  | e1

noncomputable def L68.T (s : SD) (a : Int) (b : Int) (c : Int) (d : Int) (e : Int) (f : Int) (i : Int) : List AV := mkT 19 [(0, AV.sl 1 s.nr fun (i : Nat) => AV.int IntKind.i64 (s.r i)), (1, AV.fn 69 [AV.ptr 0 1 5 0 0, AV.ptr 1 1 6 0 0]), (7, AV.int IntKind.i64 (↑s.nr : Int)), (8, AV.int IntKind.i64 i)]

noncomputable def L68.H (s : SD) (a : Int) (b : Int) (c : Int) (d : Int) (e : Int) (f : Int) (i : Int) : AHeap := [AObj.var s.av, AObj.var (bx a b c d e f)]

def L68.inv (s : SD) (a : Int) (b : Int) (c : Int) (d : Int) (e : Int) (f : Int) (i : Int) : Prop := 0 ≤ i ∧ i ≤ (↑s.nr : Int)

noncomputable def L68.mu (s : SD) (a : Int) (b : Int) (c : Int) (d : Int) (e : Int) (f : Int) (i : Int) : Nat := ((↑s.nr : Int) - i).toNat

noncomputable def L68.E : L68.O → Exit
  | .e0 a0 => Exit.ret
  | .e1 => Exit.exit 0

noncomputable def L68.X (s : SD) (a : Int) (b : Int) (c : Int) (d : Int) (e : Int) (f : Int) : L68.O → List AV
  | .e0 a0 => mkT 19 [(4, (AV.int IntKind.i64 a0))]
  | .e1 => mkT 19 []

noncomputable def L68.XH (s : SD) (a : Int) (b : Int) (c : Int) (d : Int) (e : Int) (f : Int) : L68.O → AHeap
  | .e0 a0 => ([AObj.var (AV.agg [AV.str s.nm, AV.int IntKind.i64 s.x, AV.int IntKind.i64 s.y, AV.sl 1 s.nr fun (i : Nat) => AV.int IntKind.i64 (s.r i), AV.sl 1 s.nl fun (i : Nat) => AV.int IntKind.i64 (s.l i)]), AObj.var (AV.agg [AV.int IntKind.i64 a, AV.int IntKind.i64 b, AV.int IntKind.i64 c, AV.int IntKind.i64 d, AV.int IntKind.i64 e, AV.int IntKind.i64 f])])
  | .e1 => ([AObj.var (AV.agg [AV.str s.nm, AV.int IntKind.i64 s.x, AV.int IntKind.i64 s.y, AV.sl 1 s.nr fun (i : Nat) => AV.int IntKind.i64 (s.r i), AV.sl 1 s.nl fun (i : Nat) => AV.int IntKind.i64 (s.l i)]), AObj.var (AV.agg [AV.int IntKind.i64 a, AV.int IntKind.i64 b, AV.int IntKind.i64 c, AV.int IntKind.i64 d, AV.int IntKind.i64 e, AV.int IntKind.i64 f])])

noncomputable def L68.N (s : SD) (a : Int) (b : Int) (d : Int) (e : Int) : Nat → Int → L68.O
  | 0, i => .e0 i
  | k_ + 1, i => (bif decide (i < (↑s.nr : Int)) then (bif r69.v s a b d e (s.r i.toNat) then (.e0 (i)) else (L68.N s a b d e k_ (IntKind.i64.wrap (i + 1)))) else (.e1))

noncomputable def L68.run (s : SD) (a : Int) (b : Int) (d : Int) (e : Int) (i : Int) : L68.O := L68.N s a b d e ((((↑s.nr : Int) - i).toNat) + 1) i

theorem L68.nx (s : SD) (a : Int) (b : Int) (c : Int) (d : Int) (e : Int) (f : Int) {k_ : Nat} {z_ : Int} {h_ : AHeap} (s_ : Int) (h1 : L68.inv s a b c d e f s_) (h2 : L68.mu s a b c d e f s_ < L68.mu s a b c d e f z_) (h3 : L68.N s a b d e k_ s_ = L68.N s a b d e (k_ + 1) z_) (h4 : PopOk (L68.H s a b c d e f z_) h_ (L68.T s a b c d e f s_) (L68.H s a b c d e f s_)) : LNextP (fun (z_ : Int) => L68.T s a b c d e f z_) (fun (z_ : Int) => L68.H s a b c d e f z_) (fun (z_ : Int) => L68.inv s a b c d e f z_) (fun (z_ : Int) => L68.mu s a b c d e f z_) (fun (k_ : Nat) (z_ : Int) => L68.N s a b d e k_ z_) k_ z_ (L68.T s a b c d e f s_) h_ := LNextP.mk (Tm := (fun (z_ : Int) => L68.T s a b c d e f z_)) (Hp := (fun (z_ : Int) => L68.H s a b c d e f z_)) (inv := (fun (z_ : Int) => L68.inv s a b c d e f z_)) (mu := (fun (z_ : Int) => L68.mu s a b c d e f z_)) (l := (fun (k_ : Nat) (z_ : Int) => L68.N s a b d e k_ z_)) s_ h1 h2 h3 h4

theorem L68.en (s : SD) (a : Int) (b : Int) (c : Int) (d : Int) (e : Int) (f : Int) {k_ : Nat} {z_ : Int} {h_ : AHeap} (o_ : L68.O) (h3 : L68.N s a b d e (k_ + 1) z_ = o_) (h4 : PopOk (L68.H s a b c d e f z_) h_ (L68.X s a b c d e f o_) (L68.XH s a b c d e f o_)) : LEndP (fun (z_ : Int) => L68.H s a b c d e f z_) (fun (k_ : Nat) (z_ : Int) => L68.N s a b d e k_ z_) L68.E (L68.X s a b c d e f) (L68.XH s a b c d e f) k_ z_ (L68.E o_) (L68.X s a b c d e f o_) h_ := LEndP.mk (Hp := (fun (z_ : Int) => L68.H s a b c d e f z_)) (l := (fun (k_ : Nat) (z_ : Int) => L68.N s a b d e k_ z_)) (oE := L68.E) (oT := L68.X s a b c d e f) (oH := L68.XH s a b c d e f) o_ h3 h4

theorem L68.spec (s : SD) (a : Int) (b : Int) (c : Int) (d : Int) (e : Int) (f : Int) (hr : s.nr ≤ 9223372036854775807) (k_ : Nat) (z_ : Int) (hi_ : L68.inv s a b c d e f z_) (hm_ : L68.mu s a b c d e f z_ < k_) : LoopTo Try.prog (loopN Try.f68 0) (L68.T s a b c d e f z_) (L68.H s a b c d e f z_) (L68.E (L68.N s a b d e k_ z_)) (L68.X s a b c d e f (L68.N s a b d e k_ z_)) (L68.XH s a b c d e f (L68.N s a b d e k_ z_)) := by
  refine LoopTo.fuelP mix (fun (z_ : Int) => L68.T s a b c d e f z_) (fun (z_ : Int) => L68.H s a b c d e f z_) (fun (z_ : Int) => L68.inv s a b c d e f z_) (fun (z_ : Int) => L68.mu s a b c d e f z_) (fun (k_ : Nat) (z_ : Int) => L68.N s a b d e k_ z_) L68.E (L68.X s a b c d e f) (L68.XH s a b c d e f) (others 19 [0, 1, 7, 8]) (others 19 [4]) (others 19 []) ?_ k_ z_ hi_ hm_
  clear hm_ hi_ z_ k_
  intro k_ z_ hinv hmu
  revert hinv hmu; revert z_; intro i hinv hmu
  have hinv : 0 ≤ i ∧ i ≤ (↑s.nr : Int) := hinv
  have hmu : (((↑s.nr : Int) - i).toNat) < k_ + 1 := hmu
  cases h1 : decide (i < (↑s.nr : Int)) with
  | true =>
    have h1p := of_decide_eq_true h1
    have o0 : (0 : Int) ≤ i := by first | assumption | omega | (simp_all; done)
    have o1 : i < (↑s.nr : Int) := by first | assumption | omega | (simp_all; done)
    cases h2 : r69.v s a b d e (s.r i.toNat) with
    | true =>
      exact ⟨[.b true, .ret (AV.bool (r69.v s a b d e (s.r i.toNat))) ([AObj.var (AV.agg [AV.str s.nm, AV.int IntKind.i64 s.x, AV.int IntKind.i64 s.y, AV.sl 1 s.nr fun (i : Nat) => AV.int IntKind.i64 (s.r i), AV.sl 1 s.nl fun (i : Nat) => AV.int IntKind.i64 (s.l i)]), AObj.var (AV.agg [AV.int IntKind.i64 a, AV.int IntKind.i64 b, AV.int IntKind.i64 c, AV.int IntKind.i64 d, AV.int IntKind.i64 e, AV.int IntKind.i64 f])]), .b true], kmp (by kernel_rfl) (And.intro h1 (And.intro (And.intro o0 o1) (And.intro (r69 (s) (a) (b) (c) (d) (e) (f) (s.r i.toNat)) (And.intro h2 (L68.en s a b c d e f (k_ := k_) (z_ := i) (.e0 (i) : L68.O) (by first | (simp only [L68.N, h1, h2, cond_true, cond_false]; done) | (try unfold L68.N; try simp only [h1, cond_true, cond_false]; try simp only [h2, cond_true, cond_false]; try rfl; done)) PopOk.same)))))⟩
    | false =>
      try have := IntWalk.i64_in (i + 1) (by omega)
      have o2 : (0 : Int) ≤ IntKind.i64.wrap (i + (1 : Int)) := by first | assumption | omega | (simp_all; done)
      have o3 : IntKind.i64.wrap (i + (1 : Int)) ≤ (↑s.nr : Int) := by first | assumption | omega | (simp_all; done)
      have o4 : ((↑s.nr : Int) - IntKind.i64.wrap (i + (1 : Int))).toNat < ((↑s.nr : Int) - i).toNat := by first | assumption | omega | (simp_all; done)
      exact ⟨[.b true, .ret (AV.bool (r69.v s a b d e (s.r i.toNat))) ([AObj.var (AV.agg [AV.str s.nm, AV.int IntKind.i64 s.x, AV.int IntKind.i64 s.y, AV.sl 1 s.nr fun (i : Nat) => AV.int IntKind.i64 (s.r i), AV.sl 1 s.nl fun (i : Nat) => AV.int IntKind.i64 (s.l i)]), AObj.var (AV.agg [AV.int IntKind.i64 a, AV.int IntKind.i64 b, AV.int IntKind.i64 c, AV.int IntKind.i64 d, AV.int IntKind.i64 e, AV.int IntKind.i64 f])]), .b false], kmp (by kernel_rfl) (And.intro h1 (And.intro (And.intro o0 o1) (And.intro (r69 (s) (a) (b) (c) (d) (e) (f) (s.r i.toNat)) (And.intro h2 (L68.nx s a b c d e f (k_ := k_) (z_ := i) (IntKind.i64.wrap (i + 1)) (And.intro o2 o3) o4 (by first | (simp only [L68.N, h1, h2, cond_true, cond_false]; done) | (try unfold L68.N; try simp only [h1, cond_true, cond_false]; try simp only [h2, cond_true, cond_false]; try rfl; done)) PopOk.same)))))⟩
  | false =>
    have h1p := of_decide_eq_false h1
    exact ⟨[.b false], kmp (by kernel_rfl) (And.intro h1 (L68.en s a b c d e f (k_ := k_) (z_ := i) (.e1 : L68.O) (by first | (simp only [L68.N, h1, cond_true, cond_false]; done) | (try unfold L68.N; try simp only [h1, cond_true, cond_false]; try rfl; done)) PopOk.same))⟩

theorem L68.e0 (s : SD) (a : Int) (b : Int) (c : Int) (d : Int) (e : Int) (f : Int) (hr : s.nr ≤ 9223372036854775807) (i : Int) (hinv : L68.inv s a b c d e f i) (a0 : Int) (hN : L68.run s a b d e i = (.e0 a0 : L68.O)) : LoopTo Try.prog (loopN Try.f68 0) (L68.T s a b c d e f i) (L68.H s a b c d e f i) (Exit.ret) (L68.X s a b c d e f (.e0 a0 : L68.O)) (L68.XH s a b c d e f (.e0 a0 : L68.O)) := by
  have h_ := L68.spec s a b c d e f hr ((((↑s.nr : Int) - i).toNat) + 1) i hinv (Nat.lt_succ_self _)
  unfold L68.run at hN
  simp only [hN] at h_
  exact h_

theorem L68.e1 (s : SD) (a : Int) (b : Int) (c : Int) (d : Int) (e : Int) (f : Int) (hr : s.nr ≤ 9223372036854775807) (i : Int) (hinv : L68.inv s a b c d e f i) (hN : L68.run s a b d e i = (.e1 : L68.O)) : LoopTo Try.prog (loopN Try.f68 0) (L68.T s a b c d e f i) (L68.H s a b c d e f i) (Exit.exit 0) (L68.X s a b c d e f (.e1 : L68.O)) (L68.XH s a b c d e f (.e1 : L68.O)) := by
  have h_ := L68.spec s a b c d e f hr ((((↑s.nr : Int) - i).toNat) + 1) i hinv (Nat.lt_succ_self _)
  unfold L68.run at hN
  simp only [hN] at h_
  exact h_

noncomputable def r68.v (s : SD) (a : Int) (b : Int) (d : Int) (e : Int) : Int := (match L68.run s a b d e 0 with | .e0 h1d0 => h1d0 | .e1 => -1 )

theorem r68 (s : SD) (a : Int) (b : Int) (c : Int) (d : Int) (e : Int) (f : Int) : Ret Try.prog 68 ([AV.sl 1 s.nr fun (i : Nat) => AV.int IntKind.i64 (s.r i), AV.fn 69 [AV.ptr 0 1 5 0 0, AV.ptr 1 1 6 0 0]]) ([AObj.var s.av, AObj.var (bx a b c d e f)]) (AV.int IntKind.i64 (r68.v s a b d e)) ([AObj.var s.av, AObj.var (bx a b c d e f)]) := by
  have o0 : s.nr ≤ (9223372036854775807 : Nat) := by first | assumption | omega | (simp_all; done)
  have o1 : (0 : Int) ≤ (↑s.nr : Int) := by first | assumption | omega | (simp_all; done)
  cases h1 : L68.run s a b d e 0 with
  | e0 h1d0 =>
    exact Ret.of_runH mix [(AV.int IntKind.i64 (r68.v s a b d e))] ([AObj.var s.av, AObj.var (bx a b c d e f)]) Try.func68 rfl [.loop (others 19 [0, 1, 7, 8]) (Exit.ret) (L68.X s a b c d e f (L68.O.e0 h1d0)) (L68.XH s a b c d e f (L68.O.e0 h1d0))] (by simp) (kmp (by kernel_rfl) (And.intro (L68.e0 (s) (a) (b) (c) (d) (e) (f) o0 (0) (And.intro (show (0 : Int) ≤ (0 : Int) by first | decide | exact Int.NonNeg.mk _) o1) h1d0 h1) (And.intro (And.intro (show (AV.int IntKind.i64 h1d0) = ((AV.int IntKind.i64 (r68.v s a b d e))) by first | (simp only [r68.v, h1, cond_true, cond_false]; done) | (try unfold r68.v; try simp only [h1, cond_true, cond_false]; try rfl; done) | rfl) trivial) (rfl : ([AObj.var s.av, AObj.var (bx a b c d e f)] : AHeap) = [AObj.var s.av, AObj.var (bx a b c d e f)]))))
  | e1 =>
    exact Ret.of_runH mix [(AV.int IntKind.i64 (r68.v s a b d e))] ([AObj.var s.av, AObj.var (bx a b c d e f)]) Try.func68 rfl [.loop (others 19 [0, 1, 7, 8]) (Exit.exit 0) (L68.X s a b c d e f L68.O.e1) (L68.XH s a b c d e f L68.O.e1)] (by simp) (kmp (by kernel_rfl) (And.intro (L68.e1 (s) (a) (b) (c) (d) (e) (f) o0 (0) (And.intro (show (0 : Int) ≤ (0 : Int) by first | decide | exact Int.NonNeg.mk _) o1) h1) (And.intro (And.intro (show (AV.int IntKind.i64 (-1)) = ((AV.int IntKind.i64 (r68.v s a b d e))) by first | (simp only [r68.v, h1, cond_true, cond_false]; done) | (try unfold r68.v; try simp only [h1, cond_true, cond_false]; try rfl; done) | rfl) trivial) (rfl : ([AObj.var s.av, AObj.var (bx a b c d e f)] : AHeap) = [AObj.var s.av, AObj.var (bx a b c d e f)]))))

end Go.Proofs.Ytgmppoappaolkaa

open Go

namespace Go.Proofs.Ytgmppoappaolkaa

set_option linter.unusedVariables false

set_option linter.unusedSimpArgs false

variable {s : SD} {a b c d e f : Int}

theorem L68_run : L68.run s a b d e 0 = srch (fun i => r69.v s a b d e (s.r i)) (fun i => L68.O.e0 i) .e1 0 s.nr := by
  have := search_eq (n := s.nr) (fun i => r69.v s a b d e (s.r i)) (fun i => L68.O.e0 i) .e1 (N := L68.N s a b d e) (fun k i h => by
    simp only [L68.N, wrap_succ s.hnr h, Int.toNat_natCast]; rw [decide_eq_true (by omega)]; rfl) (fun k => by simp [L68.N]) (s.nr + 1) 0 (Nat.zero_le _) (by omega)
  simpa [L68.run, L68.mu] using this

theorem r68_cases : ((∀ i, i < s.nr → r69.v s a b d e (s.r i) = false) ∧ r68.v s a b d e = -1) ∨ ∃ i, i < s.nr ∧ r69.v s a b d e (s.r i) = true ∧ (∀ j, j < i → r69.v s a b d e (s.r j) = false) ∧ r68.v s a b d e = i := by
  unfold r68.v
  rw [L68_run]
  rcases srch_cases (fun i => r69.v s a b d e (s.r i)) (fun i => L68.O.e0 i) .e1 s.nr 0 with ⟨h1, h2⟩ | ⟨j, h1, h2, h3, h4, h5⟩
  · exact .inl ⟨fun i hi => h1 i (Nat.zero_le _) (by omega), by rw [h2]⟩
  · exact .inr ⟨j, by omega, h3, fun l hl => h4 l (Nat.zero_le _) hl, by rw [h5]⟩

theorem bd68 (h : ¬ r68.v s a b d e < 0) (hl : s.nl = s.nr) : 0 ≤ r68.v s a b d e ∧ r68.v s a b d e < (s.nl : Int) := by
  rcases r68_cases (s := s) (a := a) (b := b) (d := d) (e := e) with ⟨_, h2⟩ | ⟨i, h1, _, _, h2⟩
  · rw [h2] at h; omega
  · rw [h2, hl]; omega

theorem r44_any {n : Nat} {g : Nat → SD} (hn : n ≤ 9223372036854775807) : r44.v n g = r43.v n g := by
  rw [r43_any hn]
  unfold r44.v
  rw [L44a_run hn, L44b_run hn, L44c_run hn]
  cases anyN n (fun i => r62.v (g i)) <;> cases anyN n (fun i => r64.v (g i)) <;> cases anyN n (fun i => r65.v (g i)) <;> rfl

end Go.Proofs.Ytgmppoappaolkaa

open Go

namespace Go.Proofs.Ytgmppoappaolkaa

set_option linter.unusedSimpArgs false

set_option linter.unusedVariables false

set_option maxHeartbeats 0

set_option maxRecDepth 100000

noncomputable def r45.v (s : SD) (a : Int) (b : Int) (d : Int) (e : Int) : Int := (bif decide (r68.v s a b d e < 0) then -1 else s.l (r68.v s a b d e).toNat)

theorem r45 (s : SD) (a : Int) (b : Int) (c : Int) (d : Int) (e : Int) (f : Int) (hl : s.nl = s.nr) (h : AHeap) : Ret Try.prog 45 ([s.av, bx a b c d e f]) h (AV.int IntKind.i64 (r45.v s a b d e)) h := by
  cases h1 : decide (r68.v s a b d e < 0) with
  | true =>
    have h1p := of_decide_eq_true h1
    exact Ret.of_run1 mix [(AV.int IntKind.i64 (r45.v s a b d e))] Try.func45 rfl [.ret (AV.int IntKind.i64 (r68.v s a b d e)) ([AObj.var (AV.agg [AV.str s.nm, AV.int IntKind.i64 s.x, AV.int IntKind.i64 s.y, AV.sl 1 s.nr fun (i : Nat) => AV.int IntKind.i64 (s.r i), AV.sl 1 s.nl fun (i : Nat) => AV.int IntKind.i64 (s.l i)]), AObj.var (AV.agg [AV.int IntKind.i64 a, AV.int IntKind.i64 b, AV.int IntKind.i64 c, AV.int IntKind.i64 d, AV.int IntKind.i64 e, AV.int IntKind.i64 f])]), .b true] (by simp) (by simp) (kmp (by kernel_rfl) (And.intro (r68 (s) (a) (b) (c) (d) (e) (f)) (And.intro h1 (And.intro (show (AV.int IntKind.i64 (-1)) = ((AV.int IntKind.i64 (r45.v s a b d e))) by first | (simp only [r45.v, h1, cond_true, cond_false]; done) | (try unfold r45.v; try simp only [h1, cond_true, cond_false]; try rfl; done) | rfl) trivial)))) h
  | false =>
    have h1p := of_decide_eq_false h1
    try have := bd68 (by first | assumption | omega) (by first | assumption | omega)
    have o0 : (0 : Int) ≤ r68.v s a b d e := by first | assumption | omega | (simp_all; done)
    have o1 : r68.v s a b d e < (↑s.nl : Int) := by first | assumption | omega | (simp_all; done)
    exact Ret.of_run1 mix [(AV.int IntKind.i64 (r45.v s a b d e))] Try.func45 rfl [.ret (AV.int IntKind.i64 (r68.v s a b d e)) ([AObj.var (AV.agg [AV.str s.nm, AV.int IntKind.i64 s.x, AV.int IntKind.i64 s.y, AV.sl 1 s.nr fun (i : Nat) => AV.int IntKind.i64 (s.r i), AV.sl 1 s.nl fun (i : Nat) => AV.int IntKind.i64 (s.l i)]), AObj.var (AV.agg [AV.int IntKind.i64 a, AV.int IntKind.i64 b, AV.int IntKind.i64 c, AV.int IntKind.i64 d, AV.int IntKind.i64 e, AV.int IntKind.i64 f])]), .b false] (by simp) (by simp) (kmp (by kernel_rfl) (And.intro (r68 (s) (a) (b) (c) (d) (e) (f)) (And.intro h1 (And.intro (And.intro o0 o1) (And.intro (show (AV.int IntKind.i64 (s.l (r68.v s a b d e).toNat)) = ((AV.int IntKind.i64 (r45.v s a b d e))) by first | (simp only [r45.v, h1, cond_true, cond_false]; done) | (try unfold r45.v; try simp only [h1, cond_true, cond_false]; try rfl; done) | rfl) trivial))))) h

noncomputable def r46.v (s : SD) (a : Int) (b : Int) (c : Int) (d : Int) (e : Int) (f : Int) (n : Int) : Int := (bif decide (r45.v s a b d e < 0) then -1 else IntKind.i64.wrap (r45.v s a b d e - massOf a b c d e f n))

noncomputable abbrev r46.h0 (s : SD) (a : Int) (b : Int) (c : Int) (d : Int) (e : Int) (f : Int) (n : Int) : AHeap := ([AObj.var (AV.agg [AV.str s.nm, AV.int IntKind.i64 s.x, AV.int IntKind.i64 s.y, AV.sl 1 s.nr fun (i : Nat) => AV.int IntKind.i64 (s.r i), AV.sl 1 s.nl fun (i : Nat) => AV.int IntKind.i64 (s.l i)]), AObj.var (AV.agg [AV.int IntKind.i64 a, AV.int IntKind.i64 b, AV.int IntKind.i64 c, AV.int IntKind.i64 d, AV.int IntKind.i64 e, AV.int IntKind.i64 f])])

theorem r46 (s : SD) (a : Int) (b : Int) (c : Int) (d : Int) (e : Int) (f : Int) (n : Int) (hl : s.nl = s.nr) (hb : (r36.v a b c d e f == 0) = true) (hn : r37.v n = true) (h : AHeap) : Ret Try.prog 46 ([s.av, bx a b c d e f, AV.int IntKind.i64 n]) h (AV.int IntKind.i64 (r46.v s a b c d e f n)) h := by
  have o0 : s.nl = s.nr := by first | assumption | omega | (simp_all; done)
  cases h1 : decide (r45.v s a b d e < 0) with
  | true =>
    have h1p := of_decide_eq_true h1
    exact Ret.of_run1 mix [(AV.int IntKind.i64 (r46.v s a b c d e f n))] Try.func46 rfl [.ret (AV.int IntKind.i64 (r45.v s a b d e)) (r46.h0 s a b c d e f n), .b true] (by simp) (by simp) (kmp (by kernel_rfl) (And.intro (r45 (s) (a) (b) (c) (d) (e) (f) o0 (r46.h0 s a b c d e f n)) (And.intro h1 (And.intro (show (AV.int IntKind.i64 (-1)) = ((AV.int IntKind.i64 (r46.v s a b c d e f n))) by first | (simp only [r46.v, h1, cond_true, cond_false]; done) | (try unfold r46.v; try simp only [h1, cond_true, cond_false]; try rfl; done) | rfl) trivial)))) h
  | false =>
    have h1p := of_decide_eq_false h1
    have o1 : (r36.v a b c d e f == (0 : Int)) = true := by first | assumption | omega | (simp_all; done)
    have o2 : r37.v n = true := by first | assumption | omega | (simp_all; done)
    exact Ret.of_run1 mix [(AV.int IntKind.i64 (r46.v s a b c d e f n))] Try.func46 rfl [.ret (AV.int IntKind.i64 (r45.v s a b d e)) (r46.h0 s a b c d e f n), .b false, .ret (AV.int IntKind.i64 (massOf a b c d e f n)) (r46.h0 s a b c d e f n)] (by simp) (by simp) (kmp (by kernel_rfl) (And.intro (r45 (s) (a) (b) (c) (d) (e) (f) o0 (r46.h0 s a b c d e f n)) (And.intro h1 (And.intro (r38_ret (a) (b) (c) (d) (e) (f) (n) o1 o2 (r46.h0 s a b c d e f n)) (And.intro (show (AV.int IntKind.i64 (IntKind.i64.wrap (r45.v s a b d e - massOf a b c d e f n))) = ((AV.int IntKind.i64 (r46.v s a b c d e f n))) by first | (simp only [r46.v, h1, cond_true, cond_false]; done) | (try unfold r46.v; try simp only [h1, cond_true, cond_false]; try rfl; done) | rfl) trivial))))) h

inductive L25.O where
  | e0 (a0 : Int)
  | e1

noncomputable def L25.T (s : SD) (a : Int) (b : Int) (c : Int) (d : Int) (e : Int) (f : Int) (i : Int) : List AV := mkT 36 [(2, AV.ptr 0 1 5 0 0), (4, AV.int IntKind.i64 0), (5, AV.bool false), (6, AV.int IntKind.i64 (r16.v s.x s.y a b d e)), (7, AV.int IntKind.i64 i)]

noncomputable def L25.H (s : SD) (a : Int) (b : Int) (c : Int) (d : Int) (e : Int) (f : Int) (i : Int) : AHeap := [AObj.var s.av, AObj.var (bx a b c d e f)]

def L25.inv (s : SD) (a : Int) (b : Int) (c : Int) (d : Int) (e : Int) (f : Int) (i : Int) : Prop := 0 ≤ i ∧ i ≤ (↑s.nr : Int)

noncomputable def L25.mu (s : SD) (a : Int) (b : Int) (c : Int) (d : Int) (e : Int) (f : Int) (i : Int) : Nat := ((↑s.nr : Int) - i).toNat

noncomputable def L25.E : L25.O → Exit
  | .e0 a0 => Exit.ret
  | .e1 => Exit.exit 0

noncomputable def L25.X (s : SD) (a : Int) (b : Int) (c : Int) (d : Int) (e : Int) (f : Int) : L25.O → List AV
  | .e0 a0 => mkT 36 [(4, (AV.int IntKind.i64 a0)), (5, (AV.bool true))]
  | .e1 => mkT 36 []

noncomputable def L25.XH (s : SD) (a : Int) (b : Int) (c : Int) (d : Int) (e : Int) (f : Int) : L25.O → AHeap
  | .e0 a0 => ([AObj.var (AV.agg [AV.str s.nm, AV.int IntKind.i64 s.x, AV.int IntKind.i64 s.y, AV.sl 1 s.nr fun (i : Nat) => AV.int IntKind.i64 (s.r i), AV.sl 1 s.nl fun (i : Nat) => AV.int IntKind.i64 (s.l i)]), AObj.var (AV.agg [AV.int IntKind.i64 a, AV.int IntKind.i64 b, AV.int IntKind.i64 c, AV.int IntKind.i64 d, AV.int IntKind.i64 e, AV.int IntKind.i64 f])])
  | .e1 => ([AObj.var (AV.agg [AV.str s.nm, AV.int IntKind.i64 s.x, AV.int IntKind.i64 s.y, AV.sl 1 s.nr fun (i : Nat) => AV.int IntKind.i64 (s.r i), AV.sl 1 s.nl fun (i : Nat) => AV.int IntKind.i64 (s.l i)]), AObj.var (AV.agg [AV.int IntKind.i64 a, AV.int IntKind.i64 b, AV.int IntKind.i64 c, AV.int IntKind.i64 d, AV.int IntKind.i64 e, AV.int IntKind.i64 f])])

noncomputable def L25.N (s : SD) (a : Int) (b : Int) (d : Int) (e : Int) : Nat → Int → L25.O
  | 0, _ => .e0 default
  | k_ + 1, i => (bif decide (i < (↑s.nr : Int)) then (bif decide (IntKind.i64.wrap (IntKind.i64.wrap (2 * s.r i.toNat) * IntKind.i64.wrap (2 * s.r i.toNat)) ≥ r16.v s.x s.y a b d e) then (.e0 (s.l i.toNat)) else (L25.N s a b d e k_ (IntKind.i64.wrap (i + 1)))) else (.e1))

noncomputable def L25.run (s : SD) (a : Int) (b : Int) (d : Int) (e : Int) (i : Int) : L25.O := L25.N s a b d e ((((↑s.nr : Int) - i).toNat) + 1) i

theorem L25.nx (s : SD) (a : Int) (b : Int) (c : Int) (d : Int) (e : Int) (f : Int) {k_ : Nat} {z_ : Int} {h_ : AHeap} (s_ : Int) (h1 : L25.inv s a b c d e f s_) (h2 : L25.mu s a b c d e f s_ < L25.mu s a b c d e f z_) (h3 : L25.N s a b d e k_ s_ = L25.N s a b d e (k_ + 1) z_) (h4 : PopOk (L25.H s a b c d e f z_) h_ (L25.T s a b c d e f s_) (L25.H s a b c d e f s_)) : LNextP (fun (z_ : Int) => L25.T s a b c d e f z_) (fun (z_ : Int) => L25.H s a b c d e f z_) (fun (z_ : Int) => L25.inv s a b c d e f z_) (fun (z_ : Int) => L25.mu s a b c d e f z_) (fun (k_ : Nat) (z_ : Int) => L25.N s a b d e k_ z_) k_ z_ (L25.T s a b c d e f s_) h_ := LNextP.mk (Tm := (fun (z_ : Int) => L25.T s a b c d e f z_)) (Hp := (fun (z_ : Int) => L25.H s a b c d e f z_)) (inv := (fun (z_ : Int) => L25.inv s a b c d e f z_)) (mu := (fun (z_ : Int) => L25.mu s a b c d e f z_)) (l := (fun (k_ : Nat) (z_ : Int) => L25.N s a b d e k_ z_)) s_ h1 h2 h3 h4

theorem L25.en (s : SD) (a : Int) (b : Int) (c : Int) (d : Int) (e : Int) (f : Int) {k_ : Nat} {z_ : Int} {h_ : AHeap} (o_ : L25.O) (h3 : L25.N s a b d e (k_ + 1) z_ = o_) (h4 : PopOk (L25.H s a b c d e f z_) h_ (L25.X s a b c d e f o_) (L25.XH s a b c d e f o_)) : LEndP (fun (z_ : Int) => L25.H s a b c d e f z_) (fun (k_ : Nat) (z_ : Int) => L25.N s a b d e k_ z_) L25.E (L25.X s a b c d e f) (L25.XH s a b c d e f) k_ z_ (L25.E o_) (L25.X s a b c d e f o_) h_ := LEndP.mk (Hp := (fun (z_ : Int) => L25.H s a b c d e f z_)) (l := (fun (k_ : Nat) (z_ : Int) => L25.N s a b d e k_ z_)) (oE := L25.E) (oT := L25.X s a b c d e f) (oH := L25.XH s a b c d e f) o_ h3 h4

theorem L25.spec (s : SD) (a : Int) (b : Int) (c : Int) (d : Int) (e : Int) (f : Int) (hl : s.nl = s.nr) (hr : s.nr ≤ 9223372036854775807) (k_ : Nat) (z_ : Int) (hi_ : L25.inv s a b c d e f z_) (hm_ : L25.mu s a b c d e f z_ < k_) : LoopTo Try.prog (loopN Try.f25 0) (L25.T s a b c d e f z_) (L25.H s a b c d e f z_) (L25.E (L25.N s a b d e k_ z_)) (L25.X s a b c d e f (L25.N s a b d e k_ z_)) (L25.XH s a b c d e f (L25.N s a b d e k_ z_)) := by
  refine LoopTo.fuelP mix (fun (z_ : Int) => L25.T s a b c d e f z_) (fun (z_ : Int) => L25.H s a b c d e f z_) (fun (z_ : Int) => L25.inv s a b c d e f z_) (fun (z_ : Int) => L25.mu s a b c d e f z_) (fun (k_ : Nat) (z_ : Int) => L25.N s a b d e k_ z_) L25.E (L25.X s a b c d e f) (L25.XH s a b c d e f) (others 36 [2, 4, 5, 6, 7]) (others 36 [4, 5]) (others 36 []) ?_ k_ z_ hi_ hm_
  clear hm_ hi_ z_ k_
  intro k_ z_ hinv hmu
  revert hinv hmu; revert z_; intro i hinv hmu
  have hinv : 0 ≤ i ∧ i ≤ (↑s.nr : Int) := hinv
  have hmu : (((↑s.nr : Int) - i).toNat) < k_ + 1 := hmu
  cases h1 : decide (i < (↑s.nr : Int)) with
  | true =>
    have h1p := of_decide_eq_true h1
    have o0 : (0 : Int) ≤ i := by first | assumption | omega | (simp_all; done)
    have o1 : i < (↑s.nr : Int) := by first | assumption | omega | (simp_all; done)
    cases h2 : decide (IntKind.i64.wrap (IntKind.i64.wrap (2 * s.r i.toNat) * IntKind.i64.wrap (2 * s.r i.toNat)) ≥ r16.v s.x s.y a b d e) with
    | true =>
      have h2p := of_decide_eq_true h2
      have o2 : i < (↑s.nl : Int) := by first | assumption | omega | (simp_all; done)
      exact ⟨[.b true, .b true], kmp (by kernel_rfl) (And.intro h1 (And.intro (And.intro o0 o1) (And.intro h2 (And.intro (And.intro o0 o2) (L25.en s a b c d e f (k_ := k_) (z_ := i) (.e0 (s.l i.toNat) : L25.O) (by first | (simp only [L25.N, h1, h2, cond_true, cond_false]; done) | (try unfold L25.N; try simp only [h1, cond_true, cond_false]; try simp only [h2, cond_true, cond_false]; try rfl; done)) PopOk.same)))))⟩
    | false =>
      have h2p := of_decide_eq_false h2
      try have := IntWalk.i64_in (i + 1) (by omega)
      have o3 : (0 : Int) ≤ IntKind.i64.wrap (i + (1 : Int)) := by first | assumption | omega | (simp_all; done)
      have o4 : IntKind.i64.wrap (i + (1 : Int)) ≤ (↑s.nr : Int) := by first | assumption | omega | (simp_all; done)
      have o5 : ((↑s.nr : Int) - IntKind.i64.wrap (i + (1 : Int))).toNat < ((↑s.nr : Int) - i).toNat := by first | assumption | omega | (simp_all; done)
      exact ⟨[.b true, .b false], kmp (by kernel_rfl) (And.intro h1 (And.intro (And.intro o0 o1) (And.intro h2 (L25.nx s a b c d e f (k_ := k_) (z_ := i) (IntKind.i64.wrap (i + 1)) (And.intro o3 o4) o5 (by first | (simp only [L25.N, h1, h2, cond_true, cond_false]; done) | (try unfold L25.N; try simp only [h1, cond_true, cond_false]; try simp only [h2, cond_true, cond_false]; try rfl; done)) PopOk.same))))⟩
  | false =>
    have h1p := of_decide_eq_false h1
    exact ⟨[.b false], kmp (by kernel_rfl) (And.intro h1 (L25.en s a b c d e f (k_ := k_) (z_ := i) (.e1 : L25.O) (by first | (simp only [L25.N, h1, cond_true, cond_false]; done) | (try unfold L25.N; try simp only [h1, cond_true, cond_false]; try rfl; done)) PopOk.same))⟩

theorem L25.e0 (s : SD) (a : Int) (b : Int) (c : Int) (d : Int) (e : Int) (f : Int) (hl : s.nl = s.nr) (hr : s.nr ≤ 9223372036854775807) (i : Int) (hinv : L25.inv s a b c d e f i) (a0 : Int) (hN : L25.run s a b d e i = (.e0 a0 : L25.O)) : LoopTo Try.prog (loopN Try.f25 0) (L25.T s a b c d e f i) (L25.H s a b c d e f i) (Exit.ret) (L25.X s a b c d e f (.e0 a0 : L25.O)) (L25.XH s a b c d e f (.e0 a0 : L25.O)) := by
  have h_ := L25.spec s a b c d e f hl hr ((((↑s.nr : Int) - i).toNat) + 1) i hinv (Nat.lt_succ_self _)
  unfold L25.run at hN
  simp only [hN] at h_
  exact h_

theorem L25.e1 (s : SD) (a : Int) (b : Int) (c : Int) (d : Int) (e : Int) (f : Int) (hl : s.nl = s.nr) (hr : s.nr ≤ 9223372036854775807) (i : Int) (hinv : L25.inv s a b c d e f i) (hN : L25.run s a b d e i = (.e1 : L25.O)) : LoopTo Try.prog (loopN Try.f25 0) (L25.T s a b c d e f i) (L25.H s a b c d e f i) (Exit.exit 0) (L25.X s a b c d e f (.e1 : L25.O)) (L25.XH s a b c d e f (.e1 : L25.O)) := by
  have h_ := L25.spec s a b c d e f hl hr ((((↑s.nr : Int) - i).toNat) + 1) i hinv (Nat.lt_succ_self _)
  unfold L25.run at hN
  simp only [hN] at h_
  exact h_

noncomputable def r25.v0 (s : SD) (a : Int) (b : Int) (d : Int) (e : Int) : Int := (match L25.run s a b d e 0 with | .e0 h1d0 => h1d0 | .e1 => 0 )

noncomputable def r25.v1 (s : SD) (a : Int) (b : Int) (d : Int) (e : Int) : Bool := (match L25.run s a b d e 0 with | .e0 h1d0 => true | .e1 => false )

noncomputable abbrev r25.h0 (s : SD) (a : Int) (b : Int) (c : Int) (d : Int) (e : Int) (f : Int) : AHeap := ([AObj.var (AV.agg [AV.str s.nm, AV.int IntKind.i64 s.x, AV.int IntKind.i64 s.y, AV.sl 1 s.nr fun (i : Nat) => AV.int IntKind.i64 (s.r i), AV.sl 1 s.nl fun (i : Nat) => AV.int IntKind.i64 (s.l i)]), AObj.var (AV.agg [AV.int IntKind.i64 a, AV.int IntKind.i64 b, AV.int IntKind.i64 c, AV.int IntKind.i64 d, AV.int IntKind.i64 e, AV.int IntKind.i64 f])])

theorem r25 (s : SD) (a : Int) (b : Int) (c : Int) (d : Int) (e : Int) (f : Int) (hl : s.nl = s.nr) (h : AHeap) : Ret Try.prog 25 ([s.av, bx a b c d e f]) h (AV.tup [(AV.int IntKind.i64 (r25.v0 s a b d e)), (AV.bool (r25.v1 s a b d e))]) h := by
  have o0 : s.nl = s.nr := by first | assumption | omega | (simp_all; done)
  have o1 : s.nr ≤ (9223372036854775807 : Nat) := by first | assumption | omega | (simp_all; done)
  have o2 : (0 : Int) ≤ (↑s.nr : Int) := by first | assumption | omega | (simp_all; done)
  cases h1 : L25.run s a b d e 0 with
  | e0 h1d0 =>
    exact Ret.of_run1 mix [(AV.int IntKind.i64 (r25.v0 s a b d e)), (AV.bool (r25.v1 s a b d e))] Try.func25 rfl [.ret (AV.int IntKind.i64 (r16.v s.x s.y a b d e)) (r25.h0 s a b c d e f), .loop (others 36 [2, 4, 5, 6, 7]) (Exit.ret) (L25.X s a b c d e f (L25.O.e0 h1d0)) (L25.XH s a b c d e f (L25.O.e0 h1d0))] (by simp) (by simp) (kmp (by kernel_rfl) (And.intro (r16 (s.x) (s.y) (a) (b) (c) (d) (e) (f) (r25.h0 s a b c d e f)) (And.intro (L25.e0 (s) (a) (b) (c) (d) (e) (f) o0 o1 (0) (And.intro (show (0 : Int) ≤ (0 : Int) by first | decide | exact Int.NonNeg.mk _) o2) h1d0 h1) (And.intro (show (AV.int IntKind.i64 h1d0) = ((AV.int IntKind.i64 (r25.v0 s a b d e))) by first | (simp only [r25.v0, r25.v1, h1, cond_true, cond_false]; done) | (try unfold r25.v0; try unfold r25.v1; try simp only [h1, cond_true, cond_false]; try rfl; done) | rfl) (And.intro (show (AV.bool true) = ((AV.bool (r25.v1 s a b d e))) by first | (simp only [r25.v0, r25.v1, h1, cond_true, cond_false]; done) | (try unfold r25.v0; try unfold r25.v1; try simp only [h1, cond_true, cond_false]; try rfl; done) | rfl) trivial))))) h
  | e1 =>
    exact Ret.of_run1 mix [(AV.int IntKind.i64 (r25.v0 s a b d e)), (AV.bool (r25.v1 s a b d e))] Try.func25 rfl [.ret (AV.int IntKind.i64 (r16.v s.x s.y a b d e)) (r25.h0 s a b c d e f), .loop (others 36 [2, 4, 5, 6, 7]) (Exit.exit 0) (L25.X s a b c d e f L25.O.e1) (L25.XH s a b c d e f L25.O.e1)] (by simp) (by simp) (kmp (by kernel_rfl) (And.intro (r16 (s.x) (s.y) (a) (b) (c) (d) (e) (f) (r25.h0 s a b c d e f)) (And.intro (L25.e1 (s) (a) (b) (c) (d) (e) (f) o0 o1 (0) (And.intro (show (0 : Int) ≤ (0 : Int) by first | decide | exact Int.NonNeg.mk _) o2) h1) (And.intro (show (AV.int IntKind.i64 0) = ((AV.int IntKind.i64 (r25.v0 s a b d e))) by first | (simp only [r25.v0, r25.v1, h1, cond_true, cond_false]; done) | (try unfold r25.v0; try unfold r25.v1; try simp only [h1, cond_true, cond_false]; try rfl; done) | rfl) (And.intro (show (AV.bool false) = ((AV.bool (r25.v1 s a b d e))) by first | (simp only [r25.v0, r25.v1, h1, cond_true, cond_false]; done) | (try unfold r25.v0; try unfold r25.v1; try simp only [h1, cond_true, cond_false]; try rfl; done) | rfl) trivial))))) h

noncomputable def r26.v (s : SD) (a : Int) (b : Int) (c : Int) (d : Int) (e : Int) (f : Int) (n : Int) : Bool := (bif r25.v1 s a b d e then decide (r18.v a b c d e f n ≤ r25.v0 s a b d e) else false)

noncomputable abbrev r26.h0 (s : SD) (a : Int) (b : Int) (c : Int) (d : Int) (e : Int) (f : Int) (n : Int) : AHeap := ([AObj.var (AV.agg [AV.str s.nm, AV.int IntKind.i64 s.x, AV.int IntKind.i64 s.y, AV.sl 1 s.nr fun (i : Nat) => AV.int IntKind.i64 (s.r i), AV.sl 1 s.nl fun (i : Nat) => AV.int IntKind.i64 (s.l i)]), AObj.var (AV.agg [AV.int IntKind.i64 a, AV.int IntKind.i64 b, AV.int IntKind.i64 c, AV.int IntKind.i64 d, AV.int IntKind.i64 e, AV.int IntKind.i64 f])])

theorem r26 (s : SD) (a : Int) (b : Int) (c : Int) (d : Int) (e : Int) (f : Int) (n : Int) (hl : s.nl = s.nr) (h : AHeap) : Ret Try.prog 26 ([s.av, bx a b c d e f, AV.int IntKind.i64 n]) h (AV.bool (r26.v s a b c d e f n)) h := by
  have o0 : s.nl = s.nr := by first | assumption | omega | (simp_all; done)
  cases h1 : r25.v1 s a b d e with
  | true =>
    exact Ret.of_run1 mix [(AV.bool (r26.v s a b c d e f n))] Try.func26 rfl [.ret (AV.tup [AV.int IntKind.i64 (r25.v0 s a b d e), AV.bool (r25.v1 s a b d e)]) (r26.h0 s a b c d e f n), .b true, .b true, .b true, .ret (AV.int IntKind.i64 (r18.v a b c d e f n)) (r26.h0 s a b c d e f n), .b true, .b true, .b true] (by simp) (by simp) (kmp (by kernel_rfl) (And.intro (r25 (s) (a) (b) (c) (d) (e) (f) o0 (r26.h0 s a b c d e f n)) (And.intro h1 (And.intro h1 (And.intro h1 (And.intro (r18 (a) (b) (c) (d) (e) (f) (n) (r26.h0 s a b c d e f n)) (And.intro h1 (And.intro h1 (And.intro h1 (And.intro (show (AV.bool (decide (r18.v a b c d e f n ≤ r25.v0 s a b d e))) = ((AV.bool (r26.v s a b c d e f n))) by first | (simp only [r26.v, h1, cond_true, cond_false]; done) | (try unfold r26.v; try simp only [h1, cond_true, cond_false]; try rfl; done) | rfl) trivial)))))))))) h
  | false =>
    exact Ret.of_run1 mix [(AV.bool (r26.v s a b c d e f n))] Try.func26 rfl [.ret (AV.tup [AV.int IntKind.i64 (r25.v0 s a b d e), AV.bool (r25.v1 s a b d e)]) (r26.h0 s a b c d e f n), .b false, .b false, .b false, .b false, .b false, .b false] (by simp) (by simp) (kmp (by kernel_rfl) (And.intro (r25 (s) (a) (b) (c) (d) (e) (f) o0 (r26.h0 s a b c d e f n)) (And.intro h1 (And.intro h1 (And.intro h1 (And.intro h1 (And.intro h1 (And.intro h1 (And.intro (show (AV.bool false) = ((AV.bool (r26.v s a b c d e f n))) by first | (simp only [r26.v, h1, cond_true, cond_false]; done) | (try unfold r26.v; try simp only [h1, cond_true, cond_false]; try rfl; done) | rfl) trivial))))))))) h

end Go.Proofs.Ytgmppoappaolkaa

open Go

namespace Go.Proofs.Ytgmppoappaolkaa

set_option linter.unusedVariables false

set_option linter.unusedSimpArgs false

theorem dup_eq {n : Nat} {g : Nat → SD} : ∀ (k : Nat) (i : Int), (match L20.N n g k i with | .e0 => (5 : Int) | .e1 => 0) = (match L21.N n g k i with | .e0 => (5 : Int) | .e1 => 0) := by
  intro k
  induction k with
  | zero => intro i; rfl
  | succ k ih =>
    intro i
    simp only [L20.N, L21.N]
    cases decide (i < (n : Int)) with
    | false => rfl
    | true =>
      simp only [cond_true]
      cases Op.bytesLess (g (IntKind.i64.wrap (i - 1)).toNat).nm.toList (g i.toNat).nm.toList with
      | false => rfl
      | true => exact ih _

theorem check_eq {n : Nat} {g : Nat → SD} (hn : n ≤ 9223372036854775807) : r20.v n g = r21.v n g := by
  unfold r20.v r21.v
  rw [r44_any hn]
  have h : (match L20.run n g 1 with | .e0 => (5 : Int) | .e1 => 0) = (match L21.run n g 1 with | .e0 => (5 : Int) | .e1 => 0) := dup_eq _ _
  cases h1 : L20.run n g 1 <;> cases h2 : L21.run n g 1 <;> rw [h1, h2] at h <;> first | rfl | (simp at h)

/-- A valid stand. -/
structure StOk (s : SD) : Prop where
  nl : s.nl = s.nr
  n1 : 1 ≤ s.nr
  n16 : s.nr ≤ 16
  r1 : ∀ i, i < s.nr → 1 ≤ s.r i
  r2 : ∀ i, i < s.nr → s.r i ≤ 500000
  l1 : ∀ i, i < s.nr → 0 ≤ s.l i
  l2 : ∀ i, i < s.nr → s.l i ≤ 1000000000000000
  x1 : r39.v s.x = true
  y1 : r39.v s.y = true

theorem good_of {s : SD} {i : Nat} (h : badR s i = false) : 1 ≤ s.r i ∧ s.r i ≤ 500000 ∧ 0 ≤ s.l i ∧ s.l i ≤ 1000000000000000 := by
  unfold badR at h
  simp only [Bool.or_eq_false_iff, decide_eq_false_iff_not] at h
  omega

theorem stOk_of {s : SD} (h65 : r65.v s = false) (h64 : r64.v s = false) : StOk s := by
  have h4 := r64_false h64
  unfold r65.v at h65
  rw [L65_run, srch_any] at h65
  cases hx : r39.v s.x <;> cases hy : r39.v s.y <;> cases ha : anyN s.nr (badR s) <;> simp [hx, hy, ha] at h65
  have hb := fun i hi => good_of (anyN_false.1 ha i hi)
  exact ⟨h4.2.2, h4.1, h4.2.1, fun i hi => (hb i hi).1, fun i hi => (hb i hi).2.1, fun i hi => (hb i hi).2.2.1, fun i hi => (hb i hi).2.2.2, hx, hy⟩

theorem ok43s {n : Nat} {g : Nat → SD} (hn : n ≤ 9223372036854775807) (h : r43.v n g = 0) : ∀ i, i < n → StOk (g i) := by
  intro i hi
  rw [r43_any hn] at h
  obtain ⟨_, h⟩ := bif_else h (by decide)
  obtain ⟨h2, h⟩ := bif_else h (by decide)
  obtain ⟨h3, _⟩ := bif_else h (by decide)
  exact stOk_of (anyN_false.1 h3 i hi) (anyN_false.1 h2 i hi)

variable {s : SD} {a b c d e f : Int}

/-- What a stand lifts: the limit of the first radius that reaches. -/
noncomputable def reach (s : SD) (a b d e : Int) (i : Nat) : Bool := decide (4 * (s.r i * s.r i) ≥ r40.v s.x s.y a b d e)

theorem sq_le {r : Int} (h1 : 1 ≤ r) (h2 : r ≤ 500000) : 0 ≤ r * r ∧ r * r ≤ 250000000000 := prod2 (P := 500000) (Q := 500000) (by omega) h2 (by omega) h2

theorem r69_reach (h : StOk s) {i : Nat} (hi : i < s.nr) : r69.v s a b d e (s.r i) = reach s a b d e i := by
  have h1 := h.r1 i hi
  have h2 := h.r2 i hi
  have h3 := sq_le h1 h2
  unfold r69.v reach
  have e1 : 4 * s.r i * s.r i = 4 * (s.r i * s.r i) := Int.mul_assoc _ _ _
  rw [IntWalk.i64_in (4 * s.r i) (by omega), e1, IntWalk.i64_in (4 * (s.r i * s.r i)) (by omega)]

theorem L25_run (h : StOk s) : L25.run s a b d e 0 = srch (reach s a b d e) (fun i => L25.O.e0 (s.l i)) .e1 0 s.nr := by
  have e16 : r16.v = r40.v := rfl
  have := search_eq (n := s.nr) (reach s a b d e) (fun i => L25.O.e0 (s.l i)) .e1 (N := L25.N s a b d e) (fun k i hi => by
    simp only [L25.N, wrap_succ s.hnr hi, Int.toNat_natCast]; rw [decide_eq_true (by omega)]
    have h1 := h.r1 i hi
    have h2 := h.r2 i hi
    have h3 := sq_le h1 h2
    have e1 : 2 * s.r i * (2 * s.r i) = 4 * (s.r i * s.r i) := by
      rw [Int.mul_assoc, Int.mul_left_comm (s.r i) 2, ← Int.mul_assoc]; rfl
    unfold reach
    show (bif true then (bif decide (IntKind.i64.wrap (IntKind.i64.wrap (2 * s.r i) * IntKind.i64.wrap (2 * s.r i)) ≥ r16.v s.x s.y a b d e) then L25.O.e0 (s.l i) else L25.N s a b d e k ((i + 1 : Nat) : Int)) else L25.O.e1) = _
    rw [IntWalk.i64_in (2 * s.r i) (by omega), e1, IntWalk.i64_in (4 * (s.r i * s.r i)) (by omega), e16]
    rfl) (fun k => by simp [L25.N]) (s.nr + 1) 0 (Nat.zero_le _) (by omega)
  simpa [L25.run, L25.mu] using this

/-- What a valid stand lifts at a box. -/
theorem cap_cases (h : StOk s) : (r45.v s a b d e = -1 ∧ r25.v0 s a b d e = 0 ∧ r25.v1 s a b d e = false) ∨
    ∃ z, 0 ≤ z ∧ z ≤ 1000000000000000 ∧ r45.v s a b d e = z ∧ r25.v0 s a b d e = z ∧ r25.v1 s a b d e = true := by
  have hreach : ∀ i, i < s.nr → r69.v s a b d e (s.r i) = reach s a b d e i := fun i hi => r69_reach h hi
  unfold r45.v r25.v0 r25.v1
  rw [L25_run h]
  rcases r68_cases (s := s) (a := a) (b := b) (d := d) (e := e) with ⟨h1, h2⟩ | ⟨i, h1, h2, h3, h4⟩
  · left
    rw [h2]
    rcases srch_cases (reach s a b d e) (fun i => L25.O.e0 (s.l i)) .e1 s.nr 0 with ⟨_, k2⟩ | ⟨j, _, k2, k3, _, _⟩
    · rw [k2]; exact ⟨rfl, rfl, rfl⟩
    · rw [← hreach j (by omega), h1 j (by omega)] at k3; cases k3
  · right
    rw [h4]
    refine ⟨s.l i, h.l1 i h1, h.l2 i h1, ?_⟩
    rw [decide_eq_false (by omega)]
    rcases srch_cases (reach s a b d e) (fun i => L25.O.e0 (s.l i)) .e1 s.nr 0 with ⟨k1, _⟩ | ⟨j, _, k2, k3, k4, k5⟩
    · have := k1 i (Nat.zero_le _) (by omega); rw [← hreach i h1, h2] at this; cases this
    · have hj : j = i := by
        rcases Nat.lt_trichotomy i j with q | q | q
        · have := k4 i (Nat.zero_le _) q; rw [← hreach i h1, h2] at this; cases this
        · exact q.symm
        · rw [← hreach j (by omega), h3 j q] at k3; cases k3
      subst hj
      rw [k5]
      exact ⟨by simp, rfl, rfl⟩

theorem mass_le {n : Int} (hk : BoxOk a b c d e f) (hn : r37.v n = true) : 0 ≤ massOf a b c d e f n ∧ massOf a b c d e f n ≤ 80000000000000000 := by
  have ⟨n1, n2⟩ := dens_ok hn
  obtain ⟨v1, v2, v3, v4⟩ := vol_le hk
  have := prod2 (p := vol a b c d e f) (q := n) v3 v4 (by omega) n2
  unfold massOf
  omega

theorem lift_eq {n : Int} (h : StOk s) (hk : BoxOk a b c d e f) (hn : r37.v n = true) : decide (r46.v s a b c d e f n ≥ 0) = r26.v s a b c d e f n := by
  have hm := mass_le hk hn
  unfold r46.v r26.v
  rw [refMass hk hn]
  rcases cap_cases (a := a) (b := b) (d := d) (e := e) h with ⟨h1, h2, h3⟩ | ⟨z, z0, z1, h1, h2, h3⟩
  · rw [h1, h3]; rfl
  · rw [h1, h2, h3, decide_eq_false (show ¬ z < 0 by omega)]
    simp only [cond_true, cond_false]
    rw [IntWalk.i64_in (z - massOf a b c d e f n) (by omega)]
    by_cases q : massOf a b c d e f n ≤ z
    · rw [decide_eq_true q, decide_eq_true (by omega)]
    · rw [decide_eq_false q, decide_eq_false (by omega)]

end Go.Proofs.Ytgmppoappaolkaa

open Go

namespace Go.Proofs.Ytgmppoappaolkaa

set_option linter.unusedVariables false

set_option linter.unusedSimpArgs false

theorem ok20z {n : Nat} {g : Nat → SD} (h : (r20.v n g == 0) = true) : r43.v n g = 0 := by
  have h := eq_of_beq h
  unfold r20.v at h
  obtain ⟨_, h⟩ := bif_else h (by decide)
  cases hz : r43.v n g == 0 with
  | true => exact eq_of_beq hz
  | false => rw [hz] at h; exact h

theorem ok20 {n : Nat} {g : Nat → SD} (hn : n ≤ 9223372036854775807) (h : (r20.v n g == 0) = true) : ∀ i, i < n → (g i).nl = (g i).nr :=
  fun i hi => (ok43s hn (ok20z h) i hi).nl

theorem ok21 {n : Nat} {g : Nat → SD} (hn : n ≤ 9223372036854775807) (h : (r21.v n g == 0) = true) : ∀ i, i < n → (g i).nl = (g i).nr := by
  rw [← check_eq hn] at h
  exact ok20 hn h

end Go.Proofs.Ytgmppoappaolkaa

open Go

namespace Go.Proofs.Ytgmppoappaolkaa

set_option linter.unusedSimpArgs false

set_option linter.unusedVariables false

set_option maxHeartbeats 0

set_option maxRecDepth 100000

inductive L34.O where
  | e0 (a0 : Int)

noncomputable def L34.T (n : Nat) (g : Nat → SD) (a : Int) (b : Int) (c : Int) (d : Int) (e : Int) (f : Int) (m : Int) (i : Int) (p : Int) (q : Int) : List AV := mkT 45 [(0, AV.sl 5 n fun (i : Nat) => AV.agg [AV.str (g i).nm, AV.int IntKind.i64 (g i).x, AV.int IntKind.i64 (g i).y, AV.sl 1 (g i).nr fun (i_1 : Nat) => AV.int IntKind.i64 ((g i).r i_1), AV.sl 1 (g i).nl fun (i_1 : Nat) => AV.int IntKind.i64 ((g i).l i_1)]), (2, AV.int IntKind.i64 m), (4, AV.ptr 0 1 6 0 0), (7, AV.int IntKind.i64 p), (8, AV.int IntKind.i64 q), (9, AV.int IntKind.i64 i)]

noncomputable def L34.H (n : Nat) (g : Nat → SD) (a : Int) (b : Int) (c : Int) (d : Int) (e : Int) (f : Int) (m : Int) (i : Int) (p : Int) (q : Int) : AHeap := [AObj.var (bx a b c d e f)]

def L34.inv (n : Nat) (g : Nat → SD) (a : Int) (b : Int) (c : Int) (d : Int) (e : Int) (f : Int) (m : Int) (i : Int) (p : Int) (q : Int) : Prop := 0 ≤ i ∧ i ≤ (↑n : Int)

noncomputable def L34.mu (n : Nat) (g : Nat → SD) (a : Int) (b : Int) (c : Int) (d : Int) (e : Int) (f : Int) (m : Int) (i : Int) (p : Int) (q : Int) : Nat := ((↑n : Int) - i).toNat

noncomputable def L34.E : L34.O → Exit
  | .e0 a0 => Exit.exit 0

noncomputable def L34.X (n : Nat) (g : Nat → SD) (a : Int) (b : Int) (c : Int) (d : Int) (e : Int) (f : Int) (m : Int) : L34.O → List AV
  | .e0 a0 => mkT 45 [(7, (AV.int IntKind.i64 a0))]

noncomputable def L34.XH (n : Nat) (g : Nat → SD) (a : Int) (b : Int) (c : Int) (d : Int) (e : Int) (f : Int) (m : Int) : L34.O → AHeap
  | .e0 a0 => ([AObj.var (AV.agg [AV.int IntKind.i64 a, AV.int IntKind.i64 b, AV.int IntKind.i64 c, AV.int IntKind.i64 d, AV.int IntKind.i64 e, AV.int IntKind.i64 f])])

noncomputable def L34.N (n : Nat) (g : Nat → SD) (a : Int) (b : Int) (c : Int) (d : Int) (e : Int) (f : Int) (m : Int) : Nat → Int → Int → Int → L34.O
  | 0, _, p, _ => .e0 p
  | k_ + 1, i, p, q => (bif decide (i < (↑n : Int)) then (bif r26.v (g i.toNat) a b c d e f m then (bif decide (p < 0) then (L34.N n g a b c d e f m k_ (IntKind.i64.wrap (i + 1)) (i) (r25.v0 (g i.toNat) a b d e)) else (bif decide (r25.v0 (g i.toNat) a b d e > q) then (L34.N n g a b c d e f m k_ (IntKind.i64.wrap (i + 1)) (i) (r25.v0 (g i.toNat) a b d e)) else (L34.N n g a b c d e f m k_ (IntKind.i64.wrap (i + 1)) (p) (q)))) else (L34.N n g a b c d e f m k_ (IntKind.i64.wrap (i + 1)) (p) (q))) else (.e0 (p)))

noncomputable def L34.run (n : Nat) (g : Nat → SD) (a : Int) (b : Int) (c : Int) (d : Int) (e : Int) (f : Int) (m : Int) (i : Int) (p : Int) (q : Int) : L34.O := L34.N n g a b c d e f m ((((↑n : Int) - i).toNat) + 1) i p q

theorem L34.nx (n : Nat) (g : Nat → SD) (a : Int) (b : Int) (c : Int) (d : Int) (e : Int) (f : Int) (m : Int) {k_ : Nat} {z_ : Int × Int × Int} {h_ : AHeap} (s_ : Int × Int × Int) (h1 : L34.inv n g a b c d e f m s_.1 s_.2.1 s_.2.2) (h2 : L34.mu n g a b c d e f m s_.1 s_.2.1 s_.2.2 < L34.mu n g a b c d e f m z_.1 z_.2.1 z_.2.2) (h3 : L34.N n g a b c d e f m k_ s_.1 s_.2.1 s_.2.2 = L34.N n g a b c d e f m (k_ + 1) z_.1 z_.2.1 z_.2.2) (h4 : PopOk (L34.H n g a b c d e f m z_.1 z_.2.1 z_.2.2) h_ (L34.T n g a b c d e f m s_.1 s_.2.1 s_.2.2) (L34.H n g a b c d e f m s_.1 s_.2.1 s_.2.2)) : LNextP (fun (z_ : Int × Int × Int) => L34.T n g a b c d e f m z_.1 z_.2.1 z_.2.2) (fun (z_ : Int × Int × Int) => L34.H n g a b c d e f m z_.1 z_.2.1 z_.2.2) (fun (z_ : Int × Int × Int) => L34.inv n g a b c d e f m z_.1 z_.2.1 z_.2.2) (fun (z_ : Int × Int × Int) => L34.mu n g a b c d e f m z_.1 z_.2.1 z_.2.2) (fun (k_ : Nat) (z_ : Int × Int × Int) => L34.N n g a b c d e f m k_ z_.1 z_.2.1 z_.2.2) k_ z_ (L34.T n g a b c d e f m s_.1 s_.2.1 s_.2.2) h_ := LNextP.mk (Tm := (fun (z_ : Int × Int × Int) => L34.T n g a b c d e f m z_.1 z_.2.1 z_.2.2)) (Hp := (fun (z_ : Int × Int × Int) => L34.H n g a b c d e f m z_.1 z_.2.1 z_.2.2)) (inv := (fun (z_ : Int × Int × Int) => L34.inv n g a b c d e f m z_.1 z_.2.1 z_.2.2)) (mu := (fun (z_ : Int × Int × Int) => L34.mu n g a b c d e f m z_.1 z_.2.1 z_.2.2)) (l := (fun (k_ : Nat) (z_ : Int × Int × Int) => L34.N n g a b c d e f m k_ z_.1 z_.2.1 z_.2.2)) s_ h1 h2 h3 h4

theorem L34.en (n : Nat) (g : Nat → SD) (a : Int) (b : Int) (c : Int) (d : Int) (e : Int) (f : Int) (m : Int) {k_ : Nat} {z_ : Int × Int × Int} {h_ : AHeap} (o_ : L34.O) (h3 : L34.N n g a b c d e f m (k_ + 1) z_.1 z_.2.1 z_.2.2 = o_) (h4 : PopOk (L34.H n g a b c d e f m z_.1 z_.2.1 z_.2.2) h_ (L34.X n g a b c d e f m o_) (L34.XH n g a b c d e f m o_)) : LEndP (fun (z_ : Int × Int × Int) => L34.H n g a b c d e f m z_.1 z_.2.1 z_.2.2) (fun (k_ : Nat) (z_ : Int × Int × Int) => L34.N n g a b c d e f m k_ z_.1 z_.2.1 z_.2.2) L34.E (L34.X n g a b c d e f m) (L34.XH n g a b c d e f m) k_ z_ (L34.E o_) (L34.X n g a b c d e f m o_) h_ := LEndP.mk (Hp := (fun (z_ : Int × Int × Int) => L34.H n g a b c d e f m z_.1 z_.2.1 z_.2.2)) (l := (fun (k_ : Nat) (z_ : Int × Int × Int) => L34.N n g a b c d e f m k_ z_.1 z_.2.1 z_.2.2)) (oE := L34.E) (oT := L34.X n g a b c d e f m) (oH := L34.XH n g a b c d e f m) o_ h3 h4

noncomputable abbrev L34.h0 (n : Nat) (g : Nat → SD) (a : Int) (b : Int) (c : Int) (d : Int) (e : Int) (f : Int) (m : Int) (i : Int) (p : Int) (q : Int) : AHeap := ([AObj.var (AV.agg [AV.int IntKind.i64 a, AV.int IntKind.i64 b, AV.int IntKind.i64 c, AV.int IntKind.i64 d, AV.int IntKind.i64 e, AV.int IntKind.i64 f])])

theorem L34.spec (n : Nat) (g : Nat → SD) (hn : n ≤ 9223372036854775807) (hg : ∀ (i : Nat), i < n → (g i).nl = (g i).nr) (a : Int) (b : Int) (c : Int) (d : Int) (e : Int) (f : Int) (m : Int) (k_ : Nat) (z_ : Int × Int × Int) (hi_ : L34.inv n g a b c d e f m z_.1 z_.2.1 z_.2.2) (hm_ : L34.mu n g a b c d e f m z_.1 z_.2.1 z_.2.2 < k_) : LoopTo Try.prog (loopN Try.f34 0) (L34.T n g a b c d e f m z_.1 z_.2.1 z_.2.2) (L34.H n g a b c d e f m z_.1 z_.2.1 z_.2.2) (L34.E (L34.N n g a b c d e f m k_ z_.1 z_.2.1 z_.2.2)) (L34.X n g a b c d e f m (L34.N n g a b c d e f m k_ z_.1 z_.2.1 z_.2.2)) (L34.XH n g a b c d e f m (L34.N n g a b c d e f m k_ z_.1 z_.2.1 z_.2.2)) := by
  refine LoopTo.fuelP mix (fun (z_ : Int × Int × Int) => L34.T n g a b c d e f m z_.1 z_.2.1 z_.2.2) (fun (z_ : Int × Int × Int) => L34.H n g a b c d e f m z_.1 z_.2.1 z_.2.2) (fun (z_ : Int × Int × Int) => L34.inv n g a b c d e f m z_.1 z_.2.1 z_.2.2) (fun (z_ : Int × Int × Int) => L34.mu n g a b c d e f m z_.1 z_.2.1 z_.2.2) (fun (k_ : Nat) (z_ : Int × Int × Int) => L34.N n g a b c d e f m k_ z_.1 z_.2.1 z_.2.2) L34.E (L34.X n g a b c d e f m) (L34.XH n g a b c d e f m) (others 45 [0, 2, 4, 7, 8, 9]) (others 45 [6]) (others 45 [7]) ?_ k_ z_ hi_ hm_
  clear hm_ hi_ z_ k_
  intro k_ z_ hinv hmu
  obtain ⟨i, p, q⟩ := z_
  have hinv : 0 ≤ i ∧ i ≤ (↑n : Int) := hinv
  have hmu : (((↑n : Int) - i).toNat) < k_ + 1 := hmu
  cases h1 : decide (i < (↑n : Int)) with
  | true =>
    have h1p := of_decide_eq_true h1
    have o0 : (0 : Int) ≤ i := by first | assumption | omega | (exact hg _) | (exact hg _ (by omega)) | (simp_all; done)
    have o1 : i < (↑n : Int) := by first | assumption | omega | (exact hg _) | (exact hg _ (by omega)) | (simp_all; done)
    have o2 : (g i.toNat).nl = (g i.toNat).nr := by first | assumption | omega | (exact hg _) | (exact hg _ (by omega)) | (simp_all; done)
    cases h2 : r26.v (g i.toNat) a b c d e f m with
    | true =>
      cases h3 : decide (p < 0) with
      | true =>
        have h3p := of_decide_eq_true h3
        try have := IntWalk.i64_in (i + 1) (by omega)
        have o3 : (0 : Int) ≤ IntKind.i64.wrap (i + (1 : Int)) := by first | assumption | omega | (exact hg _) | (exact hg _ (by omega)) | (simp_all; done)
        have o4 : IntKind.i64.wrap (i + (1 : Int)) ≤ (↑n : Int) := by first | assumption | omega | (exact hg _) | (exact hg _ (by omega)) | (simp_all; done)
        have o5 : ((↑n : Int) - IntKind.i64.wrap (i + (1 : Int))).toNat < ((↑n : Int) - i).toNat := by first | assumption | omega | (exact hg _) | (exact hg _ (by omega)) | (simp_all; done)
        exact ⟨[.b true, .ret (AV.bool (r26.v (g i.toNat) a b c d e f m)) (L34.h0 n g a b c d e f m i p q), .b false, .ret (AV.tup [AV.int IntKind.i64 (r25.v0 (g i.toNat) a b d e), AV.bool (r25.v1 (g i.toNat) a b d e)]) (L34.h0 n g a b c d e f m i p q), .b true, .b true, .b true, .b true, .b true], kmp (by kernel_rfl) (And.intro h1 (And.intro (And.intro o0 o1) (And.intro (r26 (g i.toNat) (a) (b) (c) (d) (e) (f) (m) o2 (L34.h0 n g a b c d e f m i p q)) (And.intro (show (bnot (r26.v (g i.toNat) a b c d e f m)) = false by rw [h2]; try rfl) (And.intro (And.intro o0 o1) (And.intro (r25 (g i.toNat) (a) (b) (c) (d) (e) (f) o2 (L34.h0 n g a b c d e f m i p q)) (And.intro h3 (And.intro h3 (And.intro h3 (And.intro h3 (And.intro (rfl : true = true) (L34.nx n g a b c d e f m (k_ := k_) (z_ := (i, p, q)) ((IntKind.i64.wrap (i + 1), i, r25.v0 (g i.toNat) a b d e)) (And.intro o3 o4) o5 (by first | (simp only [L34.N, h1, h2, h3, cond_true, cond_false]; done) | (try unfold L34.N; try simp only [h1, cond_true, cond_false]; try simp only [h2, cond_true, cond_false]; try simp only [h3, cond_true, cond_false]; try rfl; done)) PopOk.same))))))))))))⟩
      | false =>
        have h3p := of_decide_eq_false h3
        cases h4 : decide (r25.v0 (g i.toNat) a b d e > q) with
        | true =>
          have h4p := of_decide_eq_true h4
          try have := IntWalk.i64_in (i + 1) (by omega)
          have o3 : (0 : Int) ≤ IntKind.i64.wrap (i + (1 : Int)) := by first | assumption | omega | (exact hg _) | (exact hg _ (by omega)) | (simp_all; done)
          have o4 : IntKind.i64.wrap (i + (1 : Int)) ≤ (↑n : Int) := by first | assumption | omega | (exact hg _) | (exact hg _ (by omega)) | (simp_all; done)
          have o5 : ((↑n : Int) - IntKind.i64.wrap (i + (1 : Int))).toNat < ((↑n : Int) - i).toNat := by first | assumption | omega | (exact hg _) | (exact hg _ (by omega)) | (simp_all; done)
          exact ⟨[.b true, .ret (AV.bool (r26.v (g i.toNat) a b c d e f m)) (L34.h0 n g a b c d e f m i p q), .b false, .ret (AV.tup [AV.int IntKind.i64 (r25.v0 (g i.toNat) a b d e), AV.bool (r25.v1 (g i.toNat) a b d e)]) (L34.h0 n g a b c d e f m i p q), .b false, .b false, .b false, .b false, .b true], kmp (by kernel_rfl) (And.intro h1 (And.intro (And.intro o0 o1) (And.intro (r26 (g i.toNat) (a) (b) (c) (d) (e) (f) (m) o2 (L34.h0 n g a b c d e f m i p q)) (And.intro (show (bnot (r26.v (g i.toNat) a b c d e f m)) = false by rw [h2]; try rfl) (And.intro (And.intro o0 o1) (And.intro (r25 (g i.toNat) (a) (b) (c) (d) (e) (f) o2 (L34.h0 n g a b c d e f m i p q)) (And.intro h3 (And.intro h3 (And.intro h3 (And.intro h3 (And.intro h4 (L34.nx n g a b c d e f m (k_ := k_) (z_ := (i, p, q)) ((IntKind.i64.wrap (i + 1), i, r25.v0 (g i.toNat) a b d e)) (And.intro o3 o4) o5 (by first | (simp only [L34.N, h1, h2, h3, h4, cond_true, cond_false]; done) | (try unfold L34.N; try simp only [h1, cond_true, cond_false]; try simp only [h2, cond_true, cond_false]; try simp only [h3, cond_true, cond_false]; try simp only [h4, cond_true, cond_false]; try rfl; done)) PopOk.same))))))))))))⟩
        | false =>
          have h4p := of_decide_eq_false h4
          try have := IntWalk.i64_in (i + 1) (by omega)
          have o3 : (0 : Int) ≤ IntKind.i64.wrap (i + (1 : Int)) := by first | assumption | omega | (exact hg _) | (exact hg _ (by omega)) | (simp_all; done)
          have o4 : IntKind.i64.wrap (i + (1 : Int)) ≤ (↑n : Int) := by first | assumption | omega | (exact hg _) | (exact hg _ (by omega)) | (simp_all; done)
          have o5 : ((↑n : Int) - IntKind.i64.wrap (i + (1 : Int))).toNat < ((↑n : Int) - i).toNat := by first | assumption | omega | (exact hg _) | (exact hg _ (by omega)) | (simp_all; done)
          exact ⟨[.b true, .ret (AV.bool (r26.v (g i.toNat) a b c d e f m)) (L34.h0 n g a b c d e f m i p q), .b false, .ret (AV.tup [AV.int IntKind.i64 (r25.v0 (g i.toNat) a b d e), AV.bool (r25.v1 (g i.toNat) a b d e)]) (L34.h0 n g a b c d e f m i p q), .b false, .b false, .b false, .b false, .b false], kmp (by kernel_rfl) (And.intro h1 (And.intro (And.intro o0 o1) (And.intro (r26 (g i.toNat) (a) (b) (c) (d) (e) (f) (m) o2 (L34.h0 n g a b c d e f m i p q)) (And.intro (show (bnot (r26.v (g i.toNat) a b c d e f m)) = false by rw [h2]; try rfl) (And.intro (And.intro o0 o1) (And.intro (r25 (g i.toNat) (a) (b) (c) (d) (e) (f) o2 (L34.h0 n g a b c d e f m i p q)) (And.intro h3 (And.intro h3 (And.intro h3 (And.intro h3 (And.intro h4 (L34.nx n g a b c d e f m (k_ := k_) (z_ := (i, p, q)) ((IntKind.i64.wrap (i + 1), p, q)) (And.intro o3 o4) o5 (by first | (simp only [L34.N, h1, h2, h3, h4, cond_true, cond_false]; done) | (try unfold L34.N; try simp only [h1, cond_true, cond_false]; try simp only [h2, cond_true, cond_false]; try simp only [h3, cond_true, cond_false]; try simp only [h4, cond_true, cond_false]; try rfl; done)) PopOk.same))))))))))))⟩
    | false =>
      try have := IntWalk.i64_in (i + 1) (by omega)
      have o3 : (0 : Int) ≤ IntKind.i64.wrap (i + (1 : Int)) := by first | assumption | omega | (exact hg _) | (exact hg _ (by omega)) | (simp_all; done)
      have o4 : IntKind.i64.wrap (i + (1 : Int)) ≤ (↑n : Int) := by first | assumption | omega | (exact hg _) | (exact hg _ (by omega)) | (simp_all; done)
      have o5 : ((↑n : Int) - IntKind.i64.wrap (i + (1 : Int))).toNat < ((↑n : Int) - i).toNat := by first | assumption | omega | (exact hg _) | (exact hg _ (by omega)) | (simp_all; done)
      exact ⟨[.b true, .ret (AV.bool (r26.v (g i.toNat) a b c d e f m)) (L34.h0 n g a b c d e f m i p q), .b true], kmp (by kernel_rfl) (And.intro h1 (And.intro (And.intro o0 o1) (And.intro (r26 (g i.toNat) (a) (b) (c) (d) (e) (f) (m) o2 (L34.h0 n g a b c d e f m i p q)) (And.intro (show (bnot (r26.v (g i.toNat) a b c d e f m)) = true by rw [h2]; try rfl) (L34.nx n g a b c d e f m (k_ := k_) (z_ := (i, p, q)) ((IntKind.i64.wrap (i + 1), p, q)) (And.intro o3 o4) o5 (by first | (simp only [L34.N, h1, h2, cond_true, cond_false]; done) | (try unfold L34.N; try simp only [h1, cond_true, cond_false]; try simp only [h2, cond_true, cond_false]; try rfl; done)) PopOk.same)))))⟩
  | false =>
    have h1p := of_decide_eq_false h1
    exact ⟨[.b false], kmp (by kernel_rfl) (And.intro h1 (L34.en n g a b c d e f m (k_ := k_) (z_ := (i, p, q)) (.e0 (p) : L34.O) (by first | (simp only [L34.N, h1, cond_true, cond_false]; done) | (try unfold L34.N; try simp only [h1, cond_true, cond_false]; try rfl; done)) PopOk.same))⟩

theorem L34.e0 (n : Nat) (g : Nat → SD) (hn : n ≤ 9223372036854775807) (hg : ∀ (i : Nat), i < n → (g i).nl = (g i).nr) (a : Int) (b : Int) (c : Int) (d : Int) (e : Int) (f : Int) (m : Int) (i : Int) (p : Int) (q : Int) (hinv : L34.inv n g a b c d e f m i p q) (a0 : Int) (hN : L34.run n g a b c d e f m i p q = (.e0 a0 : L34.O)) : LoopTo Try.prog (loopN Try.f34 0) (L34.T n g a b c d e f m i p q) (L34.H n g a b c d e f m i p q) (Exit.exit 0) (L34.X n g a b c d e f m (.e0 a0 : L34.O)) (L34.XH n g a b c d e f m (.e0 a0 : L34.O)) := by
  have h_ := L34.spec n g hn hg a b c d e f m ((((↑n : Int) - i).toNat) + 1) (i, p, q) hinv (Nat.lt_succ_self _)
  unfold L34.run at hN
  simp only [hN] at h_
  exact h_

noncomputable def r34.v (n : Nat) (g : Nat → SD) (a : Int) (b : Int) (c : Int) (d : Int) (e : Int) (f : Int) (m : Int) : Int := (match L34.run n g a b c d e f m 0 (-1) 0 with | .e0 h1d0 => h1d0 )

theorem r34 (n : Nat) (g : Nat → SD) (hn : n ≤ 9223372036854775807) (hg : ∀ (i : Nat), i < n → (g i).nl = (g i).nr) (a : Int) (b : Int) (c : Int) (d : Int) (e : Int) (f : Int) (m : Int) (h : AHeap) : Ret Try.prog 34 ([sts n g, bx a b c d e f, AV.int IntKind.i64 m]) h (AV.int IntKind.i64 (r34.v n g a b c d e f m)) h := by
  have o0 : n ≤ (9223372036854775807 : Nat) := by first | assumption | omega | (exact hg _) | (exact hg _ (by omega)) | (simp_all; done)
  have o1 : ∀ (i : Nat), i < n → (g i).nl = (g i).nr := by first | assumption | omega | (exact hg _) | (exact hg _ (by omega)) | (simp_all; done)
  have o2 : (0 : Int) ≤ (↑n : Int) := by first | assumption | omega | (exact hg _) | (exact hg _ (by omega)) | (simp_all; done)
  cases h1 : L34.run n g a b c d e f m 0 (-1) 0 with
  | e0 h1d0 =>
    exact Ret.of_run1 mix [(AV.int IntKind.i64 (r34.v n g a b c d e f m))] Try.func34 rfl [.loop (others 45 [0, 2, 4, 7, 8, 9]) (Exit.exit 0) (L34.X n g a b c d e f m (L34.O.e0 h1d0)) (L34.XH n g a b c d e f m (L34.O.e0 h1d0))] (by simp) (by simp) (kmp (by kernel_rfl) (And.intro (L34.e0 (n) (g) o0 o1 (a) (b) (c) (d) (e) (f) (m) (0) (-1) (0) (And.intro (show (0 : Int) ≤ (0 : Int) by first | decide | exact Int.NonNeg.mk _) o2) h1d0 h1) (And.intro (show (AV.int IntKind.i64 h1d0) = ((AV.int IntKind.i64 (r34.v n g a b c d e f m))) by first | (simp only [r34.v, h1, cond_true, cond_false]; done) | (try unfold r34.v; try simp only [h1, cond_true, cond_false]; try rfl; done) | rfl) trivial))) h

end Go.Proofs.Ytgmppoappaolkaa

open Go

namespace Go.Proofs.Ytgmppoappaolkaa

set_option linter.unusedVariables false

set_option linter.unusedSimpArgs false

end Go.Proofs.Ytgmppoappaolkaa

open Go

namespace Go.Proofs.Ytgmppoappaolkaa

set_option linter.unusedSimpArgs false

set_option linter.unusedVariables false

set_option maxHeartbeats 0

set_option maxRecDepth 100000

end Go.Proofs.Ytgmppoappaolkaa

open Go

namespace Go.Proofs.Ytgmppoappaolkaa

set_option linter.unusedVariables false

set_option linter.unusedSimpArgs false

end Go.Proofs.Ytgmppoappaolkaa
