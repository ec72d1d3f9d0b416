/- Contracts of the functions and plain laws, part 2. Conditions: none. -/
import Derived.Test.YtgmppoappaolkaaM1

open Go

namespace Go.Proofs.Ytgmppoappaolkaa

set_option linter.unusedVariables false

set_option linter.unusedSimpArgs false

variable {n : Nat} {g : Nat → SD}

theorem L79a_run (hn : n ≤ 9223372036854775807) : L79a.run n g 0 = srch (fun i => r62.v (g i)) (fun i => .e0 i) .e1 0 n := by
  have := search_eq (n := n) (fun i => r62.v (g i)) (fun i => L79a.O.e0 i) .e1 (N := L79a.N n g) (fun k i h => by
    simp only [L79a.N, wrap_succ hn h, Int.toNat_natCast]; rw [decide_eq_true (by omega)]; rfl) (fun k => by simp [L79a.N]) (n + 1) 0 (Nat.zero_le _) (by omega)
  simpa [L79a.run, L79a.mu] using this

theorem L79b_run (hn : n ≤ 9223372036854775807) : L79b.run n g 0 = srch (fun i => r64.v (g i)) (fun i => .e0 i) .e1 0 n := by
  have := search_eq (n := n) (fun i => r64.v (g i)) (fun i => L79b.O.e0 i) .e1 (N := L79b.N n g) (fun k i h => by
    simp only [L79b.N, wrap_succ hn h, Int.toNat_natCast]; rw [decide_eq_true (by omega)]; rfl) (fun k => by simp [L79b.N]) (n + 1) 0 (Nat.zero_le _) (by omega)
  simpa [L79b.run, L79b.mu] using this

theorem L79c_run (hn : n ≤ 9223372036854775807) : L79c.run n g 0 = srch (fun i => r65.v (g i)) (fun i => .e0 i) .e1 0 n := by
  have := search_eq (n := n) (fun i => r65.v (g i)) (fun i => L79c.O.e0 i) .e1 (N := L79c.N n g) (fun k i h => by
    simp only [L79c.N, wrap_succ hn h, Int.toNat_natCast]; rw [decide_eq_true (by omega)]; rfl) (fun k => by simp [L79c.N]) (n + 1) 0 (Nat.zero_le _) (by omega)
  simpa [L79c.run, L79c.mu] using this

theorem r61a_any (hn : n ≤ 9223372036854775807) : r61a.v n g = anyN n fun i => r62.v (g i) := by
  unfold r61a.v r73a.v r79a.v
  rw [L79a_run hn]
  rcases srch_cases (fun i => r62.v (g i)) (fun i => L79a.O.e0 i) .e1 n 0 with ⟨h1, h2⟩ | ⟨j, h1, h2, h3, h4, h5⟩
  · rw [h2, anyN_false.2 fun i hi => h1 i (Nat.zero_le _) (by omega)]; rfl
  · rw [h5, anyN_true.2 ⟨j, by omega, h3⟩]; simp

theorem r61b_any (hn : n ≤ 9223372036854775807) : r61b.v n g = anyN n fun i => r64.v (g i) := by
  unfold r61b.v r73b.v r79b.v
  rw [L79b_run hn]
  rcases srch_cases (fun i => r64.v (g i)) (fun i => L79b.O.e0 i) .e1 n 0 with ⟨h1, h2⟩ | ⟨j, h1, h2, h3, h4, h5⟩
  · rw [h2, anyN_false.2 fun i hi => h1 i (Nat.zero_le _) (by omega)]; rfl
  · rw [h5, anyN_true.2 ⟨j, by omega, h3⟩]; simp

theorem r61c_any (hn : n ≤ 9223372036854775807) : r61c.v n g = anyN n fun i => r65.v (g i) := by
  unfold r61c.v r73c.v r79c.v
  rw [L79c_run hn]
  rcases srch_cases (fun i => r65.v (g i)) (fun i => L79c.O.e0 i) .e1 n 0 with ⟨h1, h2⟩ | ⟨j, h1, h2, h3, h4, h5⟩
  · rw [h2, anyN_false.2 fun i hi => h1 i (Nat.zero_le _) (by omega)]; rfl
  · rw [h5, anyN_true.2 ⟨j, by omega, h3⟩]; simp

theorem r64_false {s : SD} (h : r64.v s = false) : 1 ≤ s.nr ∧ s.nr ≤ 16 ∧ s.nl = s.nr := by
  unfold r64.v at h
  cases h1 : decide ((s.nr : Int) < 1) <;> cases h2 : decide ((s.nr : Int) > 16) <;> simp [h1, h2] at h
  have := of_decide_eq_false h1
  have := of_decide_eq_false h2
  omega

theorem r61c' (n : Nat) (g : Nat → SD) (hn : n ≤ 9223372036854775807) (hb : r61b.v n g = false) (h : AHeap) : Ret Try.prog 61 ([sts n g, AV.fn 65 []]) h (AV.bool (r61c.v n g)) h := by
  refine r61c n g hn (fun i hi => ?_) h
  rw [r61b_any hn] at hb
  exact (r64_false (anyN_false.1 hb i hi)).2.2

end Go.Proofs.Ytgmppoappaolkaa

open Go

namespace Go.Proofs.Ytgmppoappaolkaa

set_option linter.unusedSimpArgs false

set_option linter.unusedVariables false

set_option maxHeartbeats 0

set_option maxRecDepth 100000

noncomputable def r43.v (n : Nat) (g : Nat → SD) : Int := (bif r61a.v n g then 4 else (bif r61b.v n g then 1 else (bif r61c.v n g then 6 else 0)))

theorem r43 (n : Nat) (g : Nat → SD) (hn : n ≤ 9223372036854775807) (h : AHeap) : Ret Try.prog 43 ([sts n g]) h (AV.int IntKind.i64 (r43.v n g)) h := by
  have o0 : n ≤ (9223372036854775807 : Nat) := by first | assumption | omega | (simp_all; done)
  cases h1 : r61a.v n g with
  | true =>
    exact Ret.of_run1 mix [(AV.int IntKind.i64 (r43.v n g))] Try.func43 rfl [.ret (AV.bool (r61a.v n g)) ([]), .b true] (by simp) (by simp) (kmp (by kernel_rfl) (And.intro (r61a (n) (g) o0 ([])) (And.intro h1 (And.intro (show (AV.int IntKind.i64 4) = ((AV.int IntKind.i64 (r43.v n g))) by first | (simp only [r43.v, h1, cond_true, cond_false]; done) | (try unfold r43.v; try simp only [h1, cond_true, cond_false]; try rfl; done) | rfl) trivial)))) h
  | false =>
    cases h2 : r61b.v n g with
    | true =>
      exact Ret.of_run1 mix [(AV.int IntKind.i64 (r43.v n g))] Try.func43 rfl [.ret (AV.bool (r61a.v n g)) ([]), .b false, .ret (AV.bool (r61b.v n g)) ([]), .b true] (by simp) (by simp) (kmp (by kernel_rfl) (And.intro (r61a (n) (g) o0 ([])) (And.intro h1 (And.intro (r61b (n) (g) o0 ([])) (And.intro h2 (And.intro (show (AV.int IntKind.i64 1) = ((AV.int IntKind.i64 (r43.v n g))) by first | (simp only [r43.v, h1, h2, cond_true, cond_false]; done) | (try unfold r43.v; try simp only [h1, cond_true, cond_false]; try simp only [h2, cond_true, cond_false]; try rfl; done) | rfl) trivial)))))) h
    | false =>
      have o1 : r61b.v n g = false := by first | assumption | omega | (simp_all; done)
      cases h3 : r61c.v n g with
      | true =>
        exact Ret.of_run1 mix [(AV.int IntKind.i64 (r43.v n g))] Try.func43 rfl [.ret (AV.bool (r61a.v n g)) ([]), .b false, .ret (AV.bool (r61b.v n g)) ([]), .b false, .ret (AV.bool (r61c.v n g)) ([]), .b true] (by simp) (by simp) (kmp (by kernel_rfl) (And.intro (r61a (n) (g) o0 ([])) (And.intro h1 (And.intro (r61b (n) (g) o0 ([])) (And.intro h2 (And.intro (r61c' (n) (g) o0 o1 ([])) (And.intro h3 (And.intro (show (AV.int IntKind.i64 6) = ((AV.int IntKind.i64 (r43.v n g))) by first | (simp only [r43.v, h1, h2, h3, cond_true, cond_false]; done) | (try unfold r43.v; try simp only [h1, cond_true, cond_false]; try simp only [h2, cond_true, cond_false]; try simp only [h3, cond_true, cond_false]; try rfl; done) | rfl) trivial)))))))) h
      | false =>
        exact Ret.of_run1 mix [(AV.int IntKind.i64 (r43.v n g))] Try.func43 rfl [.ret (AV.bool (r61a.v n g)) ([]), .b false, .ret (AV.bool (r61b.v n g)) ([]), .b false, .ret (AV.bool (r61c.v n g)) ([]), .b false] (by simp) (by simp) (kmp (by kernel_rfl) (And.intro (r61a (n) (g) o0 ([])) (And.intro h1 (And.intro (r61b (n) (g) o0 ([])) (And.intro h2 (And.intro (r61c' (n) (g) o0 o1 ([])) (And.intro h3 (And.intro (show (AV.int IntKind.i64 0) = ((AV.int IntKind.i64 (r43.v n g))) by first | (simp only [r43.v, h1, h2, h3, cond_true, cond_false]; done) | (try unfold r43.v; try simp only [h1, cond_true, cond_false]; try simp only [h2, cond_true, cond_false]; try simp only [h3, cond_true, cond_false]; try rfl; done) | rfl) trivial)))))))) h

inductive L20.O where
  | e0
  | e1

noncomputable def L20.T (n : Nat) (g : Nat → SD) (i : Int) : List AV := mkT 31 [(0, AV.sl 5 n fun (i : Nat) => AV.agg [AV.str (g i).nm, AV.int IntKind.i64 (g i).x, AV.int IntKind.i64 (g i).y, AV.sl 1 (g i).nr fun (i_1 : Nat) => AV.int IntKind.i64 ((g i).r i_1), AV.sl 1 (g i).nl fun (i_1 : Nat) => AV.int IntKind.i64 ((g i).l i_1)]), (4, AV.int IntKind.i64 i)]

noncomputable def L20.H (n : Nat) (g : Nat → SD) (i : Int) : AHeap := []

def L20.inv (n : Nat) (g : Nat → SD) (i : Int) : Prop := 1 ≤ i ∧ (i ≤ (↑n : Int) ∨ i = 1)

noncomputable def L20.mu (n : Nat) (g : Nat → SD) (i : Int) : Nat := ((↑n : Int) - i).toNat

noncomputable def L20.E : L20.O → Exit
  | .e0 => Exit.ret
  | .e1 => Exit.exit 0

noncomputable def L20.X (n : Nat) (g : Nat → SD) : L20.O → List AV
  | .e0 => mkT 31 [(2, (AV.int IntKind.i64 5))]
  | .e1 => mkT 31 []

noncomputable def L20.XH (n : Nat) (g : Nat → SD) : L20.O → AHeap
  | .e0 => ([])
  | .e1 => ([])

noncomputable def L20.N (n : Nat) (g : Nat → SD) : Nat → Int → L20.O
  | 0, _ => .e0
  | k_ + 1, i => (bif decide (i < (↑n : Int)) then (bif Op.bytesLess (g (IntKind.i64.wrap (i - 1)).toNat).nm.toList (g i.toNat).nm.toList then (L20.N n g k_ (IntKind.i64.wrap (i + 1))) else (.e0)) else (.e1))

noncomputable def L20.run (n : Nat) (g : Nat → SD) (i : Int) : L20.O := L20.N n g ((((↑n : Int) - i).toNat) + 1) i

theorem L20.nx (n : Nat) (g : Nat → SD) {k_ : Nat} {z_ : Int} {h_ : AHeap} (s_ : Int) (h1 : L20.inv n g s_) (h2 : L20.mu n g s_ < L20.mu n g z_) (h3 : L20.N n g k_ s_ = L20.N n g (k_ + 1) z_) (h4 : PopOk (L20.H n g z_) h_ (L20.T n g s_) (L20.H n g s_)) : LNextP (fun (z_ : Int) => L20.T n g z_) (fun (z_ : Int) => L20.H n g z_) (fun (z_ : Int) => L20.inv n g z_) (fun (z_ : Int) => L20.mu n g z_) (fun (k_ : Nat) (z_ : Int) => L20.N n g k_ z_) k_ z_ (L20.T n g s_) h_ := LNextP.mk (Tm := (fun (z_ : Int) => L20.T n g z_)) (Hp := (fun (z_ : Int) => L20.H n g z_)) (inv := (fun (z_ : Int) => L20.inv n g z_)) (mu := (fun (z_ : Int) => L20.mu n g z_)) (l := (fun (k_ : Nat) (z_ : Int) => L20.N n g k_ z_)) s_ h1 h2 h3 h4

theorem L20.en (n : Nat) (g : Nat → SD) {k_ : Nat} {z_ : Int} {h_ : AHeap} (o_ : L20.O) (h3 : L20.N n g (k_ + 1) z_ = o_) (h4 : PopOk (L20.H n g z_) h_ (L20.X n g o_) (L20.XH n g o_)) : LEndP (fun (z_ : Int) => L20.H n g z_) (fun (k_ : Nat) (z_ : Int) => L20.N n g k_ z_) L20.E (L20.X n g) (L20.XH n g) k_ z_ (L20.E o_) (L20.X n g o_) h_ := LEndP.mk (Hp := (fun (z_ : Int) => L20.H n g z_)) (l := (fun (k_ : Nat) (z_ : Int) => L20.N n g k_ z_)) (oE := L20.E) (oT := L20.X n g) (oH := L20.XH n g) o_ h3 h4

theorem L20.spec (n : Nat) (g : Nat → SD) (hn : n ≤ 9223372036854775807) (k_ : Nat) (z_ : Int) (hi_ : L20.inv n g z_) (hm_ : L20.mu n g z_ < k_) : LoopTo Try.prog (loopN Try.f20 0) (L20.T n g z_) (L20.H n g z_) (L20.E (L20.N n g k_ z_)) (L20.X n g (L20.N n g k_ z_)) (L20.XH n g (L20.N n g k_ z_)) := by
  refine LoopTo.fuelP mix (fun (z_ : Int) => L20.T n g z_) (fun (z_ : Int) => L20.H n g z_) (fun (z_ : Int) => L20.inv n g z_) (fun (z_ : Int) => L20.mu n g z_) (fun (k_ : Nat) (z_ : Int) => L20.N n g k_ z_) L20.E (L20.X n g) (L20.XH n g) (others 31 [0, 4]) (others 31 [2]) (others 31 []) ?_ k_ z_ hi_ hm_
  clear hm_ hi_ z_ k_
  intro k_ z_ hinv hmu
  revert hinv hmu; revert z_; intro i hinv hmu
  have hinv : 1 ≤ i ∧ (i ≤ (↑n : Int) ∨ i = 1) := hinv
  have hmu : (((↑n : Int) - i).toNat) < k_ + 1 := hmu
  cases h1 : decide (i < (↑n : Int)) with
  | true =>
    have h1p := of_decide_eq_true h1
    try have := IntWalk.i64_in (i - 1) (by omega)
    have o1 : (0 : Int) ≤ IntKind.i64.wrap (i - (1 : Int)) := by first | assumption | omega | (simp_all; done)
    have o2 : IntKind.i64.wrap (i - (1 : Int)) < (↑n : Int) := by first | assumption | omega | (simp_all; done)
    have o3 : (0 : Int) ≤ i := by first | assumption | omega | (simp_all; done)
    have o4 : i < (↑n : Int) := by first | assumption | omega | (simp_all; done)
    cases h2 : Op.bytesLess (g (IntKind.i64.wrap (i - 1)).toNat).nm.toList (g i.toNat).nm.toList with
    | true =>
      try have := IntWalk.i64_in (i + 1) (by omega)
      have o5 : (1 : Int) ≤ IntKind.i64.wrap (i + (1 : Int)) := by first | assumption | omega | (simp_all; done)
      have o6 : IntKind.i64.wrap (i + (1 : Int)) ≤ (↑n : Int) ∨ IntKind.i64.wrap (i + (1 : Int)) = (1 : Int) := by first | assumption | omega | (simp_all; done)
      have o7 : ((↑n : Int) - IntKind.i64.wrap (i + (1 : Int))).toNat < ((↑n : Int) - i).toNat := by first | assumption | omega | (simp_all; done)
      exact ⟨[.b true, .b false], kmp (by kernel_rfl) (And.intro h1 (And.intro (And.intro o1 o2) (And.intro (And.intro o3 o4) (And.intro (show (bnot (Op.bytesLess (g (IntKind.i64.wrap (i - 1)).toNat).nm.toList (g i.toNat).nm.toList)) = false by rw [h2]; try rfl) (L20.nx n g (k_ := k_) (z_ := i) (IntKind.i64.wrap (i + 1)) (And.intro o5 o6) o7 (by first | (simp only [L20.N, h1, h2, cond_true, cond_false]; done) | (try unfold L20.N; try simp only [h1, cond_true, cond_false]; try simp only [h2, cond_true, cond_false]; try rfl; done)) PopOk.same)))))⟩
    | false =>
      exact ⟨[.b true, .b true], kmp (by kernel_rfl) (And.intro h1 (And.intro (And.intro o1 o2) (And.intro (And.intro o3 o4) (And.intro (show (bnot (Op.bytesLess (g (IntKind.i64.wrap (i - 1)).toNat).nm.toList (g i.toNat).nm.toList)) = true by rw [h2]; try rfl) (L20.en n g (k_ := k_) (z_ := i) (.e0 : L20.O) (by first | (simp only [L20.N, h1, h2, cond_true, cond_false]; done) | (try unfold L20.N; try simp only [h1, cond_true, cond_false]; try simp only [h2, cond_true, cond_false]; try rfl; done)) PopOk.same)))))⟩
  | false =>
    have h1p := of_decide_eq_false h1
    exact ⟨[.b false], kmp (by kernel_rfl) (And.intro h1 (L20.en n g (k_ := k_) (z_ := i) (.e1 : L20.O) (by first | (simp only [L20.N, h1, cond_true, cond_false]; done) | (try unfold L20.N; try simp only [h1, cond_true, cond_false]; try rfl; done)) PopOk.same))⟩

theorem L20.e0 (n : Nat) (g : Nat → SD) (hn : n ≤ 9223372036854775807) (i : Int) (hinv : L20.inv n g i) (hN : L20.run n g i = (.e0 : L20.O)) : LoopTo Try.prog (loopN Try.f20 0) (L20.T n g i) (L20.H n g i) (Exit.ret) (L20.X n g (.e0 : L20.O)) (L20.XH n g (.e0 : L20.O)) := by
  have h_ := L20.spec n g hn ((((↑n : Int) - i).toNat) + 1) i hinv (Nat.lt_succ_self _)
  unfold L20.run at hN
  simp only [hN] at h_
  exact h_

theorem L20.e1 (n : Nat) (g : Nat → SD) (hn : n ≤ 9223372036854775807) (i : Int) (hinv : L20.inv n g i) (hN : L20.run n g i = (.e1 : L20.O)) : LoopTo Try.prog (loopN Try.f20 0) (L20.T n g i) (L20.H n g i) (Exit.exit 0) (L20.X n g (.e1 : L20.O)) (L20.XH n g (.e1 : L20.O)) := by
  have h_ := L20.spec n g hn ((((↑n : Int) - i).toNat) + 1) i hinv (Nat.lt_succ_self _)
  unfold L20.run at hN
  simp only [hN] at h_
  exact h_

noncomputable def r20.v (n : Nat) (g : Nat → SD) : Int := (bif decide ((↑n : Int) > 16) then 7 else (bif r43.v n g == 0 then (match L20.run n g 1 with | .e0 => 5 | .e1 => 0 ) else r43.v n g))

theorem r20 (n : Nat) (g : Nat → SD) (hn : n ≤ 9223372036854775807) (h : AHeap) : Ret Try.prog 20 ([sts n g]) h (AV.int IntKind.i64 (r20.v n g)) h := by
  cases h1 : decide ((↑n : Int) > 16) with
  | true =>
    have h1p := of_decide_eq_true h1
    exact Ret.of_run1 mix [(AV.int IntKind.i64 (r20.v n g))] Try.func20 rfl [.b true] (by simp) (by simp) (kmp (by kernel_rfl) (And.intro h1 (And.intro (show (AV.int IntKind.i64 7) = ((AV.int IntKind.i64 (r20.v n g))) by first | (simp only [r20.v, h1, cond_true, cond_false]; done) | (try unfold r20.v; try simp only [h1, cond_true, cond_false]; try rfl; done) | rfl) trivial))) h
  | false =>
    have h1p := of_decide_eq_false h1
    have o0 : n ≤ (9223372036854775807 : Nat) := by first | assumption | omega | (simp_all; done)
    cases h2 : r43.v n g == 0 with
    | true =>
      have h2p := eq_of_beq h2
      have o1 : (1 : Int) ≤ (↑n : Int) ∨ (1 : Int) = (1 : Int) := by first | assumption | omega | (simp_all; done)
      cases h3 : L20.run n g 1 with
      | e0 =>
        exact Ret.of_run1 mix [(AV.int IntKind.i64 (r20.v n g))] Try.func20 rfl [.b false, .ret (AV.int IntKind.i64 (r43.v n g)) ([]), .b false, .loop (others 31 [0, 4]) (Exit.ret) (L20.X n g L20.O.e0) (L20.XH n g L20.O.e0)] (by simp) (by simp) (kmp (by kernel_rfl) (And.intro h1 (And.intro (r43 (n) (g) o0 ([])) (And.intro (show (bnot (r43.v n g == 0)) = false by rw [h2]; try rfl) (And.intro (L20.e0 (n) (g) o0 (1) (And.intro (show (1 : Int) ≤ (1 : Int) by first | decide | exact Int.NonNeg.mk _) o1) h3) (And.intro (show (AV.int IntKind.i64 5) = ((AV.int IntKind.i64 (r20.v n g))) by first | (simp only [r20.v, h1, h2, h3, cond_true, cond_false]; done) | (try unfold r20.v; try simp only [h1, cond_true, cond_false]; try simp only [h2, cond_true, cond_false]; try simp only [h3, cond_true, cond_false]; try rfl; done) | rfl) trivial)))))) h
      | e1 =>
        exact Ret.of_run1 mix [(AV.int IntKind.i64 (r20.v n g))] Try.func20 rfl [.b false, .ret (AV.int IntKind.i64 (r43.v n g)) ([]), .b false, .loop (others 31 [0, 4]) (Exit.exit 0) (L20.X n g L20.O.e1) (L20.XH n g L20.O.e1)] (by simp) (by simp) (kmp (by kernel_rfl) (And.intro h1 (And.intro (r43 (n) (g) o0 ([])) (And.intro (show (bnot (r43.v n g == 0)) = false by rw [h2]; try rfl) (And.intro (L20.e1 (n) (g) o0 (1) (And.intro (show (1 : Int) ≤ (1 : Int) by first | decide | exact Int.NonNeg.mk _) o1) h3) (And.intro (show (AV.int IntKind.i64 0) = ((AV.int IntKind.i64 (r20.v n g))) by first | (simp only [r20.v, h1, h2, h3, cond_true, cond_false]; done) | (try unfold r20.v; try simp only [h1, cond_true, cond_false]; try simp only [h2, cond_true, cond_false]; try simp only [h3, cond_true, cond_false]; try rfl; done) | rfl) trivial)))))) h
    | false =>
      have h2p := ne_of_beq_false h2
      exact Ret.of_run1 mix [(AV.int IntKind.i64 (r20.v n g))] Try.func20 rfl [.b false, .ret (AV.int IntKind.i64 (r43.v n g)) ([]), .b true] (by simp) (by simp) (kmp (by kernel_rfl) (And.intro h1 (And.intro (r43 (n) (g) o0 ([])) (And.intro (show (bnot (r43.v n g == 0)) = true by rw [h2]; try rfl) (And.intro (show (AV.int IntKind.i64 (r43.v n g)) = ((AV.int IntKind.i64 (r20.v n g))) by first | (simp only [r20.v, h1, h2, cond_true, cond_false]; done) | (try unfold r20.v; try simp only [h1, cond_true, cond_false]; try simp only [h2, cond_true, cond_false]; try rfl; done) | rfl) trivial))))) h

end Go.Proofs.Ytgmppoappaolkaa

open Go

namespace Go.Proofs.Ytgmppoappaolkaa

set_option linter.unusedVariables false

set_option linter.unusedSimpArgs false

def badR (s : SD) (i : Nat) : Bool := decide (s.r i < 1) || decide (s.r i > 500000) || decide (s.l i < 0) || decide (s.l i > 1000000000000000) || (decide (0 < i) && (decide (s.r (i - 1) ≥ s.r i) || decide (s.l i > s.l (i - 1))))

theorem wrap_pred {n i : Nat} (hn : n ≤ 9223372036854775807) (h : i < n) (h0 : 0 < i) : (IntKind.i64.wrap ((i : Int) - 1)).toNat = i - 1 := by
  rw [IntWalk.i64_in _ (by omega)]
  omega

theorem L65_run (s : SD) : L65.run s 0 = srch (badR s) (fun _ => L65.O.e0) .e1 0 s.nr := by
  have := search_eq (n := s.nr) (badR s) (fun _ => L65.O.e0) .e1 (N := L65.N s) (fun k i h => by
    simp only [L65.N, wrap_succ s.hnr h, Int.toNat_natCast]; rw [decide_eq_true (by omega)]
    unfold badR
    rcases Nat.eq_zero_or_pos i with e | e
    · subst e
      rw [decide_eq_false (show ¬ ((0 : Nat) : Int) > 0 by decide), decide_eq_false (show ¬ 0 < 0 by decide)]
      cases decide (s.r 0 < 1) <;> cases decide (s.r 0 > 500000) <;> cases decide (s.l 0 < 0) <;> cases decide (s.l 0 > 1000000000000000) <;> rfl
    · rw [decide_eq_true (show (i : Int) > 0 by omega), decide_eq_true e, wrap_pred s.hnr h e]
      cases decide (s.r i < 1) <;> cases decide (s.r i > 500000) <;> cases decide (s.l i < 0) <;> cases decide (s.l i > 1000000000000000) <;> cases decide (s.r (i - 1) ≥ s.r i) <;> cases decide (s.l i > s.l (i - 1)) <;> rfl) (fun k => by simp [L65.N]) (s.nr + 1) 0 (Nat.zero_le _) (by omega)
  simpa [L65.run, L65.mu] using this

variable {n : Nat} {g : Nat → SD}

theorem r43_any (hn : n ≤ 9223372036854775807) : r43.v n g = bif anyN n (fun i => r62.v (g i)) then 4 else bif anyN n (fun i => r64.v (g i)) then 1 else bif anyN n (fun i => r65.v (g i)) then 6 else 0 := by
  unfold r43.v
  rw [r61a_any hn, r61b_any hn, r61c_any hn]

theorem ok43 {s : SD} (h : (r43.v 1 (fun _ => s) == 0) = true) : s.nl = s.nr ∧ 1 ≤ s.nr ∧ s.nr ≤ 16 := by
  have h := eq_of_beq h
  rw [r43_any (by decide)] at h
  obtain ⟨_, h⟩ := bif_else h (by decide)
  obtain ⟨h2, _⟩ := bif_else h (by decide)
  have := r64_false (anyN_false.1 h2 0 (by decide))
  exact ⟨this.2.2, this.1, this.2.1⟩

theorem ok43' {s : SD} (h : (r43.v 1 (fun _ => s) == 0) = true) : s.nl = s.nr := (ok43 h).1

end Go.Proofs.Ytgmppoappaolkaa

open Go

namespace Go.Proofs.Ytgmppoappaolkaa

set_option linter.unusedSimpArgs false

set_option linter.unusedVariables false

set_option maxHeartbeats 0

set_option maxRecDepth 100000

noncomputable def r69.v (s : SD) (a : Int) (b : Int) (d : Int) (e : Int) (r : Int) : Bool := decide (IntKind.i64.wrap (IntKind.i64.wrap (4 * r) * r) ≥ r40.v s.x s.y a b d e)

theorem r69 (s : SD) (a : Int) (b : Int) (c : Int) (d : Int) (e : Int) (f : Int) (r : Int) : Ret Try.prog 69 ([AV.int IntKind.i64 r, AV.ptr 0 1 5 0 0, AV.ptr 1 1 6 0 0]) ([AObj.var s.av, AObj.var (bx a b c d e f)]) (AV.bool (r69.v s a b d e r)) ([AObj.var s.av, AObj.var (bx a b c d e f)]) := by
  exact Ret.of_runH mix [(AV.bool (r69.v s a b d e r))] ([AObj.var s.av, AObj.var (bx a b c d e f)]) Try.func69 rfl [.ret (AV.int IntKind.i64 (r40.v s.x s.y a b d e)) ([AObj.var (AV.agg [AV.str s.nm, AV.int IntKind.i64 s.x, AV.int IntKind.i64 s.y, AV.sl 1 s.nr fun (i : Nat) => AV.int IntKind.i64 (s.r i), AV.sl 1 s.nl fun (i : Nat) => AV.int IntKind.i64 (s.l i)]), AObj.var (AV.agg [AV.int IntKind.i64 a, AV.int IntKind.i64 b, AV.int IntKind.i64 c, AV.int IntKind.i64 d, AV.int IntKind.i64 e, AV.int IntKind.i64 f])])] (by simp) (kmp (by kernel_rfl) (And.intro (r40 (s.x) (s.y) (a) (b) (c) (d) (e) (f) ([AObj.var (AV.agg [AV.str s.nm, AV.int IntKind.i64 s.x, AV.int IntKind.i64 s.y, AV.sl 1 s.nr fun (i : Nat) => AV.int IntKind.i64 (s.r i), AV.sl 1 s.nl fun (i : Nat) => AV.int IntKind.i64 (s.l i)]), AObj.var (AV.agg [AV.int IntKind.i64 a, AV.int IntKind.i64 b, AV.int IntKind.i64 c, AV.int IntKind.i64 d, AV.int IntKind.i64 e, AV.int IntKind.i64 f])])) (And.intro (And.intro (show (AV.bool (decide (IntKind.i64.wrap (IntKind.i64.wrap (4 * r) * r) ≥ r40.v s.x s.y a b d e))) = ((AV.bool (r69.v s a b d e r))) by first | (simp only [r69.v, cond_true, cond_false]; done) | (try unfold r69.v; try rfl; done) | rfl) trivial) (rfl : ([AObj.var s.av, AObj.var (bx a b c d e f)] : AHeap) = [AObj.var s.av, AObj.var (bx a b c d e f)]))))

inductive L68.O where
  | e0 (a0 : Int)
  | e1

noncomputable def L68.T (s : SD) (a : Int) (b : Int) (c : Int) (d : Int) (e : Int) (f : Int) (i : Int) : List AV := mkT 19 [(0, AV.sl 1 s.nr fun (i : Nat) => AV.int IntKind.i64 (s.r i)), (1, AV.fn 69 [AV.ptr 0 1 5 0 0, AV.ptr 1 1 6 0 0]), (7, AV.int IntKind.i64 (↑s.nr : Int)), (8, AV.int IntKind.i64 i)]

noncomputable def L68.H (s : SD) (a : Int) (b : Int) (c : Int) (d : Int) (e : Int) (f : Int) (i : Int) : AHeap := [AObj.var s.av, AObj.var (bx a b c d e f)]

def L68.inv (s : SD) (a : Int) (b : Int) (c : Int) (d : Int) (e : Int) (f : Int) (i : Int) : Prop := 0 ≤ i ∧ i ≤ (↑s.nr : Int)

noncomputable def L68.mu (s : SD) (a : Int) (b : Int) (c : Int) (d : Int) (e : Int) (f : Int) (i : Int) : Nat := ((↑s.nr : Int) - i).toNat

noncomputable def L68.E : L68.O → Exit
  | .e0 a0 => Exit.ret
  | .e1 => Exit.exit 0

noncomputable def L68.X (s : SD) (a : Int) (b : Int) (c : Int) (d : Int) (e : Int) (f : Int) : L68.O → List AV
  | .e0 a0 => mkT 19 [(4, (AV.int IntKind.i64 a0))]
  | .e1 => mkT 19 []

noncomputable def L68.XH (s : SD) (a : Int) (b : Int) (c : Int) (d : Int) (e : Int) (f : Int) : L68.O → AHeap
  | .e0 a0 => ([AObj.var (AV.agg [AV.str s.nm, AV.int IntKind.i64 s.x, AV.int IntKind.i64 s.y, AV.sl 1 s.nr fun (i : Nat) => AV.int IntKind.i64 (s.r i), AV.sl 1 s.nl fun (i : Nat) => AV.int IntKind.i64 (s.l i)]), AObj.var (AV.agg [AV.int IntKind.i64 a, AV.int IntKind.i64 b, AV.int IntKind.i64 c, AV.int IntKind.i64 d, AV.int IntKind.i64 e, AV.int IntKind.i64 f])])
  | .e1 => ([AObj.var (AV.agg [AV.str s.nm, AV.int IntKind.i64 s.x, AV.int IntKind.i64 s.y, AV.sl 1 s.nr fun (i : Nat) => AV.int IntKind.i64 (s.r i), AV.sl 1 s.nl fun (i : Nat) => AV.int IntKind.i64 (s.l i)]), AObj.var (AV.agg [AV.int IntKind.i64 a, AV.int IntKind.i64 b, AV.int IntKind.i64 c, AV.int IntKind.i64 d, AV.int IntKind.i64 e, AV.int IntKind.i64 f])])

noncomputable def L68.N (s : SD) (a : Int) (b : Int) (d : Int) (e : Int) : Nat → Int → L68.O
  | 0, i => .e0 i
  | k_ + 1, i => (bif decide (i < (↑s.nr : Int)) then (bif r69.v s a b d e (s.r i.toNat) then (.e0 (i)) else (L68.N s a b d e k_ (IntKind.i64.wrap (i + 1)))) else (.e1))

noncomputable def L68.run (s : SD) (a : Int) (b : Int) (d : Int) (e : Int) (i : Int) : L68.O := L68.N s a b d e ((((↑s.nr : Int) - i).toNat) + 1) i

theorem L68.nx (s : SD) (a : Int) (b : Int) (c : Int) (d : Int) (e : Int) (f : Int) {k_ : Nat} {z_ : Int} {h_ : AHeap} (s_ : Int) (h1 : L68.inv s a b c d e f s_) (h2 : L68.mu s a b c d e f s_ < L68.mu s a b c d e f z_) (h3 : L68.N s a b d e k_ s_ = L68.N s a b d e (k_ + 1) z_) (h4 : PopOk (L68.H s a b c d e f z_) h_ (L68.T s a b c d e f s_) (L68.H s a b c d e f s_)) : LNextP (fun (z_ : Int) => L68.T s a b c d e f z_) (fun (z_ : Int) => L68.H s a b c d e f z_) (fun (z_ : Int) => L68.inv s a b c d e f z_) (fun (z_ : Int) => L68.mu s a b c d e f z_) (fun (k_ : Nat) (z_ : Int) => L68.N s a b d e k_ z_) k_ z_ (L68.T s a b c d e f s_) h_ := LNextP.mk (Tm := (fun (z_ : Int) => L68.T s a b c d e f z_)) (Hp := (fun (z_ : Int) => L68.H s a b c d e f z_)) (inv := (fun (z_ : Int) => L68.inv s a b c d e f z_)) (mu := (fun (z_ : Int) => L68.mu s a b c d e f z_)) (l := (fun (k_ : Nat) (z_ : Int) => L68.N s a b d e k_ z_)) s_ h1 h2 h3 h4

theorem L68.en (s : SD) (a : Int) (b : Int) (c : Int) (d : Int) (e : Int) (f : Int) {k_ : Nat} {z_ : Int} {h_ : AHeap} (o_ : L68.O) (h3 : L68.N s a b d e (k_ + 1) z_ = o_) (h4 : PopOk (L68.H s a b c d e f z_) h_ (L68.X s a b c d e f o_) (L68.XH s a b c d e f o_)) : LEndP (fun (z_ : Int) => L68.H s a b c d e f z_) (fun (k_ : Nat) (z_ : Int) => L68.N s a b d e k_ z_) L68.E (L68.X s a b c d e f) (L68.XH s a b c d e f) k_ z_ (L68.E o_) (L68.X s a b c d e f o_) h_ := LEndP.mk (Hp := (fun (z_ : Int) => L68.H s a b c d e f z_)) (l := (fun (k_ : Nat) (z_ : Int) => L68.N s a b d e k_ z_)) (oE := L68.E) (oT := L68.X s a b c d e f) (oH := L68.XH s a b c d e f) o_ h3 h4

theorem L68.spec (s : SD) (a : Int) (b : Int) (c : Int) (d : Int) (e : Int) (f : Int) (hr : s.nr ≤ 9223372036854775807) (k_ : Nat) (z_ : Int) (hi_ : L68.inv s a b c d e f z_) (hm_ : L68.mu s a b c d e f z_ < k_) : LoopTo Try.prog (loopN Try.f68 0) (L68.T s a b c d e f z_) (L68.H s a b c d e f z_) (L68.E (L68.N s a b d e k_ z_)) (L68.X s a b c d e f (L68.N s a b d e k_ z_)) (L68.XH s a b c d e f (L68.N s a b d e k_ z_)) := by
  refine LoopTo.fuelP mix (fun (z_ : Int) => L68.T s a b c d e f z_) (fun (z_ : Int) => L68.H s a b c d e f z_) (fun (z_ : Int) => L68.inv s a b c d e f z_) (fun (z_ : Int) => L68.mu s a b c d e f z_) (fun (k_ : Nat) (z_ : Int) => L68.N s a b d e k_ z_) L68.E (L68.X s a b c d e f) (L68.XH s a b c d e f) (others 19 [0, 1, 7, 8]) (others 19 [4]) (others 19 []) ?_ k_ z_ hi_ hm_
  clear hm_ hi_ z_ k_
  intro k_ z_ hinv hmu
  revert hinv hmu; revert z_; intro i hinv hmu
  have hinv : 0 ≤ i ∧ i ≤ (↑s.nr : Int) := hinv
  have hmu : (((↑s.nr : Int) - i).toNat) < k_ + 1 := hmu
  cases h1 : decide (i < (↑s.nr : Int)) with
  | true =>
    have h1p := of_decide_eq_true h1
    have o0 : (0 : Int) ≤ i := by first | assumption | omega | (simp_all; done)
    have o1 : i < (↑s.nr : Int) := by first | assumption | omega | (simp_all; done)
    cases h2 : r69.v s a b d e (s.r i.toNat) with
    | true =>
      exact ⟨[.b true, .ret (AV.bool (r69.v s a b d e (s.r i.toNat))) ([AObj.var (AV.agg [AV.str s.nm, AV.int IntKind.i64 s.x, AV.int IntKind.i64 s.y, AV.sl 1 s.nr fun (i : Nat) => AV.int IntKind.i64 (s.r i), AV.sl 1 s.nl fun (i : Nat) => AV.int IntKind.i64 (s.l i)]), AObj.var (AV.agg [AV.int IntKind.i64 a, AV.int IntKind.i64 b, AV.int IntKind.i64 c, AV.int IntKind.i64 d, AV.int IntKind.i64 e, AV.int IntKind.i64 f])]), .b true], kmp (by kernel_rfl) (And.intro h1 (And.intro (And.intro o0 o1) (And.intro (r69 (s) (a) (b) (c) (d) (e) (f) (s.r i.toNat)) (And.intro h2 (L68.en s a b c d e f (k_ := k_) (z_ := i) (.e0 (i) : L68.O) (by first | (simp only [L68.N, h1, h2, cond_true, cond_false]; done) | (try unfold L68.N; try simp only [h1, cond_true, cond_false]; try simp only [h2, cond_true, cond_false]; try rfl; done)) PopOk.same)))))⟩
    | false =>
      try have := IntWalk.i64_in (i + 1) (by omega)
      have o2 : (0 : Int) ≤ IntKind.i64.wrap (i + (1 : Int)) := by first | assumption | omega | (simp_all; done)
      have o3 : IntKind.i64.wrap (i + (1 : Int)) ≤ (↑s.nr : Int) := by first | assumption | omega | (simp_all; done)
      have o4 : ((↑s.nr : Int) - IntKind.i64.wrap (i + (1 : Int))).toNat < ((↑s.nr : Int) - i).toNat := by first | assumption | omega | (simp_all; done)
      exact ⟨[.b true, .ret (AV.bool (r69.v s a b d e (s.r i.toNat))) ([AObj.var (AV.agg [AV.str s.nm, AV.int IntKind.i64 s.x, AV.int IntKind.i64 s.y, AV.sl 1 s.nr fun (i : Nat) => AV.int IntKind.i64 (s.r i), AV.sl 1 s.nl fun (i : Nat) => AV.int IntKind.i64 (s.l i)]), AObj.var (AV.agg [AV.int IntKind.i64 a, AV.int IntKind.i64 b, AV.int IntKind.i64 c, AV.int IntKind.i64 d, AV.int IntKind.i64 e, AV.int IntKind.i64 f])]), .b false], kmp (by kernel_rfl) (And.intro h1 (And.intro (And.intro o0 o1) (And.intro (r69 (s) (a) (b) (c) (d) (e) (f) (s.r i.toNat)) (And.intro h2 (L68.nx s a b c d e f (k_ := k_) (z_ := i) (IntKind.i64.wrap (i + 1)) (And.intro o2 o3) o4 (by first | (simp only [L68.N, h1, h2, cond_true, cond_false]; done) | (try unfold L68.N; try simp only [h1, cond_true, cond_false]; try simp only [h2, cond_true, cond_false]; try rfl; done)) PopOk.same)))))⟩
  | false =>
    have h1p := of_decide_eq_false h1
    exact ⟨[.b false], kmp (by kernel_rfl) (And.intro h1 (L68.en s a b c d e f (k_ := k_) (z_ := i) (.e1 : L68.O) (by first | (simp only [L68.N, h1, cond_true, cond_false]; done) | (try unfold L68.N; try simp only [h1, cond_true, cond_false]; try rfl; done)) PopOk.same))⟩

theorem L68.e0 (s : SD) (a : Int) (b : Int) (c : Int) (d : Int) (e : Int) (f : Int) (hr : s.nr ≤ 9223372036854775807) (i : Int) (hinv : L68.inv s a b c d e f i) (a0 : Int) (hN : L68.run s a b d e i = (.e0 a0 : L68.O)) : LoopTo Try.prog (loopN Try.f68 0) (L68.T s a b c d e f i) (L68.H s a b c d e f i) (Exit.ret) (L68.X s a b c d e f (.e0 a0 : L68.O)) (L68.XH s a b c d e f (.e0 a0 : L68.O)) := by
  have h_ := L68.spec s a b c d e f hr ((((↑s.nr : Int) - i).toNat) + 1) i hinv (Nat.lt_succ_self _)
  unfold L68.run at hN
  simp only [hN] at h_
  exact h_

theorem L68.e1 (s : SD) (a : Int) (b : Int) (c : Int) (d : Int) (e : Int) (f : Int) (hr : s.nr ≤ 9223372036854775807) (i : Int) (hinv : L68.inv s a b c d e f i) (hN : L68.run s a b d e i = (.e1 : L68.O)) : LoopTo Try.prog (loopN Try.f68 0) (L68.T s a b c d e f i) (L68.H s a b c d e f i) (Exit.exit 0) (L68.X s a b c d e f (.e1 : L68.O)) (L68.XH s a b c d e f (.e1 : L68.O)) := by
  have h_ := L68.spec s a b c d e f hr ((((↑s.nr : Int) - i).toNat) + 1) i hinv (Nat.lt_succ_self _)
  unfold L68.run at hN
  simp only [hN] at h_
  exact h_

noncomputable def r68.v (s : SD) (a : Int) (b : Int) (d : Int) (e : Int) : Int := (match L68.run s a b d e 0 with | .e0 h1d0 => h1d0 | .e1 => -1 )

theorem r68 (s : SD) (a : Int) (b : Int) (c : Int) (d : Int) (e : Int) (f : Int) : Ret Try.prog 68 ([AV.sl 1 s.nr fun (i : Nat) => AV.int IntKind.i64 (s.r i), AV.fn 69 [AV.ptr 0 1 5 0 0, AV.ptr 1 1 6 0 0]]) ([AObj.var s.av, AObj.var (bx a b c d e f)]) (AV.int IntKind.i64 (r68.v s a b d e)) ([AObj.var s.av, AObj.var (bx a b c d e f)]) := by
  have o0 : s.nr ≤ (9223372036854775807 : Nat) := by first | assumption | omega | (simp_all; done)
  have o1 : (0 : Int) ≤ (↑s.nr : Int) := by first | assumption | omega | (simp_all; done)
  cases h1 : L68.run s a b d e 0 with
  | e0 h1d0 =>
    exact Ret.of_runH mix [(AV.int IntKind.i64 (r68.v s a b d e))] ([AObj.var s.av, AObj.var (bx a b c d e f)]) Try.func68 rfl [.loop (others 19 [0, 1, 7, 8]) (Exit.ret) (L68.X s a b c d e f (L68.O.e0 h1d0)) (L68.XH s a b c d e f (L68.O.e0 h1d0))] (by simp) (kmp (by kernel_rfl) (And.intro (L68.e0 (s) (a) (b) (c) (d) (e) (f) o0 (0) (And.intro (show (0 : Int) ≤ (0 : Int) by first | decide | exact Int.NonNeg.mk _) o1) h1d0 h1) (And.intro (And.intro (show (AV.int IntKind.i64 h1d0) = ((AV.int IntKind.i64 (r68.v s a b d e))) by first | (simp only [r68.v, h1, cond_true, cond_false]; done) | (try unfold r68.v; try simp only [h1, cond_true, cond_false]; try rfl; done) | rfl) trivial) (rfl : ([AObj.var s.av, AObj.var (bx a b c d e f)] : AHeap) = [AObj.var s.av, AObj.var (bx a b c d e f)]))))
  | e1 =>
    exact Ret.of_runH mix [(AV.int IntKind.i64 (r68.v s a b d e))] ([AObj.var s.av, AObj.var (bx a b c d e f)]) Try.func68 rfl [.loop (others 19 [0, 1, 7, 8]) (Exit.exit 0) (L68.X s a b c d e f L68.O.e1) (L68.XH s a b c d e f L68.O.e1)] (by simp) (kmp (by kernel_rfl) (And.intro (L68.e1 (s) (a) (b) (c) (d) (e) (f) o0 (0) (And.intro (show (0 : Int) ≤ (0 : Int) by first | decide | exact Int.NonNeg.mk _) o1) h1) (And.intro (And.intro (show (AV.int IntKind.i64 (-1)) = ((AV.int IntKind.i64 (r68.v s a b d e))) by first | (simp only [r68.v, h1, cond_true, cond_false]; done) | (try unfold r68.v; try simp only [h1, cond_true, cond_false]; try rfl; done) | rfl) trivial) (rfl : ([AObj.var s.av, AObj.var (bx a b c d e f)] : AHeap) = [AObj.var s.av, AObj.var (bx a b c d e f)]))))

end Go.Proofs.Ytgmppoappaolkaa

open Go

namespace Go.Proofs.Ytgmppoappaolkaa

set_option linter.unusedVariables false

set_option linter.unusedSimpArgs false

variable {s : SD} {a b c d e f : Int}

theorem L68_run : L68.run s a b d e 0 = srch (fun i => r69.v s a b d e (s.r i)) (fun i => L68.O.e0 i) .e1 0 s.nr := by
  have := search_eq (n := s.nr) (fun i => r69.v s a b d e (s.r i)) (fun i => L68.O.e0 i) .e1 (N := L68.N s a b d e) (fun k i h => by
    simp only [L68.N, wrap_succ s.hnr h, Int.toNat_natCast]; rw [decide_eq_true (by omega)]; rfl) (fun k => by simp [L68.N]) (s.nr + 1) 0 (Nat.zero_le _) (by omega)
  simpa [L68.run, L68.mu] using this

theorem r68_cases : ((∀ i, i < s.nr → r69.v s a b d e (s.r i) = false) ∧ r68.v s a b d e = -1) ∨ ∃ i, i < s.nr ∧ r69.v s a b d e (s.r i) = true ∧ (∀ j, j < i → r69.v s a b d e (s.r j) = false) ∧ r68.v s a b d e = i := by
  unfold r68.v
  rw [L68_run]
  rcases srch_cases (fun i => r69.v s a b d e (s.r i)) (fun i => L68.O.e0 i) .e1 s.nr 0 with ⟨h1, h2⟩ | ⟨j, h1, h2, h3, h4, h5⟩
  · exact .inl ⟨fun i hi => h1 i (Nat.zero_le _) (by omega), by rw [h2]⟩
  · exact .inr ⟨j, by omega, h3, fun l hl => h4 l (Nat.zero_le _) hl, by rw [h5]⟩

theorem bd68 (h : ¬ r68.v s a b d e < 0) (hl : s.nl = s.nr) : 0 ≤ r68.v s a b d e ∧ r68.v s a b d e < (s.nl : Int) := by
  rcases r68_cases (s := s) (a := a) (b := b) (d := d) (e := e) with ⟨_, h2⟩ | ⟨i, h1, _, _, h2⟩
  · rw [h2] at h; omega
  · rw [h2, hl]; omega

end Go.Proofs.Ytgmppoappaolkaa

open Go

namespace Go.Proofs.Ytgmppoappaolkaa

set_option linter.unusedSimpArgs false

set_option linter.unusedVariables false

set_option maxHeartbeats 0

set_option maxRecDepth 100000

noncomputable def r45.v (s : SD) (a : Int) (b : Int) (d : Int) (e : Int) : Int := (bif decide (r68.v s a b d e < 0) then -1 else s.l (r68.v s a b d e).toNat)

theorem r45 (s : SD) (a : Int) (b : Int) (c : Int) (d : Int) (e : Int) (f : Int) (hl : s.nl = s.nr) (h : AHeap) : Ret Try.prog 45 ([s.av, bx a b c d e f]) h (AV.int IntKind.i64 (r45.v s a b d e)) h := by
  cases h1 : decide (r68.v s a b d e < 0) with
  | true =>
    have h1p := of_decide_eq_true h1
    exact Ret.of_run1 mix [(AV.int IntKind.i64 (r45.v s a b d e))] Try.func45 rfl [.ret (AV.int IntKind.i64 (r68.v s a b d e)) ([AObj.var (AV.agg [AV.str s.nm, AV.int IntKind.i64 s.x, AV.int IntKind.i64 s.y, AV.sl 1 s.nr fun (i : Nat) => AV.int IntKind.i64 (s.r i), AV.sl 1 s.nl fun (i : Nat) => AV.int IntKind.i64 (s.l i)]), AObj.var (AV.agg [AV.int IntKind.i64 a, AV.int IntKind.i64 b, AV.int IntKind.i64 c, AV.int IntKind.i64 d, AV.int IntKind.i64 e, AV.int IntKind.i64 f])]), .b true] (by simp) (by simp) (kmp (by kernel_rfl) (And.intro (r68 (s) (a) (b) (c) (d) (e) (f)) (And.intro h1 (And.intro (show (AV.int IntKind.i64 (-1)) = ((AV.int IntKind.i64 (r45.v s a b d e))) by first | (simp only [r45.v, h1, cond_true, cond_false]; done) | (try unfold r45.v; try simp only [h1, cond_true, cond_false]; try rfl; done) | rfl) trivial)))) h
  | false =>
    have h1p := of_decide_eq_false h1
    try have := bd68 (by first | assumption | omega) (by first | assumption | omega)
    have o0 : (0 : Int) ≤ r68.v s a b d e := by first | assumption | omega | (simp_all; done)
    have o1 : r68.v s a b d e < (↑s.nl : Int) := by first | assumption | omega | (simp_all; done)
    exact Ret.of_run1 mix [(AV.int IntKind.i64 (r45.v s a b d e))] Try.func45 rfl [.ret (AV.int IntKind.i64 (r68.v s a b d e)) ([AObj.var (AV.agg [AV.str s.nm, AV.int IntKind.i64 s.x, AV.int IntKind.i64 s.y, AV.sl 1 s.nr fun (i : Nat) => AV.int IntKind.i64 (s.r i), AV.sl 1 s.nl fun (i : Nat) => AV.int IntKind.i64 (s.l i)]), AObj.var (AV.agg [AV.int IntKind.i64 a, AV.int IntKind.i64 b, AV.int IntKind.i64 c, AV.int IntKind.i64 d, AV.int IntKind.i64 e, AV.int IntKind.i64 f])]), .b false] (by simp) (by simp) (kmp (by kernel_rfl) (And.intro (r68 (s) (a) (b) (c) (d) (e) (f)) (And.intro h1 (And.intro (And.intro o0 o1) (And.intro (show (AV.int IntKind.i64 (s.l (r68.v s a b d e).toNat)) = ((AV.int IntKind.i64 (r45.v s a b d e))) by first | (simp only [r45.v, h1, cond_true, cond_false]; done) | (try unfold r45.v; try simp only [h1, cond_true, cond_false]; try rfl; done) | rfl) trivial))))) h

noncomputable def r46.v (s : SD) (a : Int) (b : Int) (c : Int) (d : Int) (e : Int) (f : Int) (n : Int) : Int := (bif decide (r45.v s a b d e < 0) then -1 else IntKind.i64.wrap (r45.v s a b d e - massOf a b c d e f n))

noncomputable abbrev r46.h0 (s : SD) (a : Int) (b : Int) (c : Int) (d : Int) (e : Int) (f : Int) (n : Int) : AHeap := ([AObj.var (AV.agg [AV.str s.nm, AV.int IntKind.i64 s.x, AV.int IntKind.i64 s.y, AV.sl 1 s.nr fun (i : Nat) => AV.int IntKind.i64 (s.r i), AV.sl 1 s.nl fun (i : Nat) => AV.int IntKind.i64 (s.l i)]), AObj.var (AV.agg [AV.int IntKind.i64 a, AV.int IntKind.i64 b, AV.int IntKind.i64 c, AV.int IntKind.i64 d, AV.int IntKind.i64 e, AV.int IntKind.i64 f])])

theorem r46 (s : SD) (a : Int) (b : Int) (c : Int) (d : Int) (e : Int) (f : Int) (n : Int) (hl : s.nl = s.nr) (hb : (r36.v a b c d e f == 0) = true) (hn : r37.v n = true) (h : AHeap) : Ret Try.prog 46 ([s.av, bx a b c d e f, AV.int IntKind.i64 n]) h (AV.int IntKind.i64 (r46.v s a b c d e f n)) h := by
  have o0 : s.nl = s.nr := by first | assumption | omega | (simp_all; done)
  cases h1 : decide (r45.v s a b d e < 0) with
  | true =>
    have h1p := of_decide_eq_true h1
    exact Ret.of_run1 mix [(AV.int IntKind.i64 (r46.v s a b c d e f n))] Try.func46 rfl [.ret (AV.int IntKind.i64 (r45.v s a b d e)) (r46.h0 s a b c d e f n), .b true] (by simp) (by simp) (kmp (by kernel_rfl) (And.intro (r45 (s) (a) (b) (c) (d) (e) (f) o0 (r46.h0 s a b c d e f n)) (And.intro h1 (And.intro (show (AV.int IntKind.i64 (-1)) = ((AV.int IntKind.i64 (r46.v s a b c d e f n))) by first | (simp only [r46.v, h1, cond_true, cond_false]; done) | (try unfold r46.v; try simp only [h1, cond_true, cond_false]; try rfl; done) | rfl) trivial)))) h
  | false =>
    have h1p := of_decide_eq_false h1
    have o1 : (r36.v a b c d e f == (0 : Int)) = true := by first | assumption | omega | (simp_all; done)
    have o2 : r37.v n = true := by first | assumption | omega | (simp_all; done)
    exact Ret.of_run1 mix [(AV.int IntKind.i64 (r46.v s a b c d e f n))] Try.func46 rfl [.ret (AV.int IntKind.i64 (r45.v s a b d e)) (r46.h0 s a b c d e f n), .b false, .ret (AV.int IntKind.i64 (massOf a b c d e f n)) (r46.h0 s a b c d e f n)] (by simp) (by simp) (kmp (by kernel_rfl) (And.intro (r45 (s) (a) (b) (c) (d) (e) (f) o0 (r46.h0 s a b c d e f n)) (And.intro h1 (And.intro (r38_ret (a) (b) (c) (d) (e) (f) (n) o1 o2 (r46.h0 s a b c d e f n)) (And.intro (show (AV.int IntKind.i64 (IntKind.i64.wrap (r45.v s a b d e - massOf a b c d e f n))) = ((AV.int IntKind.i64 (r46.v s a b c d e f n))) by first | (simp only [r46.v, h1, cond_true, cond_false]; done) | (try unfold r46.v; try simp only [h1, cond_true, cond_false]; try rfl; done) | rfl) trivial))))) h

noncomputable def r23.v0 (s : SD) (a : Int) (b : Int) (c : Int) (d : Int) (e : Int) (f : Int) (n : Int) : Bool := (bif (r43.v 1 fun (i : Nat) => s) == 0 then (bif r36.v a b c d e f == 0 then (bif r37.v n then decide (r46.v s a b c d e f n ≥ 0) else false) else false) else false)

noncomputable def r23.v1 (s : SD) (a : Int) (b : Int) (c : Int) (d : Int) (e : Int) (f : Int) (n : Int) : Int := (bif (r43.v 1 fun (i : Nat) => s) == 0 then (bif r36.v a b c d e f == 0 then (bif r37.v n then 0 else 6) else r36.v a b c d e f) else r43.v 1 fun (i : Nat) => s)

noncomputable abbrev r23.h0 (s : SD) (a : Int) (b : Int) (c : Int) (d : Int) (e : Int) (f : Int) (n : Int) : AHeap := ([AObj.var (AV.agg [AV.str s.nm, AV.int IntKind.i64 s.x, AV.int IntKind.i64 s.y, AV.sl 1 s.nr fun (i : Nat) => AV.int IntKind.i64 (s.r i), AV.sl 1 s.nl fun (i : Nat) => AV.int IntKind.i64 (s.l i)]), AObj.var (AV.agg [AV.int IntKind.i64 a, AV.int IntKind.i64 b, AV.int IntKind.i64 c, AV.int IntKind.i64 d, AV.int IntKind.i64 e, AV.int IntKind.i64 f])])

theorem r23 (s : SD) (a : Int) (b : Int) (c : Int) (d : Int) (e : Int) (f : Int) (n : Int) (h : AHeap) : Ret Try.prog 23 ([s.av, bx a b c d e f, AV.int IntKind.i64 n]) h (AV.tup [(AV.bool (r23.v0 s a b c d e f n)), (AV.int IntKind.i64 (r23.v1 s a b c d e f n))]) h := by
  cases h1 : (r43.v 1 fun (i : Nat) => s) == 0 with
  | true =>
    have h1p := eq_of_beq h1
    cases h2 : r36.v a b c d e f == 0 with
    | true =>
      have h2p := eq_of_beq h2
      cases h3 : r37.v n with
      | true =>
        have o0 : s.nl = s.nr := by first | assumption | omega | (apply ok43' <;> first | assumption | omega) | (simp_all; done)
        have o1 : (r36.v a b c d e f == (0 : Int)) = true := by first | assumption | omega | (simp_all; done)
        have o2 : r37.v n = true := by first | assumption | omega | (simp_all; done)
        exact Ret.of_run1 mix [(AV.bool (r23.v0 s a b c d e f n)), (AV.int IntKind.i64 (r23.v1 s a b c d e f n))] Try.func23 rfl [.fret ([AV.sl 5 1 fun (i : Nat) => AV.agg [AV.str s.nm, AV.int IntKind.i64 s.x, AV.int IntKind.i64 s.y, AV.sl 1 s.nr fun (i : Nat) => AV.int IntKind.i64 (s.r i), AV.sl 1 s.nl fun (i : Nat) => AV.int IntKind.i64 (s.l i)]]) (r23.h0 s a b c d e f n) (AV.int IntKind.i64 (r43.v 1 fun (i : Nat) => s)) (r23.h0 s a b c d e f n), .b false, .ret (AV.int IntKind.i64 (r36.v a b c d e f)) (r23.h0 s a b c d e f n), .b false, .ret (AV.bool (r37.v n)) (r23.h0 s a b c d e f n), .b false, .ret (AV.int IntKind.i64 (r46.v s a b c d e f n)) (r23.h0 s a b c d e f n)] (by simp) (by simp) (kmp (by kernel_rfl) (And.intro (show Weak 2 ([AV.sl 5 1 fun (a : Nat) => (Col.ofList [AV.agg [AV.str s.nm, AV.int IntKind.i64 s.x, AV.int IntKind.i64 s.y, AV.sl 1 s.nr fun (i : Nat) => AV.int IntKind.i64 (s.r i), AV.sl 1 s.nl fun (i : Nat) => AV.int IntKind.i64 (s.l i)]]).get a]) (r23.h0 s a b c d e f n) ([AV.sl 5 1 fun (i : Nat) => AV.agg [AV.str s.nm, AV.int IntKind.i64 s.x, AV.int IntKind.i64 s.y, AV.sl 1 s.nr fun (i : Nat) => AV.int IntKind.i64 (s.r i), AV.sl 1 s.nl fun (i : Nat) => AV.int IntKind.i64 (s.l i)]]) (r23.h0 s a b c d e f n) from Weak.same (And.intro (same_one rfl) trivial)) (And.intro (r43 (1) (fun (i : Nat) => s) (show (1 : Nat) ≤ (9223372036854775807 : Nat) by first | decide | exact Int.NonNeg.mk _) (r23.h0 s a b c d e f n)) (And.intro (show (bnot ((r43.v 1 fun (i : Nat) => s) == 0)) = false by rw [h1]; try rfl) (And.intro (r36 (a) (b) (c) (d) (e) (f) (r23.h0 s a b c d e f n)) (And.intro (show (bnot (r36.v a b c d e f == 0)) = false by rw [h2]; try rfl) (And.intro (r37 (n) (r23.h0 s a b c d e f n)) (And.intro (show (bnot (r37.v n)) = false by rw [h3]; try rfl) (And.intro (r46 (s) (a) (b) (c) (d) (e) (f) (n) o0 o1 o2 (r23.h0 s a b c d e f n)) (And.intro (show (AV.bool (decide (r46.v s a b c d e f n ≥ 0))) = ((AV.bool (r23.v0 s a b c d e f n))) by first | (simp only [r23.v0, r23.v1, h1, h2, h3, cond_true, cond_false]; done) | (try unfold r23.v0; try unfold r23.v1; try simp only [h1, cond_true, cond_false]; try simp only [h2, cond_true, cond_false]; try simp only [h3, cond_true, cond_false]; try rfl; done) | rfl) (And.intro (show (AV.int IntKind.i64 0) = ((AV.int IntKind.i64 (r23.v1 s a b c d e f n))) by first | (simp only [r23.v0, r23.v1, h1, h2, h3, cond_true, cond_false]; done) | (try unfold r23.v0; try unfold r23.v1; try simp only [h1, cond_true, cond_false]; try simp only [h2, cond_true, cond_false]; try simp only [h3, cond_true, cond_false]; try rfl; done) | rfl) trivial))))))))))) h
      | false =>
        exact Ret.of_run1 mix [(AV.bool (r23.v0 s a b c d e f n)), (AV.int IntKind.i64 (r23.v1 s a b c d e f n))] Try.func23 rfl [.fret ([AV.sl 5 1 fun (i : Nat) => AV.agg [AV.str s.nm, AV.int IntKind.i64 s.x, AV.int IntKind.i64 s.y, AV.sl 1 s.nr fun (i : Nat) => AV.int IntKind.i64 (s.r i), AV.sl 1 s.nl fun (i : Nat) => AV.int IntKind.i64 (s.l i)]]) (r23.h0 s a b c d e f n) (AV.int IntKind.i64 (r43.v 1 fun (i : Nat) => s)) (r23.h0 s a b c d e f n), .b false, .ret (AV.int IntKind.i64 (r36.v a b c d e f)) (r23.h0 s a b c d e f n), .b false, .ret (AV.bool (r37.v n)) (r23.h0 s a b c d e f n), .b true] (by simp) (by simp) (kmp (by kernel_rfl) (And.intro (show Weak 2 ([AV.sl 5 1 fun (a : Nat) => (Col.ofList [AV.agg [AV.str s.nm, AV.int IntKind.i64 s.x, AV.int IntKind.i64 s.y, AV.sl 1 s.nr fun (i : Nat) => AV.int IntKind.i64 (s.r i), AV.sl 1 s.nl fun (i : Nat) => AV.int IntKind.i64 (s.l i)]]).get a]) (r23.h0 s a b c d e f n) ([AV.sl 5 1 fun (i : Nat) => AV.agg [AV.str s.nm, AV.int IntKind.i64 s.x, AV.int IntKind.i64 s.y, AV.sl 1 s.nr fun (i : Nat) => AV.int IntKind.i64 (s.r i), AV.sl 1 s.nl fun (i : Nat) => AV.int IntKind.i64 (s.l i)]]) (r23.h0 s a b c d e f n) from Weak.same (And.intro (same_one rfl) trivial)) (And.intro (r43 (1) (fun (i : Nat) => s) (show (1 : Nat) ≤ (9223372036854775807 : Nat) by first | decide | exact Int.NonNeg.mk _) (r23.h0 s a b c d e f n)) (And.intro (show (bnot ((r43.v 1 fun (i : Nat) => s) == 0)) = false by rw [h1]; try rfl) (And.intro (r36 (a) (b) (c) (d) (e) (f) (r23.h0 s a b c d e f n)) (And.intro (show (bnot (r36.v a b c d e f == 0)) = false by rw [h2]; try rfl) (And.intro (r37 (n) (r23.h0 s a b c d e f n)) (And.intro (show (bnot (r37.v n)) = true by rw [h3]; try rfl) (And.intro (show (AV.bool false) = ((AV.bool (r23.v0 s a b c d e f n))) by first | (simp only [r23.v0, r23.v1, h1, h2, h3, cond_true, cond_false]; done) | (try unfold r23.v0; try unfold r23.v1; try simp only [h1, cond_true, cond_false]; try simp only [h2, cond_true, cond_false]; try simp only [h3, cond_true, cond_false]; try rfl; done) | rfl) (And.intro (show (AV.int IntKind.i64 6) = ((AV.int IntKind.i64 (r23.v1 s a b c d e f n))) by first | (simp only [r23.v0, r23.v1, h1, h2, h3, cond_true, cond_false]; done) | (try unfold r23.v0; try unfold r23.v1; try simp only [h1, cond_true, cond_false]; try simp only [h2, cond_true, cond_false]; try simp only [h3, cond_true, cond_false]; try rfl; done) | rfl) trivial)))))))))) h
    | false =>
      have h2p := ne_of_beq_false h2
      exact Ret.of_run1 mix [(AV.bool (r23.v0 s a b c d e f n)), (AV.int IntKind.i64 (r23.v1 s a b c d e f n))] Try.func23 rfl [.fret ([AV.sl 5 1 fun (i : Nat) => AV.agg [AV.str s.nm, AV.int IntKind.i64 s.x, AV.int IntKind.i64 s.y, AV.sl 1 s.nr fun (i : Nat) => AV.int IntKind.i64 (s.r i), AV.sl 1 s.nl fun (i : Nat) => AV.int IntKind.i64 (s.l i)]]) (r23.h0 s a b c d e f n) (AV.int IntKind.i64 (r43.v 1 fun (i : Nat) => s)) (r23.h0 s a b c d e f n), .b false, .ret (AV.int IntKind.i64 (r36.v a b c d e f)) (r23.h0 s a b c d e f n), .b true] (by simp) (by simp) (kmp (by kernel_rfl) (And.intro (show Weak 2 ([AV.sl 5 1 fun (a : Nat) => (Col.ofList [AV.agg [AV.str s.nm, AV.int IntKind.i64 s.x, AV.int IntKind.i64 s.y, AV.sl 1 s.nr fun (i : Nat) => AV.int IntKind.i64 (s.r i), AV.sl 1 s.nl fun (i : Nat) => AV.int IntKind.i64 (s.l i)]]).get a]) (r23.h0 s a b c d e f n) ([AV.sl 5 1 fun (i : Nat) => AV.agg [AV.str s.nm, AV.int IntKind.i64 s.x, AV.int IntKind.i64 s.y, AV.sl 1 s.nr fun (i : Nat) => AV.int IntKind.i64 (s.r i), AV.sl 1 s.nl fun (i : Nat) => AV.int IntKind.i64 (s.l i)]]) (r23.h0 s a b c d e f n) from Weak.same (And.intro (same_one rfl) trivial)) (And.intro (r43 (1) (fun (i : Nat) => s) (show (1 : Nat) ≤ (9223372036854775807 : Nat) by first | decide | exact Int.NonNeg.mk _) (r23.h0 s a b c d e f n)) (And.intro (show (bnot ((r43.v 1 fun (i : Nat) => s) == 0)) = false by rw [h1]; try rfl) (And.intro (r36 (a) (b) (c) (d) (e) (f) (r23.h0 s a b c d e f n)) (And.intro (show (bnot (r36.v a b c d e f == 0)) = true by rw [h2]; try rfl) (And.intro (show (AV.bool false) = ((AV.bool (r23.v0 s a b c d e f n))) by first | (simp only [r23.v0, r23.v1, h1, h2, cond_true, cond_false]; done) | (try unfold r23.v0; try unfold r23.v1; try simp only [h1, cond_true, cond_false]; try simp only [h2, cond_true, cond_false]; try rfl; done) | rfl) (And.intro (show (AV.int IntKind.i64 (r36.v a b c d e f)) = ((AV.int IntKind.i64 (r23.v1 s a b c d e f n))) by first | (simp only [r23.v0, r23.v1, h1, h2, cond_true, cond_false]; done) | (try unfold r23.v0; try unfold r23.v1; try simp only [h1, cond_true, cond_false]; try simp only [h2, cond_true, cond_false]; try rfl; done) | rfl) trivial)))))))) h
  | false =>
    have h1p := ne_of_beq_false h1
    exact Ret.of_run1 mix [(AV.bool (r23.v0 s a b c d e f n)), (AV.int IntKind.i64 (r23.v1 s a b c d e f n))] Try.func23 rfl [.fret ([AV.sl 5 1 fun (i : Nat) => AV.agg [AV.str s.nm, AV.int IntKind.i64 s.x, AV.int IntKind.i64 s.y, AV.sl 1 s.nr fun (i : Nat) => AV.int IntKind.i64 (s.r i), AV.sl 1 s.nl fun (i : Nat) => AV.int IntKind.i64 (s.l i)]]) (r23.h0 s a b c d e f n) (AV.int IntKind.i64 (r43.v 1 fun (i : Nat) => s)) (r23.h0 s a b c d e f n), .b true] (by simp) (by simp) (kmp (by kernel_rfl) (And.intro (show Weak 2 ([AV.sl 5 1 fun (a : Nat) => (Col.ofList [AV.agg [AV.str s.nm, AV.int IntKind.i64 s.x, AV.int IntKind.i64 s.y, AV.sl 1 s.nr fun (i : Nat) => AV.int IntKind.i64 (s.r i), AV.sl 1 s.nl fun (i : Nat) => AV.int IntKind.i64 (s.l i)]]).get a]) (r23.h0 s a b c d e f n) ([AV.sl 5 1 fun (i : Nat) => AV.agg [AV.str s.nm, AV.int IntKind.i64 s.x, AV.int IntKind.i64 s.y, AV.sl 1 s.nr fun (i : Nat) => AV.int IntKind.i64 (s.r i), AV.sl 1 s.nl fun (i : Nat) => AV.int IntKind.i64 (s.l i)]]) (r23.h0 s a b c d e f n) from Weak.same (And.intro (same_one rfl) trivial)) (And.intro (r43 (1) (fun (i : Nat) => s) (show (1 : Nat) ≤ (9223372036854775807 : Nat) by first | decide | exact Int.NonNeg.mk _) (r23.h0 s a b c d e f n)) (And.intro (show (bnot ((r43.v 1 fun (i : Nat) => s) == 0)) = true by rw [h1]; try rfl) (And.intro (show (AV.bool false) = ((AV.bool (r23.v0 s a b c d e f n))) by first | (simp only [r23.v0, r23.v1, h1, cond_true, cond_false]; done) | (try unfold r23.v0; try unfold r23.v1; try simp only [h1, cond_true, cond_false]; try rfl; done) | rfl) (And.intro (show (AV.int IntKind.i64 (r43.v 1 fun (i : Nat) => s)) = ((AV.int IntKind.i64 (r23.v1 s a b c d e f n))) by first | (simp only [r23.v0, r23.v1, h1, cond_true, cond_false]; done) | (try unfold r23.v0; try unfold r23.v1; try simp only [h1, cond_true, cond_false]; try rfl; done) | rfl) trivial)))))) h

inductive L25.O where
  | e0 (a0 : Int)
  | e1

noncomputable def L25.T (s : SD) (a : Int) (b : Int) (c : Int) (d : Int) (e : Int) (f : Int) (i : Int) : List AV := mkT 36 [(2, AV.ptr 0 1 5 0 0), (4, AV.int IntKind.i64 0), (5, AV.bool false), (6, AV.int IntKind.i64 (r16.v s.x s.y a b d e)), (7, AV.int IntKind.i64 i)]

noncomputable def L25.H (s : SD) (a : Int) (b : Int) (c : Int) (d : Int) (e : Int) (f : Int) (i : Int) : AHeap := [AObj.var s.av, AObj.var (bx a b c d e f)]

def L25.inv (s : SD) (a : Int) (b : Int) (c : Int) (d : Int) (e : Int) (f : Int) (i : Int) : Prop := 0 ≤ i ∧ i ≤ (↑s.nr : Int)

noncomputable def L25.mu (s : SD) (a : Int) (b : Int) (c : Int) (d : Int) (e : Int) (f : Int) (i : Int) : Nat := ((↑s.nr : Int) - i).toNat

noncomputable def L25.E : L25.O → Exit
  | .e0 a0 => Exit.ret
  | .e1 => Exit.exit 0

noncomputable def L25.X (s : SD) (a : Int) (b : Int) (c : Int) (d : Int) (e : Int) (f : Int) : L25.O → List AV
  | .e0 a0 => mkT 36 [(4, (AV.int IntKind.i64 a0)), (5, (AV.bool true))]
  | .e1 => mkT 36 []

noncomputable def L25.XH (s : SD) (a : Int) (b : Int) (c : Int) (d : Int) (e : Int) (f : Int) : L25.O → AHeap
  | .e0 a0 => ([AObj.var (AV.agg [AV.str s.nm, AV.int IntKind.i64 s.x, AV.int IntKind.i64 s.y, AV.sl 1 s.nr fun (i : Nat) => AV.int IntKind.i64 (s.r i), AV.sl 1 s.nl fun (i : Nat) => AV.int IntKind.i64 (s.l i)]), AObj.var (AV.agg [AV.int IntKind.i64 a, AV.int IntKind.i64 b, AV.int IntKind.i64 c, AV.int IntKind.i64 d, AV.int IntKind.i64 e, AV.int IntKind.i64 f])])
  | .e1 => ([AObj.var (AV.agg [AV.str s.nm, AV.int IntKind.i64 s.x, AV.int IntKind.i64 s.y, AV.sl 1 s.nr fun (i : Nat) => AV.int IntKind.i64 (s.r i), AV.sl 1 s.nl fun (i : Nat) => AV.int IntKind.i64 (s.l i)]), AObj.var (AV.agg [AV.int IntKind.i64 a, AV.int IntKind.i64 b, AV.int IntKind.i64 c, AV.int IntKind.i64 d, AV.int IntKind.i64 e, AV.int IntKind.i64 f])])

noncomputable def L25.N (s : SD) (a : Int) (b : Int) (d : Int) (e : Int) : Nat → Int → L25.O
  | 0, _ => .e0 default
  | k_ + 1, i => (bif decide (i < (↑s.nr : Int)) then (bif decide (IntKind.i64.wrap (IntKind.i64.wrap (2 * s.r i.toNat) * IntKind.i64.wrap (2 * s.r i.toNat)) ≥ r16.v s.x s.y a b d e) then (.e0 (s.l i.toNat)) else (L25.N s a b d e k_ (IntKind.i64.wrap (i + 1)))) else (.e1))

noncomputable def L25.run (s : SD) (a : Int) (b : Int) (d : Int) (e : Int) (i : Int) : L25.O := L25.N s a b d e ((((↑s.nr : Int) - i).toNat) + 1) i

theorem L25.nx (s : SD) (a : Int) (b : Int) (c : Int) (d : Int) (e : Int) (f : Int) {k_ : Nat} {z_ : Int} {h_ : AHeap} (s_ : Int) (h1 : L25.inv s a b c d e f s_) (h2 : L25.mu s a b c d e f s_ < L25.mu s a b c d e f z_) (h3 : L25.N s a b d e k_ s_ = L25.N s a b d e (k_ + 1) z_) (h4 : PopOk (L25.H s a b c d e f z_) h_ (L25.T s a b c d e f s_) (L25.H s a b c d e f s_)) : LNextP (fun (z_ : Int) => L25.T s a b c d e f z_) (fun (z_ : Int) => L25.H s a b c d e f z_) (fun (z_ : Int) => L25.inv s a b c d e f z_) (fun (z_ : Int) => L25.mu s a b c d e f z_) (fun (k_ : Nat) (z_ : Int) => L25.N s a b d e k_ z_) k_ z_ (L25.T s a b c d e f s_) h_ := LNextP.mk (Tm := (fun (z_ : Int) => L25.T s a b c d e f z_)) (Hp := (fun (z_ : Int) => L25.H s a b c d e f z_)) (inv := (fun (z_ : Int) => L25.inv s a b c d e f z_)) (mu := (fun (z_ : Int) => L25.mu s a b c d e f z_)) (l := (fun (k_ : Nat) (z_ : Int) => L25.N s a b d e k_ z_)) s_ h1 h2 h3 h4

theorem L25.en (s : SD) (a : Int) (b : Int) (c : Int) (d : Int) (e : Int) (f : Int) {k_ : Nat} {z_ : Int} {h_ : AHeap} (o_ : L25.O) (h3 : L25.N s a b d e (k_ + 1) z_ = o_) (h4 : PopOk (L25.H s a b c d e f z_) h_ (L25.X s a b c d e f o_) (L25.XH s a b c d e f o_)) : LEndP (fun (z_ : Int) => L25.H s a b c d e f z_) (fun (k_ : Nat) (z_ : Int) => L25.N s a b d e k_ z_) L25.E (L25.X s a b c d e f) (L25.XH s a b c d e f) k_ z_ (L25.E o_) (L25.X s a b c d e f o_) h_ := LEndP.mk (Hp := (fun (z_ : Int) => L25.H s a b c d e f z_)) (l := (fun (k_ : Nat) (z_ : Int) => L25.N s a b d e k_ z_)) (oE := L25.E) (oT := L25.X s a b c d e f) (oH := L25.XH s a b c d e f) o_ h3 h4

theorem L25.spec (s : SD) (a : Int) (b : Int) (c : Int) (d : Int) (e : Int) (f : Int) (hl : s.nl = s.nr) (hr : s.nr ≤ 9223372036854775807) (k_ : Nat) (z_ : Int) (hi_ : L25.inv s a b c d e f z_) (hm_ : L25.mu s a b c d e f z_ < k_) : LoopTo Try.prog (loopN Try.f25 0) (L25.T s a b c d e f z_) (L25.H s a b c d e f z_) (L25.E (L25.N s a b d e k_ z_)) (L25.X s a b c d e f (L25.N s a b d e k_ z_)) (L25.XH s a b c d e f (L25.N s a b d e k_ z_)) := by
  refine LoopTo.fuelP mix (fun (z_ : Int) => L25.T s a b c d e f z_) (fun (z_ : Int) => L25.H s a b c d e f z_) (fun (z_ : Int) => L25.inv s a b c d e f z_) (fun (z_ : Int) => L25.mu s a b c d e f z_) (fun (k_ : Nat) (z_ : Int) => L25.N s a b d e k_ z_) L25.E (L25.X s a b c d e f) (L25.XH s a b c d e f) (others 36 [2, 4, 5, 6, 7]) (others 36 [4, 5]) (others 36 []) ?_ k_ z_ hi_ hm_
  clear hm_ hi_ z_ k_
  intro k_ z_ hinv hmu
  revert hinv hmu; revert z_; intro i hinv hmu
  have hinv : 0 ≤ i ∧ i ≤ (↑s.nr : Int) := hinv
  have hmu : (((↑s.nr : Int) - i).toNat) < k_ + 1 := hmu
  cases h1 : decide (i < (↑s.nr : Int)) with
  | true =>
    have h1p := of_decide_eq_true h1
    have o0 : (0 : Int) ≤ i := by first | assumption | omega | (simp_all; done)
    have o1 : i < (↑s.nr : Int) := by first | assumption | omega | (simp_all; done)
    cases h2 : decide (IntKind.i64.wrap (IntKind.i64.wrap (2 * s.r i.toNat) * IntKind.i64.wrap (2 * s.r i.toNat)) ≥ r16.v s.x s.y a b d e) with
    | true =>
      have h2p := of_decide_eq_true h2
      have o2 : i < (↑s.nl : Int) := by first | assumption | omega | (simp_all; done)
      exact ⟨[.b true, .b true], kmp (by kernel_rfl) (And.intro h1 (And.intro (And.intro o0 o1) (And.intro h2 (And.intro (And.intro o0 o2) (L25.en s a b c d e f (k_ := k_) (z_ := i) (.e0 (s.l i.toNat) : L25.O) (by first | (simp only [L25.N, h1, h2, cond_true, cond_false]; done) | (try unfold L25.N; try simp only [h1, cond_true, cond_false]; try simp only [h2, cond_true, cond_false]; try rfl; done)) PopOk.same)))))⟩
    | false =>
      have h2p := of_decide_eq_false h2
      try have := IntWalk.i64_in (i + 1) (by omega)
      have o3 : (0 : Int) ≤ IntKind.i64.wrap (i + (1 : Int)) := by first | assumption | omega | (simp_all; done)
      have o4 : IntKind.i64.wrap (i + (1 : Int)) ≤ (↑s.nr : Int) := by first | assumption | omega | (simp_all; done)
      have o5 : ((↑s.nr : Int) - IntKind.i64.wrap (i + (1 : Int))).toNat < ((↑s.nr : Int) - i).toNat := by first | assumption | omega | (simp_all; done)
      exact ⟨[.b true, .b false], kmp (by kernel_rfl) (And.intro h1 (And.intro (And.intro o0 o1) (And.intro h2 (L25.nx s a b c d e f (k_ := k_) (z_ := i) (IntKind.i64.wrap (i + 1)) (And.intro o3 o4) o5 (by first | (simp only [L25.N, h1, h2, cond_true, cond_false]; done) | (try unfold L25.N; try simp only [h1, cond_true, cond_false]; try simp only [h2, cond_true, cond_false]; try rfl; done)) PopOk.same))))⟩
  | false =>
    have h1p := of_decide_eq_false h1
    exact ⟨[.b false], kmp (by kernel_rfl) (And.intro h1 (L25.en s a b c d e f (k_ := k_) (z_ := i) (.e1 : L25.O) (by first | (simp only [L25.N, h1, cond_true, cond_false]; done) | (try unfold L25.N; try simp only [h1, cond_true, cond_false]; try rfl; done)) PopOk.same))⟩

theorem L25.e0 (s : SD) (a : Int) (b : Int) (c : Int) (d : Int) (e : Int) (f : Int) (hl : s.nl = s.nr) (hr : s.nr ≤ 9223372036854775807) (i : Int) (hinv : L25.inv s a b c d e f i) (a0 : Int) (hN : L25.run s a b d e i = (.e0 a0 : L25.O)) : LoopTo Try.prog (loopN Try.f25 0) (L25.T s a b c d e f i) (L25.H s a b c d e f i) (Exit.ret) (L25.X s a b c d e f (.e0 a0 : L25.O)) (L25.XH s a b c d e f (.e0 a0 : L25.O)) := by
  have h_ := L25.spec s a b c d e f hl hr ((((↑s.nr : Int) - i).toNat) + 1) i hinv (Nat.lt_succ_self _)
  unfold L25.run at hN
  simp only [hN] at h_
  exact h_

theorem L25.e1 (s : SD) (a : Int) (b : Int) (c : Int) (d : Int) (e : Int) (f : Int) (hl : s.nl = s.nr) (hr : s.nr ≤ 9223372036854775807) (i : Int) (hinv : L25.inv s a b c d e f i) (hN : L25.run s a b d e i = (.e1 : L25.O)) : LoopTo Try.prog (loopN Try.f25 0) (L25.T s a b c d e f i) (L25.H s a b c d e f i) (Exit.exit 0) (L25.X s a b c d e f (.e1 : L25.O)) (L25.XH s a b c d e f (.e1 : L25.O)) := by
  have h_ := L25.spec s a b c d e f hl hr ((((↑s.nr : Int) - i).toNat) + 1) i hinv (Nat.lt_succ_self _)
  unfold L25.run at hN
  simp only [hN] at h_
  exact h_

noncomputable def r25.v0 (s : SD) (a : Int) (b : Int) (d : Int) (e : Int) : Int := (match L25.run s a b d e 0 with | .e0 h1d0 => h1d0 | .e1 => 0 )

noncomputable def r25.v1 (s : SD) (a : Int) (b : Int) (d : Int) (e : Int) : Bool := (match L25.run s a b d e 0 with | .e0 h1d0 => true | .e1 => false )

noncomputable abbrev r25.h0 (s : SD) (a : Int) (b : Int) (c : Int) (d : Int) (e : Int) (f : Int) : AHeap := ([AObj.var (AV.agg [AV.str s.nm, AV.int IntKind.i64 s.x, AV.int IntKind.i64 s.y, AV.sl 1 s.nr fun (i : Nat) => AV.int IntKind.i64 (s.r i), AV.sl 1 s.nl fun (i : Nat) => AV.int IntKind.i64 (s.l i)]), AObj.var (AV.agg [AV.int IntKind.i64 a, AV.int IntKind.i64 b, AV.int IntKind.i64 c, AV.int IntKind.i64 d, AV.int IntKind.i64 e, AV.int IntKind.i64 f])])

theorem r25 (s : SD) (a : Int) (b : Int) (c : Int) (d : Int) (e : Int) (f : Int) (hl : s.nl = s.nr) (h : AHeap) : Ret Try.prog 25 ([s.av, bx a b c d e f]) h (AV.tup [(AV.int IntKind.i64 (r25.v0 s a b d e)), (AV.bool (r25.v1 s a b d e))]) h := by
  have o0 : s.nl = s.nr := by first | assumption | omega | (simp_all; done)
  have o1 : s.nr ≤ (9223372036854775807 : Nat) := by first | assumption | omega | (simp_all; done)
  have o2 : (0 : Int) ≤ (↑s.nr : Int) := by first | assumption | omega | (simp_all; done)
  cases h1 : L25.run s a b d e 0 with
  | e0 h1d0 =>
    exact Ret.of_run1 mix [(AV.int IntKind.i64 (r25.v0 s a b d e)), (AV.bool (r25.v1 s a b d e))] Try.func25 rfl [.ret (AV.int IntKind.i64 (r16.v s.x s.y a b d e)) (r25.h0 s a b c d e f), .loop (others 36 [2, 4, 5, 6, 7]) (Exit.ret) (L25.X s a b c d e f (L25.O.e0 h1d0)) (L25.XH s a b c d e f (L25.O.e0 h1d0))] (by simp) (by simp) (kmp (by kernel_rfl) (And.intro (r16 (s.x) (s.y) (a) (b) (c) (d) (e) (f) (r25.h0 s a b c d e f)) (And.intro (L25.e0 (s) (a) (b) (c) (d) (e) (f) o0 o1 (0) (And.intro (show (0 : Int) ≤ (0 : Int) by first | decide | exact Int.NonNeg.mk _) o2) h1d0 h1) (And.intro (show (AV.int IntKind.i64 h1d0) = ((AV.int IntKind.i64 (r25.v0 s a b d e))) by first | (simp only [r25.v0, r25.v1, h1, cond_true, cond_false]; done) | (try unfold r25.v0; try unfold r25.v1; try simp only [h1, cond_true, cond_false]; try rfl; done) | rfl) (And.intro (show (AV.bool true) = ((AV.bool (r25.v1 s a b d e))) by first | (simp only [r25.v0, r25.v1, h1, cond_true, cond_false]; done) | (try unfold r25.v0; try unfold r25.v1; try simp only [h1, cond_true, cond_false]; try rfl; done) | rfl) trivial))))) h
  | e1 =>
    exact Ret.of_run1 mix [(AV.int IntKind.i64 (r25.v0 s a b d e)), (AV.bool (r25.v1 s a b d e))] Try.func25 rfl [.ret (AV.int IntKind.i64 (r16.v s.x s.y a b d e)) (r25.h0 s a b c d e f), .loop (others 36 [2, 4, 5, 6, 7]) (Exit.exit 0) (L25.X s a b c d e f L25.O.e1) (L25.XH s a b c d e f L25.O.e1)] (by simp) (by simp) (kmp (by kernel_rfl) (And.intro (r16 (s.x) (s.y) (a) (b) (c) (d) (e) (f) (r25.h0 s a b c d e f)) (And.intro (L25.e1 (s) (a) (b) (c) (d) (e) (f) o0 o1 (0) (And.intro (show (0 : Int) ≤ (0 : Int) by first | decide | exact Int.NonNeg.mk _) o2) h1) (And.intro (show (AV.int IntKind.i64 0) = ((AV.int IntKind.i64 (r25.v0 s a b d e))) by first | (simp only [r25.v0, r25.v1, h1, cond_true, cond_false]; done) | (try unfold r25.v0; try unfold r25.v1; try simp only [h1, cond_true, cond_false]; try rfl; done) | rfl) (And.intro (show (AV.bool false) = ((AV.bool (r25.v1 s a b d e))) by first | (simp only [r25.v0, r25.v1, h1, cond_true, cond_false]; done) | (try unfold r25.v0; try unfold r25.v1; try simp only [h1, cond_true, cond_false]; try rfl; done) | rfl) trivial))))) h

noncomputable def r26.v (s : SD) (a : Int) (b : Int) (c : Int) (d : Int) (e : Int) (f : Int) (n : Int) : Bool := (bif r25.v1 s a b d e then decide (r18.v a b c d e f n ≤ r25.v0 s a b d e) else false)

noncomputable abbrev r26.h0 (s : SD) (a : Int) (b : Int) (c : Int) (d : Int) (e : Int) (f : Int) (n : Int) : AHeap := ([AObj.var (AV.agg [AV.str s.nm, AV.int IntKind.i64 s.x, AV.int IntKind.i64 s.y, AV.sl 1 s.nr fun (i : Nat) => AV.int IntKind.i64 (s.r i), AV.sl 1 s.nl fun (i : Nat) => AV.int IntKind.i64 (s.l i)]), AObj.var (AV.agg [AV.int IntKind.i64 a, AV.int IntKind.i64 b, AV.int IntKind.i64 c, AV.int IntKind.i64 d, AV.int IntKind.i64 e, AV.int IntKind.i64 f])])

theorem r26 (s : SD) (a : Int) (b : Int) (c : Int) (d : Int) (e : Int) (f : Int) (n : Int) (hl : s.nl = s.nr) (h : AHeap) : Ret Try.prog 26 ([s.av, bx a b c d e f, AV.int IntKind.i64 n]) h (AV.bool (r26.v s a b c d e f n)) h := by
  have o0 : s.nl = s.nr := by first | assumption | omega | (simp_all; done)
  cases h1 : r25.v1 s a b d e with
  | true =>
    exact Ret.of_run1 mix [(AV.bool (r26.v s a b c d e f n))] Try.func26 rfl [.ret (AV.tup [AV.int IntKind.i64 (r25.v0 s a b d e), AV.bool (r25.v1 s a b d e)]) (r26.h0 s a b c d e f n), .b true, .b true, .b true, .ret (AV.int IntKind.i64 (r18.v a b c d e f n)) (r26.h0 s a b c d e f n), .b true, .b true, .b true] (by simp) (by simp) (kmp (by kernel_rfl) (And.intro (r25 (s) (a) (b) (c) (d) (e) (f) o0 (r26.h0 s a b c d e f n)) (And.intro h1 (And.intro h1 (And.intro h1 (And.intro (r18 (a) (b) (c) (d) (e) (f) (n) (r26.h0 s a b c d e f n)) (And.intro h1 (And.intro h1 (And.intro h1 (And.intro (show (AV.bool (decide (r18.v a b c d e f n ≤ r25.v0 s a b d e))) = ((AV.bool (r26.v s a b c d e f n))) by first | (simp only [r26.v, h1, cond_true, cond_false]; done) | (try unfold r26.v; try simp only [h1, cond_true, cond_false]; try rfl; done) | rfl) trivial)))))))))) h
  | false =>
    exact Ret.of_run1 mix [(AV.bool (r26.v s a b c d e f n))] Try.func26 rfl [.ret (AV.tup [AV.int IntKind.i64 (r25.v0 s a b d e), AV.bool (r25.v1 s a b d e)]) (r26.h0 s a b c d e f n), .b false, .b false, .b false, .b false, .b false, .b false] (by simp) (by simp) (kmp (by kernel_rfl) (And.intro (r25 (s) (a) (b) (c) (d) (e) (f) o0 (r26.h0 s a b c d e f n)) (And.intro h1 (And.intro h1 (And.intro h1 (And.intro h1 (And.intro h1 (And.intro h1 (And.intro (show (AV.bool false) = ((AV.bool (r26.v s a b c d e f n))) by first | (simp only [r26.v, h1, cond_true, cond_false]; done) | (try unfold r26.v; try simp only [h1, cond_true, cond_false]; try rfl; done) | rfl) trivial))))))))) h

end Go.Proofs.Ytgmppoappaolkaa

open Go

namespace Go.Proofs.Ytgmppoappaolkaa

set_option linter.unusedVariables false

set_option linter.unusedSimpArgs false

/-- A valid stand. -/
structure StOk (s : SD) : Prop where
  nl : s.nl = s.nr
  n1 : 1 ≤ s.nr
  n16 : s.nr ≤ 16
  r1 : ∀ i, i < s.nr → 1 ≤ s.r i
  r2 : ∀ i, i < s.nr → s.r i ≤ 500000
  l1 : ∀ i, i < s.nr → 0 ≤ s.l i
  l2 : ∀ i, i < s.nr → s.l i ≤ 1000000000000000
  x1 : r39.v s.x = true
  y1 : r39.v s.y = true

theorem good_of {s : SD} {i : Nat} (h : badR s i = false) : 1 ≤ s.r i ∧ s.r i ≤ 500000 ∧ 0 ≤ s.l i ∧ s.l i ≤ 1000000000000000 := by
  unfold badR at h
  simp only [Bool.or_eq_false_iff, decide_eq_false_iff_not] at h
  omega

theorem stOk_of {s : SD} (h65 : r65.v s = false) (h64 : r64.v s = false) : StOk s := by
  have h4 := r64_false h64
  unfold r65.v at h65
  rw [L65_run, srch_any] at h65
  cases hx : r39.v s.x <;> cases hy : r39.v s.y <;> cases ha : anyN s.nr (badR s) <;> simp [hx, hy, ha] at h65
  have hb := fun i hi => good_of (anyN_false.1 ha i hi)
  exact ⟨h4.2.2, h4.1, h4.2.1, fun i hi => (hb i hi).1, fun i hi => (hb i hi).2.1, fun i hi => (hb i hi).2.2.1, fun i hi => (hb i hi).2.2.2, hx, hy⟩

theorem ok43s {n : Nat} {g : Nat → SD} (hn : n ≤ 9223372036854775807) (h : r43.v n g = 0) : ∀ i, i < n → StOk (g i) := by
  intro i hi
  rw [r43_any hn] at h
  obtain ⟨_, h⟩ := bif_else h (by decide)
  obtain ⟨h2, h⟩ := bif_else h (by decide)
  obtain ⟨h3, _⟩ := bif_else h (by decide)
  exact stOk_of (anyN_false.1 h3 i hi) (anyN_false.1 h2 i hi)

variable {s : SD} {a b c d e f : Int}

/-- What a stand lifts: the limit of the first radius that reaches. -/
noncomputable def reach (s : SD) (a b d e : Int) (i : Nat) : Bool := decide (4 * (s.r i * s.r i) ≥ r40.v s.x s.y a b d e)

theorem sq_le {r : Int} (h1 : 1 ≤ r) (h2 : r ≤ 500000) : 0 ≤ r * r ∧ r * r ≤ 250000000000 := prod2 (P := 500000) (Q := 500000) (by omega) h2 (by omega) h2

theorem r69_reach (h : StOk s) {i : Nat} (hi : i < s.nr) : r69.v s a b d e (s.r i) = reach s a b d e i := by
  have h1 := h.r1 i hi
  have h2 := h.r2 i hi
  have h3 := sq_le h1 h2
  unfold r69.v reach
  have e1 : 4 * s.r i * s.r i = 4 * (s.r i * s.r i) := Int.mul_assoc _ _ _
  rw [IntWalk.i64_in (4 * s.r i) (by omega), e1, IntWalk.i64_in (4 * (s.r i * s.r i)) (by omega)]

theorem L25_run (h : StOk s) : L25.run s a b d e 0 = srch (reach s a b d e) (fun i => L25.O.e0 (s.l i)) .e1 0 s.nr := by
  have e16 : r16.v = r40.v := rfl
  have := search_eq (n := s.nr) (reach s a b d e) (fun i => L25.O.e0 (s.l i)) .e1 (N := L25.N s a b d e) (fun k i hi => by
    simp only [L25.N, wrap_succ s.hnr hi, Int.toNat_natCast]; rw [decide_eq_true (by omega)]
    have h1 := h.r1 i hi
    have h2 := h.r2 i hi
    have h3 := sq_le h1 h2
    have e1 : 2 * s.r i * (2 * s.r i) = 4 * (s.r i * s.r i) := by
      rw [Int.mul_assoc, Int.mul_left_comm (s.r i) 2, ← Int.mul_assoc]; rfl
    unfold reach
    show (bif true then (bif decide (IntKind.i64.wrap (IntKind.i64.wrap (2 * s.r i) * IntKind.i64.wrap (2 * s.r i)) ≥ r16.v s.x s.y a b d e) then L25.O.e0 (s.l i) else L25.N s a b d e k ((i + 1 : Nat) : Int)) else L25.O.e1) = _
    rw [IntWalk.i64_in (2 * s.r i) (by omega), e1, IntWalk.i64_in (4 * (s.r i * s.r i)) (by omega), e16]
    rfl) (fun k => by simp [L25.N]) (s.nr + 1) 0 (Nat.zero_le _) (by omega)
  simpa [L25.run, L25.mu] using this

/-- What a valid stand lifts at a box. -/
theorem cap_cases (h : StOk s) : (r45.v s a b d e = -1 ∧ r25.v0 s a b d e = 0 ∧ r25.v1 s a b d e = false) ∨
    ∃ z, 0 ≤ z ∧ z ≤ 1000000000000000 ∧ r45.v s a b d e = z ∧ r25.v0 s a b d e = z ∧ r25.v1 s a b d e = true := by
  have hreach : ∀ i, i < s.nr → r69.v s a b d e (s.r i) = reach s a b d e i := fun i hi => r69_reach h hi
  unfold r45.v r25.v0 r25.v1
  rw [L25_run h]
  rcases r68_cases (s := s) (a := a) (b := b) (d := d) (e := e) with ⟨h1, h2⟩ | ⟨i, h1, h2, h3, h4⟩
  · left
    rw [h2]
    rcases srch_cases (reach s a b d e) (fun i => L25.O.e0 (s.l i)) .e1 s.nr 0 with ⟨_, k2⟩ | ⟨j, _, k2, k3, _, _⟩
    · rw [k2]; exact ⟨rfl, rfl, rfl⟩
    · rw [← hreach j (by omega), h1 j (by omega)] at k3; cases k3
  · right
    rw [h4]
    refine ⟨s.l i, h.l1 i h1, h.l2 i h1, ?_⟩
    rw [decide_eq_false (by omega)]
    rcases srch_cases (reach s a b d e) (fun i => L25.O.e0 (s.l i)) .e1 s.nr 0 with ⟨k1, _⟩ | ⟨j, _, k2, k3, k4, k5⟩
    · have := k1 i (Nat.zero_le _) (by omega); rw [← hreach i h1, h2] at this; cases this
    · have hj : j = i := by
        rcases Nat.lt_trichotomy i j with q | q | q
        · have := k4 i (Nat.zero_le _) q; rw [← hreach i h1, h2] at this; cases this
        · exact q.symm
        · rw [← hreach j (by omega), h3 j q] at k3; cases k3
      subst hj
      rw [k5]
      exact ⟨by simp, rfl, rfl⟩

theorem mass_le {n : Int} (hk : BoxOk a b c d e f) (hn : r37.v n = true) : 0 ≤ massOf a b c d e f n ∧ massOf a b c d e f n ≤ 80000000000000000 := by
  have ⟨n1, n2⟩ := dens_ok hn
  obtain ⟨v1, v2, v3, v4⟩ := vol_le hk
  have := prod2 (p := vol a b c d e f) (q := n) v3 v4 (by omega) n2
  unfold massOf
  omega

theorem lift_eq {n : Int} (h : StOk s) (hk : BoxOk a b c d e f) (hn : r37.v n = true) : decide (r46.v s a b c d e f n ≥ 0) = r26.v s a b c d e f n := by
  have hm := mass_le hk hn
  unfold r46.v r26.v
  rw [refMass hk hn]
  rcases cap_cases (a := a) (b := b) (d := d) (e := e) h with ⟨h1, h2, h3⟩ | ⟨z, z0, z1, h1, h2, h3⟩
  · rw [h1, h3]; rfl
  · rw [h1, h2, h3, decide_eq_false (show ¬ z < 0 by omega)]
    simp only [cond_true, cond_false]
    rw [IntWalk.i64_in (z - massOf a b c d e f n) (by omega)]
    by_cases q : massOf a b c d e f n ≤ z
    · rw [decide_eq_true q, decide_eq_true (by omega)]
    · rw [decide_eq_false q, decide_eq_false (by omega)]

end Go.Proofs.Ytgmppoappaolkaa

open Go

namespace Go.Proofs.Ytgmppoappaolkaa

set_option linter.unusedVariables false

set_option linter.unusedSimpArgs false

theorem ok20z {n : Nat} {g : Nat → SD} (h : (r20.v n g == 0) = true) : r43.v n g = 0 := by
  have h := eq_of_beq h
  unfold r20.v at h
  obtain ⟨_, h⟩ := bif_else h (by decide)
  cases hz : r43.v n g == 0 with
  | true => exact eq_of_beq hz
  | false => rw [hz] at h; exact h

theorem ok20 {n : Nat} {g : Nat → SD} (hn : n ≤ 9223372036854775807) (h : (r20.v n g == 0) = true) : ∀ i, i < n → (g i).nl = (g i).nr :=
  fun i hi => (ok43s hn (ok20z h) i hi).nl

end Go.Proofs.Ytgmppoappaolkaa

open Go

namespace Go.Proofs.Ytgmppoappaolkaa

set_option linter.unusedSimpArgs false

set_option linter.unusedVariables false

set_option maxHeartbeats 0

set_option maxRecDepth 100000

end Go.Proofs.Ytgmppoappaolkaa

open Go

namespace Go.Proofs.Ytgmppoappaolkaa

set_option linter.unusedVariables false

set_option linter.unusedSimpArgs false

end Go.Proofs.Ytgmppoappaolkaa

open Go

namespace Go.Proofs.Ytgmppoappaolkaa

set_option linter.unusedSimpArgs false

set_option linter.unusedVariables false

set_option maxHeartbeats 0

set_option maxRecDepth 100000

end Go.Proofs.Ytgmppoappaolkaa

open Go

namespace Go.Proofs.Ytgmppoappaolkaa

set_option linter.unusedVariables false

set_option linter.unusedSimpArgs false

variable {s : SD} {a b c d e f m : Int} {n : Nat} {g : Nat → SD}

theorem one_ok (hn : n ≤ 9223372036854775807) (h : r43.v n g = 0) {i : Nat} (hi : i < n) : r43.v 1 (fun _ => g i) = 0 := by
  rw [r43_any hn] at h
  obtain ⟨h1, h⟩ := bif_else h (by decide)
  obtain ⟨h2, h⟩ := bif_else h (by decide)
  obtain ⟨h3, _⟩ := bif_else h (by decide)
  rw [r43_any (by decide), anyN_false.2 (fun j _ => anyN_false.1 h1 i hi), anyN_false.2 (fun j _ => anyN_false.1 h2 i hi), anyN_false.2 (fun j _ => anyN_false.1 h3 i hi)]
  rfl

theorem r23_of (h1 : r43.v 1 (fun _ => s) = 0) (hb : (r36.v a b c d e f == 0) = true) (hd : r37.v m = true) : r23.v1 s a b c d e f m = 0 ∧ r23.v0 s a b c d e f m = decide (r46.v s a b c d e f m ≥ 0) := by
  unfold r23.v0 r23.v1
  rw [h1, hb, hd]
  exact ⟨rfl, rfl⟩

end Go.Proofs.Ytgmppoappaolkaa

open Go

namespace Go.Proofs.Ytgmppoappaolkaa

set_option linter.unusedSimpArgs false

set_option linter.unusedVariables false

set_option maxHeartbeats 0

set_option maxRecDepth 100000

/-- A block. -/
structure BD where
  nm : ByteArray
  a : Int
  b : Int
  c : Int
  d : Int
  e : Int
  f : Int
  hnm : nm.size ≤ 9223372036854775807

instance : Inhabited BD := ⟨⟨ByteArray.empty, 0, 0, 0, 0, 0, 0, by decide⟩⟩

@[simp] theorem BD.hnm' (s : BD) : (s.nm.size ≤ 9223372036854775807) = True := eq_true s.hnm

def BD.av (s : BD) : AV := .agg [.str s.nm, .int .i64 s.a, .int .i64 s.b, .int .i64 s.c, .int .i64 s.d, .int .i64 s.e, .int .i64 s.f]

def blks (n : Nat) (g : Nat → BD) : AV := .sl 7 n (fun i => (g i).av)

@[simp] theorem low_bd (lo : Nat) (s : BD) : Low lo s.av = True := by unfold BD.av; simp

@[simp] theorem low_blks (lo n : Nat) (g : Nat → BD) : Low lo (blks n g) = True := by unfold blks; simp

inductive L27.O where
  | e0
  | e1

noncomputable def L27.T (nb : Nat) (gb : Nat → BD) (i : Int) : List AV := mkT 23 [(0, AV.sl 7 nb fun (i : Nat) => AV.agg [AV.str (gb i).nm, AV.int IntKind.i64 (gb i).a, AV.int IntKind.i64 (gb i).b, AV.int IntKind.i64 (gb i).c, AV.int IntKind.i64 (gb i).d, AV.int IntKind.i64 (gb i).e, AV.int IntKind.i64 (gb i).f]), (5, AV.int IntKind.i64 i)]

noncomputable def L27.H (nb : Nat) (gb : Nat → BD) (i : Int) : AHeap := []

def L27.inv (nb : Nat) (gb : Nat → BD) (i : Int) : Prop := 0 ≤ i ∧ i ≤ (↑nb : Int)

noncomputable def L27.mu (nb : Nat) (gb : Nat → BD) (i : Int) : Nat := ((↑nb : Int) - i).toNat

noncomputable def L27.E : L27.O → Exit
  | .e0 => Exit.ret
  | .e1 => Exit.exit 0

noncomputable def L27.X (nb : Nat) (gb : Nat → BD) : L27.O → List AV
  | .e0 => mkT 23 [(4, (AV.bool false))]
  | .e1 => mkT 23 []

noncomputable def L27.XH (nb : Nat) (gb : Nat → BD) : L27.O → AHeap
  | .e0 => ([])
  | .e1 => ([])

noncomputable def L27.N (nb : Nat) (gb : Nat → BD) : Nat → Int → L27.O
  | 0, _ => .e0
  | k_ + 1, i => (bif decide (i < (↑nb : Int)) then (bif decide ((↑(gb i.toNat).nm.size : Int) > 60) then (.e0) else (L27.N nb gb k_ (IntKind.i64.wrap (i + 1)))) else (.e1))

noncomputable def L27.run (nb : Nat) (gb : Nat → BD) (i : Int) : L27.O := L27.N nb gb ((((↑nb : Int) - i).toNat) + 1) i

theorem L27.nx (nb : Nat) (gb : Nat → BD) {k_ : Nat} {z_ : Int} {h_ : AHeap} (s_ : Int) (h1 : L27.inv nb gb s_) (h2 : L27.mu nb gb s_ < L27.mu nb gb z_) (h3 : L27.N nb gb k_ s_ = L27.N nb gb (k_ + 1) z_) (h4 : PopOk (L27.H nb gb z_) h_ (L27.T nb gb s_) (L27.H nb gb s_)) : LNextP (fun (z_ : Int) => L27.T nb gb z_) (fun (z_ : Int) => L27.H nb gb z_) (fun (z_ : Int) => L27.inv nb gb z_) (fun (z_ : Int) => L27.mu nb gb z_) (fun (k_ : Nat) (z_ : Int) => L27.N nb gb k_ z_) k_ z_ (L27.T nb gb s_) h_ := LNextP.mk (Tm := (fun (z_ : Int) => L27.T nb gb z_)) (Hp := (fun (z_ : Int) => L27.H nb gb z_)) (inv := (fun (z_ : Int) => L27.inv nb gb z_)) (mu := (fun (z_ : Int) => L27.mu nb gb z_)) (l := (fun (k_ : Nat) (z_ : Int) => L27.N nb gb k_ z_)) s_ h1 h2 h3 h4

theorem L27.en (nb : Nat) (gb : Nat → BD) {k_ : Nat} {z_ : Int} {h_ : AHeap} (o_ : L27.O) (h3 : L27.N nb gb (k_ + 1) z_ = o_) (h4 : PopOk (L27.H nb gb z_) h_ (L27.X nb gb o_) (L27.XH nb gb o_)) : LEndP (fun (z_ : Int) => L27.H nb gb z_) (fun (k_ : Nat) (z_ : Int) => L27.N nb gb k_ z_) L27.E (L27.X nb gb) (L27.XH nb gb) k_ z_ (L27.E o_) (L27.X nb gb o_) h_ := LEndP.mk (Hp := (fun (z_ : Int) => L27.H nb gb z_)) (l := (fun (k_ : Nat) (z_ : Int) => L27.N nb gb k_ z_)) (oE := L27.E) (oT := L27.X nb gb) (oH := L27.XH nb gb) o_ h3 h4

theorem L27.spec (nb : Nat) (gb : Nat → BD) (hnb : nb ≤ 9223372036854775807) (k_ : Nat) (z_ : Int) (hi_ : L27.inv nb gb z_) (hm_ : L27.mu nb gb z_ < k_) : LoopTo Try.prog (loopN Try.f27 0) (L27.T nb gb z_) (L27.H nb gb z_) (L27.E (L27.N nb gb k_ z_)) (L27.X nb gb (L27.N nb gb k_ z_)) (L27.XH nb gb (L27.N nb gb k_ z_)) := by
  refine LoopTo.fuelP mix (fun (z_ : Int) => L27.T nb gb z_) (fun (z_ : Int) => L27.H nb gb z_) (fun (z_ : Int) => L27.inv nb gb z_) (fun (z_ : Int) => L27.mu nb gb z_) (fun (k_ : Nat) (z_ : Int) => L27.N nb gb k_ z_) L27.E (L27.X nb gb) (L27.XH nb gb) (others 23 [0, 5]) (others 23 [4]) (others 23 []) ?_ k_ z_ hi_ hm_
  clear hm_ hi_ z_ k_
  intro k_ z_ hinv hmu
  revert hinv hmu; revert z_; intro i hinv hmu
  have hinv : 0 ≤ i ∧ i ≤ (↑nb : Int) := hinv
  have hmu : (((↑nb : Int) - i).toNat) < k_ + 1 := hmu
  cases h1 : decide (i < (↑nb : Int)) with
  | true =>
    have h1p := of_decide_eq_true h1
    have o0 : (0 : Int) ≤ i := by first | assumption | omega | (simp_all; done)
    have o1 : i < (↑nb : Int) := by first | assumption | omega | (simp_all; done)
    cases h2 : decide ((↑(gb i.toNat).nm.size : Int) > 60) with
    | true =>
      have h2p := of_decide_eq_true h2
      exact ⟨[.b true, .b true], kmp (by kernel_rfl) (And.intro h1 (And.intro (And.intro o0 o1) (And.intro h2 (L27.en nb gb (k_ := k_) (z_ := i) (.e0 : L27.O) (by first | (simp only [L27.N, h1, h2, cond_true, cond_false]; done) | (try unfold L27.N; try simp only [h1, cond_true, cond_false]; try simp only [h2, cond_true, cond_false]; try rfl; done)) PopOk.same))))⟩
    | false =>
      have h2p := of_decide_eq_false h2
      try have := IntWalk.i64_in (i + 1) (by omega)
      have o2 : (0 : Int) ≤ IntKind.i64.wrap (i + (1 : Int)) := by first | assumption | omega | (simp_all; done)
      have o3 : IntKind.i64.wrap (i + (1 : Int)) ≤ (↑nb : Int) := by first | assumption | omega | (simp_all; done)
      have o4 : ((↑nb : Int) - IntKind.i64.wrap (i + (1 : Int))).toNat < ((↑nb : Int) - i).toNat := by first | assumption | omega | (simp_all; done)
      exact ⟨[.b true, .b false], kmp (by kernel_rfl) (And.intro h1 (And.intro (And.intro o0 o1) (And.intro h2 (L27.nx nb gb (k_ := k_) (z_ := i) (IntKind.i64.wrap (i + 1)) (And.intro o2 o3) o4 (by first | (simp only [L27.N, h1, h2, cond_true, cond_false]; done) | (try unfold L27.N; try simp only [h1, cond_true, cond_false]; try simp only [h2, cond_true, cond_false]; try rfl; done)) PopOk.same))))⟩
  | false =>
    have h1p := of_decide_eq_false h1
    exact ⟨[.b false], kmp (by kernel_rfl) (And.intro h1 (L27.en nb gb (k_ := k_) (z_ := i) (.e1 : L27.O) (by first | (simp only [L27.N, h1, cond_true, cond_false]; done) | (try unfold L27.N; try simp only [h1, cond_true, cond_false]; try rfl; done)) PopOk.same))⟩

theorem L27.e0 (nb : Nat) (gb : Nat → BD) (hnb : nb ≤ 9223372036854775807) (i : Int) (hinv : L27.inv nb gb i) (hN : L27.run nb gb i = (.e0 : L27.O)) : LoopTo Try.prog (loopN Try.f27 0) (L27.T nb gb i) (L27.H nb gb i) (Exit.ret) (L27.X nb gb (.e0 : L27.O)) (L27.XH nb gb (.e0 : L27.O)) := by
  have h_ := L27.spec nb gb hnb ((((↑nb : Int) - i).toNat) + 1) i hinv (Nat.lt_succ_self _)
  unfold L27.run at hN
  simp only [hN] at h_
  exact h_

theorem L27.e1 (nb : Nat) (gb : Nat → BD) (hnb : nb ≤ 9223372036854775807) (i : Int) (hinv : L27.inv nb gb i) (hN : L27.run nb gb i = (.e1 : L27.O)) : LoopTo Try.prog (loopN Try.f27 0) (L27.T nb gb i) (L27.H nb gb i) (Exit.exit 0) (L27.X nb gb (.e1 : L27.O)) (L27.XH nb gb (.e1 : L27.O)) := by
  have h_ := L27.spec nb gb hnb ((((↑nb : Int) - i).toNat) + 1) i hinv (Nat.lt_succ_self _)
  unfold L27.run at hN
  simp only [hN] at h_
  exact h_

noncomputable def r27.v (nb : Nat) (gb : Nat → BD) (m : Int) : Bool := (bif decide ((↑nb : Int) > m) then false else (match L27.run nb gb 0 with | .e0 => false | .e1 => true ))

theorem r27 (nb : Nat) (gb : Nat → BD) (hnb : nb ≤ 9223372036854775807) (m : Int) (h : AHeap) : Ret Try.prog 27 ([blks nb gb, AV.int IntKind.i64 m]) h (AV.bool (r27.v nb gb m)) h := by
  cases h1 : decide ((↑nb : Int) > m) with
  | true =>
    have h1p := of_decide_eq_true h1
    exact Ret.of_run1 mix [(AV.bool (r27.v nb gb m))] Try.func27 rfl [.b true] (by simp) (by simp) (kmp (by kernel_rfl) (And.intro h1 (And.intro (show (AV.bool false) = ((AV.bool (r27.v nb gb m))) by first | (simp only [r27.v, h1, cond_true, cond_false]; done) | (try unfold r27.v; try simp only [h1, cond_true, cond_false]; try rfl; done) | rfl) trivial))) h
  | false =>
    have h1p := of_decide_eq_false h1
    have o0 : nb ≤ (9223372036854775807 : Nat) := by first | assumption | omega | (simp_all; done)
    have o1 : (0 : Int) ≤ (↑nb : Int) := by first | assumption | omega | (simp_all; done)
    cases h2 : L27.run nb gb 0 with
    | e0 =>
      exact Ret.of_run1 mix [(AV.bool (r27.v nb gb m))] Try.func27 rfl [.b false, .loop (others 23 [0, 5]) (Exit.ret) (L27.X nb gb L27.O.e0) (L27.XH nb gb L27.O.e0)] (by simp) (by simp) (kmp (by kernel_rfl) (And.intro h1 (And.intro (L27.e0 (nb) (gb) o0 (0) (And.intro (show (0 : Int) ≤ (0 : Int) by first | decide | exact Int.NonNeg.mk _) o1) h2) (And.intro (show (AV.bool false) = ((AV.bool (r27.v nb gb m))) by first | (simp only [r27.v, h1, h2, cond_true, cond_false]; done) | (try unfold r27.v; try simp only [h1, cond_true, cond_false]; try simp only [h2, cond_true, cond_false]; try rfl; done) | rfl) trivial)))) h
    | e1 =>
      exact Ret.of_run1 mix [(AV.bool (r27.v nb gb m))] Try.func27 rfl [.b false, .loop (others 23 [0, 5]) (Exit.exit 0) (L27.X nb gb L27.O.e1) (L27.XH nb gb L27.O.e1)] (by simp) (by simp) (kmp (by kernel_rfl) (And.intro h1 (And.intro (L27.e1 (nb) (gb) o0 (0) (And.intro (show (0 : Int) ≤ (0 : Int) by first | decide | exact Int.NonNeg.mk _) o1) h2) (And.intro (show (AV.bool true) = ((AV.bool (r27.v nb gb m))) by first | (simp only [r27.v, h1, h2, cond_true, cond_false]; done) | (try unfold r27.v; try simp only [h1, cond_true, cond_false]; try simp only [h2, cond_true, cond_false]; try rfl; done) | rfl) trivial)))) h

inductive L47.O where
  | e0 (a0 : Int)
  | e1

noncomputable def L47.T (nb : Nat) (gb : Nat → BD) (m : Int) (i : Int) : List AV := mkT 35 [(2, AV.int IntKind.i64 m), (19, AV.sl 7 nb fun (i : Nat) => AV.agg [AV.str (gb i).nm, AV.int IntKind.i64 (gb i).a, AV.int IntKind.i64 (gb i).b, AV.int IntKind.i64 (gb i).c, AV.int IntKind.i64 (gb i).d, AV.int IntKind.i64 (gb i).e, AV.int IntKind.i64 (gb i).f]), (20, AV.int IntKind.i64 (↑nb : Int)), (21, AV.int IntKind.i64 i)]

noncomputable def L47.H (nb : Nat) (gb : Nat → BD) (m : Int) (i : Int) : AHeap := []

def L47.inv (nb : Nat) (gb : Nat → BD) (m : Int) (i : Int) : Prop := 0 ≤ i ∧ i ≤ (↑nb : Int)

noncomputable def L47.mu (nb : Nat) (gb : Nat → BD) (m : Int) (i : Int) : Nat := ((↑nb : Int) - i).toNat

noncomputable def L47.E : L47.O → Exit
  | .e0 a0 => Exit.ret
  | .e1 => Exit.exit 0

noncomputable def L47.X (nb : Nat) (gb : Nat → BD) (m : Int) : L47.O → List AV
  | .e0 a0 => mkT 35 [(6, (AV.int IntKind.i64 a0))]
  | .e1 => mkT 35 [(2, AV.int IntKind.i64 m)]

noncomputable def L47.XH (nb : Nat) (gb : Nat → BD) (m : Int) : L47.O → AHeap
  | .e0 a0 => ([])
  | .e1 => ([])

noncomputable def L47.N (nb : Nat) (gb : Nat → BD) : Nat → Int → L47.O
  | 0, _ => .e0 default
  | k_ + 1, i => (bif decide (i < (↑nb : Int)) then (bif r36.v (gb i.toNat).a (gb i.toNat).b (gb i.toNat).c (gb i.toNat).d (gb i.toNat).e (gb i.toNat).f == 0 then (L47.N nb gb k_ (IntKind.i64.wrap (i + 1))) else (.e0 (r36.v (gb i.toNat).a (gb i.toNat).b (gb i.toNat).c (gb i.toNat).d (gb i.toNat).e (gb i.toNat).f))) else (.e1))

noncomputable def L47.run (nb : Nat) (gb : Nat → BD) (i : Int) : L47.O := L47.N nb gb ((((↑nb : Int) - i).toNat) + 1) i

theorem L47.nx (nb : Nat) (gb : Nat → BD) (m : Int) {k_ : Nat} {z_ : Int} {h_ : AHeap} (s_ : Int) (h1 : L47.inv nb gb m s_) (h2 : L47.mu nb gb m s_ < L47.mu nb gb m z_) (h3 : L47.N nb gb k_ s_ = L47.N nb gb (k_ + 1) z_) (h4 : PopOk (L47.H nb gb m z_) h_ (L47.T nb gb m s_) (L47.H nb gb m s_)) : LNextP (fun (z_ : Int) => L47.T nb gb m z_) (fun (z_ : Int) => L47.H nb gb m z_) (fun (z_ : Int) => L47.inv nb gb m z_) (fun (z_ : Int) => L47.mu nb gb m z_) (fun (k_ : Nat) (z_ : Int) => L47.N nb gb k_ z_) k_ z_ (L47.T nb gb m s_) h_ := LNextP.mk (Tm := (fun (z_ : Int) => L47.T nb gb m z_)) (Hp := (fun (z_ : Int) => L47.H nb gb m z_)) (inv := (fun (z_ : Int) => L47.inv nb gb m z_)) (mu := (fun (z_ : Int) => L47.mu nb gb m z_)) (l := (fun (k_ : Nat) (z_ : Int) => L47.N nb gb k_ z_)) s_ h1 h2 h3 h4

theorem L47.en (nb : Nat) (gb : Nat → BD) (m : Int) {k_ : Nat} {z_ : Int} {h_ : AHeap} (o_ : L47.O) (h3 : L47.N nb gb (k_ + 1) z_ = o_) (h4 : PopOk (L47.H nb gb m z_) h_ (L47.X nb gb m o_) (L47.XH nb gb m o_)) : LEndP (fun (z_ : Int) => L47.H nb gb m z_) (fun (k_ : Nat) (z_ : Int) => L47.N nb gb k_ z_) L47.E (L47.X nb gb m) (L47.XH nb gb m) k_ z_ (L47.E o_) (L47.X nb gb m o_) h_ := LEndP.mk (Hp := (fun (z_ : Int) => L47.H nb gb m z_)) (l := (fun (k_ : Nat) (z_ : Int) => L47.N nb gb k_ z_)) (oE := L47.E) (oT := L47.X nb gb m) (oH := L47.XH nb gb m) o_ h3 h4

noncomputable abbrev L47.h0 (nb : Nat) (gb : Nat → BD) (m : Int) (i : Int) : AHeap := ([AObj.var (AV.agg [AV.str (gb i.toNat).nm, AV.int IntKind.i64 (gb i.toNat).a, AV.int IntKind.i64 (gb i.toNat).b, AV.int IntKind.i64 (gb i.toNat).c, AV.int IntKind.i64 (gb i.toNat).d, AV.int IntKind.i64 (gb i.toNat).e, AV.int IntKind.i64 (gb i.toNat).f])])

theorem L47.spec (nb : Nat) (gb : Nat → BD) (hnb : nb ≤ 9223372036854775807) (m : Int) (k_ : Nat) (z_ : Int) (hi_ : L47.inv nb gb m z_) (hm_ : L47.mu nb gb m z_ < k_) : LoopTo Try.prog (loopN Try.f47 0) (L47.T nb gb m z_) (L47.H nb gb m z_) (L47.E (L47.N nb gb k_ z_)) (L47.X nb gb m (L47.N nb gb k_ z_)) (L47.XH nb gb m (L47.N nb gb k_ z_)) := by
  refine LoopTo.fuelP mix (fun (z_ : Int) => L47.T nb gb m z_) (fun (z_ : Int) => L47.H nb gb m z_) (fun (z_ : Int) => L47.inv nb gb m z_) (fun (z_ : Int) => L47.mu nb gb m z_) (fun (k_ : Nat) (z_ : Int) => L47.N nb gb k_ z_) L47.E (L47.X nb gb m) (L47.XH nb gb m) (others 35 [2, 19, 20, 21]) (others 35 [6]) (others 35 [2]) ?_ k_ z_ hi_ hm_
  clear hm_ hi_ z_ k_
  intro k_ z_ hinv hmu
  revert hinv hmu; revert z_; intro i hinv hmu
  have hinv : 0 ≤ i ∧ i ≤ (↑nb : Int) := hinv
  have hmu : (((↑nb : Int) - i).toNat) < k_ + 1 := hmu
  cases h1 : decide (i < (↑nb : Int)) with
  | true =>
    have h1p := of_decide_eq_true h1
    have o0 : (0 : Int) ≤ i := by first | assumption | omega | (simp_all; done)
    have o1 : i < (↑nb : Int) := by first | assumption | omega | (simp_all; done)
    cases h2 : r36.v (gb i.toNat).a (gb i.toNat).b (gb i.toNat).c (gb i.toNat).d (gb i.toNat).e (gb i.toNat).f == 0 with
    | true =>
      have h2p := eq_of_beq h2
      try have := IntWalk.i64_in (i + 1) (by omega)
      have o2 : (0 : Int) ≤ IntKind.i64.wrap (i + (1 : Int)) := by first | assumption | omega | (simp_all; done)
      have o3 : IntKind.i64.wrap (i + (1 : Int)) ≤ (↑nb : Int) := by first | assumption | omega | (simp_all; done)
      have o4 : ((↑nb : Int) - IntKind.i64.wrap (i + (1 : Int))).toNat < ((↑nb : Int) - i).toNat := by first | assumption | omega | (simp_all; done)
      exact ⟨[.b true, .ret (AV.int IntKind.i64 (r36.v (gb i.toNat).a (gb i.toNat).b (gb i.toNat).c (gb i.toNat).d (gb i.toNat).e (gb i.toNat).f)) (L47.h0 nb gb m i), .b false], kmp (by kernel_rfl) (And.intro h1 (And.intro (And.intro o0 o1) (And.intro (r36 ((gb i.toNat).a) ((gb i.toNat).b) ((gb i.toNat).c) ((gb i.toNat).d) ((gb i.toNat).e) ((gb i.toNat).f) (L47.h0 nb gb m i)) (And.intro (show (bnot (r36.v (gb i.toNat).a (gb i.toNat).b (gb i.toNat).c (gb i.toNat).d (gb i.toNat).e (gb i.toNat).f == 0)) = false by rw [h2]; try rfl) (L47.nx nb gb m (k_ := k_) (z_ := i) (h_ := [AObj.var (AV.agg [AV.str (gb i.toNat).nm, AV.int IntKind.i64 (gb i.toNat).a, AV.int IntKind.i64 (gb i.toNat).b, AV.int IntKind.i64 (gb i.toNat).c, AV.int IntKind.i64 (gb i.toNat).d, AV.int IntKind.i64 (gb i.toNat).e, AV.int IntKind.i64 (gb i.toNat).f])]) (IntKind.i64.wrap (i + 1)) (And.intro o2 o3) o4 (by first | (simp only [L47.N, h1, h2, cond_true, cond_false]; done) | (try unfold L47.N; try simp only [h1, cond_true, cond_false]; try simp only [h2, cond_true, cond_false]; try rfl; done)) (PopOk.pop rfl (by simp [L47.T, L47.X, L47.H, L47.XH])))))))⟩
    | false =>
      have h2p := ne_of_beq_false h2
      exact ⟨[.b true, .ret (AV.int IntKind.i64 (r36.v (gb i.toNat).a (gb i.toNat).b (gb i.toNat).c (gb i.toNat).d (gb i.toNat).e (gb i.toNat).f)) (L47.h0 nb gb m i), .b true], kmp (by kernel_rfl) (And.intro h1 (And.intro (And.intro o0 o1) (And.intro (r36 ((gb i.toNat).a) ((gb i.toNat).b) ((gb i.toNat).c) ((gb i.toNat).d) ((gb i.toNat).e) ((gb i.toNat).f) (L47.h0 nb gb m i)) (And.intro (show (bnot (r36.v (gb i.toNat).a (gb i.toNat).b (gb i.toNat).c (gb i.toNat).d (gb i.toNat).e (gb i.toNat).f == 0)) = true by rw [h2]; try rfl) (L47.en nb gb m (k_ := k_) (z_ := i) (h_ := [AObj.var (AV.agg [AV.str (gb i.toNat).nm, AV.int IntKind.i64 (gb i.toNat).a, AV.int IntKind.i64 (gb i.toNat).b, AV.int IntKind.i64 (gb i.toNat).c, AV.int IntKind.i64 (gb i.toNat).d, AV.int IntKind.i64 (gb i.toNat).e, AV.int IntKind.i64 (gb i.toNat).f])]) (.e0 (r36.v (gb i.toNat).a (gb i.toNat).b (gb i.toNat).c (gb i.toNat).d (gb i.toNat).e (gb i.toNat).f) : L47.O) (by first | (simp only [L47.N, h1, h2, cond_true, cond_false]; done) | (try unfold L47.N; try simp only [h1, cond_true, cond_false]; try simp only [h2, cond_true, cond_false]; try rfl; done)) (PopOk.pop rfl (by simp [L47.T, L47.X, L47.H, L47.XH])))))))⟩
  | false =>
    have h1p := of_decide_eq_false h1
    exact ⟨[.b false], kmp (by kernel_rfl) (And.intro h1 (L47.en nb gb m (k_ := k_) (z_ := i) (.e1 : L47.O) (by first | (simp only [L47.N, h1, cond_true, cond_false]; done) | (try unfold L47.N; try simp only [h1, cond_true, cond_false]; try rfl; done)) PopOk.same))⟩

theorem L47.e0 (nb : Nat) (gb : Nat → BD) (hnb : nb ≤ 9223372036854775807) (m : Int) (i : Int) (hinv : L47.inv nb gb m i) (a0 : Int) (hN : L47.run nb gb i = (.e0 a0 : L47.O)) : LoopTo Try.prog (loopN Try.f47 0) (L47.T nb gb m i) (L47.H nb gb m i) (Exit.ret) (L47.X nb gb m (.e0 a0 : L47.O)) (L47.XH nb gb m (.e0 a0 : L47.O)) := by
  have h_ := L47.spec nb gb hnb m ((((↑nb : Int) - i).toNat) + 1) i hinv (Nat.lt_succ_self _)
  unfold L47.run at hN
  simp only [hN] at h_
  exact h_

theorem L47.e1 (nb : Nat) (gb : Nat → BD) (hnb : nb ≤ 9223372036854775807) (m : Int) (i : Int) (hinv : L47.inv nb gb m i) (hN : L47.run nb gb i = (.e1 : L47.O)) : LoopTo Try.prog (loopN Try.f47 0) (L47.T nb gb m i) (L47.H nb gb m i) (Exit.exit 0) (L47.X nb gb m (.e1 : L47.O)) (L47.XH nb gb m (.e1 : L47.O)) := by
  have h_ := L47.spec nb gb hnb m ((((↑nb : Int) - i).toNat) + 1) i hinv (Nat.lt_succ_self _)
  unfold L47.run at hN
  simp only [hN] at h_
  exact h_

noncomputable def r47.v (n : Nat) (g : Nat → SD) (nb : Nat) (gb : Nat → BD) (m : Int) : Int := (bif r20.v n g == 0 then (bif decide ((↑nb : Int) > 256) then 7 else (match L47.run nb gb 0 with | .e0 h3d0 => h3d0 | .e1 => (bif r37.v m then 0 else 6) )) else r20.v n g)

theorem r47 (n : Nat) (g : Nat → SD) (hn : n ≤ 9223372036854775807) (nb : Nat) (gb : Nat → BD) (hnb : nb ≤ 9223372036854775807) (m : Int) (h : AHeap) : Ret Try.prog 47 ([sts n g, blks nb gb, AV.int IntKind.i64 m]) h (AV.int IntKind.i64 (r47.v n g nb gb m)) h := by
  have o0 : n ≤ (9223372036854775807 : Nat) := by first | assumption | omega | (simp_all; done)
  cases h1 : r20.v n g == 0 with
  | true =>
    have h1p := eq_of_beq h1
    cases h2 : decide ((↑nb : Int) > 256) with
    | true =>
      have h2p := of_decide_eq_true h2
      exact Ret.of_run1 mix [(AV.int IntKind.i64 (r47.v n g nb gb m))] Try.func47 rfl [.ret (AV.int IntKind.i64 (r20.v n g)) ([]), .b false, .b true] (by simp) (by simp) (kmp (by kernel_rfl) (And.intro (r20 (n) (g) o0 ([])) (And.intro (show (bnot (r20.v n g == 0)) = false by rw [h1]; try rfl) (And.intro h2 (And.intro (show (AV.int IntKind.i64 7) = ((AV.int IntKind.i64 (r47.v n g nb gb m))) by first | (simp only [r47.v, h1, h2, cond_true, cond_false]; done) | (try unfold r47.v; try simp only [h1, cond_true, cond_false]; try simp only [h2, cond_true, cond_false]; try rfl; done) | rfl) trivial))))) h
    | false =>
      have h2p := of_decide_eq_false h2
      have o1 : nb ≤ (9223372036854775807 : Nat) := by first | assumption | omega | (simp_all; done)
      have o2 : (0 : Int) ≤ (↑nb : Int) := by first | assumption | omega | (simp_all; done)
      cases h3 : L47.run nb gb 0 with
      | e0 h3d0 =>
        exact Ret.of_run1 mix [(AV.int IntKind.i64 (r47.v n g nb gb m))] Try.func47 rfl [.ret (AV.int IntKind.i64 (r20.v n g)) ([]), .b false, .b false, .loop (others 35 [2, 19, 20, 21]) (Exit.ret) (L47.X nb gb m (L47.O.e0 h3d0)) (L47.XH nb gb m (L47.O.e0 h3d0))] (by simp) (by simp) (kmp (by kernel_rfl) (And.intro (r20 (n) (g) o0 ([])) (And.intro (show (bnot (r20.v n g == 0)) = false by rw [h1]; try rfl) (And.intro h2 (And.intro (L47.e0 (nb) (gb) o1 (m) (0) (And.intro (show (0 : Int) ≤ (0 : Int) by first | decide | exact Int.NonNeg.mk _) o2) h3d0 h3) (And.intro (show (AV.int IntKind.i64 h3d0) = ((AV.int IntKind.i64 (r47.v n g nb gb m))) by first | (simp only [r47.v, h1, h2, h3, cond_true, cond_false]; done) | (try unfold r47.v; try simp only [h1, cond_true, cond_false]; try simp only [h2, cond_true, cond_false]; try simp only [h3, cond_true, cond_false]; try rfl; done) | rfl) trivial)))))) h
      | e1 =>
        cases h4 : r37.v m with
        | true =>
          exact Ret.of_run1 mix [(AV.int IntKind.i64 (r47.v n g nb gb m))] Try.func47 rfl [.ret (AV.int IntKind.i64 (r20.v n g)) ([]), .b false, .b false, .loop (others 35 [2, 19, 20, 21]) (Exit.exit 0) (L47.X nb gb m L47.O.e1) (L47.XH nb gb m L47.O.e1), .ret (AV.bool (r37.v m)) ([]), .b false] (by simp) (by simp) (kmp (by kernel_rfl) (And.intro (r20 (n) (g) o0 ([])) (And.intro (show (bnot (r20.v n g == 0)) = false by rw [h1]; try rfl) (And.intro h2 (And.intro (L47.e1 (nb) (gb) o1 (m) (0) (And.intro (show (0 : Int) ≤ (0 : Int) by first | decide | exact Int.NonNeg.mk _) o2) h3) (And.intro (r37 (m) ([])) (And.intro (show (bnot (r37.v m)) = false by rw [h4]; try rfl) (And.intro (show (AV.int IntKind.i64 0) = ((AV.int IntKind.i64 (r47.v n g nb gb m))) by first | (simp only [r47.v, h1, h2, h4, h3, cond_true, cond_false]; done) | (try unfold r47.v; try simp only [h1, cond_true, cond_false]; try simp only [h2, cond_true, cond_false]; try simp only [h4, cond_true, cond_false]; try simp only [h3, cond_true, cond_false]; try rfl; done) | rfl) trivial)))))))) h
        | false =>
          exact Ret.of_run1 mix [(AV.int IntKind.i64 (r47.v n g nb gb m))] Try.func47 rfl [.ret (AV.int IntKind.i64 (r20.v n g)) ([]), .b false, .b false, .loop (others 35 [2, 19, 20, 21]) (Exit.exit 0) (L47.X nb gb m L47.O.e1) (L47.XH nb gb m L47.O.e1), .ret (AV.bool (r37.v m)) ([]), .b true] (by simp) (by simp) (kmp (by kernel_rfl) (And.intro (r20 (n) (g) o0 ([])) (And.intro (show (bnot (r20.v n g == 0)) = false by rw [h1]; try rfl) (And.intro h2 (And.intro (L47.e1 (nb) (gb) o1 (m) (0) (And.intro (show (0 : Int) ≤ (0 : Int) by first | decide | exact Int.NonNeg.mk _) o2) h3) (And.intro (r37 (m) ([])) (And.intro (show (bnot (r37.v m)) = true by rw [h4]; try rfl) (And.intro (show (AV.int IntKind.i64 6) = ((AV.int IntKind.i64 (r47.v n g nb gb m))) by first | (simp only [r47.v, h1, h2, h4, h3, cond_true, cond_false]; done) | (try unfold r47.v; try simp only [h1, cond_true, cond_false]; try simp only [h2, cond_true, cond_false]; try simp only [h4, cond_true, cond_false]; try simp only [h3, cond_true, cond_false]; try rfl; done) | rfl) trivial)))))))) h
  | false =>
    have h1p := ne_of_beq_false h1
    exact Ret.of_run1 mix [(AV.int IntKind.i64 (r47.v n g nb gb m))] Try.func47 rfl [.ret (AV.int IntKind.i64 (r20.v n g)) ([]), .b true] (by simp) (by simp) (kmp (by kernel_rfl) (And.intro (r20 (n) (g) o0 ([])) (And.intro (show (bnot (r20.v n g == 0)) = true by rw [h1]; try rfl) (And.intro (show (AV.int IntKind.i64 (r20.v n g)) = ((AV.int IntKind.i64 (r47.v n g nb gb m))) by first | (simp only [r47.v, h1, cond_true, cond_false]; done) | (try unfold r47.v; try simp only [h1, cond_true, cond_false]; try rfl; done) | rfl) trivial)))) h

theorem hb46 {nb : Nat} {gb : Nat → BD} (hbb : ∀ i, i < nb → (r36.v (gb i).a (gb i).b (gb i).c (gb i).d (gb i).e (gb i).f == 0) = true) {j : Int} (h0 : 0 ≤ j) (h1 : j < nb) : (r36.v (gb j.toNat).a (gb j.toNat).b (gb j.toNat).c (gb j.toNat).d (gb j.toNat).e (gb j.toNat).f == 0) = true := hbb _ (by omega)

theorem hg46 {n : Nat} {g : Nat → SD} (hg : ∀ i, i < n → (g i).nl = (g i).nr) {j : Int} (h0 : 0 ≤ j) (h1 : j < n) : (g j.toNat).nl = (g j.toNat).nr := hg _ (by omega)

inductive L48ab.O where
  | e0 (a0 : Int)

noncomputable def L48ab.T (n : Nat) (g : Nat → SD) (nb : Nat) (gb : Nat → BD) (m : Int) (av7 : Nat) (al7 : List Int) (a15 : Int) (b10 : Int) (b21 : Int) : List AV := mkT 43 [(0, AV.sl 5 n fun (i : Nat) => AV.agg [AV.str (g i).nm, AV.int IntKind.i64 (g i).x, AV.int IntKind.i64 (g i).y, AV.sl 1 (g i).nr fun (i_1 : Nat) => AV.int IntKind.i64 ((g i).r i_1), AV.sl 1 (g i).nl fun (i_1 : Nat) => AV.int IntKind.i64 ((g i).l i_1)]), (2, AV.int IntKind.i64 m), (7, AV.ms 0 av7 1 0 al7.length), (9, AV.ptr 1 1 7 0 0), (10, AV.int IntKind.u64 b10), (13, AV.sl 7 nb fun (i : Nat) => AV.agg [AV.str (gb i).nm, AV.int IntKind.i64 (gb i).a, AV.int IntKind.i64 (gb i).b, AV.int IntKind.i64 (gb i).c, AV.int IntKind.i64 (gb i).d, AV.int IntKind.i64 (gb i).e, AV.int IntKind.i64 (gb i).f]), (14, AV.int IntKind.i64 (↑nb : Int)), (15, AV.int IntKind.i64 a15), (19, AV.sl 5 n fun (i : Nat) => AV.agg [AV.str (g i).nm, AV.int IntKind.i64 (g i).x, AV.int IntKind.i64 (g i).y, AV.sl 1 (g i).nr fun (i_1 : Nat) => AV.int IntKind.i64 ((g i).r i_1), AV.sl 1 (g i).nl fun (i_1 : Nat) => AV.int IntKind.i64 ((g i).l i_1)]), (20, AV.int IntKind.i64 (↑n : Int)), (21, AV.int IntKind.i64 b21)]

noncomputable def L48ab.H (n : Nat) (g : Nat → SD) (nb : Nat) (gb : Nat → BD) (m : Int) (av7 : Nat) (al7 : List Int) (a15 : Int) (b10 : Int) (b21 : Int) : AHeap := [AObj.row 1 av7 (Col.ints IntKind.u64 al7), AObj.var (AV.agg [AV.str (gb a15.toNat).nm, AV.int IntKind.i64 (gb a15.toNat).a, AV.int IntKind.i64 (gb a15.toNat).b, AV.int IntKind.i64 (gb a15.toNat).c, AV.int IntKind.i64 (gb a15.toNat).d, AV.int IntKind.i64 (gb a15.toNat).e, AV.int IntKind.i64 (gb a15.toNat).f])]

def L48ab.inv (n : Nat) (g : Nat → SD) (nb : Nat) (gb : Nat → BD) (m : Int) (av7 : Nat) (al7 : List Int) (a15 : Int) (b10 : Int) (b21 : Int) : Prop := 0 ≤ b21 ∧ (b21 ≤ (↑n : Int) ∨ b21 ≤ 0)

noncomputable def L48ab.mu (n : Nat) (g : Nat → SD) (nb : Nat) (gb : Nat → BD) (m : Int) (av7 : Nat) (al7 : List Int) (a15 : Int) (b10 : Int) (b21 : Int) : Nat := ((↑n : Int) - b21).toNat

noncomputable def L48ab.E : L48ab.O → Exit
  | .e0 a0 => Exit.exit 2

noncomputable def L48ab.X (n : Nat) (g : Nat → SD) (nb : Nat) (gb : Nat → BD) (m : Int) (av7 : Nat) (al7 : List Int) (a15 : Int) : L48ab.O → List AV
  | .e0 a0 => mkT 43 [(0, (AV.sl 5 n fun (i : Nat) => AV.agg [AV.str (g i).nm, AV.int IntKind.i64 (g i).x, AV.int IntKind.i64 (g i).y, AV.sl 1 (g i).nr fun (i_1 : Nat) => AV.int IntKind.i64 ((g i).r i_1), AV.sl 1 (g i).nl fun (i_1 : Nat) => AV.int IntKind.i64 ((g i).l i_1)])), (2, (AV.int IntKind.i64 m)), (7, (AV.ms 0 av7 1 0 al7.length)), (10, (AV.int IntKind.u64 a0)), (13, (AV.sl 7 nb fun (i : Nat) => AV.agg [AV.str (gb i).nm, AV.int IntKind.i64 (gb i).a, AV.int IntKind.i64 (gb i).b, AV.int IntKind.i64 (gb i).c, AV.int IntKind.i64 (gb i).d, AV.int IntKind.i64 (gb i).e, AV.int IntKind.i64 (gb i).f])), (14, (AV.int IntKind.i64 (↑nb : Int))), (15, (AV.int IntKind.i64 a15))]

noncomputable def L48ab.XH (n : Nat) (g : Nat → SD) (nb : Nat) (gb : Nat → BD) (m : Int) (av7 : Nat) (al7 : List Int) (a15 : Int) : L48ab.O → AHeap
  | .e0 a0 => ([AObj.row 1 av7 (Col.ints IntKind.u64 al7), AObj.var (AV.agg [AV.str (gb a15.toNat).nm, AV.int IntKind.i64 (gb a15.toNat).a, AV.int IntKind.i64 (gb a15.toNat).b, AV.int IntKind.i64 (gb a15.toNat).c, AV.int IntKind.i64 (gb a15.toNat).d, AV.int IntKind.i64 (gb a15.toNat).e, AV.int IntKind.i64 (gb a15.toNat).f])])

noncomputable def L48ab.N (n : Nat) (g : Nat → SD) (gb : Nat → BD) (m : Int) (a15 : Int) : Nat → Int → Int → L48ab.O
  | 0, b10, _ => .e0 b10
  | k_ + 1, b10, b21 => (bif decide (b21 < (↑n : Int)) then (bif decide (r46.v (g b21.toNat) (gb a15.toNat).a (gb a15.toNat).b (gb a15.toNat).c (gb a15.toNat).d (gb a15.toNat).e (gb a15.toNat).f m ≥ 0) then (L48ab.N n g gb m a15 k_ (IntKind.u64.wrap (↑(BitVec.ofInt 64 b10 ||| BitVec.ofInt 64 (IntKind.u64.wrap (1 * 2 ^ min b21.toNat 64))).toNat : Int)) (IntKind.i64.wrap (b21 + 1))) else (L48ab.N n g gb m a15 k_ (b10) (IntKind.i64.wrap (b21 + 1)))) else (.e0 (b10)))

noncomputable def L48ab.run (n : Nat) (g : Nat → SD) (gb : Nat → BD) (m : Int) (a15 : Int) (b10 : Int) (b21 : Int) : L48ab.O := L48ab.N n g gb m a15 ((((↑n : Int) - b21).toNat) + 1) b10 b21

theorem L48ab.nx (n : Nat) (g : Nat → SD) (nb : Nat) (gb : Nat → BD) (m : Int) (av7 : Nat) (al7 : List Int) (a15 : Int) {k_ : Nat} {z_ : Int × Int} {h_ : AHeap} (s_ : Int × Int) (h1 : L48ab.inv n g nb gb m av7 al7 a15 s_.1 s_.2) (h2 : L48ab.mu n g nb gb m av7 al7 a15 s_.1 s_.2 < L48ab.mu n g nb gb m av7 al7 a15 z_.1 z_.2) (h3 : L48ab.N n g gb m a15 k_ s_.1 s_.2 = L48ab.N n g gb m a15 (k_ + 1) z_.1 z_.2) (h4 : PopOk (L48ab.H n g nb gb m av7 al7 a15 z_.1 z_.2) h_ (L48ab.T n g nb gb m av7 al7 a15 s_.1 s_.2) (L48ab.H n g nb gb m av7 al7 a15 s_.1 s_.2)) : LNextP (fun (z_ : Int × Int) => L48ab.T n g nb gb m av7 al7 a15 z_.1 z_.2) (fun (z_ : Int × Int) => L48ab.H n g nb gb m av7 al7 a15 z_.1 z_.2) (fun (z_ : Int × Int) => L48ab.inv n g nb gb m av7 al7 a15 z_.1 z_.2) (fun (z_ : Int × Int) => L48ab.mu n g nb gb m av7 al7 a15 z_.1 z_.2) (fun (k_ : Nat) (z_ : Int × Int) => L48ab.N n g gb m a15 k_ z_.1 z_.2) k_ z_ (L48ab.T n g nb gb m av7 al7 a15 s_.1 s_.2) h_ := LNextP.mk (Tm := (fun (z_ : Int × Int) => L48ab.T n g nb gb m av7 al7 a15 z_.1 z_.2)) (Hp := (fun (z_ : Int × Int) => L48ab.H n g nb gb m av7 al7 a15 z_.1 z_.2)) (inv := (fun (z_ : Int × Int) => L48ab.inv n g nb gb m av7 al7 a15 z_.1 z_.2)) (mu := (fun (z_ : Int × Int) => L48ab.mu n g nb gb m av7 al7 a15 z_.1 z_.2)) (l := (fun (k_ : Nat) (z_ : Int × Int) => L48ab.N n g gb m a15 k_ z_.1 z_.2)) s_ h1 h2 h3 h4

theorem L48ab.en (n : Nat) (g : Nat → SD) (nb : Nat) (gb : Nat → BD) (m : Int) (av7 : Nat) (al7 : List Int) (a15 : Int) {k_ : Nat} {z_ : Int × Int} {h_ : AHeap} (o_ : L48ab.O) (h3 : L48ab.N n g gb m a15 (k_ + 1) z_.1 z_.2 = o_) (h4 : PopOk (L48ab.H n g nb gb m av7 al7 a15 z_.1 z_.2) h_ (L48ab.X n g nb gb m av7 al7 a15 o_) (L48ab.XH n g nb gb m av7 al7 a15 o_)) : LEndP (fun (z_ : Int × Int) => L48ab.H n g nb gb m av7 al7 a15 z_.1 z_.2) (fun (k_ : Nat) (z_ : Int × Int) => L48ab.N n g gb m a15 k_ z_.1 z_.2) L48ab.E (L48ab.X n g nb gb m av7 al7 a15) (L48ab.XH n g nb gb m av7 al7 a15) k_ z_ (L48ab.E o_) (L48ab.X n g nb gb m av7 al7 a15 o_) h_ := LEndP.mk (Hp := (fun (z_ : Int × Int) => L48ab.H n g nb gb m av7 al7 a15 z_.1 z_.2)) (l := (fun (k_ : Nat) (z_ : Int × Int) => L48ab.N n g gb m a15 k_ z_.1 z_.2)) (oE := L48ab.E) (oT := L48ab.X n g nb gb m av7 al7 a15) (oH := L48ab.XH n g nb gb m av7 al7 a15) o_ h3 h4

noncomputable abbrev L48ab.h0 (n : Nat) (g : Nat → SD) (nb : Nat) (gb : Nat → BD) (m : Int) (av7 : Nat) (al7 : List Int) (a15 : Int) (b10 : Int) (b21 : Int) : AHeap := ([AObj.row 1 av7 (Col.ints IntKind.u64 al7), AObj.var (AV.agg [AV.str (gb a15.toNat).nm, AV.int IntKind.i64 (gb a15.toNat).a, AV.int IntKind.i64 (gb a15.toNat).b, AV.int IntKind.i64 (gb a15.toNat).c, AV.int IntKind.i64 (gb a15.toNat).d, AV.int IntKind.i64 (gb a15.toNat).e, AV.int IntKind.i64 (gb a15.toNat).f]), AObj.var (AV.agg [AV.str (g b21.toNat).nm, AV.int IntKind.i64 (g b21.toNat).x, AV.int IntKind.i64 (g b21.toNat).y, AV.sl 1 (g b21.toNat).nr fun (i_1 : Nat) => AV.int IntKind.i64 ((g b21.toNat).r i_1), AV.sl 1 (g b21.toNat).nl fun (i_1 : Nat) => AV.int IntKind.i64 ((g b21.toNat).l i_1)])])

theorem L48ab.spec (n : Nat) (g : Nat → SD) (hn : n ≤ 9223372036854775807) (hg : ∀ (i : Nat), i < n → (g i).nl = (g i).nr) (nb : Nat) (gb : Nat → BD) (hnb : nb ≤ 256) (hbb : ∀ (i : Nat), i < nb → (r36.v (gb i).a (gb i).b (gb i).c (gb i).d (gb i).e (gb i).f == 0) = true) (m : Int) (hd : r37.v m = true) (av7 : Nat) (al7 : List Int) (a15 : Int) (i48a_0 : 0 ≤ a15) (i48a_1 : a15 ≤ (↑nb : Int) ∨ a15 ≤ 0) (i48a_2 : (↑al7.length : Int) ≤ 1000000 * (a15 - 0)) (k1_1 : decide (a15 < (↑nb : Int)) = true) (p1_1 : a15 < (↑nb : Int)) (k_ : Nat) (z_ : Int × Int) (hi_ : L48ab.inv n g nb gb m av7 al7 a15 z_.1 z_.2) (hm_ : L48ab.mu n g nb gb m av7 al7 a15 z_.1 z_.2 < k_) : LoopTo Try.prog (loopN Try.f48 1) (L48ab.T n g nb gb m av7 al7 a15 z_.1 z_.2) (L48ab.H n g nb gb m av7 al7 a15 z_.1 z_.2) (L48ab.E (L48ab.N n g gb m a15 k_ z_.1 z_.2)) (L48ab.X n g nb gb m av7 al7 a15 (L48ab.N n g gb m a15 k_ z_.1 z_.2)) (L48ab.XH n g nb gb m av7 al7 a15 (L48ab.N n g gb m a15 k_ z_.1 z_.2)) := by
  refine LoopTo.fuelP mix (fun (z_ : Int × Int) => L48ab.T n g nb gb m av7 al7 a15 z_.1 z_.2) (fun (z_ : Int × Int) => L48ab.H n g nb gb m av7 al7 a15 z_.1 z_.2) (fun (z_ : Int × Int) => L48ab.inv n g nb gb m av7 al7 a15 z_.1 z_.2) (fun (z_ : Int × Int) => L48ab.mu n g nb gb m av7 al7 a15 z_.1 z_.2) (fun (k_ : Nat) (z_ : Int × Int) => L48ab.N n g gb m a15 k_ z_.1 z_.2) L48ab.E (L48ab.X n g nb gb m av7 al7 a15) (L48ab.XH n g nb gb m av7 al7 a15) (others 43 [0, 2, 7, 9, 10, 13, 14, 15, 19, 20, 21]) (others 43 [6]) (others 43 [0, 2, 7, 10, 13, 14, 15]) ?_ k_ z_ hi_ hm_
  clear hm_ hi_ z_ k_
  intro k_ z_ hinv hmu
  obtain ⟨b10, b21⟩ := z_
  have hinv : 0 ≤ b21 ∧ (b21 ≤ (↑n : Int) ∨ b21 ≤ 0) := hinv
  have hmu : (((↑n : Int) - b21).toNat) < k_ + 1 := hmu
  cases h1 : decide (b21 < (↑n : Int)) with
  | true =>
    have h1p := of_decide_eq_true h1
    have o0 : (0 : Int) ≤ b21 := by first | assumption | omega | (exact hg _) | (exact hg _ (by omega)) | (exact hbb _) | (exact hbb _ (by omega)) | (simp_all; done)
    have o1 : b21 < (↑n : Int) := by first | assumption | omega | (exact hg _) | (exact hg _ (by omega)) | (exact hbb _) | (exact hbb _ (by omega)) | (simp_all; done)
    have o2 : (g b21.toNat).nl = (g b21.toNat).nr := by first | assumption | omega | (apply hg46 <;> first | assumption | omega) | (exact hg _) | (exact hg _ (by omega)) | (exact hbb _) | (exact hbb _ (by omega)) | (simp_all; done)
    have o3 : (r36.v (gb a15.toNat).a (gb a15.toNat).b (gb a15.toNat).c (gb a15.toNat).d (gb a15.toNat).e (gb a15.toNat).f == (0 : Int)) = true := by first | assumption | omega | (apply hb46 <;> first | assumption | omega) | (exact hg _) | (exact hg _ (by omega)) | (exact hbb _) | (exact hbb _ (by omega)) | (simp_all; done)
    have o4 : r37.v m = true := by first | assumption | omega | (exact hg _) | (exact hg _ (by omega)) | (exact hbb _) | (exact hbb _ (by omega)) | (simp_all; done)
    cases h2 : decide (r46.v (g b21.toNat) (gb a15.toNat).a (gb a15.toNat).b (gb a15.toNat).c (gb a15.toNat).d (gb a15.toNat).e (gb a15.toNat).f m ≥ 0) with
    | true =>
      have h2p := of_decide_eq_true h2
      try have := IntWalk.i64_in (b21 + 1) (by omega)
      have o5 : (0 : Int) ≤ IntKind.i64.wrap (b21 + (1 : Int)) := by first | assumption | omega | (exact hg _) | (exact hg _ (by omega)) | (exact hbb _) | (exact hbb _ (by omega)) | (simp_all; done)
      have o6 : IntKind.i64.wrap (b21 + (1 : Int)) ≤ (↑n : Int) ∨ IntKind.i64.wrap (b21 + (1 : Int)) ≤ (0 : Int) := by first | assumption | omega | (exact hg _) | (exact hg _ (by omega)) | (exact hbb _) | (exact hbb _ (by omega)) | (simp_all; done)
      have o7 : ((↑n : Int) - IntKind.i64.wrap (b21 + (1 : Int))).toNat < ((↑n : Int) - b21).toNat := by first | assumption | omega | (exact hg _) | (exact hg _ (by omega)) | (exact hbb _) | (exact hbb _ (by omega)) | (simp_all; done)
      exact ⟨[.b true, .ret (AV.int IntKind.i64 (r46.v (g b21.toNat) (gb a15.toNat).a (gb a15.toNat).b (gb a15.toNat).c (gb a15.toNat).d (gb a15.toNat).e (gb a15.toNat).f m)) (L48ab.h0 n g nb gb m av7 al7 a15 b10 b21), .b true], kmp (by kernel_rfl) (And.intro h1 (And.intro (And.intro o0 o1) (And.intro (r46 (g b21.toNat) ((gb a15.toNat).a) ((gb a15.toNat).b) ((gb a15.toNat).c) ((gb a15.toNat).d) ((gb a15.toNat).e) ((gb a15.toNat).f) (m) o2 o3 o4 (L48ab.h0 n g nb gb m av7 al7 a15 b10 b21)) (And.intro h2 (And.intro o0 (L48ab.nx n g nb gb m av7 al7 a15 (k_ := k_) (z_ := (b10, b21)) (h_ := [AObj.row 1 av7 (Col.ints IntKind.u64 al7), AObj.var (AV.agg [AV.str (gb a15.toNat).nm, AV.int IntKind.i64 (gb a15.toNat).a, AV.int IntKind.i64 (gb a15.toNat).b, AV.int IntKind.i64 (gb a15.toNat).c, AV.int IntKind.i64 (gb a15.toNat).d, AV.int IntKind.i64 (gb a15.toNat).e, AV.int IntKind.i64 (gb a15.toNat).f]), AObj.var (AV.agg [AV.str (g b21.toNat).nm, AV.int IntKind.i64 (g b21.toNat).x, AV.int IntKind.i64 (g b21.toNat).y, AV.sl 1 (g b21.toNat).nr fun (i_1 : Nat) => AV.int IntKind.i64 ((g b21.toNat).r i_1), AV.sl 1 (g b21.toNat).nl fun (i_1 : Nat) => AV.int IntKind.i64 ((g b21.toNat).l i_1)])]) ((IntKind.u64.wrap (↑(BitVec.ofInt 64 b10 ||| BitVec.ofInt 64 (IntKind.u64.wrap (1 * 2 ^ min b21.toNat 64))).toNat : Int), IntKind.i64.wrap (b21 + 1))) (And.intro o5 o6) o7 (by first | (simp only [L48ab.N, h1, h2, cond_true, cond_false]; done) | (try unfold L48ab.N; try simp only [h1, cond_true, cond_false]; try simp only [h2, cond_true, cond_false]; try rfl; done)) (PopOk.pop rfl (by simp [L48ab.T, L48ab.X, L48ab.H, L48ab.XH]))))))))⟩
    | false =>
      have h2p := of_decide_eq_false h2
      try have := IntWalk.i64_in (b21 + 1) (by omega)
      have o5 : (0 : Int) ≤ IntKind.i64.wrap (b21 + (1 : Int)) := by first | assumption | omega | (exact hg _) | (exact hg _ (by omega)) | (exact hbb _) | (exact hbb _ (by omega)) | (simp_all; done)
      have o6 : IntKind.i64.wrap (b21 + (1 : Int)) ≤ (↑n : Int) ∨ IntKind.i64.wrap (b21 + (1 : Int)) ≤ (0 : Int) := by first | assumption | omega | (exact hg _) | (exact hg _ (by omega)) | (exact hbb _) | (exact hbb _ (by omega)) | (simp_all; done)
      have o7 : ((↑n : Int) - IntKind.i64.wrap (b21 + (1 : Int))).toNat < ((↑n : Int) - b21).toNat := by first | assumption | omega | (exact hg _) | (exact hg _ (by omega)) | (exact hbb _) | (exact hbb _ (by omega)) | (simp_all; done)
      exact ⟨[.b true, .ret (AV.int IntKind.i64 (r46.v (g b21.toNat) (gb a15.toNat).a (gb a15.toNat).b (gb a15.toNat).c (gb a15.toNat).d (gb a15.toNat).e (gb a15.toNat).f m)) (L48ab.h0 n g nb gb m av7 al7 a15 b10 b21), .b false], kmp (by kernel_rfl) (And.intro h1 (And.intro (And.intro o0 o1) (And.intro (r46 (g b21.toNat) ((gb a15.toNat).a) ((gb a15.toNat).b) ((gb a15.toNat).c) ((gb a15.toNat).d) ((gb a15.toNat).e) ((gb a15.toNat).f) (m) o2 o3 o4 (L48ab.h0 n g nb gb m av7 al7 a15 b10 b21)) (And.intro h2 (L48ab.nx n g nb gb m av7 al7 a15 (k_ := k_) (z_ := (b10, b21)) (h_ := [AObj.row 1 av7 (Col.ints IntKind.u64 al7), AObj.var (AV.agg [AV.str (gb a15.toNat).nm, AV.int IntKind.i64 (gb a15.toNat).a, AV.int IntKind.i64 (gb a15.toNat).b, AV.int IntKind.i64 (gb a15.toNat).c, AV.int IntKind.i64 (gb a15.toNat).d, AV.int IntKind.i64 (gb a15.toNat).e, AV.int IntKind.i64 (gb a15.toNat).f]), AObj.var (AV.agg [AV.str (g b21.toNat).nm, AV.int IntKind.i64 (g b21.toNat).x, AV.int IntKind.i64 (g b21.toNat).y, AV.sl 1 (g b21.toNat).nr fun (i_1 : Nat) => AV.int IntKind.i64 ((g b21.toNat).r i_1), AV.sl 1 (g b21.toNat).nl fun (i_1 : Nat) => AV.int IntKind.i64 ((g b21.toNat).l i_1)])]) ((b10, IntKind.i64.wrap (b21 + 1))) (And.intro o5 o6) o7 (by first | (simp only [L48ab.N, h1, h2, cond_true, cond_false]; done) | (try unfold L48ab.N; try simp only [h1, cond_true, cond_false]; try simp only [h2, cond_true, cond_false]; try rfl; done)) (PopOk.pop rfl (by simp [L48ab.T, L48ab.X, L48ab.H, L48ab.XH])))))))⟩
  | false =>
    have h1p := of_decide_eq_false h1
    exact ⟨[.b false], kmp (by kernel_rfl) (And.intro h1 (L48ab.en n g nb gb m av7 al7 a15 (k_ := k_) (z_ := (b10, b21)) (.e0 (b10) : L48ab.O) (by first | (simp only [L48ab.N, h1, cond_true, cond_false]; done) | (try unfold L48ab.N; try simp only [h1, cond_true, cond_false]; try rfl; done)) PopOk.same))⟩

theorem L48ab.e0 (n : Nat) (g : Nat → SD) (hn : n ≤ 9223372036854775807) (hg : ∀ (i : Nat), i < n → (g i).nl = (g i).nr) (nb : Nat) (gb : Nat → BD) (hnb : nb ≤ 256) (hbb : ∀ (i : Nat), i < nb → (r36.v (gb i).a (gb i).b (gb i).c (gb i).d (gb i).e (gb i).f == 0) = true) (m : Int) (hd : r37.v m = true) (av7 : Nat) (al7 : List Int) (a15 : Int) (i48a_0 : 0 ≤ a15) (i48a_1 : a15 ≤ (↑nb : Int) ∨ a15 ≤ 0) (i48a_2 : (↑al7.length : Int) ≤ 1000000 * (a15 - 0)) (k1_1 : decide (a15 < (↑nb : Int)) = true) (p1_1 : a15 < (↑nb : Int)) (b10 : Int) (b21 : Int) (hinv : L48ab.inv n g nb gb m av7 al7 a15 b10 b21) (a0 : Int) (hN : L48ab.run n g gb m a15 b10 b21 = (.e0 a0 : L48ab.O)) : LoopTo Try.prog (loopN Try.f48 1) (L48ab.T n g nb gb m av7 al7 a15 b10 b21) (L48ab.H n g nb gb m av7 al7 a15 b10 b21) (Exit.exit 2) (L48ab.X n g nb gb m av7 al7 a15 (.e0 a0 : L48ab.O)) (L48ab.XH n g nb gb m av7 al7 a15 (.e0 a0 : L48ab.O)) := by
  have h_ := L48ab.spec n g hn hg nb gb hnb hbb m hd av7 al7 a15 i48a_0 i48a_1 i48a_2 k1_1 p1_1 ((((↑n : Int) - b21).toNat) + 1) (b10, b21) hinv (Nat.lt_succ_self _)
  unfold L48ab.run at hN
  simp only [hN] at h_
  exact h_

inductive L48a.O where
  | e0 (a0 : Nat) (a1 : List Int)

noncomputable def L48a.T (n : Nat) (g : Nat → SD) (nb : Nat) (gb : Nat → BD) (m : Int) (av7 : Nat) (al7 : List Int) (a15 : Int) : List AV := mkT 43 [(0, AV.sl 5 n fun (i : Nat) => AV.agg [AV.str (g i).nm, AV.int IntKind.i64 (g i).x, AV.int IntKind.i64 (g i).y, AV.sl 1 (g i).nr fun (i_1 : Nat) => AV.int IntKind.i64 ((g i).r i_1), AV.sl 1 (g i).nl fun (i_1 : Nat) => AV.int IntKind.i64 ((g i).l i_1)]), (2, AV.int IntKind.i64 m), (7, AV.ms 0 av7 1 0 al7.length), (13, AV.sl 7 nb fun (i : Nat) => AV.agg [AV.str (gb i).nm, AV.int IntKind.i64 (gb i).a, AV.int IntKind.i64 (gb i).b, AV.int IntKind.i64 (gb i).c, AV.int IntKind.i64 (gb i).d, AV.int IntKind.i64 (gb i).e, AV.int IntKind.i64 (gb i).f]), (14, AV.int IntKind.i64 (↑nb : Int)), (15, AV.int IntKind.i64 a15)]

noncomputable def L48a.H (n : Nat) (g : Nat → SD) (nb : Nat) (gb : Nat → BD) (m : Int) (av7 : Nat) (al7 : List Int) (a15 : Int) : AHeap := [AObj.row 1 av7 (Col.ints IntKind.u64 al7)]

def L48a.inv (n : Nat) (g : Nat → SD) (nb : Nat) (gb : Nat → BD) (m : Int) (av7 : Nat) (al7 : List Int) (a15 : Int) : Prop := 0 ≤ a15 ∧ (a15 ≤ (↑nb : Int) ∨ a15 ≤ 0) ∧ (↑al7.length : Int) ≤ 1000000 * (a15 - 0)

noncomputable def L48a.mu (n : Nat) (g : Nat → SD) (nb : Nat) (gb : Nat → BD) (m : Int) (av7 : Nat) (al7 : List Int) (a15 : Int) : Nat := ((↑nb : Int) - a15).toNat

noncomputable def L48a.E : L48a.O → Exit
  | .e0 a0 a1 => Exit.exit 0

noncomputable def L48a.X (n : Nat) (g : Nat → SD) (nb : Nat) (gb : Nat → BD) (m : Int) : L48a.O → List AV
  | .e0 a0 a1 => mkT 43 [(7, (AV.ms 0 a0 1 0 (List.length a1)))]

noncomputable def L48a.XH (n : Nat) (g : Nat → SD) (nb : Nat) (gb : Nat → BD) (m : Int) : L48a.O → AHeap
  | .e0 a0 a1 => ((AObj.row 1 a0 (Col.ints IntKind.u64 a1)) :: ([]))

noncomputable def L48a.N (n : Nat) (g : Nat → SD) (nb : Nat) (gb : Nat → BD) (m : Int) : Nat → Nat → (List Int) → Int → L48a.O
  | 0, av7, al7, _ => .e0 av7 al7
  | k_ + 1, av7, al7, a15 => (bif decide (a15 < (↑nb : Int)) then (match L48ab.run n g gb m a15 0 0 with | .e0 h2d0 => (L48a.N n g nb gb m k_ (av7 + 1) (al7 ++ [h2d0]) (IntKind.i64.wrap (a15 + 1))) ) else (.e0 (av7) (al7)))

noncomputable def L48a.run (n : Nat) (g : Nat → SD) (nb : Nat) (gb : Nat → BD) (m : Int) (av7 : Nat) (al7 : List Int) (a15 : Int) : L48a.O := L48a.N n g nb gb m ((((↑nb : Int) - a15).toNat) + 1) av7 al7 a15

theorem L48a.nx (n : Nat) (g : Nat → SD) (nb : Nat) (gb : Nat → BD) (m : Int) {k_ : Nat} {z_ : Nat × (List Int) × Int} {h_ : AHeap} (s_ : Nat × (List Int) × Int) (h1 : L48a.inv n g nb gb m s_.1 s_.2.1 s_.2.2) (h2 : L48a.mu n g nb gb m s_.1 s_.2.1 s_.2.2 < L48a.mu n g nb gb m z_.1 z_.2.1 z_.2.2) (h3 : L48a.N n g nb gb m k_ s_.1 s_.2.1 s_.2.2 = L48a.N n g nb gb m (k_ + 1) z_.1 z_.2.1 z_.2.2) (h4 : PopOk (L48a.H n g nb gb m z_.1 z_.2.1 z_.2.2) h_ (L48a.T n g nb gb m s_.1 s_.2.1 s_.2.2) (L48a.H n g nb gb m s_.1 s_.2.1 s_.2.2)) : LNextP (fun (z_ : Nat × (List Int) × Int) => L48a.T n g nb gb m z_.1 z_.2.1 z_.2.2) (fun (z_ : Nat × (List Int) × Int) => L48a.H n g nb gb m z_.1 z_.2.1 z_.2.2) (fun (z_ : Nat × (List Int) × Int) => L48a.inv n g nb gb m z_.1 z_.2.1 z_.2.2) (fun (z_ : Nat × (List Int) × Int) => L48a.mu n g nb gb m z_.1 z_.2.1 z_.2.2) (fun (k_ : Nat) (z_ : Nat × (List Int) × Int) => L48a.N n g nb gb m k_ z_.1 z_.2.1 z_.2.2) k_ z_ (L48a.T n g nb gb m s_.1 s_.2.1 s_.2.2) h_ := LNextP.mk (Tm := (fun (z_ : Nat × (List Int) × Int) => L48a.T n g nb gb m z_.1 z_.2.1 z_.2.2)) (Hp := (fun (z_ : Nat × (List Int) × Int) => L48a.H n g nb gb m z_.1 z_.2.1 z_.2.2)) (inv := (fun (z_ : Nat × (List Int) × Int) => L48a.inv n g nb gb m z_.1 z_.2.1 z_.2.2)) (mu := (fun (z_ : Nat × (List Int) × Int) => L48a.mu n g nb gb m z_.1 z_.2.1 z_.2.2)) (l := (fun (k_ : Nat) (z_ : Nat × (List Int) × Int) => L48a.N n g nb gb m k_ z_.1 z_.2.1 z_.2.2)) s_ h1 h2 h3 h4

theorem L48a.en (n : Nat) (g : Nat → SD) (nb : Nat) (gb : Nat → BD) (m : Int) {k_ : Nat} {z_ : Nat × (List Int) × Int} {h_ : AHeap} (o_ : L48a.O) (h3 : L48a.N n g nb gb m (k_ + 1) z_.1 z_.2.1 z_.2.2 = o_) (h4 : PopOk (L48a.H n g nb gb m z_.1 z_.2.1 z_.2.2) h_ (L48a.X n g nb gb m o_) (L48a.XH n g nb gb m o_)) : LEndP (fun (z_ : Nat × (List Int) × Int) => L48a.H n g nb gb m z_.1 z_.2.1 z_.2.2) (fun (k_ : Nat) (z_ : Nat × (List Int) × Int) => L48a.N n g nb gb m k_ z_.1 z_.2.1 z_.2.2) L48a.E (L48a.X n g nb gb m) (L48a.XH n g nb gb m) k_ z_ (L48a.E o_) (L48a.X n g nb gb m o_) h_ := LEndP.mk (Hp := (fun (z_ : Nat × (List Int) × Int) => L48a.H n g nb gb m z_.1 z_.2.1 z_.2.2)) (l := (fun (k_ : Nat) (z_ : Nat × (List Int) × Int) => L48a.N n g nb gb m k_ z_.1 z_.2.1 z_.2.2)) (oE := L48a.E) (oT := L48a.X n g nb gb m) (oH := L48a.XH n g nb gb m) o_ h3 h4

theorem L48a.spec (n : Nat) (g : Nat → SD) (hn : n ≤ 9223372036854775807) (hg : ∀ (i : Nat), i < n → (g i).nl = (g i).nr) (nb : Nat) (gb : Nat → BD) (hnb : nb ≤ 256) (hbb : ∀ (i : Nat), i < nb → (r36.v (gb i).a (gb i).b (gb i).c (gb i).d (gb i).e (gb i).f == 0) = true) (m : Int) (hd : r37.v m = true) (k_ : Nat) (z_ : Nat × (List Int) × Int) (hi_ : L48a.inv n g nb gb m z_.1 z_.2.1 z_.2.2) (hm_ : L48a.mu n g nb gb m z_.1 z_.2.1 z_.2.2 < k_) : LoopTo Try.prog (loopN Try.f48 0) (L48a.T n g nb gb m z_.1 z_.2.1 z_.2.2) (L48a.H n g nb gb m z_.1 z_.2.1 z_.2.2) (L48a.E (L48a.N n g nb gb m k_ z_.1 z_.2.1 z_.2.2)) (L48a.X n g nb gb m (L48a.N n g nb gb m k_ z_.1 z_.2.1 z_.2.2)) (L48a.XH n g nb gb m (L48a.N n g nb gb m k_ z_.1 z_.2.1 z_.2.2)) := by
  refine LoopTo.fuelP mix (fun (z_ : Nat × (List Int) × Int) => L48a.T n g nb gb m z_.1 z_.2.1 z_.2.2) (fun (z_ : Nat × (List Int) × Int) => L48a.H n g nb gb m z_.1 z_.2.1 z_.2.2) (fun (z_ : Nat × (List Int) × Int) => L48a.inv n g nb gb m z_.1 z_.2.1 z_.2.2) (fun (z_ : Nat × (List Int) × Int) => L48a.mu n g nb gb m z_.1 z_.2.1 z_.2.2) (fun (k_ : Nat) (z_ : Nat × (List Int) × Int) => L48a.N n g nb gb m k_ z_.1 z_.2.1 z_.2.2) L48a.E (L48a.X n g nb gb m) (L48a.XH n g nb gb m) (others 43 [0, 2, 7, 13, 14, 15]) (others 43 [6]) (others 43 [7]) ?_ k_ z_ hi_ hm_
  clear hm_ hi_ z_ k_
  intro k_ z_ hinv hmu
  obtain ⟨av7, al7, a15⟩ := z_
  have hinv : 0 ≤ a15 ∧ (a15 ≤ (↑nb : Int) ∨ a15 ≤ 0) ∧ (↑al7.length : Int) ≤ 1000000 * (a15 - 0) := hinv
  have hmu : (((↑nb : Int) - a15).toNat) < k_ + 1 := hmu
  cases h1 : decide (a15 < (↑nb : Int)) with
  | true =>
    have h1p := of_decide_eq_true h1
    have o0 : (0 : Int) ≤ a15 := by first | assumption | omega | (exact hg _) | (exact hg _ (by omega)) | (exact hbb _) | (exact hbb _ (by omega)) | (simp_all; done)
    have o1 : a15 < (↑nb : Int) := by first | assumption | omega | (exact hg _) | (exact hg _ (by omega)) | (exact hbb _) | (exact hbb _ (by omega)) | (simp_all; done)
    have o2 : n ≤ (9223372036854775807 : Nat) := by first | assumption | omega | (exact hg _) | (exact hg _ (by omega)) | (exact hbb _) | (exact hbb _ (by omega)) | (simp_all; done)
    have o3 : ∀ (i : Nat), i < n → (g i).nl = (g i).nr := by first | assumption | omega | (apply hg46 <;> first | assumption | omega) | (exact hg _) | (exact hg _ (by omega)) | (exact hbb _) | (exact hbb _ (by omega)) | (simp_all; done)
    have o4 : nb ≤ (256 : Nat) := by first | assumption | omega | (exact hg _) | (exact hg _ (by omega)) | (exact hbb _) | (exact hbb _ (by omega)) | (simp_all; done)
    have o5 : ∀ (i : Nat), i < nb → (r36.v (gb i).a (gb i).b (gb i).c (gb i).d (gb i).e (gb i).f == (0 : Int)) = true := by first | assumption | omega | (apply hb46 <;> first | assumption | omega) | (exact hg _) | (exact hg _ (by omega)) | (exact hbb _) | (exact hbb _ (by omega)) | (simp_all; done)
    have o6 : r37.v m = true := by first | assumption | omega | (exact hg _) | (exact hg _ (by omega)) | (exact hbb _) | (exact hbb _ (by omega)) | (simp_all; done)
    have o7 : a15 ≤ (↑nb : Int) ∨ a15 ≤ (0 : Int) := by first | assumption | omega | (exact hg _) | (exact hg _ (by omega)) | (exact hbb _) | (exact hbb _ (by omega)) | (simp_all; done)
    have o8 : (↑al7.length : Int) ≤ (1000000 : Int) * (a15 - (0 : Int)) := by first | assumption | omega | (simp only [List.length_append, List.length_cons, List.length_nil, List.length_map]; omega) | (exact hg _) | (exact hg _ (by omega)) | (exact hbb _) | (exact hbb _ (by omega)) | (simp_all; done)
    have o9 : decide (a15 < (↑nb : Int)) = true := by first | assumption | omega | (exact hg _) | (exact hg _ (by omega)) | (exact hbb _) | (exact hbb _ (by omega)) | (simp_all; done)
    have o10 : (0 : Int) ≤ (↑n : Int) ∨ (0 : Int) ≤ (0 : Int) := by first | assumption | omega | (exact hg _) | (exact hg _ (by omega)) | (exact hbb _) | (exact hbb _ (by omega)) | (simp_all; done)
    cases h2 : L48ab.run n g gb m a15 0 0 with
    | e0 h2d0 =>
      have o11 : (al7.length + (1 : Nat)) * (8 : Nat) ≤ (140737488355328 : Nat) := by first | assumption | omega | (simp only [List.length_append, List.length_cons, List.length_nil, List.length_map]; omega) | (exact hg _) | (exact hg _ (by omega)) | (exact hbb _) | (exact hbb _ (by omega)) | (simp_all; done)
      have o12 : al7.length = (Col.ints IntKind.u64 al7).len := by first | assumption | omega | (simp only [List.length_append, List.length_cons, List.length_nil, List.length_map]; omega) | rfl | (exact Nat.le_refl _) | (simp [Col.len]; done) | (simp only [Col.len, zero_bool, zero_int, List.length_replicate, List.length_set] at *; omega) | (exact hg _) | (exact hg _ (by omega)) | (exact hbb _) | (exact hbb _ (by omega)) | (simp_all; done)
      try have := IntWalk.i64_in (a15 + 1) (by omega)
      have o13 : (0 : Int) ≤ IntKind.i64.wrap (a15 + (1 : Int)) := by first | assumption | omega | (exact hg _) | (exact hg _ (by omega)) | (exact hbb _) | (exact hbb _ (by omega)) | (simp_all; done)
      have o14 : IntKind.i64.wrap (a15 + (1 : Int)) ≤ (↑nb : Int) ∨ IntKind.i64.wrap (a15 + (1 : Int)) ≤ (0 : Int) := by first | assumption | omega | (exact hg _) | (exact hg _ (by omega)) | (exact hbb _) | (exact hbb _ (by omega)) | (simp_all; done)
      have o15 : (↑(al7 ++ [h2d0]).length : Int) ≤ (1000000 : Int) * (IntKind.i64.wrap (a15 + (1 : Int)) - (0 : Int)) := by first | assumption | omega | (simp only [List.length_append, List.length_cons, List.length_nil, List.length_map]; omega) | (exact hg _) | (exact hg _ (by omega)) | (exact hbb _) | (exact hbb _ (by omega)) | (simp_all; done)
      have o16 : ((↑nb : Int) - IntKind.i64.wrap (a15 + (1 : Int))).toNat < ((↑nb : Int) - a15).toNat := by first | assumption | omega | (exact hg _) | (exact hg _ (by omega)) | (exact hbb _) | (exact hbb _ (by omega)) | (simp_all; done)
      exact ⟨[.b true, .loop (others 43 [0, 2, 7, 9, 10, 13, 14, 15, 19, 20, 21]) (Exit.exit 2) (L48ab.X n g nb gb m av7 al7 a15 (L48ab.O.e0 h2d0)) (L48ab.XH n g nb gb m av7 al7 a15 (L48ab.O.e0 h2d0)), .app .one false], kmp (by kernel_rfl) (And.intro h1 (And.intro (And.intro o0 o1) (And.intro (L48ab.e0 (n) (g) o2 o3 (nb) (gb) o4 o5 (m) o6 (av7) (al7) (a15) o0 o7 o8 o9 o1 (0) (0) (And.intro (show (0 : Int) ≤ (0 : Int) by first | decide | exact Int.NonNeg.mk _) o10) h2d0 h2) (And.intro (And.intro (show (1 : Nat) = (1 : Nat) by first | decide | exact Int.NonNeg.mk _) (And.intro (show AppMode.one.needs 1 fun (a : Nat) => (Col.ofList [AV.int IntKind.u64 h2d0]).get a by first | exact ⟨rfl, rfl⟩ | simp [AppMode.needs]) (And.intro o11 (And.intro (rfl : av7 = av7) (And.intro (show (0 : Nat) = (0 : Nat) by first | decide | exact Int.NonNeg.mk _) o12))))) (L48a.nx n g nb gb m (k_ := k_) (z_ := (av7, al7, a15)) (h_ := [AObj.row 1 (av7 + 1) (Col.ints IntKind.u64 (al7 ++ [h2d0])), AObj.var (AV.agg [AV.str (gb a15.toNat).nm, AV.int IntKind.i64 (gb a15.toNat).a, AV.int IntKind.i64 (gb a15.toNat).b, AV.int IntKind.i64 (gb a15.toNat).c, AV.int IntKind.i64 (gb a15.toNat).d, AV.int IntKind.i64 (gb a15.toNat).e, AV.int IntKind.i64 (gb a15.toNat).f])]) ((av7 + 1, al7 ++ [h2d0], IntKind.i64.wrap (a15 + 1))) (And.intro o13 (And.intro o14 o15)) o16 (by first | (simp only [L48a.N, h1, h2, cond_true, cond_false]; done) | (try unfold L48a.N; try simp only [h1, cond_true, cond_false]; try simp only [h2, cond_true, cond_false]; try rfl; done)) (PopOk.popLow _ rfl rfl (by simp [L48a.T, L48a.X, L48a.H, L48a.XH]) (by simp [L48a.T, L48a.X, L48a.H, L48a.XH])))))))⟩
  | false =>
    have h1p := of_decide_eq_false h1
    exact ⟨[.b false], kmp (by kernel_rfl) (And.intro h1 (L48a.en n g nb gb m (k_ := k_) (z_ := (av7, al7, a15)) (.e0 (av7) (al7) : L48a.O) (by first | (simp only [L48a.N, h1, cond_true, cond_false]; done) | (try unfold L48a.N; try simp only [h1, cond_true, cond_false]; try rfl; done)) PopOk.same))⟩

theorem L48a.e0 (n : Nat) (g : Nat → SD) (hn : n ≤ 9223372036854775807) (hg : ∀ (i : Nat), i < n → (g i).nl = (g i).nr) (nb : Nat) (gb : Nat → BD) (hnb : nb ≤ 256) (hbb : ∀ (i : Nat), i < nb → (r36.v (gb i).a (gb i).b (gb i).c (gb i).d (gb i).e (gb i).f == 0) = true) (m : Int) (hd : r37.v m = true) (av7 : Nat) (al7 : List Int) (a15 : Int) (hinv : L48a.inv n g nb gb m av7 al7 a15) (a0 : Nat) (a1 : List Int) (hN : L48a.run n g nb gb m av7 al7 a15 = (.e0 a0 a1 : L48a.O)) : LoopTo Try.prog (loopN Try.f48 0) (L48a.T n g nb gb m av7 al7 a15) (L48a.H n g nb gb m av7 al7 a15) (Exit.exit 0) (L48a.X n g nb gb m (.e0 a0 a1 : L48a.O)) (L48a.XH n g nb gb m (.e0 a0 a1 : L48a.O)) := by
  have h_ := L48a.spec n g hn hg nb gb hnb hbb m hd ((((↑nb : Int) - a15).toNat) + 1) (av7, al7, a15) hinv (Nat.lt_succ_self _)
  unfold L48a.run at hN
  simp only [hN] at h_
  exact h_

noncomputable def r48.v (n : Nat) (g : Nat → SD) (nb : Nat) (gb : Nat → BD) (m : Int) : List Int := (match L48a.run n g nb gb m 0 [] 0 with | .e0 h1d0 h1d1 => h1d1 )

theorem r48 (n : Nat) (g : Nat → SD) (hn : n ≤ 9223372036854775807) (hg : ∀ (i : Nat), i < n → (g i).nl = (g i).nr) (nb : Nat) (gb : Nat → BD) (hnb : nb ≤ 256) (hbb : ∀ (i : Nat), i < nb → (r36.v (gb i).a (gb i).b (gb i).c (gb i).d (gb i).e (gb i).f == 0) = true) (m : Int) (hd : r37.v m = true) (h : AHeap) : Ret Try.prog 48 ([sts n g, blks nb gb, AV.int IntKind.i64 m]) h (avInts IntKind.u64 (r48.v n g nb gb m)) h := by
  have o0 : n ≤ (9223372036854775807 : Nat) := by first | assumption | omega | (exact hg _) | (exact hg _ (by omega)) | (exact hbb _) | (exact hbb _ (by omega)) | (simp_all; done)
  have o1 : ∀ (i : Nat), i < n → (g i).nl = (g i).nr := by first | assumption | omega | (apply hg46 <;> first | assumption | omega) | (exact hg _) | (exact hg _ (by omega)) | (exact hbb _) | (exact hbb _ (by omega)) | (simp_all; done)
  have o2 : nb ≤ (256 : Nat) := by first | assumption | omega | (exact hg _) | (exact hg _ (by omega)) | (exact hbb _) | (exact hbb _ (by omega)) | (simp_all; done)
  have o3 : ∀ (i : Nat), i < nb → (r36.v (gb i).a (gb i).b (gb i).c (gb i).d (gb i).e (gb i).f == (0 : Int)) = true := by first | assumption | omega | (apply hb46 <;> first | assumption | omega) | (exact hg _) | (exact hg _ (by omega)) | (exact hbb _) | (exact hbb _ (by omega)) | (simp_all; done)
  have o4 : r37.v m = true := by first | assumption | omega | (exact hg _) | (exact hg _ (by omega)) | (exact hbb _) | (exact hbb _ (by omega)) | (simp_all; done)
  have o5 : (0 : Int) ≤ (↑nb : Int) ∨ (0 : Int) ≤ (0 : Int) := by first | assumption | omega | (exact hg _) | (exact hg _ (by omega)) | (exact hbb _) | (exact hbb _ (by omega)) | (simp_all; done)
  cases h1 : L48a.run n g nb gb m 0 [] 0 with
  | e0 h1d0 h1d1 =>
    have o6 : (0 : Nat) + h1d1.length ≤ (Col.ints IntKind.u64 h1d1).len := by first | assumption | omega | (simp only [List.length_append, List.length_cons, List.length_nil, List.length_map]; omega) | rfl | (exact Nat.le_refl _) | (simp [Col.len]; done) | (simp only [Col.len, zero_bool, zero_int, List.length_replicate, List.length_set] at *; omega) | (exact hg _) | (exact hg _ (by omega)) | (exact hbb _) | (exact hbb _ (by omega)) | (simp_all; done)
    exact Ret.of_run1 mix [(avInts IntKind.u64 (r48.v n g nb gb m))] Try.func48 rfl [.virt [] [(none, 7, 1, Col.ints IntKind.u64 [])], .loop (others 43 [0, 2, 7, 13, 14, 15]) (Exit.exit 0) (L48a.X n g nb gb m (L48a.O.e0 h1d0 h1d1)) (L48a.XH n g nb gb m (L48a.O.e0 h1d0 h1d1))] (by simp) (by simp) (kmp (by kernel_rfl) (And.intro (And.intro (rfl : AV.snil = AV.snil) (And.intro (rfl : (0 : Nat) = 0) trivial)) (And.intro (L48a.e0 (n) (g) o0 o1 (nb) (gb) o2 o3 (m) o4 (0) ([]) (0) (And.intro (show (0 : Int) ≤ (0 : Int) by first | decide | exact Int.NonNeg.mk _) (And.intro o5 (show (0 : Int) ≤ (0 : Int) by first | decide | exact Int.NonNeg.mk _))) h1d0 h1d1 h1) (And.intro (And.intro (rfl : h1d0 = h1d0) (And.intro (show (1 : Nat) = (1 : Nat) by first | decide | exact Int.NonNeg.mk _) (And.intro o6 (show ((avInts IntKind.u64 h1d1)) = ((avInts IntKind.u64 (r48.v n g nb gb m))) by first | (simp only [r48.v, h1, cond_true, cond_false]; done) | (try unfold r48.v; try simp only [h1, cond_true, cond_false]; try rfl; done) | rfl)))) trivial)))) h

end Go.Proofs.Ytgmppoappaolkaa

open Go

namespace Go.Proofs.Ytgmppoappaolkaa

open Go.ChangeShapes Go.WideShapes Go.ChangeAt Go.RowKit

theorem lf_block {P : Program} {cs : List AV} (h : LfFits P [.str, .int .i64, .int .i64, .int .i64, .int .i64, .int .i64, .int .i64] cs) : ∃ s : BD, ImpL cs s.av.cells := by
  obtain ⟨nm, _, rfl, h1, a1, _, rfl, _, a2, _, rfl, _, a3, _, rfl, _, a4, _, rfl, _, a5, _, rfl, _, a6, _, rfl, _, rfl⟩ := h
  exact ⟨⟨nm, a1, a2, a3, a4, a5, a6, le_max h1⟩, .refl _⟩

set_option maxRecDepth 100000 in
theorem flat69 : flat Try.prog 4 69 = some [.str, .int .i64, .int .i64, .int .i64, .int .i64, .int .i64, .int .i64] := by kernel_rfl

set_option maxRecDepth 100000 in
theorem arg_blocks {a : AV} (h : FitsV Try.prog 5 54 a) : ∃ (n : Nat) (g : Nat → BD), n ≤ 9223372036854775807 ∧ Imp a (blks n g) := by
  obtain ⟨n, f, e, h1, h2⟩ := lf_sl (fitsV_one (by kernel_rfl) (by kernel_rfl : flat Try.prog 5 54 = some [.sl 4 69 7]) h)
  obtain ⟨g, hg⟩ := imp_structs (D := BD) BD.av (sz := 7) flat69 (fun cs hc => lf_block hc) h2
  rw [e]
  exact ⟨n, g, le_max h1, hg⟩

end Go.Proofs.Ytgmppoappaolkaa

open Go

namespace Go.Proofs.Ytgmppoappaolkaa

set_option linter.unusedSimpArgs false

set_option linter.unusedVariables false

set_option maxHeartbeats 0

set_option maxRecDepth 100000

def uvs (m : Nat) (f : Nat → Int) : AV := .sl 1 m (fun i => .int .u64 (f i))

@[simp] theorem low_uvs (lo m : Nat) (f : Nat → Int) : Low lo (uvs m f) = True := by unfold uvs; simp

noncomputable def r51.v (x : Int) (ch : Int) : Bool := (bif x == 0 then false else IntKind.u64.wrap (↑(BitVec.ofInt 64 x &&& BitVec.ofInt 64 ch).toNat : Int) == 0)

noncomputable abbrev r51.h0 (n : Nat) (g : Nat → SD) (rv12 : Nat) (rl12 : List Int) (K : Nat) (S : Nat → Int) (x : Int) (ch : Int) : AHeap := ([AObj.var (sts n g), AObj.var (uvs K S), AObj.var (AV.fn 49 [AV.ptr 1 1 1 0 0]), AObj.var (AV.fn 52 [AV.ptr 2 1 1 0 0, AV.ptr 0 1 1 0 0, AV.ptr 3 1 1 0 0]), AObj.row 1 rv12 (Col.ints IntKind.i64 rl12), AObj.var (AV.int IntKind.u64 ch)])

theorem r51 (n : Nat) (g : Nat → SD) (rv12 : Nat) (rl12 : List Int) (K : Nat) (S : Nat → Int) (x : Int) (ch : Int) : Ret Try.prog 51 ([AV.int IntKind.u64 x, AV.ptr 5 1 1 0 0]) (r51.h0 n g rv12 rl12 K S x ch) (AV.bool (r51.v x ch)) (r51.h0 n g rv12 rl12 K S x ch) := by
  cases h1 : x == 0 with
  | true =>
    have h1p := eq_of_beq h1
    exact Ret.of_runH mix [(AV.bool (r51.v x ch))] (r51.h0 n g rv12 rl12 K S x ch) Try.func51 rfl [.b false, .b false, .b false, .b false, .b false] (by simp) (kmp (by kernel_rfl) (And.intro (show (bnot (x == 0)) = false by rw [h1]; try rfl) (And.intro (show (bnot (x == 0)) = false by rw [h1]; try rfl) (And.intro (show (bnot (x == 0)) = false by rw [h1]; try rfl) (And.intro (show (bnot (x == 0)) = false by rw [h1]; try rfl) (And.intro (show (bnot (x == 0)) = false by rw [h1]; try rfl) (And.intro (And.intro (show (AV.bool false) = ((AV.bool (r51.v x ch))) by first | (simp only [r51.v, h1, cond_true, cond_false]; done) | (try unfold r51.v; try simp only [h1, cond_true, cond_false]; try rfl; done) | rfl) trivial) (rfl : ([AObj.var (sts n g), AObj.var (uvs K S), AObj.var (AV.fn 49 [AV.ptr 1 1 1 0 0]), AObj.var (AV.fn 52 [AV.ptr 2 1 1 0 0, AV.ptr 0 1 1 0 0, AV.ptr 3 1 1 0 0]), AObj.row 1 rv12 (Col.ints IntKind.i64 rl12), AObj.var (AV.int IntKind.u64 ch)] : AHeap) = [AObj.var (sts n g), AObj.var (uvs K S), AObj.var (AV.fn 49 [AV.ptr 1 1 1 0 0]), AObj.var (AV.fn 52 [AV.ptr 2 1 1 0 0, AV.ptr 0 1 1 0 0, AV.ptr 3 1 1 0 0]), AObj.row 1 rv12 (Col.ints IntKind.i64 rl12), AObj.var (AV.int IntKind.u64 ch)]))))))))
  | false =>
    have h1p := ne_of_beq_false h1
    exact Ret.of_runH mix [(AV.bool (r51.v x ch))] (r51.h0 n g rv12 rl12 K S x ch) Try.func51 rfl [.b true, .b true, .b true, .b true, .b true] (by simp) (kmp (by kernel_rfl) (And.intro (show (bnot (x == 0)) = true by rw [h1]; try rfl) (And.intro (show (bnot (x == 0)) = true by rw [h1]; try rfl) (And.intro (show (bnot (x == 0)) = true by rw [h1]; try rfl) (And.intro (show (bnot (x == 0)) = true by rw [h1]; try rfl) (And.intro (show (bnot (x == 0)) = true by rw [h1]; try rfl) (And.intro (And.intro (show (AV.bool (IntKind.u64.wrap (↑(BitVec.ofInt 64 x &&& BitVec.ofInt 64 ch).toNat : Int) == 0)) = ((AV.bool (r51.v x ch))) by first | (simp only [r51.v, h1, cond_true, cond_false]; done) | (try unfold r51.v; try simp only [h1, cond_true, cond_false]; try rfl; done) | rfl) trivial) (rfl : ([AObj.var (sts n g), AObj.var (uvs K S), AObj.var (AV.fn 49 [AV.ptr 1 1 1 0 0]), AObj.var (AV.fn 52 [AV.ptr 2 1 1 0 0, AV.ptr 0 1 1 0 0, AV.ptr 3 1 1 0 0]), AObj.row 1 rv12 (Col.ints IntKind.i64 rl12), AObj.var (AV.int IntKind.u64 ch)] : AHeap) = [AObj.var (sts n g), AObj.var (uvs K S), AObj.var (AV.fn 49 [AV.ptr 1 1 1 0 0]), AObj.var (AV.fn 52 [AV.ptr 2 1 1 0 0, AV.ptr 0 1 1 0 0, AV.ptr 3 1 1 0 0]), AObj.row 1 rv12 (Col.ints IntKind.i64 rl12), AObj.var (AV.int IntKind.u64 ch)]))))))))

inductive L70a.O where
  | e0 (a0 : Int)
  | e1

noncomputable def L70a.T (n : Nat) (g : Nat → SD) (rv12 : Nat) (rl12 : List Int) (K : Nat) (S : Nat → Int) (ch : Int) (i : Int) : List AV := mkT 19 [(0, uvs K S), (1, AV.fn 51 [AV.ptr 5 1 1 0 0]), (7, AV.int IntKind.i64 (↑K : Int)), (8, AV.int IntKind.i64 i)]

noncomputable def L70a.H (n : Nat) (g : Nat → SD) (rv12 : Nat) (rl12 : List Int) (K : Nat) (S : Nat → Int) (ch : Int) (i : Int) : AHeap := [AObj.var (sts n g), AObj.var (uvs K S), AObj.var (AV.fn 49 [AV.ptr 1 1 1 0 0]), AObj.var (AV.fn 52 [AV.ptr 2 1 1 0 0, AV.ptr 0 1 1 0 0, AV.ptr 3 1 1 0 0]), AObj.row 1 rv12 (Col.ints IntKind.i64 rl12), AObj.var (AV.int IntKind.u64 ch)]

def L70a.inv (n : Nat) (g : Nat → SD) (rv12 : Nat) (rl12 : List Int) (K : Nat) (S : Nat → Int) (ch : Int) (i : Int) : Prop := 0 ≤ i ∧ i ≤ (↑K : Int)

noncomputable def L70a.mu (n : Nat) (g : Nat → SD) (rv12 : Nat) (rl12 : List Int) (K : Nat) (S : Nat → Int) (ch : Int) (i : Int) : Nat := ((↑K : Int) - i).toNat

noncomputable def L70a.E : L70a.O → Exit
  | .e0 a0 => Exit.ret
  | .e1 => Exit.exit 0

noncomputable def L70a.X (n : Nat) (g : Nat → SD) (rv12 : Nat) (rl12 : List Int) (K : Nat) (S : Nat → Int) (ch : Int) : L70a.O → List AV
  | .e0 a0 => mkT 19 [(4, (AV.int IntKind.i64 a0))]
  | .e1 => mkT 19 []

noncomputable def L70a.XH (n : Nat) (g : Nat → SD) (rv12 : Nat) (rl12 : List Int) (K : Nat) (S : Nat → Int) (ch : Int) : L70a.O → AHeap
  | .e0 a0 => ([AObj.var (AV.sl 5 n fun (i : Nat) => AV.agg [AV.str (g i).nm, AV.int IntKind.i64 (g i).x, AV.int IntKind.i64 (g i).y, AV.sl 1 (g i).nr fun (i_1 : Nat) => AV.int IntKind.i64 ((g i).r i_1), AV.sl 1 (g i).nl fun (i_1 : Nat) => AV.int IntKind.i64 ((g i).l i_1)]), AObj.var (AV.sl 1 K fun (i : Nat) => AV.int IntKind.u64 (S i)), AObj.var (AV.fn 49 [AV.ptr 1 1 1 0 0]), AObj.var (AV.fn 52 [AV.ptr 2 1 1 0 0, AV.ptr 0 1 1 0 0, AV.ptr 3 1 1 0 0]), AObj.row 1 rv12 (Col.ints IntKind.i64 rl12), AObj.var (AV.int IntKind.u64 ch)])
  | .e1 => ([AObj.var (AV.sl 5 n fun (i : Nat) => AV.agg [AV.str (g i).nm, AV.int IntKind.i64 (g i).x, AV.int IntKind.i64 (g i).y, AV.sl 1 (g i).nr fun (i_1 : Nat) => AV.int IntKind.i64 ((g i).r i_1), AV.sl 1 (g i).nl fun (i_1 : Nat) => AV.int IntKind.i64 ((g i).l i_1)]), AObj.var (AV.sl 1 K fun (i : Nat) => AV.int IntKind.u64 (S i)), AObj.var (AV.fn 49 [AV.ptr 1 1 1 0 0]), AObj.var (AV.fn 52 [AV.ptr 2 1 1 0 0, AV.ptr 0 1 1 0 0, AV.ptr 3 1 1 0 0]), AObj.row 1 rv12 (Col.ints IntKind.i64 rl12), AObj.var (AV.int IntKind.u64 ch)])

noncomputable def L70a.N (K : Nat) (S : Nat → Int) (ch : Int) : Nat → Int → L70a.O
  | 0, i => .e0 i
  | k_ + 1, i => (bif decide (i < (↑K : Int)) then (bif r51.v (S i.toNat) ch then (.e0 (i)) else (L70a.N K S ch k_ (IntKind.i64.wrap (i + 1)))) else (.e1))

noncomputable def L70a.run (K : Nat) (S : Nat → Int) (ch : Int) (i : Int) : L70a.O := L70a.N K S ch ((((↑K : Int) - i).toNat) + 1) i

theorem L70a.nx (n : Nat) (g : Nat → SD) (rv12 : Nat) (rl12 : List Int) (K : Nat) (S : Nat → Int) (ch : Int) {k_ : Nat} {z_ : Int} {h_ : AHeap} (s_ : Int) (h1 : L70a.inv n g rv12 rl12 K S ch s_) (h2 : L70a.mu n g rv12 rl12 K S ch s_ < L70a.mu n g rv12 rl12 K S ch z_) (h3 : L70a.N K S ch k_ s_ = L70a.N K S ch (k_ + 1) z_) (h4 : PopOk (L70a.H n g rv12 rl12 K S ch z_) h_ (L70a.T n g rv12 rl12 K S ch s_) (L70a.H n g rv12 rl12 K S ch s_)) : LNextP (fun (z_ : Int) => L70a.T n g rv12 rl12 K S ch z_) (fun (z_ : Int) => L70a.H n g rv12 rl12 K S ch z_) (fun (z_ : Int) => L70a.inv n g rv12 rl12 K S ch z_) (fun (z_ : Int) => L70a.mu n g rv12 rl12 K S ch z_) (fun (k_ : Nat) (z_ : Int) => L70a.N K S ch k_ z_) k_ z_ (L70a.T n g rv12 rl12 K S ch s_) h_ := LNextP.mk (Tm := (fun (z_ : Int) => L70a.T n g rv12 rl12 K S ch z_)) (Hp := (fun (z_ : Int) => L70a.H n g rv12 rl12 K S ch z_)) (inv := (fun (z_ : Int) => L70a.inv n g rv12 rl12 K S ch z_)) (mu := (fun (z_ : Int) => L70a.mu n g rv12 rl12 K S ch z_)) (l := (fun (k_ : Nat) (z_ : Int) => L70a.N K S ch k_ z_)) s_ h1 h2 h3 h4

theorem L70a.en (n : Nat) (g : Nat → SD) (rv12 : Nat) (rl12 : List Int) (K : Nat) (S : Nat → Int) (ch : Int) {k_ : Nat} {z_ : Int} {h_ : AHeap} (o_ : L70a.O) (h3 : L70a.N K S ch (k_ + 1) z_ = o_) (h4 : PopOk (L70a.H n g rv12 rl12 K S ch z_) h_ (L70a.X n g rv12 rl12 K S ch o_) (L70a.XH n g rv12 rl12 K S ch o_)) : LEndP (fun (z_ : Int) => L70a.H n g rv12 rl12 K S ch z_) (fun (k_ : Nat) (z_ : Int) => L70a.N K S ch k_ z_) L70a.E (L70a.X n g rv12 rl12 K S ch) (L70a.XH n g rv12 rl12 K S ch) k_ z_ (L70a.E o_) (L70a.X n g rv12 rl12 K S ch o_) h_ := LEndP.mk (Hp := (fun (z_ : Int) => L70a.H n g rv12 rl12 K S ch z_)) (l := (fun (k_ : Nat) (z_ : Int) => L70a.N K S ch k_ z_)) (oE := L70a.E) (oT := L70a.X n g rv12 rl12 K S ch) (oH := L70a.XH n g rv12 rl12 K S ch) o_ h3 h4

theorem L70a.spec (n : Nat) (g : Nat → SD) (rv12 : Nat) (rl12 : List Int) (K : Nat) (S : Nat → Int) (hK : K ≤ 9223372036854775807) (ch : Int) (k_ : Nat) (z_ : Int) (hi_ : L70a.inv n g rv12 rl12 K S ch z_) (hm_ : L70a.mu n g rv12 rl12 K S ch z_ < k_) : LoopTo Try.prog (loopN Try.f70 0) (L70a.T n g rv12 rl12 K S ch z_) (L70a.H n g rv12 rl12 K S ch z_) (L70a.E (L70a.N K S ch k_ z_)) (L70a.X n g rv12 rl12 K S ch (L70a.N K S ch k_ z_)) (L70a.XH n g rv12 rl12 K S ch (L70a.N K S ch k_ z_)) := by
  refine LoopTo.fuelP mix (fun (z_ : Int) => L70a.T n g rv12 rl12 K S ch z_) (fun (z_ : Int) => L70a.H n g rv12 rl12 K S ch z_) (fun (z_ : Int) => L70a.inv n g rv12 rl12 K S ch z_) (fun (z_ : Int) => L70a.mu n g rv12 rl12 K S ch z_) (fun (k_ : Nat) (z_ : Int) => L70a.N K S ch k_ z_) L70a.E (L70a.X n g rv12 rl12 K S ch) (L70a.XH n g rv12 rl12 K S ch) (others 19 [0, 1, 7, 8]) (others 19 [4]) (others 19 []) ?_ k_ z_ hi_ hm_
  clear hm_ hi_ z_ k_
  intro k_ z_ hinv hmu
  revert hinv hmu; revert z_; intro i hinv hmu
  have hinv : 0 ≤ i ∧ i ≤ (↑K : Int) := hinv
  have hmu : (((↑K : Int) - i).toNat) < k_ + 1 := hmu
  cases h1 : decide (i < (↑K : Int)) with
  | true =>
    have h1p := of_decide_eq_true h1
    have o0 : (0 : Int) ≤ i := by first | assumption | omega | (simp_all; done)
    have o1 : i < (↑K : Int) := by first | assumption | omega | (simp_all; done)
    cases h2 : r51.v (S i.toNat) ch with
    | true =>
      exact ⟨[.b true, .ret (AV.bool (r51.v (S i.toNat) ch)) ([AObj.var (AV.sl 5 n fun (i : Nat) => AV.agg [AV.str (g i).nm, AV.int IntKind.i64 (g i).x, AV.int IntKind.i64 (g i).y, AV.sl 1 (g i).nr fun (i_1 : Nat) => AV.int IntKind.i64 ((g i).r i_1), AV.sl 1 (g i).nl fun (i_1 : Nat) => AV.int IntKind.i64 ((g i).l i_1)]), AObj.var (AV.sl 1 K fun (i : Nat) => AV.int IntKind.u64 (S i)), AObj.var (AV.fn 49 [AV.ptr 1 1 1 0 0]), AObj.var (AV.fn 52 [AV.ptr 2 1 1 0 0, AV.ptr 0 1 1 0 0, AV.ptr 3 1 1 0 0]), AObj.row 1 rv12 (Col.ints IntKind.i64 rl12), AObj.var (AV.int IntKind.u64 ch)]), .b true], kmp (by kernel_rfl) (And.intro h1 (And.intro (And.intro o0 o1) (And.intro (r51 (n) (g) (rv12) (rl12) (K) (S) (S i.toNat) (ch)) (And.intro h2 (L70a.en n g rv12 rl12 K S ch (k_ := k_) (z_ := i) (.e0 (i) : L70a.O) (by first | (simp only [L70a.N, h1, h2, cond_true, cond_false]; done) | (try unfold L70a.N; try simp only [h1, cond_true, cond_false]; try simp only [h2, cond_true, cond_false]; try rfl; done)) PopOk.same)))))⟩
    | false =>
      try have := IntWalk.i64_in (i + 1) (by omega)
      have o2 : (0 : Int) ≤ IntKind.i64.wrap (i + (1 : Int)) := by first | assumption | omega | (simp_all; done)
      have o3 : IntKind.i64.wrap (i + (1 : Int)) ≤ (↑K : Int) := by first | assumption | omega | (simp_all; done)
      have o4 : ((↑K : Int) - IntKind.i64.wrap (i + (1 : Int))).toNat < ((↑K : Int) - i).toNat := by first | assumption | omega | (simp_all; done)
      exact ⟨[.b true, .ret (AV.bool (r51.v (S i.toNat) ch)) ([AObj.var (AV.sl 5 n fun (i : Nat) => AV.agg [AV.str (g i).nm, AV.int IntKind.i64 (g i).x, AV.int IntKind.i64 (g i).y, AV.sl 1 (g i).nr fun (i_1 : Nat) => AV.int IntKind.i64 ((g i).r i_1), AV.sl 1 (g i).nl fun (i_1 : Nat) => AV.int IntKind.i64 ((g i).l i_1)]), AObj.var (AV.sl 1 K fun (i : Nat) => AV.int IntKind.u64 (S i)), AObj.var (AV.fn 49 [AV.ptr 1 1 1 0 0]), AObj.var (AV.fn 52 [AV.ptr 2 1 1 0 0, AV.ptr 0 1 1 0 0, AV.ptr 3 1 1 0 0]), AObj.row 1 rv12 (Col.ints IntKind.i64 rl12), AObj.var (AV.int IntKind.u64 ch)]), .b false], kmp (by kernel_rfl) (And.intro h1 (And.intro (And.intro o0 o1) (And.intro (r51 (n) (g) (rv12) (rl12) (K) (S) (S i.toNat) (ch)) (And.intro h2 (L70a.nx n g rv12 rl12 K S ch (k_ := k_) (z_ := i) (IntKind.i64.wrap (i + 1)) (And.intro o2 o3) o4 (by first | (simp only [L70a.N, h1, h2, cond_true, cond_false]; done) | (try unfold L70a.N; try simp only [h1, cond_true, cond_false]; try simp only [h2, cond_true, cond_false]; try rfl; done)) PopOk.same)))))⟩
  | false =>
    have h1p := of_decide_eq_false h1
    exact ⟨[.b false], kmp (by kernel_rfl) (And.intro h1 (L70a.en n g rv12 rl12 K S ch (k_ := k_) (z_ := i) (.e1 : L70a.O) (by first | (simp only [L70a.N, h1, cond_true, cond_false]; done) | (try unfold L70a.N; try simp only [h1, cond_true, cond_false]; try rfl; done)) PopOk.same))⟩

theorem L70a.e0 (n : Nat) (g : Nat → SD) (rv12 : Nat) (rl12 : List Int) (K : Nat) (S : Nat → Int) (hK : K ≤ 9223372036854775807) (ch : Int) (i : Int) (hinv : L70a.inv n g rv12 rl12 K S ch i) (a0 : Int) (hN : L70a.run K S ch i = (.e0 a0 : L70a.O)) : LoopTo Try.prog (loopN Try.f70 0) (L70a.T n g rv12 rl12 K S ch i) (L70a.H n g rv12 rl12 K S ch i) (Exit.ret) (L70a.X n g rv12 rl12 K S ch (.e0 a0 : L70a.O)) (L70a.XH n g rv12 rl12 K S ch (.e0 a0 : L70a.O)) := by
  have h_ := L70a.spec n g rv12 rl12 K S hK ch ((((↑K : Int) - i).toNat) + 1) i hinv (Nat.lt_succ_self _)
  unfold L70a.run at hN
  simp only [hN] at h_
  exact h_

theorem L70a.e1 (n : Nat) (g : Nat → SD) (rv12 : Nat) (rl12 : List Int) (K : Nat) (S : Nat → Int) (hK : K ≤ 9223372036854775807) (ch : Int) (i : Int) (hinv : L70a.inv n g rv12 rl12 K S ch i) (hN : L70a.run K S ch i = (.e1 : L70a.O)) : LoopTo Try.prog (loopN Try.f70 0) (L70a.T n g rv12 rl12 K S ch i) (L70a.H n g rv12 rl12 K S ch i) (Exit.exit 0) (L70a.X n g rv12 rl12 K S ch (.e1 : L70a.O)) (L70a.XH n g rv12 rl12 K S ch (.e1 : L70a.O)) := by
  have h_ := L70a.spec n g rv12 rl12 K S hK ch ((((↑K : Int) - i).toNat) + 1) i hinv (Nat.lt_succ_self _)
  unfold L70a.run at hN
  simp only [hN] at h_
  exact h_

noncomputable def r70.v (K : Nat) (S : Nat → Int) (ch : Int) : Int := (match L70a.run K S ch 0 with | .e0 h1d0 => h1d0 | .e1 => -1 )

noncomputable abbrev r70.h0 (n : Nat) (g : Nat → SD) (rv12 : Nat) (rl12 : List Int) (K : Nat) (S : Nat → Int) (ch : Int) : AHeap := ([AObj.var (sts n g), AObj.var (uvs K S), AObj.var (AV.fn 49 [AV.ptr 1 1 1 0 0]), AObj.var (AV.fn 52 [AV.ptr 2 1 1 0 0, AV.ptr 0 1 1 0 0, AV.ptr 3 1 1 0 0]), AObj.row 1 rv12 (Col.ints IntKind.i64 rl12), AObj.var (AV.int IntKind.u64 ch)])

theorem r70 (n : Nat) (g : Nat → SD) (rv12 : Nat) (rl12 : List Int) (K : Nat) (S : Nat → Int) (hK : K ≤ 9223372036854775807) (ch : Int) : Ret Try.prog 70 ([uvs K S, AV.fn 51 [AV.ptr 5 1 1 0 0]]) (r70.h0 n g rv12 rl12 K S ch) (AV.int IntKind.i64 (r70.v K S ch)) (r70.h0 n g rv12 rl12 K S ch) := by
  have o0 : K ≤ (9223372036854775807 : Nat) := by first | assumption | omega | (simp_all; done)
  have o1 : (0 : Int) ≤ (↑K : Int) := by first | assumption | omega | (simp_all; done)
  cases h1 : L70a.run K S ch 0 with
  | e0 h1d0 =>
    exact Ret.of_runH mix [(AV.int IntKind.i64 (r70.v K S ch))] (r70.h0 n g rv12 rl12 K S ch) Try.func70 rfl [.loop (others 19 [0, 1, 7, 8]) (Exit.ret) (L70a.X n g rv12 rl12 K S ch (L70a.O.e0 h1d0)) (L70a.XH n g rv12 rl12 K S ch (L70a.O.e0 h1d0))] (by simp) (kmp (by kernel_rfl) (And.intro (L70a.e0 (n) (g) (rv12) (rl12) (K) (S) o0 (ch) (0) (And.intro (show (0 : Int) ≤ (0 : Int) by first | decide | exact Int.NonNeg.mk _) o1) h1d0 h1) (And.intro (And.intro (show (AV.int IntKind.i64 h1d0) = ((AV.int IntKind.i64 (r70.v K S ch))) by first | (simp only [r70.v, h1, cond_true, cond_false]; done) | (try unfold r70.v; try simp only [h1, cond_true, cond_false]; try rfl; done) | rfl) trivial) (rfl : ([AObj.var (sts n g), AObj.var (uvs K S), AObj.var (AV.fn 49 [AV.ptr 1 1 1 0 0]), AObj.var (AV.fn 52 [AV.ptr 2 1 1 0 0, AV.ptr 0 1 1 0 0, AV.ptr 3 1 1 0 0]), AObj.row 1 rv12 (Col.ints IntKind.i64 rl12), AObj.var (AV.int IntKind.u64 ch)] : AHeap) = [AObj.var (sts n g), AObj.var (uvs K S), AObj.var (AV.fn 49 [AV.ptr 1 1 1 0 0]), AObj.var (AV.fn 52 [AV.ptr 2 1 1 0 0, AV.ptr 0 1 1 0 0, AV.ptr 3 1 1 0 0]), AObj.row 1 rv12 (Col.ints IntKind.i64 rl12), AObj.var (AV.int IntKind.u64 ch)]))))
  | e1 =>
    exact Ret.of_runH mix [(AV.int IntKind.i64 (r70.v K S ch))] (r70.h0 n g rv12 rl12 K S ch) Try.func70 rfl [.loop (others 19 [0, 1, 7, 8]) (Exit.exit 0) (L70a.X n g rv12 rl12 K S ch L70a.O.e1) (L70a.XH n g rv12 rl12 K S ch L70a.O.e1)] (by simp) (kmp (by kernel_rfl) (And.intro (L70a.e1 (n) (g) (rv12) (rl12) (K) (S) o0 (ch) (0) (And.intro (show (0 : Int) ≤ (0 : Int) by first | decide | exact Int.NonNeg.mk _) o1) h1) (And.intro (And.intro (show (AV.int IntKind.i64 (-1)) = ((AV.int IntKind.i64 (r70.v K S ch))) by first | (simp only [r70.v, h1, cond_true, cond_false]; done) | (try unfold r70.v; try simp only [h1, cond_true, cond_false]; try rfl; done) | rfl) trivial) (rfl : ([AObj.var (sts n g), AObj.var (uvs K S), AObj.var (AV.fn 49 [AV.ptr 1 1 1 0 0]), AObj.var (AV.fn 52 [AV.ptr 2 1 1 0 0, AV.ptr 0 1 1 0 0, AV.ptr 3 1 1 0 0]), AObj.row 1 rv12 (Col.ints IntKind.i64 rl12), AObj.var (AV.int IntKind.u64 ch)] : AHeap) = [AObj.var (sts n g), AObj.var (uvs K S), AObj.var (AV.fn 49 [AV.ptr 1 1 1 0 0]), AObj.var (AV.fn 52 [AV.ptr 2 1 1 0 0, AV.ptr 0 1 1 0 0, AV.ptr 3 1 1 0 0]), AObj.row 1 rv12 (Col.ints IntKind.i64 rl12), AObj.var (AV.int IntKind.u64 ch)]))))

noncomputable def r50.v (K : Nat) (S : Nat → Int) (ch : Int) : Bool := decide (r70.v K S ch ≥ 0)

noncomputable abbrev r50.h0 (n : Nat) (g : Nat → SD) (rv12 : Nat) (rl12 : List Int) (K : Nat) (S : Nat → Int) (ch : Int) : AHeap := ([AObj.var (sts n g), AObj.var (uvs K S), AObj.var (AV.fn 49 [AV.ptr 1 1 1 0 0]), AObj.var (AV.fn 52 [AV.ptr 2 1 1 0 0, AV.ptr 0 1 1 0 0, AV.ptr 3 1 1 0 0]), AObj.row 1 rv12 (Col.ints IntKind.i64 rl12), AObj.var (AV.int IntKind.u64 ch)])

theorem r50 (n : Nat) (g : Nat → SD) (rv12 : Nat) (rl12 : List Int) (K : Nat) (S : Nat → Int) (hK : K ≤ 9223372036854775807) (ch : Int) : Ret Try.prog 50 ([uvs K S, AV.fn 51 [AV.ptr 5 1 1 0 0]]) (r50.h0 n g rv12 rl12 K S ch) (AV.bool (r50.v K S ch)) (r50.h0 n g rv12 rl12 K S ch) := by
  have o0 : K ≤ (9223372036854775807 : Nat) := by first | assumption | omega | (simp_all; done)
  exact Ret.of_runH mix [(AV.bool (r50.v K S ch))] (r50.h0 n g rv12 rl12 K S ch) Try.func50 rfl [.ret (AV.int IntKind.i64 (r70.v K S ch)) ([AObj.var (AV.sl 5 n fun (i : Nat) => AV.agg [AV.str (g i).nm, AV.int IntKind.i64 (g i).x, AV.int IntKind.i64 (g i).y, AV.sl 1 (g i).nr fun (i_1 : Nat) => AV.int IntKind.i64 ((g i).r i_1), AV.sl 1 (g i).nl fun (i_1 : Nat) => AV.int IntKind.i64 ((g i).l i_1)]), AObj.var (AV.sl 1 K fun (i : Nat) => AV.int IntKind.u64 (S i)), AObj.var (AV.fn 49 [AV.ptr 1 1 1 0 0]), AObj.var (AV.fn 52 [AV.ptr 2 1 1 0 0, AV.ptr 0 1 1 0 0, AV.ptr 3 1 1 0 0]), AObj.row 1 rv12 (Col.ints IntKind.i64 rl12), AObj.var (AV.int IntKind.u64 ch)])] (by simp) (kmp (by kernel_rfl) (And.intro (r70 (n) (g) (rv12) (rl12) (K) (S) o0 (ch)) (And.intro (And.intro (show (AV.bool (decide (r70.v K S ch ≥ 0))) = ((AV.bool (r50.v K S ch))) by first | (simp only [r50.v, cond_true, cond_false]; done) | (try unfold r50.v; try rfl; done) | rfl) trivial) (rfl : ([AObj.var (sts n g), AObj.var (uvs K S), AObj.var (AV.fn 49 [AV.ptr 1 1 1 0 0]), AObj.var (AV.fn 52 [AV.ptr 2 1 1 0 0, AV.ptr 0 1 1 0 0, AV.ptr 3 1 1 0 0]), AObj.row 1 rv12 (Col.ints IntKind.i64 rl12), AObj.var (AV.int IntKind.u64 ch)] : AHeap) = [AObj.var (sts n g), AObj.var (uvs K S), AObj.var (AV.fn 49 [AV.ptr 1 1 1 0 0]), AObj.var (AV.fn 52 [AV.ptr 2 1 1 0 0, AV.ptr 0 1 1 0 0, AV.ptr 3 1 1 0 0]), AObj.row 1 rv12 (Col.ints IntKind.i64 rl12), AObj.var (AV.int IntKind.u64 ch)]))))

noncomputable def r49.v (K : Nat) (S : Nat → Int) (ch : Int) : Bool := bnot (r50.v K S ch)

noncomputable abbrev r49.h0 (n : Nat) (g : Nat → SD) (rv12 : Nat) (rl12 : List Int) (K : Nat) (S : Nat → Int) (ch : Int) : AHeap := ([AObj.var (sts n g), AObj.var (uvs K S), AObj.var (AV.fn 49 [AV.ptr 1 1 1 0 0]), AObj.var (AV.fn 52 [AV.ptr 2 1 1 0 0, AV.ptr 0 1 1 0 0, AV.ptr 3 1 1 0 0]), AObj.row 1 rv12 (Col.ints IntKind.i64 rl12)])

theorem r49 (n : Nat) (g : Nat → SD) (rv12 : Nat) (rl12 : List Int) (K : Nat) (S : Nat → Int) (hK : K ≤ 9223372036854775807) (ch : Int) : Ret Try.prog 49 ([AV.int IntKind.u64 ch, AV.ptr 1 1 1 0 0]) (r49.h0 n g rv12 rl12 K S ch) (AV.bool (r49.v K S ch)) (r49.h0 n g rv12 rl12 K S ch) := by
  have o0 : K ≤ (9223372036854775807 : Nat) := by first | assumption | omega | (simp_all; done)
  exact Ret.of_runH mix [(AV.bool (r49.v K S ch))] (r49.h0 n g rv12 rl12 K S ch) Try.func49 rfl [.ret (AV.bool (r50.v K S ch)) ([AObj.var (AV.sl 5 n fun (i : Nat) => AV.agg [AV.str (g i).nm, AV.int IntKind.i64 (g i).x, AV.int IntKind.i64 (g i).y, AV.sl 1 (g i).nr fun (i_1 : Nat) => AV.int IntKind.i64 ((g i).r i_1), AV.sl 1 (g i).nl fun (i_1 : Nat) => AV.int IntKind.i64 ((g i).l i_1)]), AObj.var (AV.sl 1 K fun (i : Nat) => AV.int IntKind.u64 (S i)), AObj.var (AV.fn 49 [AV.ptr 1 1 1 0 0]), AObj.var (AV.fn 52 [AV.ptr 2 1 1 0 0, AV.ptr 0 1 1 0 0, AV.ptr 3 1 1 0 0]), AObj.row 1 rv12 (Col.ints IntKind.i64 rl12), AObj.var (AV.int IntKind.u64 ch)])] (by simp) (kmp (by kernel_rfl) (And.intro (r50 (n) (g) (rv12) (rl12) (K) (S) o0 (ch)) (And.intro (And.intro (show (AV.bool (bnot (r50.v K S ch))) = ((AV.bool (r49.v K S ch))) by first | (simp only [r49.v, cond_true, cond_false]; done) | (try unfold r49.v; try rfl; done) | rfl) trivial) (rfl : ([AObj.var (sts n g), AObj.var (uvs K S), AObj.var (AV.fn 49 [AV.ptr 1 1 1 0 0]), AObj.var (AV.fn 52 [AV.ptr 2 1 1 0 0, AV.ptr 0 1 1 0 0, AV.ptr 3 1 1 0 0]), AObj.row 1 rv12 (Col.ints IntKind.i64 rl12)] : AHeap) = [AObj.var (sts n g), AObj.var (uvs K S), AObj.var (AV.fn 49 [AV.ptr 1 1 1 0 0]), AObj.var (AV.fn 52 [AV.ptr 2 1 1 0 0, AV.ptr 0 1 1 0 0, AV.ptr 3 1 1 0 0]), AObj.row 1 rv12 (Col.ints IntKind.i64 rl12)]))))

noncomputable def r52_0.v1 (K : Nat) (S : Nat → Int) (ch : Int) : Bool := r49.v K S ch

noncomputable abbrev r52_0.h0 (n : Nat) (g : Nat → SD) (rv12 : Nat) (rl12 : List Int) (K : Nat) (S : Nat → Int) (from_ : Int) (ch : Int) : AHeap := ([AObj.var (sts n g), AObj.var (uvs K S), AObj.var (AV.fn 49 [AV.ptr 1 1 1 0 0]), AObj.var (AV.fn 52 [AV.ptr 2 1 1 0 0, AV.ptr 0 1 1 0 0, AV.ptr 3 1 1 0 0]), AObj.row 1 rv12 (Col.ints IntKind.i64 rl12)])

theorem r52_0 (n : Nat) (g : Nat → SD) (rv12 : Nat) (rl12 : List Int) (K : Nat) (S : Nat → Int) (hK : K ≤ 9223372036854775807) (from_ : Int) (ch : Int) : Ret Try.prog 52 ([AV.int IntKind.i64 from_, AV.int IntKind.i64 0, AV.int IntKind.u64 ch, AV.ptr 2 1 1 0 0, AV.ptr 0 1 1 0 0, AV.ptr 3 1 1 0 0]) (r52_0.h0 n g rv12 rl12 K S from_ ch) (AV.tup [(AV.int IntKind.u64 ch), (AV.bool (r52_0.v1 K S ch))]) (r52_0.h0 n g rv12 rl12 K S from_ ch) := by
  have o0 : K ≤ (9223372036854775807 : Nat) := by first | assumption | omega | (simp_all; done)
  exact Ret.of_runH mix [(AV.int IntKind.u64 ch), (AV.bool (r52_0.v1 K S ch))] (r52_0.h0 n g rv12 rl12 K S from_ ch) Try.func52 rfl [.b true, .ret (AV.bool (r49.v K S ch)) ([AObj.var (AV.sl 5 n fun (i : Nat) => AV.agg [AV.str (g i).nm, AV.int IntKind.i64 (g i).x, AV.int IntKind.i64 (g i).y, AV.sl 1 (g i).nr fun (i_1 : Nat) => AV.int IntKind.i64 ((g i).r i_1), AV.sl 1 (g i).nl fun (i_1 : Nat) => AV.int IntKind.i64 ((g i).l i_1)]), AObj.var (AV.sl 1 K fun (i : Nat) => AV.int IntKind.u64 (S i)), AObj.var (AV.fn 49 [AV.ptr 1 1 1 0 0]), AObj.var (AV.fn 52 [AV.ptr 2 1 1 0 0, AV.ptr 0 1 1 0 0, AV.ptr 3 1 1 0 0]), AObj.row 1 rv12 (Col.ints IntKind.i64 rl12)])] (by simp) (kmp (by kernel_rfl) (And.intro (rfl : true = true) (And.intro (r49 (n) (g) (rv12) (rl12) (K) (S) o0 (ch)) (And.intro (And.intro (show (AV.int IntKind.u64 ch) = ((AV.int IntKind.u64 ch)) by first | (simp only [r52_0.v1, cond_true, cond_false]; done) | (try unfold r52_0.v1; try rfl; done) | rfl) (And.intro (show (AV.bool (r49.v K S ch)) = ((AV.bool (r52_0.v1 K S ch))) by first | (simp only [r52_0.v1, cond_true, cond_false]; done) | (try unfold r52_0.v1; try rfl; done) | rfl) trivial)) (rfl : ([AObj.var (sts n g), AObj.var (uvs K S), AObj.var (AV.fn 49 [AV.ptr 1 1 1 0 0]), AObj.var (AV.fn 52 [AV.ptr 2 1 1 0 0, AV.ptr 0 1 1 0 0, AV.ptr 3 1 1 0 0]), AObj.row 1 rv12 (Col.ints IntKind.i64 rl12)] : AHeap) = [AObj.var (sts n g), AObj.var (uvs K S), AObj.var (AV.fn 49 [AV.ptr 1 1 1 0 0]), AObj.var (AV.fn 52 [AV.ptr 2 1 1 0 0, AV.ptr 0 1 1 0 0, AV.ptr 3 1 1 0 0]), AObj.row 1 rv12 (Col.ints IntKind.i64 rl12)])))))

end Go.Proofs.Ytgmppoappaolkaa

open Go

namespace Go.Proofs.Ytgmppoappaolkaa

set_option linter.unusedSimpArgs false

set_option linter.unusedVariables false

set_option maxHeartbeats 0

set_option maxRecDepth 100000

theorem bd_ik {n : Nat} {i c : Int} (h : IntKind.i64.wrap (i + c) ≤ (n : Int)) (h0 : 0 ≤ i) (h1 : i ≤ 70) (hc0 : 0 ≤ c) (hc : c ≤ 10) : i + c ≤ n := by
  rw [IntWalk.i64_in _ (by omega)] at h; exact h

inductive L52_1a.O where
  | e0 (a0 : Int)
  | e1

noncomputable def L52_1a.T (n : Nat) (g : Nat → SD) (rv12 : Nat) (rl12 : List Int) (K : Nat) (S : Nat → Int) (ch : Int) (i : Int) : List AV := mkT 44 [(1, AV.int IntKind.i64 1), (2, AV.int IntKind.u64 ch), (3, AV.ptr 2 1 1 0 0), (4, AV.ptr 0 1 1 0 0), (5, AV.ptr 3 1 1 0 0), (11, AV.int IntKind.i64 i)]

noncomputable def L52_1a.H (n : Nat) (g : Nat → SD) (rv12 : Nat) (rl12 : List Int) (K : Nat) (S : Nat → Int) (ch : Int) (i : Int) : AHeap := [AObj.var (sts n g), AObj.var (uvs K S), AObj.var (AV.fn 49 [AV.ptr 1 1 1 0 0]), AObj.var (AV.fn 52 [AV.ptr 2 1 1 0 0, AV.ptr 0 1 1 0 0, AV.ptr 3 1 1 0 0]), AObj.row 1 rv12 (Col.ints IntKind.i64 rl12)]

def L52_1a.inv (n : Nat) (g : Nat → SD) (rv12 : Nat) (rl12 : List Int) (K : Nat) (S : Nat → Int) (ch : Int) (i : Int) : Prop := 0 ≤ i ∧ i ≤ 70

noncomputable def L52_1a.mu (n : Nat) (g : Nat → SD) (rv12 : Nat) (rl12 : List Int) (K : Nat) (S : Nat → Int) (ch : Int) (i : Int) : Nat := (71 - i).toNat

noncomputable def L52_1a.E : L52_1a.O → Exit
  | .e0 a0 => Exit.ret
  | .e1 => Exit.exit 0

noncomputable def L52_1a.X (n : Nat) (g : Nat → SD) (rv12 : Nat) (rl12 : List Int) (K : Nat) (S : Nat → Int) (ch : Int) : L52_1a.O → List AV
  | .e0 a0 => mkT 44 [(9, (AV.int IntKind.u64 a0)), (10, (AV.bool true))]
  | .e1 => mkT 44 []

noncomputable def L52_1a.XH (n : Nat) (g : Nat → SD) (rv12 : Nat) (rl12 : List Int) (K : Nat) (S : Nat → Int) (ch : Int) : L52_1a.O → AHeap
  | .e0 a0 => ([AObj.var (AV.sl 5 n fun (i : Nat) => AV.agg [AV.str (g i).nm, AV.int IntKind.i64 (g i).x, AV.int IntKind.i64 (g i).y, AV.sl 1 (g i).nr fun (i_1 : Nat) => AV.int IntKind.i64 ((g i).r i_1), AV.sl 1 (g i).nl fun (i_1 : Nat) => AV.int IntKind.i64 ((g i).l i_1)]), AObj.var (AV.sl 1 K fun (i : Nat) => AV.int IntKind.u64 (S i)), AObj.var (AV.fn 49 [AV.ptr 1 1 1 0 0]), AObj.var (AV.fn 52 [AV.ptr 2 1 1 0 0, AV.ptr 0 1 1 0 0, AV.ptr 3 1 1 0 0]), AObj.row 1 rv12 (Col.ints IntKind.i64 rl12)])
  | .e1 => ([AObj.var (AV.sl 5 n fun (i : Nat) => AV.agg [AV.str (g i).nm, AV.int IntKind.i64 (g i).x, AV.int IntKind.i64 (g i).y, AV.sl 1 (g i).nr fun (i_1 : Nat) => AV.int IntKind.i64 ((g i).r i_1), AV.sl 1 (g i).nl fun (i_1 : Nat) => AV.int IntKind.i64 ((g i).l i_1)]), AObj.var (AV.sl 1 K fun (i : Nat) => AV.int IntKind.u64 (S i)), AObj.var (AV.fn 49 [AV.ptr 1 1 1 0 0]), AObj.var (AV.fn 52 [AV.ptr 2 1 1 0 0, AV.ptr 0 1 1 0 0, AV.ptr 3 1 1 0 0]), AObj.row 1 rv12 (Col.ints IntKind.i64 rl12)])

noncomputable def L52_1a.N (n : Nat) (K : Nat) (S : Nat → Int) (ch : Int) : Nat → Int → L52_1a.O
  | 0, _ => .e0 default
  | k_ + 1, i => (bif decide (IntKind.i64.wrap (i + 1) ≤ (↑n : Int)) then (bif r52_0.v1 K S (IntKind.u64.wrap (↑(BitVec.ofInt 64 ch ||| BitVec.ofInt 64 (IntKind.u64.wrap (1 * 2 ^ min i.toNat 64))).toNat : Int)) then (.e0 (IntKind.u64.wrap (↑(BitVec.ofInt 64 ch ||| BitVec.ofInt 64 (IntKind.u64.wrap (1 * 2 ^ min i.toNat 64))).toNat : Int))) else (L52_1a.N n K S ch k_ (IntKind.i64.wrap (i + 1)))) else (.e1))

noncomputable def L52_1a.run (n : Nat) (K : Nat) (S : Nat → Int) (ch : Int) (i : Int) : L52_1a.O := L52_1a.N n K S ch (((71 - i).toNat) + 1) i

theorem L52_1a.nx (n : Nat) (g : Nat → SD) (rv12 : Nat) (rl12 : List Int) (K : Nat) (S : Nat → Int) (ch : Int) {k_ : Nat} {z_ : Int} {h_ : AHeap} (s_ : Int) (h1 : L52_1a.inv n g rv12 rl12 K S ch s_) (h2 : L52_1a.mu n g rv12 rl12 K S ch s_ < L52_1a.mu n g rv12 rl12 K S ch z_) (h3 : L52_1a.N n K S ch k_ s_ = L52_1a.N n K S ch (k_ + 1) z_) (h4 : PopOk (L52_1a.H n g rv12 rl12 K S ch z_) h_ (L52_1a.T n g rv12 rl12 K S ch s_) (L52_1a.H n g rv12 rl12 K S ch s_)) : LNextP (fun (z_ : Int) => L52_1a.T n g rv12 rl12 K S ch z_) (fun (z_ : Int) => L52_1a.H n g rv12 rl12 K S ch z_) (fun (z_ : Int) => L52_1a.inv n g rv12 rl12 K S ch z_) (fun (z_ : Int) => L52_1a.mu n g rv12 rl12 K S ch z_) (fun (k_ : Nat) (z_ : Int) => L52_1a.N n K S ch k_ z_) k_ z_ (L52_1a.T n g rv12 rl12 K S ch s_) h_ := LNextP.mk (Tm := (fun (z_ : Int) => L52_1a.T n g rv12 rl12 K S ch z_)) (Hp := (fun (z_ : Int) => L52_1a.H n g rv12 rl12 K S ch z_)) (inv := (fun (z_ : Int) => L52_1a.inv n g rv12 rl12 K S ch z_)) (mu := (fun (z_ : Int) => L52_1a.mu n g rv12 rl12 K S ch z_)) (l := (fun (k_ : Nat) (z_ : Int) => L52_1a.N n K S ch k_ z_)) s_ h1 h2 h3 h4

theorem L52_1a.en (n : Nat) (g : Nat → SD) (rv12 : Nat) (rl12 : List Int) (K : Nat) (S : Nat → Int) (ch : Int) {k_ : Nat} {z_ : Int} {h_ : AHeap} (o_ : L52_1a.O) (h3 : L52_1a.N n K S ch (k_ + 1) z_ = o_) (h4 : PopOk (L52_1a.H n g rv12 rl12 K S ch z_) h_ (L52_1a.X n g rv12 rl12 K S ch o_) (L52_1a.XH n g rv12 rl12 K S ch o_)) : LEndP (fun (z_ : Int) => L52_1a.H n g rv12 rl12 K S ch z_) (fun (k_ : Nat) (z_ : Int) => L52_1a.N n K S ch k_ z_) L52_1a.E (L52_1a.X n g rv12 rl12 K S ch) (L52_1a.XH n g rv12 rl12 K S ch) k_ z_ (L52_1a.E o_) (L52_1a.X n g rv12 rl12 K S ch o_) h_ := LEndP.mk (Hp := (fun (z_ : Int) => L52_1a.H n g rv12 rl12 K S ch z_)) (l := (fun (k_ : Nat) (z_ : Int) => L52_1a.N n K S ch k_ z_)) (oE := L52_1a.E) (oT := L52_1a.X n g rv12 rl12 K S ch) (oH := L52_1a.XH n g rv12 rl12 K S ch) o_ h3 h4

theorem L52_1a.spec (n : Nat) (g : Nat → SD) (rv12 : Nat) (rl12 : List Int) (hn : (↑n : Int) ≤ 64) (K : Nat) (S : Nat → Int) (hK : K ≤ 9223372036854775807) (ch : Int) (k_ : Nat) (z_ : Int) (hi_ : L52_1a.inv n g rv12 rl12 K S ch z_) (hm_ : L52_1a.mu n g rv12 rl12 K S ch z_ < k_) : LoopTo Try.prog (loopN Try.f52 0) (L52_1a.T n g rv12 rl12 K S ch z_) (L52_1a.H n g rv12 rl12 K S ch z_) (L52_1a.E (L52_1a.N n K S ch k_ z_)) (L52_1a.X n g rv12 rl12 K S ch (L52_1a.N n K S ch k_ z_)) (L52_1a.XH n g rv12 rl12 K S ch (L52_1a.N n K S ch k_ z_)) := by
  refine LoopTo.fuelP mix (fun (z_ : Int) => L52_1a.T n g rv12 rl12 K S ch z_) (fun (z_ : Int) => L52_1a.H n g rv12 rl12 K S ch z_) (fun (z_ : Int) => L52_1a.inv n g rv12 rl12 K S ch z_) (fun (z_ : Int) => L52_1a.mu n g rv12 rl12 K S ch z_) (fun (k_ : Nat) (z_ : Int) => L52_1a.N n K S ch k_ z_) L52_1a.E (L52_1a.X n g rv12 rl12 K S ch) (L52_1a.XH n g rv12 rl12 K S ch) (others 44 [1, 2, 3, 4, 5, 11]) (others 44 [9, 10]) (others 44 []) ?_ k_ z_ hi_ hm_
  clear hm_ hi_ z_ k_
  intro k_ z_ hinv hmu
  revert hinv hmu; revert z_; intro i hinv hmu
  have hinv : 0 ≤ i ∧ i ≤ 70 := hinv
  have hmu : ((71 - i).toNat) < k_ + 1 := hmu
  cases h1 : decide (IntKind.i64.wrap (i + 1) ≤ (↑n : Int)) with
  | true =>
    have h1p := of_decide_eq_true h1
    try have := bd_ik (by first | assumption | omega) (by first | assumption | omega) (by first | assumption | omega) (by first | assumption | omega) (by first | assumption | omega)
    have o0 : (0 : Int) ≤ i := by first | assumption | omega | (simp_all; done)
    have o1 : K ≤ (9223372036854775807 : Nat) := by first | assumption | omega | (simp_all; done)
    cases h2 : r52_0.v1 K S (IntKind.u64.wrap (↑(BitVec.ofInt 64 ch ||| BitVec.ofInt 64 (IntKind.u64.wrap (1 * 2 ^ min i.toNat 64))).toNat : Int)) with
    | true =>
      exact ⟨[.b true, .ret (AV.tup [AV.int IntKind.u64 (IntKind.u64.wrap (↑(BitVec.ofInt 64 ch ||| BitVec.ofInt 64 (IntKind.u64.wrap (1 * 2 ^ min i.toNat 64))).toNat : Int)), AV.bool (r52_0.v1 K S (IntKind.u64.wrap (↑(BitVec.ofInt 64 ch ||| BitVec.ofInt 64 (IntKind.u64.wrap (1 * 2 ^ min i.toNat 64))).toNat : Int)))]) ([AObj.var (AV.sl 5 n fun (i : Nat) => AV.agg [AV.str (g i).nm, AV.int IntKind.i64 (g i).x, AV.int IntKind.i64 (g i).y, AV.sl 1 (g i).nr fun (i_1 : Nat) => AV.int IntKind.i64 ((g i).r i_1), AV.sl 1 (g i).nl fun (i_1 : Nat) => AV.int IntKind.i64 ((g i).l i_1)]), AObj.var (AV.sl 1 K fun (i : Nat) => AV.int IntKind.u64 (S i)), AObj.var (AV.fn 49 [AV.ptr 1 1 1 0 0]), AObj.var (AV.fn 52 [AV.ptr 2 1 1 0 0, AV.ptr 0 1 1 0 0, AV.ptr 3 1 1 0 0]), AObj.row 1 rv12 (Col.ints IntKind.i64 rl12)]), .b true], kmp (by kernel_rfl) (And.intro h1 (And.intro o0 (And.intro (r52_0 (n) (g) (rv12) (rl12) (K) (S) o1 (IntKind.i64.wrap (i + 1)) (IntKind.u64.wrap (↑(BitVec.ofInt 64 ch ||| BitVec.ofInt 64 (IntKind.u64.wrap (1 * 2 ^ min i.toNat 64))).toNat : Int))) (And.intro h2 (L52_1a.en n g rv12 rl12 K S ch (k_ := k_) (z_ := i) (.e0 (IntKind.u64.wrap (↑(BitVec.ofInt 64 ch ||| BitVec.ofInt 64 (IntKind.u64.wrap (1 * 2 ^ min i.toNat 64))).toNat : Int)) : L52_1a.O) (by first | (simp only [L52_1a.N, h1, h2, cond_true, cond_false]; done) | (try unfold L52_1a.N; try simp only [h1, cond_true, cond_false]; try simp only [h2, cond_true, cond_false]; try rfl; done)) PopOk.same)))))⟩
    | false =>
      try have := bd_ik (by first | assumption | omega) (by first | assumption | omega) (by first | assumption | omega) (by first | assumption | omega) (by first | assumption | omega)
      try have := IntWalk.i64_in (i + 1) (by omega)
      have o2 : (0 : Int) ≤ IntKind.i64.wrap (i + (1 : Int)) := by first | assumption | omega | (simp_all; done)
      have o3 : IntKind.i64.wrap (i + (1 : Int)) ≤ (70 : Int) := by first | assumption | omega | (simp_all; done)
      have o4 : ((71 : Int) - IntKind.i64.wrap (i + (1 : Int))).toNat < ((71 : Int) - i).toNat := by first | assumption | omega | (simp_all; done)
      exact ⟨[.b true, .ret (AV.tup [AV.int IntKind.u64 (IntKind.u64.wrap (↑(BitVec.ofInt 64 ch ||| BitVec.ofInt 64 (IntKind.u64.wrap (1 * 2 ^ min i.toNat 64))).toNat : Int)), AV.bool (r52_0.v1 K S (IntKind.u64.wrap (↑(BitVec.ofInt 64 ch ||| BitVec.ofInt 64 (IntKind.u64.wrap (1 * 2 ^ min i.toNat 64))).toNat : Int)))]) ([AObj.var (AV.sl 5 n fun (i : Nat) => AV.agg [AV.str (g i).nm, AV.int IntKind.i64 (g i).x, AV.int IntKind.i64 (g i).y, AV.sl 1 (g i).nr fun (i_1 : Nat) => AV.int IntKind.i64 ((g i).r i_1), AV.sl 1 (g i).nl fun (i_1 : Nat) => AV.int IntKind.i64 ((g i).l i_1)]), AObj.var (AV.sl 1 K fun (i : Nat) => AV.int IntKind.u64 (S i)), AObj.var (AV.fn 49 [AV.ptr 1 1 1 0 0]), AObj.var (AV.fn 52 [AV.ptr 2 1 1 0 0, AV.ptr 0 1 1 0 0, AV.ptr 3 1 1 0 0]), AObj.row 1 rv12 (Col.ints IntKind.i64 rl12)]), .b false], kmp (by kernel_rfl) (And.intro h1 (And.intro o0 (And.intro (r52_0 (n) (g) (rv12) (rl12) (K) (S) o1 (IntKind.i64.wrap (i + 1)) (IntKind.u64.wrap (↑(BitVec.ofInt 64 ch ||| BitVec.ofInt 64 (IntKind.u64.wrap (1 * 2 ^ min i.toNat 64))).toNat : Int))) (And.intro h2 (L52_1a.nx n g rv12 rl12 K S ch (k_ := k_) (z_ := i) (IntKind.i64.wrap (i + 1)) (And.intro o2 o3) o4 (by first | (simp only [L52_1a.N, h1, h2, cond_true, cond_false]; done) | (try unfold L52_1a.N; try simp only [h1, cond_true, cond_false]; try simp only [h2, cond_true, cond_false]; try rfl; done)) PopOk.same)))))⟩
  | false =>
    have h1p := of_decide_eq_false h1
    exact ⟨[.b false], kmp (by kernel_rfl) (And.intro h1 (L52_1a.en n g rv12 rl12 K S ch (k_ := k_) (z_ := i) (.e1 : L52_1a.O) (by first | (simp only [L52_1a.N, h1, cond_true, cond_false]; done) | (try unfold L52_1a.N; try simp only [h1, cond_true, cond_false]; try rfl; done)) PopOk.same))⟩

theorem L52_1a.e0 (n : Nat) (g : Nat → SD) (rv12 : Nat) (rl12 : List Int) (hn : (↑n : Int) ≤ 64) (K : Nat) (S : Nat → Int) (hK : K ≤ 9223372036854775807) (ch : Int) (i : Int) (hinv : L52_1a.inv n g rv12 rl12 K S ch i) (a0 : Int) (hN : L52_1a.run n K S ch i = (.e0 a0 : L52_1a.O)) : LoopTo Try.prog (loopN Try.f52 0) (L52_1a.T n g rv12 rl12 K S ch i) (L52_1a.H n g rv12 rl12 K S ch i) (Exit.ret) (L52_1a.X n g rv12 rl12 K S ch (.e0 a0 : L52_1a.O)) (L52_1a.XH n g rv12 rl12 K S ch (.e0 a0 : L52_1a.O)) := by
  have h_ := L52_1a.spec n g rv12 rl12 hn K S hK ch (((71 - i).toNat) + 1) i hinv (Nat.lt_succ_self _)
  unfold L52_1a.run at hN
  simp only [hN] at h_
  exact h_

theorem L52_1a.e1 (n : Nat) (g : Nat → SD) (rv12 : Nat) (rl12 : List Int) (hn : (↑n : Int) ≤ 64) (K : Nat) (S : Nat → Int) (hK : K ≤ 9223372036854775807) (ch : Int) (i : Int) (hinv : L52_1a.inv n g rv12 rl12 K S ch i) (hN : L52_1a.run n K S ch i = (.e1 : L52_1a.O)) : LoopTo Try.prog (loopN Try.f52 0) (L52_1a.T n g rv12 rl12 K S ch i) (L52_1a.H n g rv12 rl12 K S ch i) (Exit.exit 0) (L52_1a.X n g rv12 rl12 K S ch (.e1 : L52_1a.O)) (L52_1a.XH n g rv12 rl12 K S ch (.e1 : L52_1a.O)) := by
  have h_ := L52_1a.spec n g rv12 rl12 hn K S hK ch (((71 - i).toNat) + 1) i hinv (Nat.lt_succ_self _)
  unfold L52_1a.run at hN
  simp only [hN] at h_
  exact h_

noncomputable def r52_1.v0 (n : Nat) (K : Nat) (S : Nat → Int) (from_ : Int) (ch : Int) : Int := (match L52_1a.run n K S ch from_ with | .e0 h1d0 => h1d0 | .e1 => 0 )

noncomputable def r52_1.v1 (n : Nat) (K : Nat) (S : Nat → Int) (from_ : Int) (ch : Int) : Bool := (match L52_1a.run n K S ch from_ with | .e0 h1d0 => true | .e1 => false )

noncomputable abbrev r52_1.h0 (n : Nat) (g : Nat → SD) (rv12 : Nat) (rl12 : List Int) (K : Nat) (S : Nat → Int) (from_ : Int) (ch : Int) : AHeap := ([AObj.var (sts n g), AObj.var (uvs K S), AObj.var (AV.fn 49 [AV.ptr 1 1 1 0 0]), AObj.var (AV.fn 52 [AV.ptr 2 1 1 0 0, AV.ptr 0 1 1 0 0, AV.ptr 3 1 1 0 0]), AObj.row 1 rv12 (Col.ints IntKind.i64 rl12)])

theorem r52_1 (n : Nat) (g : Nat → SD) (rv12 : Nat) (rl12 : List Int) (hn : (↑n : Int) ≤ 64) (K : Nat) (S : Nat → Int) (hK : K ≤ 9223372036854775807) (from_ : Int) (ch : Int) (h0 : 0 ≤ from_) (h1 : from_ ≤ 70) : Ret Try.prog 52 ([AV.int IntKind.i64 from_, AV.int IntKind.i64 1, AV.int IntKind.u64 ch, AV.ptr 2 1 1 0 0, AV.ptr 0 1 1 0 0, AV.ptr 3 1 1 0 0]) (r52_1.h0 n g rv12 rl12 K S from_ ch) (AV.tup [(AV.int IntKind.u64 (r52_1.v0 n K S from_ ch)), (AV.bool (r52_1.v1 n K S from_ ch))]) (r52_1.h0 n g rv12 rl12 K S from_ ch) := by
  have o0 : (↑n : Int) ≤ (64 : Int) := by first | assumption | omega | (simp_all; done)
  have o1 : K ≤ (9223372036854775807 : Nat) := by first | assumption | omega | (simp_all; done)
  have o2 : (0 : Int) ≤ from_ := by first | assumption | omega | (simp_all; done)
  have o3 : from_ ≤ (70 : Int) := by first | assumption | omega | (simp_all; done)
  cases h1 : L52_1a.run n K S ch from_ with
  | e0 h1d0 =>
    exact Ret.of_runH mix [(AV.int IntKind.u64 (r52_1.v0 n K S from_ ch)), (AV.bool (r52_1.v1 n K S from_ ch))] (r52_1.h0 n g rv12 rl12 K S from_ ch) Try.func52 rfl [.b false, .loop (others 44 [1, 2, 3, 4, 5, 11]) (Exit.ret) (L52_1a.X n g rv12 rl12 K S ch (L52_1a.O.e0 h1d0)) (L52_1a.XH n g rv12 rl12 K S ch (L52_1a.O.e0 h1d0))] (by simp) (kmp (by kernel_rfl) (And.intro (rfl : false = false) (And.intro (L52_1a.e0 (n) (g) (rv12) (rl12) o0 (K) (S) o1 (ch) (from_) (And.intro o2 o3) h1d0 h1) (And.intro (And.intro (show (AV.int IntKind.u64 h1d0) = ((AV.int IntKind.u64 (r52_1.v0 n K S from_ ch))) by first | (simp only [r52_1.v0, r52_1.v1, h1, cond_true, cond_false]; done) | (try unfold r52_1.v0; try unfold r52_1.v1; try simp only [h1, cond_true, cond_false]; try rfl; done) | rfl) (And.intro (show (AV.bool true) = ((AV.bool (r52_1.v1 n K S from_ ch))) by first | (simp only [r52_1.v0, r52_1.v1, h1, cond_true, cond_false]; done) | (try unfold r52_1.v0; try unfold r52_1.v1; try simp only [h1, cond_true, cond_false]; try rfl; done) | rfl) trivial)) (rfl : ([AObj.var (sts n g), AObj.var (uvs K S), AObj.var (AV.fn 49 [AV.ptr 1 1 1 0 0]), AObj.var (AV.fn 52 [AV.ptr 2 1 1 0 0, AV.ptr 0 1 1 0 0, AV.ptr 3 1 1 0 0]), AObj.row 1 rv12 (Col.ints IntKind.i64 rl12)] : AHeap) = [AObj.var (sts n g), AObj.var (uvs K S), AObj.var (AV.fn 49 [AV.ptr 1 1 1 0 0]), AObj.var (AV.fn 52 [AV.ptr 2 1 1 0 0, AV.ptr 0 1 1 0 0, AV.ptr 3 1 1 0 0]), AObj.row 1 rv12 (Col.ints IntKind.i64 rl12)])))))
  | e1 =>
    exact Ret.of_runH mix [(AV.int IntKind.u64 (r52_1.v0 n K S from_ ch)), (AV.bool (r52_1.v1 n K S from_ ch))] (r52_1.h0 n g rv12 rl12 K S from_ ch) Try.func52 rfl [.b false, .loop (others 44 [1, 2, 3, 4, 5, 11]) (Exit.exit 0) (L52_1a.X n g rv12 rl12 K S ch L52_1a.O.e1) (L52_1a.XH n g rv12 rl12 K S ch L52_1a.O.e1)] (by simp) (kmp (by kernel_rfl) (And.intro (rfl : false = false) (And.intro (L52_1a.e1 (n) (g) (rv12) (rl12) o0 (K) (S) o1 (ch) (from_) (And.intro o2 o3) h1) (And.intro (And.intro (show (AV.int IntKind.u64 0) = ((AV.int IntKind.u64 (r52_1.v0 n K S from_ ch))) by first | (simp only [r52_1.v0, r52_1.v1, h1, cond_true, cond_false]; done) | (try unfold r52_1.v0; try unfold r52_1.v1; try simp only [h1, cond_true, cond_false]; try rfl; done) | rfl) (And.intro (show (AV.bool false) = ((AV.bool (r52_1.v1 n K S from_ ch))) by first | (simp only [r52_1.v0, r52_1.v1, h1, cond_true, cond_false]; done) | (try unfold r52_1.v0; try unfold r52_1.v1; try simp only [h1, cond_true, cond_false]; try rfl; done) | rfl) trivial)) (rfl : ([AObj.var (sts n g), AObj.var (uvs K S), AObj.var (AV.fn 49 [AV.ptr 1 1 1 0 0]), AObj.var (AV.fn 52 [AV.ptr 2 1 1 0 0, AV.ptr 0 1 1 0 0, AV.ptr 3 1 1 0 0]), AObj.row 1 rv12 (Col.ints IntKind.i64 rl12)] : AHeap) = [AObj.var (sts n g), AObj.var (uvs K S), AObj.var (AV.fn 49 [AV.ptr 1 1 1 0 0]), AObj.var (AV.fn 52 [AV.ptr 2 1 1 0 0, AV.ptr 0 1 1 0 0, AV.ptr 3 1 1 0 0]), AObj.row 1 rv12 (Col.ints IntKind.i64 rl12)])))))

inductive L52_2a.O where
  | e0 (a0 : Int)
  | e1

noncomputable def L52_2a.T (n : Nat) (g : Nat → SD) (rv12 : Nat) (rl12 : List Int) (K : Nat) (S : Nat → Int) (ch : Int) (i : Int) : List AV := mkT 44 [(1, AV.int IntKind.i64 2), (2, AV.int IntKind.u64 ch), (3, AV.ptr 2 1 1 0 0), (4, AV.ptr 0 1 1 0 0), (5, AV.ptr 3 1 1 0 0), (11, AV.int IntKind.i64 i)]

noncomputable def L52_2a.H (n : Nat) (g : Nat → SD) (rv12 : Nat) (rl12 : List Int) (K : Nat) (S : Nat → Int) (ch : Int) (i : Int) : AHeap := [AObj.var (sts n g), AObj.var (uvs K S), AObj.var (AV.fn 49 [AV.ptr 1 1 1 0 0]), AObj.var (AV.fn 52 [AV.ptr 2 1 1 0 0, AV.ptr 0 1 1 0 0, AV.ptr 3 1 1 0 0]), AObj.row 1 rv12 (Col.ints IntKind.i64 rl12)]

def L52_2a.inv (n : Nat) (g : Nat → SD) (rv12 : Nat) (rl12 : List Int) (K : Nat) (S : Nat → Int) (ch : Int) (i : Int) : Prop := 0 ≤ i ∧ i ≤ 70

noncomputable def L52_2a.mu (n : Nat) (g : Nat → SD) (rv12 : Nat) (rl12 : List Int) (K : Nat) (S : Nat → Int) (ch : Int) (i : Int) : Nat := (71 - i).toNat

noncomputable def L52_2a.E : L52_2a.O → Exit
  | .e0 a0 => Exit.ret
  | .e1 => Exit.exit 0

noncomputable def L52_2a.X (n : Nat) (g : Nat → SD) (rv12 : Nat) (rl12 : List Int) (K : Nat) (S : Nat → Int) (ch : Int) : L52_2a.O → List AV
  | .e0 a0 => mkT 44 [(9, (AV.int IntKind.u64 a0)), (10, (AV.bool true))]
  | .e1 => mkT 44 []

noncomputable def L52_2a.XH (n : Nat) (g : Nat → SD) (rv12 : Nat) (rl12 : List Int) (K : Nat) (S : Nat → Int) (ch : Int) : L52_2a.O → AHeap
  | .e0 a0 => ([AObj.var (AV.sl 5 n fun (i : Nat) => AV.agg [AV.str (g i).nm, AV.int IntKind.i64 (g i).x, AV.int IntKind.i64 (g i).y, AV.sl 1 (g i).nr fun (i_1 : Nat) => AV.int IntKind.i64 ((g i).r i_1), AV.sl 1 (g i).nl fun (i_1 : Nat) => AV.int IntKind.i64 ((g i).l i_1)]), AObj.var (AV.sl 1 K fun (i : Nat) => AV.int IntKind.u64 (S i)), AObj.var (AV.fn 49 [AV.ptr 1 1 1 0 0]), AObj.var (AV.fn 52 [AV.ptr 2 1 1 0 0, AV.ptr 0 1 1 0 0, AV.ptr 3 1 1 0 0]), AObj.row 1 rv12 (Col.ints IntKind.i64 rl12)])
  | .e1 => ([AObj.var (AV.sl 5 n fun (i : Nat) => AV.agg [AV.str (g i).nm, AV.int IntKind.i64 (g i).x, AV.int IntKind.i64 (g i).y, AV.sl 1 (g i).nr fun (i_1 : Nat) => AV.int IntKind.i64 ((g i).r i_1), AV.sl 1 (g i).nl fun (i_1 : Nat) => AV.int IntKind.i64 ((g i).l i_1)]), AObj.var (AV.sl 1 K fun (i : Nat) => AV.int IntKind.u64 (S i)), AObj.var (AV.fn 49 [AV.ptr 1 1 1 0 0]), AObj.var (AV.fn 52 [AV.ptr 2 1 1 0 0, AV.ptr 0 1 1 0 0, AV.ptr 3 1 1 0 0]), AObj.row 1 rv12 (Col.ints IntKind.i64 rl12)])

noncomputable def L52_2a.N (n : Nat) (K : Nat) (S : Nat → Int) (ch : Int) : Nat → Int → L52_2a.O
  | 0, _ => .e0 default
  | k_ + 1, i => (bif decide (IntKind.i64.wrap (i + 2) ≤ (↑n : Int)) then (bif r52_1.v1 n K S (IntKind.i64.wrap (i + 1)) (IntKind.u64.wrap (↑(BitVec.ofInt 64 ch ||| BitVec.ofInt 64 (IntKind.u64.wrap (1 * 2 ^ min i.toNat 64))).toNat : Int)) then (.e0 (r52_1.v0 n K S (IntKind.i64.wrap (i + 1)) (IntKind.u64.wrap (↑(BitVec.ofInt 64 ch ||| BitVec.ofInt 64 (IntKind.u64.wrap (1 * 2 ^ min i.toNat 64))).toNat : Int)))) else (L52_2a.N n K S ch k_ (IntKind.i64.wrap (i + 1)))) else (.e1))

noncomputable def L52_2a.run (n : Nat) (K : Nat) (S : Nat → Int) (ch : Int) (i : Int) : L52_2a.O := L52_2a.N n K S ch (((71 - i).toNat) + 1) i

theorem L52_2a.nx (n : Nat) (g : Nat → SD) (rv12 : Nat) (rl12 : List Int) (K : Nat) (S : Nat → Int) (ch : Int) {k_ : Nat} {z_ : Int} {h_ : AHeap} (s_ : Int) (h1 : L52_2a.inv n g rv12 rl12 K S ch s_) (h2 : L52_2a.mu n g rv12 rl12 K S ch s_ < L52_2a.mu n g rv12 rl12 K S ch z_) (h3 : L52_2a.N n K S ch k_ s_ = L52_2a.N n K S ch (k_ + 1) z_) (h4 : PopOk (L52_2a.H n g rv12 rl12 K S ch z_) h_ (L52_2a.T n g rv12 rl12 K S ch s_) (L52_2a.H n g rv12 rl12 K S ch s_)) : LNextP (fun (z_ : Int) => L52_2a.T n g rv12 rl12 K S ch z_) (fun (z_ : Int) => L52_2a.H n g rv12 rl12 K S ch z_) (fun (z_ : Int) => L52_2a.inv n g rv12 rl12 K S ch z_) (fun (z_ : Int) => L52_2a.mu n g rv12 rl12 K S ch z_) (fun (k_ : Nat) (z_ : Int) => L52_2a.N n K S ch k_ z_) k_ z_ (L52_2a.T n g rv12 rl12 K S ch s_) h_ := LNextP.mk (Tm := (fun (z_ : Int) => L52_2a.T n g rv12 rl12 K S ch z_)) (Hp := (fun (z_ : Int) => L52_2a.H n g rv12 rl12 K S ch z_)) (inv := (fun (z_ : Int) => L52_2a.inv n g rv12 rl12 K S ch z_)) (mu := (fun (z_ : Int) => L52_2a.mu n g rv12 rl12 K S ch z_)) (l := (fun (k_ : Nat) (z_ : Int) => L52_2a.N n K S ch k_ z_)) s_ h1 h2 h3 h4

theorem L52_2a.en (n : Nat) (g : Nat → SD) (rv12 : Nat) (rl12 : List Int) (K : Nat) (S : Nat → Int) (ch : Int) {k_ : Nat} {z_ : Int} {h_ : AHeap} (o_ : L52_2a.O) (h3 : L52_2a.N n K S ch (k_ + 1) z_ = o_) (h4 : PopOk (L52_2a.H n g rv12 rl12 K S ch z_) h_ (L52_2a.X n g rv12 rl12 K S ch o_) (L52_2a.XH n g rv12 rl12 K S ch o_)) : LEndP (fun (z_ : Int) => L52_2a.H n g rv12 rl12 K S ch z_) (fun (k_ : Nat) (z_ : Int) => L52_2a.N n K S ch k_ z_) L52_2a.E (L52_2a.X n g rv12 rl12 K S ch) (L52_2a.XH n g rv12 rl12 K S ch) k_ z_ (L52_2a.E o_) (L52_2a.X n g rv12 rl12 K S ch o_) h_ := LEndP.mk (Hp := (fun (z_ : Int) => L52_2a.H n g rv12 rl12 K S ch z_)) (l := (fun (k_ : Nat) (z_ : Int) => L52_2a.N n K S ch k_ z_)) (oE := L52_2a.E) (oT := L52_2a.X n g rv12 rl12 K S ch) (oH := L52_2a.XH n g rv12 rl12 K S ch) o_ h3 h4

theorem L52_2a.spec (n : Nat) (g : Nat → SD) (rv12 : Nat) (rl12 : List Int) (hn : (↑n : Int) ≤ 64) (K : Nat) (S : Nat → Int) (hK : K ≤ 9223372036854775807) (ch : Int) (k_ : Nat) (z_ : Int) (hi_ : L52_2a.inv n g rv12 rl12 K S ch z_) (hm_ : L52_2a.mu n g rv12 rl12 K S ch z_ < k_) : LoopTo Try.prog (loopN Try.f52 0) (L52_2a.T n g rv12 rl12 K S ch z_) (L52_2a.H n g rv12 rl12 K S ch z_) (L52_2a.E (L52_2a.N n K S ch k_ z_)) (L52_2a.X n g rv12 rl12 K S ch (L52_2a.N n K S ch k_ z_)) (L52_2a.XH n g rv12 rl12 K S ch (L52_2a.N n K S ch k_ z_)) := by
  refine LoopTo.fuelP mix (fun (z_ : Int) => L52_2a.T n g rv12 rl12 K S ch z_) (fun (z_ : Int) => L52_2a.H n g rv12 rl12 K S ch z_) (fun (z_ : Int) => L52_2a.inv n g rv12 rl12 K S ch z_) (fun (z_ : Int) => L52_2a.mu n g rv12 rl12 K S ch z_) (fun (k_ : Nat) (z_ : Int) => L52_2a.N n K S ch k_ z_) L52_2a.E (L52_2a.X n g rv12 rl12 K S ch) (L52_2a.XH n g rv12 rl12 K S ch) (others 44 [1, 2, 3, 4, 5, 11]) (others 44 [9, 10]) (others 44 []) ?_ k_ z_ hi_ hm_
  clear hm_ hi_ z_ k_
  intro k_ z_ hinv hmu
  revert hinv hmu; revert z_; intro i hinv hmu
  have hinv : 0 ≤ i ∧ i ≤ 70 := hinv
  have hmu : ((71 - i).toNat) < k_ + 1 := hmu
  cases h1 : decide (IntKind.i64.wrap (i + 2) ≤ (↑n : Int)) with
  | true =>
    have h1p := of_decide_eq_true h1
    try have := bd_ik (by first | assumption | omega) (by first | assumption | omega) (by first | assumption | omega) (by first | assumption | omega) (by first | assumption | omega)
    have o0 : (0 : Int) ≤ i := by first | assumption | omega | (simp_all; done)
    have o1 : (↑n : Int) ≤ (64 : Int) := by first | assumption | omega | (simp_all; done)
    have o2 : K ≤ (9223372036854775807 : Nat) := by first | assumption | omega | (simp_all; done)
    try have := IntWalk.i64_in (i + 1) (by omega)
    have o3 : (0 : Int) ≤ IntKind.i64.wrap (i + (1 : Int)) := by first | assumption | omega | (simp_all; done)
    have o4 : IntKind.i64.wrap (i + (1 : Int)) ≤ (70 : Int) := by first | assumption | omega | (simp_all; done)
    cases h2 : r52_1.v1 n K S (IntKind.i64.wrap (i + 1)) (IntKind.u64.wrap (↑(BitVec.ofInt 64 ch ||| BitVec.ofInt 64 (IntKind.u64.wrap (1 * 2 ^ min i.toNat 64))).toNat : Int)) with
    | true =>
      exact ⟨[.b true, .ret (AV.tup [AV.int IntKind.u64 (r52_1.v0 n K S (IntKind.i64.wrap (i + 1)) (IntKind.u64.wrap (↑(BitVec.ofInt 64 ch ||| BitVec.ofInt 64 (IntKind.u64.wrap (1 * 2 ^ min i.toNat 64))).toNat : Int))), AV.bool (r52_1.v1 n K S (IntKind.i64.wrap (i + 1)) (IntKind.u64.wrap (↑(BitVec.ofInt 64 ch ||| BitVec.ofInt 64 (IntKind.u64.wrap (1 * 2 ^ min i.toNat 64))).toNat : Int)))]) ([AObj.var (AV.sl 5 n fun (i : Nat) => AV.agg [AV.str (g i).nm, AV.int IntKind.i64 (g i).x, AV.int IntKind.i64 (g i).y, AV.sl 1 (g i).nr fun (i_1 : Nat) => AV.int IntKind.i64 ((g i).r i_1), AV.sl 1 (g i).nl fun (i_1 : Nat) => AV.int IntKind.i64 ((g i).l i_1)]), AObj.var (AV.sl 1 K fun (i : Nat) => AV.int IntKind.u64 (S i)), AObj.var (AV.fn 49 [AV.ptr 1 1 1 0 0]), AObj.var (AV.fn 52 [AV.ptr 2 1 1 0 0, AV.ptr 0 1 1 0 0, AV.ptr 3 1 1 0 0]), AObj.row 1 rv12 (Col.ints IntKind.i64 rl12)]), .b true], kmp (by kernel_rfl) (And.intro h1 (And.intro o0 (And.intro (r52_1 (n) (g) (rv12) (rl12) o1 (K) (S) o2 (IntKind.i64.wrap (i + 1)) (IntKind.u64.wrap (↑(BitVec.ofInt 64 ch ||| BitVec.ofInt 64 (IntKind.u64.wrap (1 * 2 ^ min i.toNat 64))).toNat : Int)) o3 o4) (And.intro h2 (L52_2a.en n g rv12 rl12 K S ch (k_ := k_) (z_ := i) (.e0 (r52_1.v0 n K S (IntKind.i64.wrap (i + 1)) (IntKind.u64.wrap (↑(BitVec.ofInt 64 ch ||| BitVec.ofInt 64 (IntKind.u64.wrap (1 * 2 ^ min i.toNat 64))).toNat : Int))) : L52_2a.O) (by first | (simp only [L52_2a.N, h1, h2, cond_true, cond_false]; done) | (try unfold L52_2a.N; try simp only [h1, cond_true, cond_false]; try simp only [h2, cond_true, cond_false]; try rfl; done)) PopOk.same)))))⟩
    | false =>
      try have := bd_ik (by first | assumption | omega) (by first | assumption | omega) (by first | assumption | omega) (by first | assumption | omega) (by first | assumption | omega)
      try have := IntWalk.i64_in (i + 1) (by omega)
      have o5 : ((71 : Int) - IntKind.i64.wrap (i + (1 : Int))).toNat < ((71 : Int) - i).toNat := by first | assumption | omega | (simp_all; done)
      exact ⟨[.b true, .ret (AV.tup [AV.int IntKind.u64 (r52_1.v0 n K S (IntKind.i64.wrap (i + 1)) (IntKind.u64.wrap (↑(BitVec.ofInt 64 ch ||| BitVec.ofInt 64 (IntKind.u64.wrap (1 * 2 ^ min i.toNat 64))).toNat : Int))), AV.bool (r52_1.v1 n K S (IntKind.i64.wrap (i + 1)) (IntKind.u64.wrap (↑(BitVec.ofInt 64 ch ||| BitVec.ofInt 64 (IntKind.u64.wrap (1 * 2 ^ min i.toNat 64))).toNat : Int)))]) ([AObj.var (AV.sl 5 n fun (i : Nat) => AV.agg [AV.str (g i).nm, AV.int IntKind.i64 (g i).x, AV.int IntKind.i64 (g i).y, AV.sl 1 (g i).nr fun (i_1 : Nat) => AV.int IntKind.i64 ((g i).r i_1), AV.sl 1 (g i).nl fun (i_1 : Nat) => AV.int IntKind.i64 ((g i).l i_1)]), AObj.var (AV.sl 1 K fun (i : Nat) => AV.int IntKind.u64 (S i)), AObj.var (AV.fn 49 [AV.ptr 1 1 1 0 0]), AObj.var (AV.fn 52 [AV.ptr 2 1 1 0 0, AV.ptr 0 1 1 0 0, AV.ptr 3 1 1 0 0]), AObj.row 1 rv12 (Col.ints IntKind.i64 rl12)]), .b false], kmp (by kernel_rfl) (And.intro h1 (And.intro o0 (And.intro (r52_1 (n) (g) (rv12) (rl12) o1 (K) (S) o2 (IntKind.i64.wrap (i + 1)) (IntKind.u64.wrap (↑(BitVec.ofInt 64 ch ||| BitVec.ofInt 64 (IntKind.u64.wrap (1 * 2 ^ min i.toNat 64))).toNat : Int)) o3 o4) (And.intro h2 (L52_2a.nx n g rv12 rl12 K S ch (k_ := k_) (z_ := i) (IntKind.i64.wrap (i + 1)) (And.intro o3 o4) o5 (by first | (simp only [L52_2a.N, h1, h2, cond_true, cond_false]; done) | (try unfold L52_2a.N; try simp only [h1, cond_true, cond_false]; try simp only [h2, cond_true, cond_false]; try rfl; done)) PopOk.same)))))⟩
  | false =>
    have h1p := of_decide_eq_false h1
    exact ⟨[.b false], kmp (by kernel_rfl) (And.intro h1 (L52_2a.en n g rv12 rl12 K S ch (k_ := k_) (z_ := i) (.e1 : L52_2a.O) (by first | (simp only [L52_2a.N, h1, cond_true, cond_false]; done) | (try unfold L52_2a.N; try simp only [h1, cond_true, cond_false]; try rfl; done)) PopOk.same))⟩

theorem L52_2a.e0 (n : Nat) (g : Nat → SD) (rv12 : Nat) (rl12 : List Int) (hn : (↑n : Int) ≤ 64) (K : Nat) (S : Nat → Int) (hK : K ≤ 9223372036854775807) (ch : Int) (i : Int) (hinv : L52_2a.inv n g rv12 rl12 K S ch i) (a0 : Int) (hN : L52_2a.run n K S ch i = (.e0 a0 : L52_2a.O)) : LoopTo Try.prog (loopN Try.f52 0) (L52_2a.T n g rv12 rl12 K S ch i) (L52_2a.H n g rv12 rl12 K S ch i) (Exit.ret) (L52_2a.X n g rv12 rl12 K S ch (.e0 a0 : L52_2a.O)) (L52_2a.XH n g rv12 rl12 K S ch (.e0 a0 : L52_2a.O)) := by
  have h_ := L52_2a.spec n g rv12 rl12 hn K S hK ch (((71 - i).toNat) + 1) i hinv (Nat.lt_succ_self _)
  unfold L52_2a.run at hN
  simp only [hN] at h_
  exact h_

theorem L52_2a.e1 (n : Nat) (g : Nat → SD) (rv12 : Nat) (rl12 : List Int) (hn : (↑n : Int) ≤ 64) (K : Nat) (S : Nat → Int) (hK : K ≤ 9223372036854775807) (ch : Int) (i : Int) (hinv : L52_2a.inv n g rv12 rl12 K S ch i) (hN : L52_2a.run n K S ch i = (.e1 : L52_2a.O)) : LoopTo Try.prog (loopN Try.f52 0) (L52_2a.T n g rv12 rl12 K S ch i) (L52_2a.H n g rv12 rl12 K S ch i) (Exit.exit 0) (L52_2a.X n g rv12 rl12 K S ch (.e1 : L52_2a.O)) (L52_2a.XH n g rv12 rl12 K S ch (.e1 : L52_2a.O)) := by
  have h_ := L52_2a.spec n g rv12 rl12 hn K S hK ch (((71 - i).toNat) + 1) i hinv (Nat.lt_succ_self _)
  unfold L52_2a.run at hN
  simp only [hN] at h_
  exact h_

noncomputable def r52_2.v0 (n : Nat) (K : Nat) (S : Nat → Int) (from_ : Int) (ch : Int) : Int := (match L52_2a.run n K S ch from_ with | .e0 h1d0 => h1d0 | .e1 => 0 )

noncomputable def r52_2.v1 (n : Nat) (K : Nat) (S : Nat → Int) (from_ : Int) (ch : Int) : Bool := (match L52_2a.run n K S ch from_ with | .e0 h1d0 => true | .e1 => false )

noncomputable abbrev r52_2.h0 (n : Nat) (g : Nat → SD) (rv12 : Nat) (rl12 : List Int) (K : Nat) (S : Nat → Int) (from_ : Int) (ch : Int) : AHeap := ([AObj.var (sts n g), AObj.var (uvs K S), AObj.var (AV.fn 49 [AV.ptr 1 1 1 0 0]), AObj.var (AV.fn 52 [AV.ptr 2 1 1 0 0, AV.ptr 0 1 1 0 0, AV.ptr 3 1 1 0 0]), AObj.row 1 rv12 (Col.ints IntKind.i64 rl12)])

theorem r52_2 (n : Nat) (g : Nat → SD) (rv12 : Nat) (rl12 : List Int) (hn : (↑n : Int) ≤ 64) (K : Nat) (S : Nat → Int) (hK : K ≤ 9223372036854775807) (from_ : Int) (ch : Int) (h0 : 0 ≤ from_) (h1 : from_ ≤ 70) : Ret Try.prog 52 ([AV.int IntKind.i64 from_, AV.int IntKind.i64 2, AV.int IntKind.u64 ch, AV.ptr 2 1 1 0 0, AV.ptr 0 1 1 0 0, AV.ptr 3 1 1 0 0]) (r52_2.h0 n g rv12 rl12 K S from_ ch) (AV.tup [(AV.int IntKind.u64 (r52_2.v0 n K S from_ ch)), (AV.bool (r52_2.v1 n K S from_ ch))]) (r52_2.h0 n g rv12 rl12 K S from_ ch) := by
  have o0 : (↑n : Int) ≤ (64 : Int) := by first | assumption | omega | (simp_all; done)
  have o1 : K ≤ (9223372036854775807 : Nat) := by first | assumption | omega | (simp_all; done)
  have o2 : (0 : Int) ≤ from_ := by first | assumption | omega | (simp_all; done)
  have o3 : from_ ≤ (70 : Int) := by first | assumption | omega | (simp_all; done)
  cases h1 : L52_2a.run n K S ch from_ with
  | e0 h1d0 =>
    exact Ret.of_runH mix [(AV.int IntKind.u64 (r52_2.v0 n K S from_ ch)), (AV.bool (r52_2.v1 n K S from_ ch))] (r52_2.h0 n g rv12 rl12 K S from_ ch) Try.func52 rfl [.b false, .loop (others 44 [1, 2, 3, 4, 5, 11]) (Exit.ret) (L52_2a.X n g rv12 rl12 K S ch (L52_2a.O.e0 h1d0)) (L52_2a.XH n g rv12 rl12 K S ch (L52_2a.O.e0 h1d0))] (by simp) (kmp (by kernel_rfl) (And.intro (rfl : false = false) (And.intro (L52_2a.e0 (n) (g) (rv12) (rl12) o0 (K) (S) o1 (ch) (from_) (And.intro o2 o3) h1d0 h1) (And.intro (And.intro (show (AV.int IntKind.u64 h1d0) = ((AV.int IntKind.u64 (r52_2.v0 n K S from_ ch))) by first | (simp only [r52_2.v0, r52_2.v1, h1, cond_true, cond_false]; done) | (try unfold r52_2.v0; try unfold r52_2.v1; try simp only [h1, cond_true, cond_false]; try rfl; done) | rfl) (And.intro (show (AV.bool true) = ((AV.bool (r52_2.v1 n K S from_ ch))) by first | (simp only [r52_2.v0, r52_2.v1, h1, cond_true, cond_false]; done) | (try unfold r52_2.v0; try unfold r52_2.v1; try simp only [h1, cond_true, cond_false]; try rfl; done) | rfl) trivial)) (rfl : ([AObj.var (sts n g), AObj.var (uvs K S), AObj.var (AV.fn 49 [AV.ptr 1 1 1 0 0]), AObj.var (AV.fn 52 [AV.ptr 2 1 1 0 0, AV.ptr 0 1 1 0 0, AV.ptr 3 1 1 0 0]), AObj.row 1 rv12 (Col.ints IntKind.i64 rl12)] : AHeap) = [AObj.var (sts n g), AObj.var (uvs K S), AObj.var (AV.fn 49 [AV.ptr 1 1 1 0 0]), AObj.var (AV.fn 52 [AV.ptr 2 1 1 0 0, AV.ptr 0 1 1 0 0, AV.ptr 3 1 1 0 0]), AObj.row 1 rv12 (Col.ints IntKind.i64 rl12)])))))
  | e1 =>
    exact Ret.of_runH mix [(AV.int IntKind.u64 (r52_2.v0 n K S from_ ch)), (AV.bool (r52_2.v1 n K S from_ ch))] (r52_2.h0 n g rv12 rl12 K S from_ ch) Try.func52 rfl [.b false, .loop (others 44 [1, 2, 3, 4, 5, 11]) (Exit.exit 0) (L52_2a.X n g rv12 rl12 K S ch L52_2a.O.e1) (L52_2a.XH n g rv12 rl12 K S ch L52_2a.O.e1)] (by simp) (kmp (by kernel_rfl) (And.intro (rfl : false = false) (And.intro (L52_2a.e1 (n) (g) (rv12) (rl12) o0 (K) (S) o1 (ch) (from_) (And.intro o2 o3) h1) (And.intro (And.intro (show (AV.int IntKind.u64 0) = ((AV.int IntKind.u64 (r52_2.v0 n K S from_ ch))) by first | (simp only [r52_2.v0, r52_2.v1, h1, cond_true, cond_false]; done) | (try unfold r52_2.v0; try unfold r52_2.v1; try simp only [h1, cond_true, cond_false]; try rfl; done) | rfl) (And.intro (show (AV.bool false) = ((AV.bool (r52_2.v1 n K S from_ ch))) by first | (simp only [r52_2.v0, r52_2.v1, h1, cond_true, cond_false]; done) | (try unfold r52_2.v0; try unfold r52_2.v1; try simp only [h1, cond_true, cond_false]; try rfl; done) | rfl) trivial)) (rfl : ([AObj.var (sts n g), AObj.var (uvs K S), AObj.var (AV.fn 49 [AV.ptr 1 1 1 0 0]), AObj.var (AV.fn 52 [AV.ptr 2 1 1 0 0, AV.ptr 0 1 1 0 0, AV.ptr 3 1 1 0 0]), AObj.row 1 rv12 (Col.ints IntKind.i64 rl12)] : AHeap) = [AObj.var (sts n g), AObj.var (uvs K S), AObj.var (AV.fn 49 [AV.ptr 1 1 1 0 0]), AObj.var (AV.fn 52 [AV.ptr 2 1 1 0 0, AV.ptr 0 1 1 0 0, AV.ptr 3 1 1 0 0]), AObj.row 1 rv12 (Col.ints IntKind.i64 rl12)])))))

inductive L52_3a.O where
  | e0 (a0 : Int)
  | e1

noncomputable def L52_3a.T (n : Nat) (g : Nat → SD) (rv12 : Nat) (rl12 : List Int) (K : Nat) (S : Nat → Int) (ch : Int) (i : Int) : List AV := mkT 44 [(1, AV.int IntKind.i64 3), (2, AV.int IntKind.u64 ch), (3, AV.ptr 2 1 1 0 0), (4, AV.ptr 0 1 1 0 0), (5, AV.ptr 3 1 1 0 0), (11, AV.int IntKind.i64 i)]

noncomputable def L52_3a.H (n : Nat) (g : Nat → SD) (rv12 : Nat) (rl12 : List Int) (K : Nat) (S : Nat → Int) (ch : Int) (i : Int) : AHeap := [AObj.var (sts n g), AObj.var (uvs K S), AObj.var (AV.fn 49 [AV.ptr 1 1 1 0 0]), AObj.var (AV.fn 52 [AV.ptr 2 1 1 0 0, AV.ptr 0 1 1 0 0, AV.ptr 3 1 1 0 0]), AObj.row 1 rv12 (Col.ints IntKind.i64 rl12)]

def L52_3a.inv (n : Nat) (g : Nat → SD) (rv12 : Nat) (rl12 : List Int) (K : Nat) (S : Nat → Int) (ch : Int) (i : Int) : Prop := 0 ≤ i ∧ i ≤ 70

noncomputable def L52_3a.mu (n : Nat) (g : Nat → SD) (rv12 : Nat) (rl12 : List Int) (K : Nat) (S : Nat → Int) (ch : Int) (i : Int) : Nat := (71 - i).toNat

noncomputable def L52_3a.E : L52_3a.O → Exit
  | .e0 a0 => Exit.ret
  | .e1 => Exit.exit 0

noncomputable def L52_3a.X (n : Nat) (g : Nat → SD) (rv12 : Nat) (rl12 : List Int) (K : Nat) (S : Nat → Int) (ch : Int) : L52_3a.O → List AV
  | .e0 a0 => mkT 44 [(9, (AV.int IntKind.u64 a0)), (10, (AV.bool true))]
  | .e1 => mkT 44 []

noncomputable def L52_3a.XH (n : Nat) (g : Nat → SD) (rv12 : Nat) (rl12 : List Int) (K : Nat) (S : Nat → Int) (ch : Int) : L52_3a.O → AHeap
  | .e0 a0 => ([AObj.var (AV.sl 5 n fun (i : Nat) => AV.agg [AV.str (g i).nm, AV.int IntKind.i64 (g i).x, AV.int IntKind.i64 (g i).y, AV.sl 1 (g i).nr fun (i_1 : Nat) => AV.int IntKind.i64 ((g i).r i_1), AV.sl 1 (g i).nl fun (i_1 : Nat) => AV.int IntKind.i64 ((g i).l i_1)]), AObj.var (AV.sl 1 K fun (i : Nat) => AV.int IntKind.u64 (S i)), AObj.var (AV.fn 49 [AV.ptr 1 1 1 0 0]), AObj.var (AV.fn 52 [AV.ptr 2 1 1 0 0, AV.ptr 0 1 1 0 0, AV.ptr 3 1 1 0 0]), AObj.row 1 rv12 (Col.ints IntKind.i64 rl12)])
  | .e1 => ([AObj.var (AV.sl 5 n fun (i : Nat) => AV.agg [AV.str (g i).nm, AV.int IntKind.i64 (g i).x, AV.int IntKind.i64 (g i).y, AV.sl 1 (g i).nr fun (i_1 : Nat) => AV.int IntKind.i64 ((g i).r i_1), AV.sl 1 (g i).nl fun (i_1 : Nat) => AV.int IntKind.i64 ((g i).l i_1)]), AObj.var (AV.sl 1 K fun (i : Nat) => AV.int IntKind.u64 (S i)), AObj.var (AV.fn 49 [AV.ptr 1 1 1 0 0]), AObj.var (AV.fn 52 [AV.ptr 2 1 1 0 0, AV.ptr 0 1 1 0 0, AV.ptr 3 1 1 0 0]), AObj.row 1 rv12 (Col.ints IntKind.i64 rl12)])

noncomputable def L52_3a.N (n : Nat) (K : Nat) (S : Nat → Int) (ch : Int) : Nat → Int → L52_3a.O
  | 0, _ => .e0 default
  | k_ + 1, i => (bif decide (IntKind.i64.wrap (i + 3) ≤ (↑n : Int)) then (bif r52_2.v1 n K S (IntKind.i64.wrap (i + 1)) (IntKind.u64.wrap (↑(BitVec.ofInt 64 ch ||| BitVec.ofInt 64 (IntKind.u64.wrap (1 * 2 ^ min i.toNat 64))).toNat : Int)) then (.e0 (r52_2.v0 n K S (IntKind.i64.wrap (i + 1)) (IntKind.u64.wrap (↑(BitVec.ofInt 64 ch ||| BitVec.ofInt 64 (IntKind.u64.wrap (1 * 2 ^ min i.toNat 64))).toNat : Int)))) else (L52_3a.N n K S ch k_ (IntKind.i64.wrap (i + 1)))) else (.e1))

noncomputable def L52_3a.run (n : Nat) (K : Nat) (S : Nat → Int) (ch : Int) (i : Int) : L52_3a.O := L52_3a.N n K S ch (((71 - i).toNat) + 1) i

theorem L52_3a.nx (n : Nat) (g : Nat → SD) (rv12 : Nat) (rl12 : List Int) (K : Nat) (S : Nat → Int) (ch : Int) {k_ : Nat} {z_ : Int} {h_ : AHeap} (s_ : Int) (h1 : L52_3a.inv n g rv12 rl12 K S ch s_) (h2 : L52_3a.mu n g rv12 rl12 K S ch s_ < L52_3a.mu n g rv12 rl12 K S ch z_) (h3 : L52_3a.N n K S ch k_ s_ = L52_3a.N n K S ch (k_ + 1) z_) (h4 : PopOk (L52_3a.H n g rv12 rl12 K S ch z_) h_ (L52_3a.T n g rv12 rl12 K S ch s_) (L52_3a.H n g rv12 rl12 K S ch s_)) : LNextP (fun (z_ : Int) => L52_3a.T n g rv12 rl12 K S ch z_) (fun (z_ : Int) => L52_3a.H n g rv12 rl12 K S ch z_) (fun (z_ : Int) => L52_3a.inv n g rv12 rl12 K S ch z_) (fun (z_ : Int) => L52_3a.mu n g rv12 rl12 K S ch z_) (fun (k_ : Nat) (z_ : Int) => L52_3a.N n K S ch k_ z_) k_ z_ (L52_3a.T n g rv12 rl12 K S ch s_) h_ := LNextP.mk (Tm := (fun (z_ : Int) => L52_3a.T n g rv12 rl12 K S ch z_)) (Hp := (fun (z_ : Int) => L52_3a.H n g rv12 rl12 K S ch z_)) (inv := (fun (z_ : Int) => L52_3a.inv n g rv12 rl12 K S ch z_)) (mu := (fun (z_ : Int) => L52_3a.mu n g rv12 rl12 K S ch z_)) (l := (fun (k_ : Nat) (z_ : Int) => L52_3a.N n K S ch k_ z_)) s_ h1 h2 h3 h4

theorem L52_3a.en (n : Nat) (g : Nat → SD) (rv12 : Nat) (rl12 : List Int) (K : Nat) (S : Nat → Int) (ch : Int) {k_ : Nat} {z_ : Int} {h_ : AHeap} (o_ : L52_3a.O) (h3 : L52_3a.N n K S ch (k_ + 1) z_ = o_) (h4 : PopOk (L52_3a.H n g rv12 rl12 K S ch z_) h_ (L52_3a.X n g rv12 rl12 K S ch o_) (L52_3a.XH n g rv12 rl12 K S ch o_)) : LEndP (fun (z_ : Int) => L52_3a.H n g rv12 rl12 K S ch z_) (fun (k_ : Nat) (z_ : Int) => L52_3a.N n K S ch k_ z_) L52_3a.E (L52_3a.X n g rv12 rl12 K S ch) (L52_3a.XH n g rv12 rl12 K S ch) k_ z_ (L52_3a.E o_) (L52_3a.X n g rv12 rl12 K S ch o_) h_ := LEndP.mk (Hp := (fun (z_ : Int) => L52_3a.H n g rv12 rl12 K S ch z_)) (l := (fun (k_ : Nat) (z_ : Int) => L52_3a.N n K S ch k_ z_)) (oE := L52_3a.E) (oT := L52_3a.X n g rv12 rl12 K S ch) (oH := L52_3a.XH n g rv12 rl12 K S ch) o_ h3 h4

theorem L52_3a.spec (n : Nat) (g : Nat → SD) (rv12 : Nat) (rl12 : List Int) (hn : (↑n : Int) ≤ 64) (K : Nat) (S : Nat → Int) (hK : K ≤ 9223372036854775807) (ch : Int) (k_ : Nat) (z_ : Int) (hi_ : L52_3a.inv n g rv12 rl12 K S ch z_) (hm_ : L52_3a.mu n g rv12 rl12 K S ch z_ < k_) : LoopTo Try.prog (loopN Try.f52 0) (L52_3a.T n g rv12 rl12 K S ch z_) (L52_3a.H n g rv12 rl12 K S ch z_) (L52_3a.E (L52_3a.N n K S ch k_ z_)) (L52_3a.X n g rv12 rl12 K S ch (L52_3a.N n K S ch k_ z_)) (L52_3a.XH n g rv12 rl12 K S ch (L52_3a.N n K S ch k_ z_)) := by
  refine LoopTo.fuelP mix (fun (z_ : Int) => L52_3a.T n g rv12 rl12 K S ch z_) (fun (z_ : Int) => L52_3a.H n g rv12 rl12 K S ch z_) (fun (z_ : Int) => L52_3a.inv n g rv12 rl12 K S ch z_) (fun (z_ : Int) => L52_3a.mu n g rv12 rl12 K S ch z_) (fun (k_ : Nat) (z_ : Int) => L52_3a.N n K S ch k_ z_) L52_3a.E (L52_3a.X n g rv12 rl12 K S ch) (L52_3a.XH n g rv12 rl12 K S ch) (others 44 [1, 2, 3, 4, 5, 11]) (others 44 [9, 10]) (others 44 []) ?_ k_ z_ hi_ hm_
  clear hm_ hi_ z_ k_
  intro k_ z_ hinv hmu
  revert hinv hmu; revert z_; intro i hinv hmu
  have hinv : 0 ≤ i ∧ i ≤ 70 := hinv
  have hmu : ((71 - i).toNat) < k_ + 1 := hmu
  cases h1 : decide (IntKind.i64.wrap (i + 3) ≤ (↑n : Int)) with
  | true =>
    have h1p := of_decide_eq_true h1
    try have := bd_ik (by first | assumption | omega) (by first | assumption | omega) (by first | assumption | omega) (by first | assumption | omega) (by first | assumption | omega)
    have o0 : (0 : Int) ≤ i := by first | assumption | omega | (simp_all; done)
    have o1 : (↑n : Int) ≤ (64 : Int) := by first | assumption | omega | (simp_all; done)
    have o2 : K ≤ (9223372036854775807 : Nat) := by first | assumption | omega | (simp_all; done)
    try have := IntWalk.i64_in (i + 1) (by omega)
    have o3 : (0 : Int) ≤ IntKind.i64.wrap (i + (1 : Int)) := by first | assumption | omega | (simp_all; done)
    have o4 : IntKind.i64.wrap (i + (1 : Int)) ≤ (70 : Int) := by first | assumption | omega | (simp_all; done)
    cases h2 : r52_2.v1 n K S (IntKind.i64.wrap (i + 1)) (IntKind.u64.wrap (↑(BitVec.ofInt 64 ch ||| BitVec.ofInt 64 (IntKind.u64.wrap (1 * 2 ^ min i.toNat 64))).toNat : Int)) with
    | true =>
      exact ⟨[.b true, .ret (AV.tup [AV.int IntKind.u64 (r52_2.v0 n K S (IntKind.i64.wrap (i + 1)) (IntKind.u64.wrap (↑(BitVec.ofInt 64 ch ||| BitVec.ofInt 64 (IntKind.u64.wrap (1 * 2 ^ min i.toNat 64))).toNat : Int))), AV.bool (r52_2.v1 n K S (IntKind.i64.wrap (i + 1)) (IntKind.u64.wrap (↑(BitVec.ofInt 64 ch ||| BitVec.ofInt 64 (IntKind.u64.wrap (1 * 2 ^ min i.toNat 64))).toNat : Int)))]) ([AObj.var (AV.sl 5 n fun (i : Nat) => AV.agg [AV.str (g i).nm, AV.int IntKind.i64 (g i).x, AV.int IntKind.i64 (g i).y, AV.sl 1 (g i).nr fun (i_1 : Nat) => AV.int IntKind.i64 ((g i).r i_1), AV.sl 1 (g i).nl fun (i_1 : Nat) => AV.int IntKind.i64 ((g i).l i_1)]), AObj.var (AV.sl 1 K fun (i : Nat) => AV.int IntKind.u64 (S i)), AObj.var (AV.fn 49 [AV.ptr 1 1 1 0 0]), AObj.var (AV.fn 52 [AV.ptr 2 1 1 0 0, AV.ptr 0 1 1 0 0, AV.ptr 3 1 1 0 0]), AObj.row 1 rv12 (Col.ints IntKind.i64 rl12)]), .b true], kmp (by kernel_rfl) (And.intro h1 (And.intro o0 (And.intro (r52_2 (n) (g) (rv12) (rl12) o1 (K) (S) o2 (IntKind.i64.wrap (i + 1)) (IntKind.u64.wrap (↑(BitVec.ofInt 64 ch ||| BitVec.ofInt 64 (IntKind.u64.wrap (1 * 2 ^ min i.toNat 64))).toNat : Int)) o3 o4) (And.intro h2 (L52_3a.en n g rv12 rl12 K S ch (k_ := k_) (z_ := i) (.e0 (r52_2.v0 n K S (IntKind.i64.wrap (i + 1)) (IntKind.u64.wrap (↑(BitVec.ofInt 64 ch ||| BitVec.ofInt 64 (IntKind.u64.wrap (1 * 2 ^ min i.toNat 64))).toNat : Int))) : L52_3a.O) (by first | (simp only [L52_3a.N, h1, h2, cond_true, cond_false]; done) | (try unfold L52_3a.N; try simp only [h1, cond_true, cond_false]; try simp only [h2, cond_true, cond_false]; try rfl; done)) PopOk.same)))))⟩
    | false =>
      try have := bd_ik (by first | assumption | omega) (by first | assumption | omega) (by first | assumption | omega) (by first | assumption | omega) (by first | assumption | omega)
      try have := IntWalk.i64_in (i + 1) (by omega)
      have o5 : ((71 : Int) - IntKind.i64.wrap (i + (1 : Int))).toNat < ((71 : Int) - i).toNat := by first | assumption | omega | (simp_all; done)
      exact ⟨[.b true, .ret (AV.tup [AV.int IntKind.u64 (r52_2.v0 n K S (IntKind.i64.wrap (i + 1)) (IntKind.u64.wrap (↑(BitVec.ofInt 64 ch ||| BitVec.ofInt 64 (IntKind.u64.wrap (1 * 2 ^ min i.toNat 64))).toNat : Int))), AV.bool (r52_2.v1 n K S (IntKind.i64.wrap (i + 1)) (IntKind.u64.wrap (↑(BitVec.ofInt 64 ch ||| BitVec.ofInt 64 (IntKind.u64.wrap (1 * 2 ^ min i.toNat 64))).toNat : Int)))]) ([AObj.var (AV.sl 5 n fun (i : Nat) => AV.agg [AV.str (g i).nm, AV.int IntKind.i64 (g i).x, AV.int IntKind.i64 (g i).y, AV.sl 1 (g i).nr fun (i_1 : Nat) => AV.int IntKind.i64 ((g i).r i_1), AV.sl 1 (g i).nl fun (i_1 : Nat) => AV.int IntKind.i64 ((g i).l i_1)]), AObj.var (AV.sl 1 K fun (i : Nat) => AV.int IntKind.u64 (S i)), AObj.var (AV.fn 49 [AV.ptr 1 1 1 0 0]), AObj.var (AV.fn 52 [AV.ptr 2 1 1 0 0, AV.ptr 0 1 1 0 0, AV.ptr 3 1 1 0 0]), AObj.row 1 rv12 (Col.ints IntKind.i64 rl12)]), .b false], kmp (by kernel_rfl) (And.intro h1 (And.intro o0 (And.intro (r52_2 (n) (g) (rv12) (rl12) o1 (K) (S) o2 (IntKind.i64.wrap (i + 1)) (IntKind.u64.wrap (↑(BitVec.ofInt 64 ch ||| BitVec.ofInt 64 (IntKind.u64.wrap (1 * 2 ^ min i.toNat 64))).toNat : Int)) o3 o4) (And.intro h2 (L52_3a.nx n g rv12 rl12 K S ch (k_ := k_) (z_ := i) (IntKind.i64.wrap (i + 1)) (And.intro o3 o4) o5 (by first | (simp only [L52_3a.N, h1, h2, cond_true, cond_false]; done) | (try unfold L52_3a.N; try simp only [h1, cond_true, cond_false]; try simp only [h2, cond_true, cond_false]; try rfl; done)) PopOk.same)))))⟩
  | false =>
    have h1p := of_decide_eq_false h1
    exact ⟨[.b false], kmp (by kernel_rfl) (And.intro h1 (L52_3a.en n g rv12 rl12 K S ch (k_ := k_) (z_ := i) (.e1 : L52_3a.O) (by first | (simp only [L52_3a.N, h1, cond_true, cond_false]; done) | (try unfold L52_3a.N; try simp only [h1, cond_true, cond_false]; try rfl; done)) PopOk.same))⟩

theorem L52_3a.e0 (n : Nat) (g : Nat → SD) (rv12 : Nat) (rl12 : List Int) (hn : (↑n : Int) ≤ 64) (K : Nat) (S : Nat → Int) (hK : K ≤ 9223372036854775807) (ch : Int) (i : Int) (hinv : L52_3a.inv n g rv12 rl12 K S ch i) (a0 : Int) (hN : L52_3a.run n K S ch i = (.e0 a0 : L52_3a.O)) : LoopTo Try.prog (loopN Try.f52 0) (L52_3a.T n g rv12 rl12 K S ch i) (L52_3a.H n g rv12 rl12 K S ch i) (Exit.ret) (L52_3a.X n g rv12 rl12 K S ch (.e0 a0 : L52_3a.O)) (L52_3a.XH n g rv12 rl12 K S ch (.e0 a0 : L52_3a.O)) := by
  have h_ := L52_3a.spec n g rv12 rl12 hn K S hK ch (((71 - i).toNat) + 1) i hinv (Nat.lt_succ_self _)
  unfold L52_3a.run at hN
  simp only [hN] at h_
  exact h_

theorem L52_3a.e1 (n : Nat) (g : Nat → SD) (rv12 : Nat) (rl12 : List Int) (hn : (↑n : Int) ≤ 64) (K : Nat) (S : Nat → Int) (hK : K ≤ 9223372036854775807) (ch : Int) (i : Int) (hinv : L52_3a.inv n g rv12 rl12 K S ch i) (hN : L52_3a.run n K S ch i = (.e1 : L52_3a.O)) : LoopTo Try.prog (loopN Try.f52 0) (L52_3a.T n g rv12 rl12 K S ch i) (L52_3a.H n g rv12 rl12 K S ch i) (Exit.exit 0) (L52_3a.X n g rv12 rl12 K S ch (.e1 : L52_3a.O)) (L52_3a.XH n g rv12 rl12 K S ch (.e1 : L52_3a.O)) := by
  have h_ := L52_3a.spec n g rv12 rl12 hn K S hK ch (((71 - i).toNat) + 1) i hinv (Nat.lt_succ_self _)
  unfold L52_3a.run at hN
  simp only [hN] at h_
  exact h_

noncomputable def r52_3.v0 (n : Nat) (K : Nat) (S : Nat → Int) (from_ : Int) (ch : Int) : Int := (match L52_3a.run n K S ch from_ with | .e0 h1d0 => h1d0 | .e1 => 0 )

noncomputable def r52_3.v1 (n : Nat) (K : Nat) (S : Nat → Int) (from_ : Int) (ch : Int) : Bool := (match L52_3a.run n K S ch from_ with | .e0 h1d0 => true | .e1 => false )

noncomputable abbrev r52_3.h0 (n : Nat) (g : Nat → SD) (rv12 : Nat) (rl12 : List Int) (K : Nat) (S : Nat → Int) (from_ : Int) (ch : Int) : AHeap := ([AObj.var (sts n g), AObj.var (uvs K S), AObj.var (AV.fn 49 [AV.ptr 1 1 1 0 0]), AObj.var (AV.fn 52 [AV.ptr 2 1 1 0 0, AV.ptr 0 1 1 0 0, AV.ptr 3 1 1 0 0]), AObj.row 1 rv12 (Col.ints IntKind.i64 rl12)])

theorem r52_3 (n : Nat) (g : Nat → SD) (rv12 : Nat) (rl12 : List Int) (hn : (↑n : Int) ≤ 64) (K : Nat) (S : Nat → Int) (hK : K ≤ 9223372036854775807) (from_ : Int) (ch : Int) (h0 : 0 ≤ from_) (h1 : from_ ≤ 70) : Ret Try.prog 52 ([AV.int IntKind.i64 from_, AV.int IntKind.i64 3, AV.int IntKind.u64 ch, AV.ptr 2 1 1 0 0, AV.ptr 0 1 1 0 0, AV.ptr 3 1 1 0 0]) (r52_3.h0 n g rv12 rl12 K S from_ ch) (AV.tup [(AV.int IntKind.u64 (r52_3.v0 n K S from_ ch)), (AV.bool (r52_3.v1 n K S from_ ch))]) (r52_3.h0 n g rv12 rl12 K S from_ ch) := by
  have o0 : (↑n : Int) ≤ (64 : Int) := by first | assumption | omega | (simp_all; done)
  have o1 : K ≤ (9223372036854775807 : Nat) := by first | assumption | omega | (simp_all; done)
  have o2 : (0 : Int) ≤ from_ := by first | assumption | omega | (simp_all; done)
  have o3 : from_ ≤ (70 : Int) := by first | assumption | omega | (simp_all; done)
  cases h1 : L52_3a.run n K S ch from_ with
  | e0 h1d0 =>
    exact Ret.of_runH mix [(AV.int IntKind.u64 (r52_3.v0 n K S from_ ch)), (AV.bool (r52_3.v1 n K S from_ ch))] (r52_3.h0 n g rv12 rl12 K S from_ ch) Try.func52 rfl [.b false, .loop (others 44 [1, 2, 3, 4, 5, 11]) (Exit.ret) (L52_3a.X n g rv12 rl12 K S ch (L52_3a.O.e0 h1d0)) (L52_3a.XH n g rv12 rl12 K S ch (L52_3a.O.e0 h1d0))] (by simp) (kmp (by kernel_rfl) (And.intro (rfl : false = false) (And.intro (L52_3a.e0 (n) (g) (rv12) (rl12) o0 (K) (S) o1 (ch) (from_) (And.intro o2 o3) h1d0 h1) (And.intro (And.intro (show (AV.int IntKind.u64 h1d0) = ((AV.int IntKind.u64 (r52_3.v0 n K S from_ ch))) by first | (simp only [r52_3.v0, r52_3.v1, h1, cond_true, cond_false]; done) | (try unfold r52_3.v0; try unfold r52_3.v1; try simp only [h1, cond_true, cond_false]; try rfl; done) | rfl) (And.intro (show (AV.bool true) = ((AV.bool (r52_3.v1 n K S from_ ch))) by first | (simp only [r52_3.v0, r52_3.v1, h1, cond_true, cond_false]; done) | (try unfold r52_3.v0; try unfold r52_3.v1; try simp only [h1, cond_true, cond_false]; try rfl; done) | rfl) trivial)) (rfl : ([AObj.var (sts n g), AObj.var (uvs K S), AObj.var (AV.fn 49 [AV.ptr 1 1 1 0 0]), AObj.var (AV.fn 52 [AV.ptr 2 1 1 0 0, AV.ptr 0 1 1 0 0, AV.ptr 3 1 1 0 0]), AObj.row 1 rv12 (Col.ints IntKind.i64 rl12)] : AHeap) = [AObj.var (sts n g), AObj.var (uvs K S), AObj.var (AV.fn 49 [AV.ptr 1 1 1 0 0]), AObj.var (AV.fn 52 [AV.ptr 2 1 1 0 0, AV.ptr 0 1 1 0 0, AV.ptr 3 1 1 0 0]), AObj.row 1 rv12 (Col.ints IntKind.i64 rl12)])))))
  | e1 =>
    exact Ret.of_runH mix [(AV.int IntKind.u64 (r52_3.v0 n K S from_ ch)), (AV.bool (r52_3.v1 n K S from_ ch))] (r52_3.h0 n g rv12 rl12 K S from_ ch) Try.func52 rfl [.b false, .loop (others 44 [1, 2, 3, 4, 5, 11]) (Exit.exit 0) (L52_3a.X n g rv12 rl12 K S ch L52_3a.O.e1) (L52_3a.XH n g rv12 rl12 K S ch L52_3a.O.e1)] (by simp) (kmp (by kernel_rfl) (And.intro (rfl : false = false) (And.intro (L52_3a.e1 (n) (g) (rv12) (rl12) o0 (K) (S) o1 (ch) (from_) (And.intro o2 o3) h1) (And.intro (And.intro (show (AV.int IntKind.u64 0) = ((AV.int IntKind.u64 (r52_3.v0 n K S from_ ch))) by first | (simp only [r52_3.v0, r52_3.v1, h1, cond_true, cond_false]; done) | (try unfold r52_3.v0; try unfold r52_3.v1; try simp only [h1, cond_true, cond_false]; try rfl; done) | rfl) (And.intro (show (AV.bool false) = ((AV.bool (r52_3.v1 n K S from_ ch))) by first | (simp only [r52_3.v0, r52_3.v1, h1, cond_true, cond_false]; done) | (try unfold r52_3.v0; try unfold r52_3.v1; try simp only [h1, cond_true, cond_false]; try rfl; done) | rfl) trivial)) (rfl : ([AObj.var (sts n g), AObj.var (uvs K S), AObj.var (AV.fn 49 [AV.ptr 1 1 1 0 0]), AObj.var (AV.fn 52 [AV.ptr 2 1 1 0 0, AV.ptr 0 1 1 0 0, AV.ptr 3 1 1 0 0]), AObj.row 1 rv12 (Col.ints IntKind.i64 rl12)] : AHeap) = [AObj.var (sts n g), AObj.var (uvs K S), AObj.var (AV.fn 49 [AV.ptr 1 1 1 0 0]), AObj.var (AV.fn 52 [AV.ptr 2 1 1 0 0, AV.ptr 0 1 1 0 0, AV.ptr 3 1 1 0 0]), AObj.row 1 rv12 (Col.ints IntKind.i64 rl12)])))))

inductive L52_4a.O where
  | e0 (a0 : Int)
  | e1

noncomputable def L52_4a.T (n : Nat) (g : Nat → SD) (rv12 : Nat) (rl12 : List Int) (K : Nat) (S : Nat → Int) (ch : Int) (i : Int) : List AV := mkT 44 [(1, AV.int IntKind.i64 4), (2, AV.int IntKind.u64 ch), (3, AV.ptr 2 1 1 0 0), (4, AV.ptr 0 1 1 0 0), (5, AV.ptr 3 1 1 0 0), (11, AV.int IntKind.i64 i)]

noncomputable def L52_4a.H (n : Nat) (g : Nat → SD) (rv12 : Nat) (rl12 : List Int) (K : Nat) (S : Nat → Int) (ch : Int) (i : Int) : AHeap := [AObj.var (sts n g), AObj.var (uvs K S), AObj.var (AV.fn 49 [AV.ptr 1 1 1 0 0]), AObj.var (AV.fn 52 [AV.ptr 2 1 1 0 0, AV.ptr 0 1 1 0 0, AV.ptr 3 1 1 0 0]), AObj.row 1 rv12 (Col.ints IntKind.i64 rl12)]

def L52_4a.inv (n : Nat) (g : Nat → SD) (rv12 : Nat) (rl12 : List Int) (K : Nat) (S : Nat → Int) (ch : Int) (i : Int) : Prop := 0 ≤ i ∧ i ≤ 70

noncomputable def L52_4a.mu (n : Nat) (g : Nat → SD) (rv12 : Nat) (rl12 : List Int) (K : Nat) (S : Nat → Int) (ch : Int) (i : Int) : Nat := (71 - i).toNat

noncomputable def L52_4a.E : L52_4a.O → Exit
  | .e0 a0 => Exit.ret
  | .e1 => Exit.exit 0

noncomputable def L52_4a.X (n : Nat) (g : Nat → SD) (rv12 : Nat) (rl12 : List Int) (K : Nat) (S : Nat → Int) (ch : Int) : L52_4a.O → List AV
  | .e0 a0 => mkT 44 [(9, (AV.int IntKind.u64 a0)), (10, (AV.bool true))]
  | .e1 => mkT 44 []

noncomputable def L52_4a.XH (n : Nat) (g : Nat → SD) (rv12 : Nat) (rl12 : List Int) (K : Nat) (S : Nat → Int) (ch : Int) : L52_4a.O → AHeap
  | .e0 a0 => ([AObj.var (AV.sl 5 n fun (i : Nat) => AV.agg [AV.str (g i).nm, AV.int IntKind.i64 (g i).x, AV.int IntKind.i64 (g i).y, AV.sl 1 (g i).nr fun (i_1 : Nat) => AV.int IntKind.i64 ((g i).r i_1), AV.sl 1 (g i).nl fun (i_1 : Nat) => AV.int IntKind.i64 ((g i).l i_1)]), AObj.var (AV.sl 1 K fun (i : Nat) => AV.int IntKind.u64 (S i)), AObj.var (AV.fn 49 [AV.ptr 1 1 1 0 0]), AObj.var (AV.fn 52 [AV.ptr 2 1 1 0 0, AV.ptr 0 1 1 0 0, AV.ptr 3 1 1 0 0]), AObj.row 1 rv12 (Col.ints IntKind.i64 rl12)])
  | .e1 => ([AObj.var (AV.sl 5 n fun (i : Nat) => AV.agg [AV.str (g i).nm, AV.int IntKind.i64 (g i).x, AV.int IntKind.i64 (g i).y, AV.sl 1 (g i).nr fun (i_1 : Nat) => AV.int IntKind.i64 ((g i).r i_1), AV.sl 1 (g i).nl fun (i_1 : Nat) => AV.int IntKind.i64 ((g i).l i_1)]), AObj.var (AV.sl 1 K fun (i : Nat) => AV.int IntKind.u64 (S i)), AObj.var (AV.fn 49 [AV.ptr 1 1 1 0 0]), AObj.var (AV.fn 52 [AV.ptr 2 1 1 0 0, AV.ptr 0 1 1 0 0, AV.ptr 3 1 1 0 0]), AObj.row 1 rv12 (Col.ints IntKind.i64 rl12)])

noncomputable def L52_4a.N (n : Nat) (K : Nat) (S : Nat → Int) (ch : Int) : Nat → Int → L52_4a.O
  | 0, _ => .e0 default
  | k_ + 1, i => (bif decide (IntKind.i64.wrap (i + 4) ≤ (↑n : Int)) then (bif r52_3.v1 n K S (IntKind.i64.wrap (i + 1)) (IntKind.u64.wrap (↑(BitVec.ofInt 64 ch ||| BitVec.ofInt 64 (IntKind.u64.wrap (1 * 2 ^ min i.toNat 64))).toNat : Int)) then (.e0 (r52_3.v0 n K S (IntKind.i64.wrap (i + 1)) (IntKind.u64.wrap (↑(BitVec.ofInt 64 ch ||| BitVec.ofInt 64 (IntKind.u64.wrap (1 * 2 ^ min i.toNat 64))).toNat : Int)))) else (L52_4a.N n K S ch k_ (IntKind.i64.wrap (i + 1)))) else (.e1))

noncomputable def L52_4a.run (n : Nat) (K : Nat) (S : Nat → Int) (ch : Int) (i : Int) : L52_4a.O := L52_4a.N n K S ch (((71 - i).toNat) + 1) i

theorem L52_4a.nx (n : Nat) (g : Nat → SD) (rv12 : Nat) (rl12 : List Int) (K : Nat) (S : Nat → Int) (ch : Int) {k_ : Nat} {z_ : Int} {h_ : AHeap} (s_ : Int) (h1 : L52_4a.inv n g rv12 rl12 K S ch s_) (h2 : L52_4a.mu n g rv12 rl12 K S ch s_ < L52_4a.mu n g rv12 rl12 K S ch z_) (h3 : L52_4a.N n K S ch k_ s_ = L52_4a.N n K S ch (k_ + 1) z_) (h4 : PopOk (L52_4a.H n g rv12 rl12 K S ch z_) h_ (L52_4a.T n g rv12 rl12 K S ch s_) (L52_4a.H n g rv12 rl12 K S ch s_)) : LNextP (fun (z_ : Int) => L52_4a.T n g rv12 rl12 K S ch z_) (fun (z_ : Int) => L52_4a.H n g rv12 rl12 K S ch z_) (fun (z_ : Int) => L52_4a.inv n g rv12 rl12 K S ch z_) (fun (z_ : Int) => L52_4a.mu n g rv12 rl12 K S ch z_) (fun (k_ : Nat) (z_ : Int) => L52_4a.N n K S ch k_ z_) k_ z_ (L52_4a.T n g rv12 rl12 K S ch s_) h_ := LNextP.mk (Tm := (fun (z_ : Int) => L52_4a.T n g rv12 rl12 K S ch z_)) (Hp := (fun (z_ : Int) => L52_4a.H n g rv12 rl12 K S ch z_)) (inv := (fun (z_ : Int) => L52_4a.inv n g rv12 rl12 K S ch z_)) (mu := (fun (z_ : Int) => L52_4a.mu n g rv12 rl12 K S ch z_)) (l := (fun (k_ : Nat) (z_ : Int) => L52_4a.N n K S ch k_ z_)) s_ h1 h2 h3 h4

theorem L52_4a.en (n : Nat) (g : Nat → SD) (rv12 : Nat) (rl12 : List Int) (K : Nat) (S : Nat → Int) (ch : Int) {k_ : Nat} {z_ : Int} {h_ : AHeap} (o_ : L52_4a.O) (h3 : L52_4a.N n K S ch (k_ + 1) z_ = o_) (h4 : PopOk (L52_4a.H n g rv12 rl12 K S ch z_) h_ (L52_4a.X n g rv12 rl12 K S ch o_) (L52_4a.XH n g rv12 rl12 K S ch o_)) : LEndP (fun (z_ : Int) => L52_4a.H n g rv12 rl12 K S ch z_) (fun (k_ : Nat) (z_ : Int) => L52_4a.N n K S ch k_ z_) L52_4a.E (L52_4a.X n g rv12 rl12 K S ch) (L52_4a.XH n g rv12 rl12 K S ch) k_ z_ (L52_4a.E o_) (L52_4a.X n g rv12 rl12 K S ch o_) h_ := LEndP.mk (Hp := (fun (z_ : Int) => L52_4a.H n g rv12 rl12 K S ch z_)) (l := (fun (k_ : Nat) (z_ : Int) => L52_4a.N n K S ch k_ z_)) (oE := L52_4a.E) (oT := L52_4a.X n g rv12 rl12 K S ch) (oH := L52_4a.XH n g rv12 rl12 K S ch) o_ h3 h4

theorem L52_4a.spec (n : Nat) (g : Nat → SD) (rv12 : Nat) (rl12 : List Int) (hn : (↑n : Int) ≤ 64) (K : Nat) (S : Nat → Int) (hK : K ≤ 9223372036854775807) (ch : Int) (k_ : Nat) (z_ : Int) (hi_ : L52_4a.inv n g rv12 rl12 K S ch z_) (hm_ : L52_4a.mu n g rv12 rl12 K S ch z_ < k_) : LoopTo Try.prog (loopN Try.f52 0) (L52_4a.T n g rv12 rl12 K S ch z_) (L52_4a.H n g rv12 rl12 K S ch z_) (L52_4a.E (L52_4a.N n K S ch k_ z_)) (L52_4a.X n g rv12 rl12 K S ch (L52_4a.N n K S ch k_ z_)) (L52_4a.XH n g rv12 rl12 K S ch (L52_4a.N n K S ch k_ z_)) := by
  refine LoopTo.fuelP mix (fun (z_ : Int) => L52_4a.T n g rv12 rl12 K S ch z_) (fun (z_ : Int) => L52_4a.H n g rv12 rl12 K S ch z_) (fun (z_ : Int) => L52_4a.inv n g rv12 rl12 K S ch z_) (fun (z_ : Int) => L52_4a.mu n g rv12 rl12 K S ch z_) (fun (k_ : Nat) (z_ : Int) => L52_4a.N n K S ch k_ z_) L52_4a.E (L52_4a.X n g rv12 rl12 K S ch) (L52_4a.XH n g rv12 rl12 K S ch) (others 44 [1, 2, 3, 4, 5, 11]) (others 44 [9, 10]) (others 44 []) ?_ k_ z_ hi_ hm_
  clear hm_ hi_ z_ k_
  intro k_ z_ hinv hmu
  revert hinv hmu; revert z_; intro i hinv hmu
  have hinv : 0 ≤ i ∧ i ≤ 70 := hinv
  have hmu : ((71 - i).toNat) < k_ + 1 := hmu
  cases h1 : decide (IntKind.i64.wrap (i + 4) ≤ (↑n : Int)) with
  | true =>
    have h1p := of_decide_eq_true h1
    try have := bd_ik (by first | assumption | omega) (by first | assumption | omega) (by first | assumption | omega) (by first | assumption | omega) (by first | assumption | omega)
    have o0 : (0 : Int) ≤ i := by first | assumption | omega | (simp_all; done)
    have o1 : (↑n : Int) ≤ (64 : Int) := by first | assumption | omega | (simp_all; done)
    have o2 : K ≤ (9223372036854775807 : Nat) := by first | assumption | omega | (simp_all; done)
    try have := IntWalk.i64_in (i + 1) (by omega)
    have o3 : (0 : Int) ≤ IntKind.i64.wrap (i + (1 : Int)) := by first | assumption | omega | (simp_all; done)
    have o4 : IntKind.i64.wrap (i + (1 : Int)) ≤ (70 : Int) := by first | assumption | omega | (simp_all; done)
    cases h2 : r52_3.v1 n K S (IntKind.i64.wrap (i + 1)) (IntKind.u64.wrap (↑(BitVec.ofInt 64 ch ||| BitVec.ofInt 64 (IntKind.u64.wrap (1 * 2 ^ min i.toNat 64))).toNat : Int)) with
    | true =>
      exact ⟨[.b true, .ret (AV.tup [AV.int IntKind.u64 (r52_3.v0 n K S (IntKind.i64.wrap (i + 1)) (IntKind.u64.wrap (↑(BitVec.ofInt 64 ch ||| BitVec.ofInt 64 (IntKind.u64.wrap (1 * 2 ^ min i.toNat 64))).toNat : Int))), AV.bool (r52_3.v1 n K S (IntKind.i64.wrap (i + 1)) (IntKind.u64.wrap (↑(BitVec.ofInt 64 ch ||| BitVec.ofInt 64 (IntKind.u64.wrap (1 * 2 ^ min i.toNat 64))).toNat : Int)))]) ([AObj.var (AV.sl 5 n fun (i : Nat) => AV.agg [AV.str (g i).nm, AV.int IntKind.i64 (g i).x, AV.int IntKind.i64 (g i).y, AV.sl 1 (g i).nr fun (i_1 : Nat) => AV.int IntKind.i64 ((g i).r i_1), AV.sl 1 (g i).nl fun (i_1 : Nat) => AV.int IntKind.i64 ((g i).l i_1)]), AObj.var (AV.sl 1 K fun (i : Nat) => AV.int IntKind.u64 (S i)), AObj.var (AV.fn 49 [AV.ptr 1 1 1 0 0]), AObj.var (AV.fn 52 [AV.ptr 2 1 1 0 0, AV.ptr 0 1 1 0 0, AV.ptr 3 1 1 0 0]), AObj.row 1 rv12 (Col.ints IntKind.i64 rl12)]), .b true], kmp (by kernel_rfl) (And.intro h1 (And.intro o0 (And.intro (r52_3 (n) (g) (rv12) (rl12) o1 (K) (S) o2 (IntKind.i64.wrap (i + 1)) (IntKind.u64.wrap (↑(BitVec.ofInt 64 ch ||| BitVec.ofInt 64 (IntKind.u64.wrap (1 * 2 ^ min i.toNat 64))).toNat : Int)) o3 o4) (And.intro h2 (L52_4a.en n g rv12 rl12 K S ch (k_ := k_) (z_ := i) (.e0 (r52_3.v0 n K S (IntKind.i64.wrap (i + 1)) (IntKind.u64.wrap (↑(BitVec.ofInt 64 ch ||| BitVec.ofInt 64 (IntKind.u64.wrap (1 * 2 ^ min i.toNat 64))).toNat : Int))) : L52_4a.O) (by first | (simp only [L52_4a.N, h1, h2, cond_true, cond_false]; done) | (try unfold L52_4a.N; try simp only [h1, cond_true, cond_false]; try simp only [h2, cond_true, cond_false]; try rfl; done)) PopOk.same)))))⟩
    | false =>
      try have := bd_ik (by first | assumption | omega) (by first | assumption | omega) (by first | assumption | omega) (by first | assumption | omega) (by first | assumption | omega)
      try have := IntWalk.i64_in (i + 1) (by omega)
      have o5 : ((71 : Int) - IntKind.i64.wrap (i + (1 : Int))).toNat < ((71 : Int) - i).toNat := by first | assumption | omega | (simp_all; done)
      exact ⟨[.b true, .ret (AV.tup [AV.int IntKind.u64 (r52_3.v0 n K S (IntKind.i64.wrap (i + 1)) (IntKind.u64.wrap (↑(BitVec.ofInt 64 ch ||| BitVec.ofInt 64 (IntKind.u64.wrap (1 * 2 ^ min i.toNat 64))).toNat : Int))), AV.bool (r52_3.v1 n K S (IntKind.i64.wrap (i + 1)) (IntKind.u64.wrap (↑(BitVec.ofInt 64 ch ||| BitVec.ofInt 64 (IntKind.u64.wrap (1 * 2 ^ min i.toNat 64))).toNat : Int)))]) ([AObj.var (AV.sl 5 n fun (i : Nat) => AV.agg [AV.str (g i).nm, AV.int IntKind.i64 (g i).x, AV.int IntKind.i64 (g i).y, AV.sl 1 (g i).nr fun (i_1 : Nat) => AV.int IntKind.i64 ((g i).r i_1), AV.sl 1 (g i).nl fun (i_1 : Nat) => AV.int IntKind.i64 ((g i).l i_1)]), AObj.var (AV.sl 1 K fun (i : Nat) => AV.int IntKind.u64 (S i)), AObj.var (AV.fn 49 [AV.ptr 1 1 1 0 0]), AObj.var (AV.fn 52 [AV.ptr 2 1 1 0 0, AV.ptr 0 1 1 0 0, AV.ptr 3 1 1 0 0]), AObj.row 1 rv12 (Col.ints IntKind.i64 rl12)]), .b false], kmp (by kernel_rfl) (And.intro h1 (And.intro o0 (And.intro (r52_3 (n) (g) (rv12) (rl12) o1 (K) (S) o2 (IntKind.i64.wrap (i + 1)) (IntKind.u64.wrap (↑(BitVec.ofInt 64 ch ||| BitVec.ofInt 64 (IntKind.u64.wrap (1 * 2 ^ min i.toNat 64))).toNat : Int)) o3 o4) (And.intro h2 (L52_4a.nx n g rv12 rl12 K S ch (k_ := k_) (z_ := i) (IntKind.i64.wrap (i + 1)) (And.intro o3 o4) o5 (by first | (simp only [L52_4a.N, h1, h2, cond_true, cond_false]; done) | (try unfold L52_4a.N; try simp only [h1, cond_true, cond_false]; try simp only [h2, cond_true, cond_false]; try rfl; done)) PopOk.same)))))⟩
  | false =>
    have h1p := of_decide_eq_false h1
    exact ⟨[.b false], kmp (by kernel_rfl) (And.intro h1 (L52_4a.en n g rv12 rl12 K S ch (k_ := k_) (z_ := i) (.e1 : L52_4a.O) (by first | (simp only [L52_4a.N, h1, cond_true, cond_false]; done) | (try unfold L52_4a.N; try simp only [h1, cond_true, cond_false]; try rfl; done)) PopOk.same))⟩

theorem L52_4a.e0 (n : Nat) (g : Nat → SD) (rv12 : Nat) (rl12 : List Int) (hn : (↑n : Int) ≤ 64) (K : Nat) (S : Nat → Int) (hK : K ≤ 9223372036854775807) (ch : Int) (i : Int) (hinv : L52_4a.inv n g rv12 rl12 K S ch i) (a0 : Int) (hN : L52_4a.run n K S ch i = (.e0 a0 : L52_4a.O)) : LoopTo Try.prog (loopN Try.f52 0) (L52_4a.T n g rv12 rl12 K S ch i) (L52_4a.H n g rv12 rl12 K S ch i) (Exit.ret) (L52_4a.X n g rv12 rl12 K S ch (.e0 a0 : L52_4a.O)) (L52_4a.XH n g rv12 rl12 K S ch (.e0 a0 : L52_4a.O)) := by
  have h_ := L52_4a.spec n g rv12 rl12 hn K S hK ch (((71 - i).toNat) + 1) i hinv (Nat.lt_succ_self _)
  unfold L52_4a.run at hN
  simp only [hN] at h_
  exact h_

theorem L52_4a.e1 (n : Nat) (g : Nat → SD) (rv12 : Nat) (rl12 : List Int) (hn : (↑n : Int) ≤ 64) (K : Nat) (S : Nat → Int) (hK : K ≤ 9223372036854775807) (ch : Int) (i : Int) (hinv : L52_4a.inv n g rv12 rl12 K S ch i) (hN : L52_4a.run n K S ch i = (.e1 : L52_4a.O)) : LoopTo Try.prog (loopN Try.f52 0) (L52_4a.T n g rv12 rl12 K S ch i) (L52_4a.H n g rv12 rl12 K S ch i) (Exit.exit 0) (L52_4a.X n g rv12 rl12 K S ch (.e1 : L52_4a.O)) (L52_4a.XH n g rv12 rl12 K S ch (.e1 : L52_4a.O)) := by
  have h_ := L52_4a.spec n g rv12 rl12 hn K S hK ch (((71 - i).toNat) + 1) i hinv (Nat.lt_succ_self _)
  unfold L52_4a.run at hN
  simp only [hN] at h_
  exact h_

noncomputable def r52_4.v0 (n : Nat) (K : Nat) (S : Nat → Int) (from_ : Int) (ch : Int) : Int := (match L52_4a.run n K S ch from_ with | .e0 h1d0 => h1d0 | .e1 => 0 )

noncomputable def r52_4.v1 (n : Nat) (K : Nat) (S : Nat → Int) (from_ : Int) (ch : Int) : Bool := (match L52_4a.run n K S ch from_ with | .e0 h1d0 => true | .e1 => false )

noncomputable abbrev r52_4.h0 (n : Nat) (g : Nat → SD) (rv12 : Nat) (rl12 : List Int) (K : Nat) (S : Nat → Int) (from_ : Int) (ch : Int) : AHeap := ([AObj.var (sts n g), AObj.var (uvs K S), AObj.var (AV.fn 49 [AV.ptr 1 1 1 0 0]), AObj.var (AV.fn 52 [AV.ptr 2 1 1 0 0, AV.ptr 0 1 1 0 0, AV.ptr 3 1 1 0 0]), AObj.row 1 rv12 (Col.ints IntKind.i64 rl12)])

theorem r52_4 (n : Nat) (g : Nat → SD) (rv12 : Nat) (rl12 : List Int) (hn : (↑n : Int) ≤ 64) (K : Nat) (S : Nat → Int) (hK : K ≤ 9223372036854775807) (from_ : Int) (ch : Int) (h0 : 0 ≤ from_) (h1 : from_ ≤ 70) : Ret Try.prog 52 ([AV.int IntKind.i64 from_, AV.int IntKind.i64 4, AV.int IntKind.u64 ch, AV.ptr 2 1 1 0 0, AV.ptr 0 1 1 0 0, AV.ptr 3 1 1 0 0]) (r52_4.h0 n g rv12 rl12 K S from_ ch) (AV.tup [(AV.int IntKind.u64 (r52_4.v0 n K S from_ ch)), (AV.bool (r52_4.v1 n K S from_ ch))]) (r52_4.h0 n g rv12 rl12 K S from_ ch) := by
  have o0 : (↑n : Int) ≤ (64 : Int) := by first | assumption | omega | (simp_all; done)
  have o1 : K ≤ (9223372036854775807 : Nat) := by first | assumption | omega | (simp_all; done)
  have o2 : (0 : Int) ≤ from_ := by first | assumption | omega | (simp_all; done)
  have o3 : from_ ≤ (70 : Int) := by first | assumption | omega | (simp_all; done)
  cases h1 : L52_4a.run n K S ch from_ with
  | e0 h1d0 =>
    exact Ret.of_runH mix [(AV.int IntKind.u64 (r52_4.v0 n K S from_ ch)), (AV.bool (r52_4.v1 n K S from_ ch))] (r52_4.h0 n g rv12 rl12 K S from_ ch) Try.func52 rfl [.b false, .loop (others 44 [1, 2, 3, 4, 5, 11]) (Exit.ret) (L52_4a.X n g rv12 rl12 K S ch (L52_4a.O.e0 h1d0)) (L52_4a.XH n g rv12 rl12 K S ch (L52_4a.O.e0 h1d0))] (by simp) (kmp (by kernel_rfl) (And.intro (rfl : false = false) (And.intro (L52_4a.e0 (n) (g) (rv12) (rl12) o0 (K) (S) o1 (ch) (from_) (And.intro o2 o3) h1d0 h1) (And.intro (And.intro (show (AV.int IntKind.u64 h1d0) = ((AV.int IntKind.u64 (r52_4.v0 n K S from_ ch))) by first | (simp only [r52_4.v0, r52_4.v1, h1, cond_true, cond_false]; done) | (try unfold r52_4.v0; try unfold r52_4.v1; try simp only [h1, cond_true, cond_false]; try rfl; done) | rfl) (And.intro (show (AV.bool true) = ((AV.bool (r52_4.v1 n K S from_ ch))) by first | (simp only [r52_4.v0, r52_4.v1, h1, cond_true, cond_false]; done) | (try unfold r52_4.v0; try unfold r52_4.v1; try simp only [h1, cond_true, cond_false]; try rfl; done) | rfl) trivial)) (rfl : ([AObj.var (sts n g), AObj.var (uvs K S), AObj.var (AV.fn 49 [AV.ptr 1 1 1 0 0]), AObj.var (AV.fn 52 [AV.ptr 2 1 1 0 0, AV.ptr 0 1 1 0 0, AV.ptr 3 1 1 0 0]), AObj.row 1 rv12 (Col.ints IntKind.i64 rl12)] : AHeap) = [AObj.var (sts n g), AObj.var (uvs K S), AObj.var (AV.fn 49 [AV.ptr 1 1 1 0 0]), AObj.var (AV.fn 52 [AV.ptr 2 1 1 0 0, AV.ptr 0 1 1 0 0, AV.ptr 3 1 1 0 0]), AObj.row 1 rv12 (Col.ints IntKind.i64 rl12)])))))
  | e1 =>
    exact Ret.of_runH mix [(AV.int IntKind.u64 (r52_4.v0 n K S from_ ch)), (AV.bool (r52_4.v1 n K S from_ ch))] (r52_4.h0 n g rv12 rl12 K S from_ ch) Try.func52 rfl [.b false, .loop (others 44 [1, 2, 3, 4, 5, 11]) (Exit.exit 0) (L52_4a.X n g rv12 rl12 K S ch L52_4a.O.e1) (L52_4a.XH n g rv12 rl12 K S ch L52_4a.O.e1)] (by simp) (kmp (by kernel_rfl) (And.intro (rfl : false = false) (And.intro (L52_4a.e1 (n) (g) (rv12) (rl12) o0 (K) (S) o1 (ch) (from_) (And.intro o2 o3) h1) (And.intro (And.intro (show (AV.int IntKind.u64 0) = ((AV.int IntKind.u64 (r52_4.v0 n K S from_ ch))) by first | (simp only [r52_4.v0, r52_4.v1, h1, cond_true, cond_false]; done) | (try unfold r52_4.v0; try unfold r52_4.v1; try simp only [h1, cond_true, cond_false]; try rfl; done) | rfl) (And.intro (show (AV.bool false) = ((AV.bool (r52_4.v1 n K S from_ ch))) by first | (simp only [r52_4.v0, r52_4.v1, h1, cond_true, cond_false]; done) | (try unfold r52_4.v0; try unfold r52_4.v1; try simp only [h1, cond_true, cond_false]; try rfl; done) | rfl) trivial)) (rfl : ([AObj.var (sts n g), AObj.var (uvs K S), AObj.var (AV.fn 49 [AV.ptr 1 1 1 0 0]), AObj.var (AV.fn 52 [AV.ptr 2 1 1 0 0, AV.ptr 0 1 1 0 0, AV.ptr 3 1 1 0 0]), AObj.row 1 rv12 (Col.ints IntKind.i64 rl12)] : AHeap) = [AObj.var (sts n g), AObj.var (uvs K S), AObj.var (AV.fn 49 [AV.ptr 1 1 1 0 0]), AObj.var (AV.fn 52 [AV.ptr 2 1 1 0 0, AV.ptr 0 1 1 0 0, AV.ptr 3 1 1 0 0]), AObj.row 1 rv12 (Col.ints IntKind.i64 rl12)])))))

inductive L52_5a.O where
  | e0 (a0 : Int)
  | e1

noncomputable def L52_5a.T (n : Nat) (g : Nat → SD) (rv12 : Nat) (rl12 : List Int) (K : Nat) (S : Nat → Int) (ch : Int) (i : Int) : List AV := mkT 44 [(1, AV.int IntKind.i64 5), (2, AV.int IntKind.u64 ch), (3, AV.ptr 2 1 1 0 0), (4, AV.ptr 0 1 1 0 0), (5, AV.ptr 3 1 1 0 0), (11, AV.int IntKind.i64 i)]

noncomputable def L52_5a.H (n : Nat) (g : Nat → SD) (rv12 : Nat) (rl12 : List Int) (K : Nat) (S : Nat → Int) (ch : Int) (i : Int) : AHeap := [AObj.var (sts n g), AObj.var (uvs K S), AObj.var (AV.fn 49 [AV.ptr 1 1 1 0 0]), AObj.var (AV.fn 52 [AV.ptr 2 1 1 0 0, AV.ptr 0 1 1 0 0, AV.ptr 3 1 1 0 0]), AObj.row 1 rv12 (Col.ints IntKind.i64 rl12)]

def L52_5a.inv (n : Nat) (g : Nat → SD) (rv12 : Nat) (rl12 : List Int) (K : Nat) (S : Nat → Int) (ch : Int) (i : Int) : Prop := 0 ≤ i ∧ i ≤ 70

noncomputable def L52_5a.mu (n : Nat) (g : Nat → SD) (rv12 : Nat) (rl12 : List Int) (K : Nat) (S : Nat → Int) (ch : Int) (i : Int) : Nat := (71 - i).toNat

noncomputable def L52_5a.E : L52_5a.O → Exit
  | .e0 a0 => Exit.ret
  | .e1 => Exit.exit 0

noncomputable def L52_5a.X (n : Nat) (g : Nat → SD) (rv12 : Nat) (rl12 : List Int) (K : Nat) (S : Nat → Int) (ch : Int) : L52_5a.O → List AV
  | .e0 a0 => mkT 44 [(9, (AV.int IntKind.u64 a0)), (10, (AV.bool true))]
  | .e1 => mkT 44 []

noncomputable def L52_5a.XH (n : Nat) (g : Nat → SD) (rv12 : Nat) (rl12 : List Int) (K : Nat) (S : Nat → Int) (ch : Int) : L52_5a.O → AHeap
  | .e0 a0 => ([AObj.var (AV.sl 5 n fun (i : Nat) => AV.agg [AV.str (g i).nm, AV.int IntKind.i64 (g i).x, AV.int IntKind.i64 (g i).y, AV.sl 1 (g i).nr fun (i_1 : Nat) => AV.int IntKind.i64 ((g i).r i_1), AV.sl 1 (g i).nl fun (i_1 : Nat) => AV.int IntKind.i64 ((g i).l i_1)]), AObj.var (AV.sl 1 K fun (i : Nat) => AV.int IntKind.u64 (S i)), AObj.var (AV.fn 49 [AV.ptr 1 1 1 0 0]), AObj.var (AV.fn 52 [AV.ptr 2 1 1 0 0, AV.ptr 0 1 1 0 0, AV.ptr 3 1 1 0 0]), AObj.row 1 rv12 (Col.ints IntKind.i64 rl12)])
  | .e1 => ([AObj.var (AV.sl 5 n fun (i : Nat) => AV.agg [AV.str (g i).nm, AV.int IntKind.i64 (g i).x, AV.int IntKind.i64 (g i).y, AV.sl 1 (g i).nr fun (i_1 : Nat) => AV.int IntKind.i64 ((g i).r i_1), AV.sl 1 (g i).nl fun (i_1 : Nat) => AV.int IntKind.i64 ((g i).l i_1)]), AObj.var (AV.sl 1 K fun (i : Nat) => AV.int IntKind.u64 (S i)), AObj.var (AV.fn 49 [AV.ptr 1 1 1 0 0]), AObj.var (AV.fn 52 [AV.ptr 2 1 1 0 0, AV.ptr 0 1 1 0 0, AV.ptr 3 1 1 0 0]), AObj.row 1 rv12 (Col.ints IntKind.i64 rl12)])

noncomputable def L52_5a.N (n : Nat) (K : Nat) (S : Nat → Int) (ch : Int) : Nat → Int → L52_5a.O
  | 0, _ => .e0 default
  | k_ + 1, i => (bif decide (IntKind.i64.wrap (i + 5) ≤ (↑n : Int)) then (bif r52_4.v1 n K S (IntKind.i64.wrap (i + 1)) (IntKind.u64.wrap (↑(BitVec.ofInt 64 ch ||| BitVec.ofInt 64 (IntKind.u64.wrap (1 * 2 ^ min i.toNat 64))).toNat : Int)) then (.e0 (r52_4.v0 n K S (IntKind.i64.wrap (i + 1)) (IntKind.u64.wrap (↑(BitVec.ofInt 64 ch ||| BitVec.ofInt 64 (IntKind.u64.wrap (1 * 2 ^ min i.toNat 64))).toNat : Int)))) else (L52_5a.N n K S ch k_ (IntKind.i64.wrap (i + 1)))) else (.e1))

noncomputable def L52_5a.run (n : Nat) (K : Nat) (S : Nat → Int) (ch : Int) (i : Int) : L52_5a.O := L52_5a.N n K S ch (((71 - i).toNat) + 1) i

theorem L52_5a.nx (n : Nat) (g : Nat → SD) (rv12 : Nat) (rl12 : List Int) (K : Nat) (S : Nat → Int) (ch : Int) {k_ : Nat} {z_ : Int} {h_ : AHeap} (s_ : Int) (h1 : L52_5a.inv n g rv12 rl12 K S ch s_) (h2 : L52_5a.mu n g rv12 rl12 K S ch s_ < L52_5a.mu n g rv12 rl12 K S ch z_) (h3 : L52_5a.N n K S ch k_ s_ = L52_5a.N n K S ch (k_ + 1) z_) (h4 : PopOk (L52_5a.H n g rv12 rl12 K S ch z_) h_ (L52_5a.T n g rv12 rl12 K S ch s_) (L52_5a.H n g rv12 rl12 K S ch s_)) : LNextP (fun (z_ : Int) => L52_5a.T n g rv12 rl12 K S ch z_) (fun (z_ : Int) => L52_5a.H n g rv12 rl12 K S ch z_) (fun (z_ : Int) => L52_5a.inv n g rv12 rl12 K S ch z_) (fun (z_ : Int) => L52_5a.mu n g rv12 rl12 K S ch z_) (fun (k_ : Nat) (z_ : Int) => L52_5a.N n K S ch k_ z_) k_ z_ (L52_5a.T n g rv12 rl12 K S ch s_) h_ := LNextP.mk (Tm := (fun (z_ : Int) => L52_5a.T n g rv12 rl12 K S ch z_)) (Hp := (fun (z_ : Int) => L52_5a.H n g rv12 rl12 K S ch z_)) (inv := (fun (z_ : Int) => L52_5a.inv n g rv12 rl12 K S ch z_)) (mu := (fun (z_ : Int) => L52_5a.mu n g rv12 rl12 K S ch z_)) (l := (fun (k_ : Nat) (z_ : Int) => L52_5a.N n K S ch k_ z_)) s_ h1 h2 h3 h4

theorem L52_5a.en (n : Nat) (g : Nat → SD) (rv12 : Nat) (rl12 : List Int) (K : Nat) (S : Nat → Int) (ch : Int) {k_ : Nat} {z_ : Int} {h_ : AHeap} (o_ : L52_5a.O) (h3 : L52_5a.N n K S ch (k_ + 1) z_ = o_) (h4 : PopOk (L52_5a.H n g rv12 rl12 K S ch z_) h_ (L52_5a.X n g rv12 rl12 K S ch o_) (L52_5a.XH n g rv12 rl12 K S ch o_)) : LEndP (fun (z_ : Int) => L52_5a.H n g rv12 rl12 K S ch z_) (fun (k_ : Nat) (z_ : Int) => L52_5a.N n K S ch k_ z_) L52_5a.E (L52_5a.X n g rv12 rl12 K S ch) (L52_5a.XH n g rv12 rl12 K S ch) k_ z_ (L52_5a.E o_) (L52_5a.X n g rv12 rl12 K S ch o_) h_ := LEndP.mk (Hp := (fun (z_ : Int) => L52_5a.H n g rv12 rl12 K S ch z_)) (l := (fun (k_ : Nat) (z_ : Int) => L52_5a.N n K S ch k_ z_)) (oE := L52_5a.E) (oT := L52_5a.X n g rv12 rl12 K S ch) (oH := L52_5a.XH n g rv12 rl12 K S ch) o_ h3 h4

theorem L52_5a.spec (n : Nat) (g : Nat → SD) (rv12 : Nat) (rl12 : List Int) (hn : (↑n : Int) ≤ 64) (K : Nat) (S : Nat → Int) (hK : K ≤ 9223372036854775807) (ch : Int) (k_ : Nat) (z_ : Int) (hi_ : L52_5a.inv n g rv12 rl12 K S ch z_) (hm_ : L52_5a.mu n g rv12 rl12 K S ch z_ < k_) : LoopTo Try.prog (loopN Try.f52 0) (L52_5a.T n g rv12 rl12 K S ch z_) (L52_5a.H n g rv12 rl12 K S ch z_) (L52_5a.E (L52_5a.N n K S ch k_ z_)) (L52_5a.X n g rv12 rl12 K S ch (L52_5a.N n K S ch k_ z_)) (L52_5a.XH n g rv12 rl12 K S ch (L52_5a.N n K S ch k_ z_)) := by
  refine LoopTo.fuelP mix (fun (z_ : Int) => L52_5a.T n g rv12 rl12 K S ch z_) (fun (z_ : Int) => L52_5a.H n g rv12 rl12 K S ch z_) (fun (z_ : Int) => L52_5a.inv n g rv12 rl12 K S ch z_) (fun (z_ : Int) => L52_5a.mu n g rv12 rl12 K S ch z_) (fun (k_ : Nat) (z_ : Int) => L52_5a.N n K S ch k_ z_) L52_5a.E (L52_5a.X n g rv12 rl12 K S ch) (L52_5a.XH n g rv12 rl12 K S ch) (others 44 [1, 2, 3, 4, 5, 11]) (others 44 [9, 10]) (others 44 []) ?_ k_ z_ hi_ hm_
  clear hm_ hi_ z_ k_
  intro k_ z_ hinv hmu
  revert hinv hmu; revert z_; intro i hinv hmu
  have hinv : 0 ≤ i ∧ i ≤ 70 := hinv
  have hmu : ((71 - i).toNat) < k_ + 1 := hmu
  cases h1 : decide (IntKind.i64.wrap (i + 5) ≤ (↑n : Int)) with
  | true =>
    have h1p := of_decide_eq_true h1
    try have := bd_ik (by first | assumption | omega) (by first | assumption | omega) (by first | assumption | omega) (by first | assumption | omega) (by first | assumption | omega)
    have o0 : (0 : Int) ≤ i := by first | assumption | omega | (simp_all; done)
    have o1 : (↑n : Int) ≤ (64 : Int) := by first | assumption | omega | (simp_all; done)
    have o2 : K ≤ (9223372036854775807 : Nat) := by first | assumption | omega | (simp_all; done)
    try have := IntWalk.i64_in (i + 1) (by omega)
    have o3 : (0 : Int) ≤ IntKind.i64.wrap (i + (1 : Int)) := by first | assumption | omega | (simp_all; done)
    have o4 : IntKind.i64.wrap (i + (1 : Int)) ≤ (70 : Int) := by first | assumption | omega | (simp_all; done)
    cases h2 : r52_4.v1 n K S (IntKind.i64.wrap (i + 1)) (IntKind.u64.wrap (↑(BitVec.ofInt 64 ch ||| BitVec.ofInt 64 (IntKind.u64.wrap (1 * 2 ^ min i.toNat 64))).toNat : Int)) with
    | true =>
      exact ⟨[.b true, .ret (AV.tup [AV.int IntKind.u64 (r52_4.v0 n K S (IntKind.i64.wrap (i + 1)) (IntKind.u64.wrap (↑(BitVec.ofInt 64 ch ||| BitVec.ofInt 64 (IntKind.u64.wrap (1 * 2 ^ min i.toNat 64))).toNat : Int))), AV.bool (r52_4.v1 n K S (IntKind.i64.wrap (i + 1)) (IntKind.u64.wrap (↑(BitVec.ofInt 64 ch ||| BitVec.ofInt 64 (IntKind.u64.wrap (1 * 2 ^ min i.toNat 64))).toNat : Int)))]) ([AObj.var (AV.sl 5 n fun (i : Nat) => AV.agg [AV.str (g i).nm, AV.int IntKind.i64 (g i).x, AV.int IntKind.i64 (g i).y, AV.sl 1 (g i).nr fun (i_1 : Nat) => AV.int IntKind.i64 ((g i).r i_1), AV.sl 1 (g i).nl fun (i_1 : Nat) => AV.int IntKind.i64 ((g i).l i_1)]), AObj.var (AV.sl 1 K fun (i : Nat) => AV.int IntKind.u64 (S i)), AObj.var (AV.fn 49 [AV.ptr 1 1 1 0 0]), AObj.var (AV.fn 52 [AV.ptr 2 1 1 0 0, AV.ptr 0 1 1 0 0, AV.ptr 3 1 1 0 0]), AObj.row 1 rv12 (Col.ints IntKind.i64 rl12)]), .b true], kmp (by kernel_rfl) (And.intro h1 (And.intro o0 (And.intro (r52_4 (n) (g) (rv12) (rl12) o1 (K) (S) o2 (IntKind.i64.wrap (i + 1)) (IntKind.u64.wrap (↑(BitVec.ofInt 64 ch ||| BitVec.ofInt 64 (IntKind.u64.wrap (1 * 2 ^ min i.toNat 64))).toNat : Int)) o3 o4) (And.intro h2 (L52_5a.en n g rv12 rl12 K S ch (k_ := k_) (z_ := i) (.e0 (r52_4.v0 n K S (IntKind.i64.wrap (i + 1)) (IntKind.u64.wrap (↑(BitVec.ofInt 64 ch ||| BitVec.ofInt 64 (IntKind.u64.wrap (1 * 2 ^ min i.toNat 64))).toNat : Int))) : L52_5a.O) (by first | (simp only [L52_5a.N, h1, h2, cond_true, cond_false]; done) | (try unfold L52_5a.N; try simp only [h1, cond_true, cond_false]; try simp only [h2, cond_true, cond_false]; try rfl; done)) PopOk.same)))))⟩
    | false =>
      try have := bd_ik (by first | assumption | omega) (by first | assumption | omega) (by first | assumption | omega) (by first | assumption | omega) (by first | assumption | omega)
      try have := IntWalk.i64_in (i + 1) (by omega)
      have o5 : ((71 : Int) - IntKind.i64.wrap (i + (1 : Int))).toNat < ((71 : Int) - i).toNat := by first | assumption | omega | (simp_all; done)
      exact ⟨[.b true, .ret (AV.tup [AV.int IntKind.u64 (r52_4.v0 n K S (IntKind.i64.wrap (i + 1)) (IntKind.u64.wrap (↑(BitVec.ofInt 64 ch ||| BitVec.ofInt 64 (IntKind.u64.wrap (1 * 2 ^ min i.toNat 64))).toNat : Int))), AV.bool (r52_4.v1 n K S (IntKind.i64.wrap (i + 1)) (IntKind.u64.wrap (↑(BitVec.ofInt 64 ch ||| BitVec.ofInt 64 (IntKind.u64.wrap (1 * 2 ^ min i.toNat 64))).toNat : Int)))]) ([AObj.var (AV.sl 5 n fun (i : Nat) => AV.agg [AV.str (g i).nm, AV.int IntKind.i64 (g i).x, AV.int IntKind.i64 (g i).y, AV.sl 1 (g i).nr fun (i_1 : Nat) => AV.int IntKind.i64 ((g i).r i_1), AV.sl 1 (g i).nl fun (i_1 : Nat) => AV.int IntKind.i64 ((g i).l i_1)]), AObj.var (AV.sl 1 K fun (i : Nat) => AV.int IntKind.u64 (S i)), AObj.var (AV.fn 49 [AV.ptr 1 1 1 0 0]), AObj.var (AV.fn 52 [AV.ptr 2 1 1 0 0, AV.ptr 0 1 1 0 0, AV.ptr 3 1 1 0 0]), AObj.row 1 rv12 (Col.ints IntKind.i64 rl12)]), .b false], kmp (by kernel_rfl) (And.intro h1 (And.intro o0 (And.intro (r52_4 (n) (g) (rv12) (rl12) o1 (K) (S) o2 (IntKind.i64.wrap (i + 1)) (IntKind.u64.wrap (↑(BitVec.ofInt 64 ch ||| BitVec.ofInt 64 (IntKind.u64.wrap (1 * 2 ^ min i.toNat 64))).toNat : Int)) o3 o4) (And.intro h2 (L52_5a.nx n g rv12 rl12 K S ch (k_ := k_) (z_ := i) (IntKind.i64.wrap (i + 1)) (And.intro o3 o4) o5 (by first | (simp only [L52_5a.N, h1, h2, cond_true, cond_false]; done) | (try unfold L52_5a.N; try simp only [h1, cond_true, cond_false]; try simp only [h2, cond_true, cond_false]; try rfl; done)) PopOk.same)))))⟩
  | false =>
    have h1p := of_decide_eq_false h1
    exact ⟨[.b false], kmp (by kernel_rfl) (And.intro h1 (L52_5a.en n g rv12 rl12 K S ch (k_ := k_) (z_ := i) (.e1 : L52_5a.O) (by first | (simp only [L52_5a.N, h1, cond_true, cond_false]; done) | (try unfold L52_5a.N; try simp only [h1, cond_true, cond_false]; try rfl; done)) PopOk.same))⟩

theorem L52_5a.e0 (n : Nat) (g : Nat → SD) (rv12 : Nat) (rl12 : List Int) (hn : (↑n : Int) ≤ 64) (K : Nat) (S : Nat → Int) (hK : K ≤ 9223372036854775807) (ch : Int) (i : Int) (hinv : L52_5a.inv n g rv12 rl12 K S ch i) (a0 : Int) (hN : L52_5a.run n K S ch i = (.e0 a0 : L52_5a.O)) : LoopTo Try.prog (loopN Try.f52 0) (L52_5a.T n g rv12 rl12 K S ch i) (L52_5a.H n g rv12 rl12 K S ch i) (Exit.ret) (L52_5a.X n g rv12 rl12 K S ch (.e0 a0 : L52_5a.O)) (L52_5a.XH n g rv12 rl12 K S ch (.e0 a0 : L52_5a.O)) := by
  have h_ := L52_5a.spec n g rv12 rl12 hn K S hK ch (((71 - i).toNat) + 1) i hinv (Nat.lt_succ_self _)
  unfold L52_5a.run at hN
  simp only [hN] at h_
  exact h_

theorem L52_5a.e1 (n : Nat) (g : Nat → SD) (rv12 : Nat) (rl12 : List Int) (hn : (↑n : Int) ≤ 64) (K : Nat) (S : Nat → Int) (hK : K ≤ 9223372036854775807) (ch : Int) (i : Int) (hinv : L52_5a.inv n g rv12 rl12 K S ch i) (hN : L52_5a.run n K S ch i = (.e1 : L52_5a.O)) : LoopTo Try.prog (loopN Try.f52 0) (L52_5a.T n g rv12 rl12 K S ch i) (L52_5a.H n g rv12 rl12 K S ch i) (Exit.exit 0) (L52_5a.X n g rv12 rl12 K S ch (.e1 : L52_5a.O)) (L52_5a.XH n g rv12 rl12 K S ch (.e1 : L52_5a.O)) := by
  have h_ := L52_5a.spec n g rv12 rl12 hn K S hK ch (((71 - i).toNat) + 1) i hinv (Nat.lt_succ_self _)
  unfold L52_5a.run at hN
  simp only [hN] at h_
  exact h_

noncomputable def r52_5.v0 (n : Nat) (K : Nat) (S : Nat → Int) (from_ : Int) (ch : Int) : Int := (match L52_5a.run n K S ch from_ with | .e0 h1d0 => h1d0 | .e1 => 0 )

noncomputable def r52_5.v1 (n : Nat) (K : Nat) (S : Nat → Int) (from_ : Int) (ch : Int) : Bool := (match L52_5a.run n K S ch from_ with | .e0 h1d0 => true | .e1 => false )

noncomputable abbrev r52_5.h0 (n : Nat) (g : Nat → SD) (rv12 : Nat) (rl12 : List Int) (K : Nat) (S : Nat → Int) (from_ : Int) (ch : Int) : AHeap := ([AObj.var (sts n g), AObj.var (uvs K S), AObj.var (AV.fn 49 [AV.ptr 1 1 1 0 0]), AObj.var (AV.fn 52 [AV.ptr 2 1 1 0 0, AV.ptr 0 1 1 0 0, AV.ptr 3 1 1 0 0]), AObj.row 1 rv12 (Col.ints IntKind.i64 rl12)])

theorem r52_5 (n : Nat) (g : Nat → SD) (rv12 : Nat) (rl12 : List Int) (hn : (↑n : Int) ≤ 64) (K : Nat) (S : Nat → Int) (hK : K ≤ 9223372036854775807) (from_ : Int) (ch : Int) (h0 : 0 ≤ from_) (h1 : from_ ≤ 70) : Ret Try.prog 52 ([AV.int IntKind.i64 from_, AV.int IntKind.i64 5, AV.int IntKind.u64 ch, AV.ptr 2 1 1 0 0, AV.ptr 0 1 1 0 0, AV.ptr 3 1 1 0 0]) (r52_5.h0 n g rv12 rl12 K S from_ ch) (AV.tup [(AV.int IntKind.u64 (r52_5.v0 n K S from_ ch)), (AV.bool (r52_5.v1 n K S from_ ch))]) (r52_5.h0 n g rv12 rl12 K S from_ ch) := by
  have o0 : (↑n : Int) ≤ (64 : Int) := by first | assumption | omega | (simp_all; done)
  have o1 : K ≤ (9223372036854775807 : Nat) := by first | assumption | omega | (simp_all; done)
  have o2 : (0 : Int) ≤ from_ := by first | assumption | omega | (simp_all; done)
  have o3 : from_ ≤ (70 : Int) := by first | assumption | omega | (simp_all; done)
  cases h1 : L52_5a.run n K S ch from_ with
  | e0 h1d0 =>
    exact Ret.of_runH mix [(AV.int IntKind.u64 (r52_5.v0 n K S from_ ch)), (AV.bool (r52_5.v1 n K S from_ ch))] (r52_5.h0 n g rv12 rl12 K S from_ ch) Try.func52 rfl [.b false, .loop (others 44 [1, 2, 3, 4, 5, 11]) (Exit.ret) (L52_5a.X n g rv12 rl12 K S ch (L52_5a.O.e0 h1d0)) (L52_5a.XH n g rv12 rl12 K S ch (L52_5a.O.e0 h1d0))] (by simp) (kmp (by kernel_rfl) (And.intro (rfl : false = false) (And.intro (L52_5a.e0 (n) (g) (rv12) (rl12) o0 (K) (S) o1 (ch) (from_) (And.intro o2 o3) h1d0 h1) (And.intro (And.intro (show (AV.int IntKind.u64 h1d0) = ((AV.int IntKind.u64 (r52_5.v0 n K S from_ ch))) by first | (simp only [r52_5.v0, r52_5.v1, h1, cond_true, cond_false]; done) | (try unfold r52_5.v0; try unfold r52_5.v1; try simp only [h1, cond_true, cond_false]; try rfl; done) | rfl) (And.intro (show (AV.bool true) = ((AV.bool (r52_5.v1 n K S from_ ch))) by first | (simp only [r52_5.v0, r52_5.v1, h1, cond_true, cond_false]; done) | (try unfold r52_5.v0; try unfold r52_5.v1; try simp only [h1, cond_true, cond_false]; try rfl; done) | rfl) trivial)) (rfl : ([AObj.var (sts n g), AObj.var (uvs K S), AObj.var (AV.fn 49 [AV.ptr 1 1 1 0 0]), AObj.var (AV.fn 52 [AV.ptr 2 1 1 0 0, AV.ptr 0 1 1 0 0, AV.ptr 3 1 1 0 0]), AObj.row 1 rv12 (Col.ints IntKind.i64 rl12)] : AHeap) = [AObj.var (sts n g), AObj.var (uvs K S), AObj.var (AV.fn 49 [AV.ptr 1 1 1 0 0]), AObj.var (AV.fn 52 [AV.ptr 2 1 1 0 0, AV.ptr 0 1 1 0 0, AV.ptr 3 1 1 0 0]), AObj.row 1 rv12 (Col.ints IntKind.i64 rl12)])))))
  | e1 =>
    exact Ret.of_runH mix [(AV.int IntKind.u64 (r52_5.v0 n K S from_ ch)), (AV.bool (r52_5.v1 n K S from_ ch))] (r52_5.h0 n g rv12 rl12 K S from_ ch) Try.func52 rfl [.b false, .loop (others 44 [1, 2, 3, 4, 5, 11]) (Exit.exit 0) (L52_5a.X n g rv12 rl12 K S ch L52_5a.O.e1) (L52_5a.XH n g rv12 rl12 K S ch L52_5a.O.e1)] (by simp) (kmp (by kernel_rfl) (And.intro (rfl : false = false) (And.intro (L52_5a.e1 (n) (g) (rv12) (rl12) o0 (K) (S) o1 (ch) (from_) (And.intro o2 o3) h1) (And.intro (And.intro (show (AV.int IntKind.u64 0) = ((AV.int IntKind.u64 (r52_5.v0 n K S from_ ch))) by first | (simp only [r52_5.v0, r52_5.v1, h1, cond_true, cond_false]; done) | (try unfold r52_5.v0; try unfold r52_5.v1; try simp only [h1, cond_true, cond_false]; try rfl; done) | rfl) (And.intro (show (AV.bool false) = ((AV.bool (r52_5.v1 n K S from_ ch))) by first | (simp only [r52_5.v0, r52_5.v1, h1, cond_true, cond_false]; done) | (try unfold r52_5.v0; try unfold r52_5.v1; try simp only [h1, cond_true, cond_false]; try rfl; done) | rfl) trivial)) (rfl : ([AObj.var (sts n g), AObj.var (uvs K S), AObj.var (AV.fn 49 [AV.ptr 1 1 1 0 0]), AObj.var (AV.fn 52 [AV.ptr 2 1 1 0 0, AV.ptr 0 1 1 0 0, AV.ptr 3 1 1 0 0]), AObj.row 1 rv12 (Col.ints IntKind.i64 rl12)] : AHeap) = [AObj.var (sts n g), AObj.var (uvs K S), AObj.var (AV.fn 49 [AV.ptr 1 1 1 0 0]), AObj.var (AV.fn 52 [AV.ptr 2 1 1 0 0, AV.ptr 0 1 1 0 0, AV.ptr 3 1 1 0 0]), AObj.row 1 rv12 (Col.ints IntKind.i64 rl12)])))))

inductive L52_6a.O where
  | e0 (a0 : Int)
  | e1

noncomputable def L52_6a.T (n : Nat) (g : Nat → SD) (rv12 : Nat) (rl12 : List Int) (K : Nat) (S : Nat → Int) (ch : Int) (i : Int) : List AV := mkT 44 [(1, AV.int IntKind.i64 6), (2, AV.int IntKind.u64 ch), (3, AV.ptr 2 1 1 0 0), (4, AV.ptr 0 1 1 0 0), (5, AV.ptr 3 1 1 0 0), (11, AV.int IntKind.i64 i)]

noncomputable def L52_6a.H (n : Nat) (g : Nat → SD) (rv12 : Nat) (rl12 : List Int) (K : Nat) (S : Nat → Int) (ch : Int) (i : Int) : AHeap := [AObj.var (sts n g), AObj.var (uvs K S), AObj.var (AV.fn 49 [AV.ptr 1 1 1 0 0]), AObj.var (AV.fn 52 [AV.ptr 2 1 1 0 0, AV.ptr 0 1 1 0 0, AV.ptr 3 1 1 0 0]), AObj.row 1 rv12 (Col.ints IntKind.i64 rl12)]

def L52_6a.inv (n : Nat) (g : Nat → SD) (rv12 : Nat) (rl12 : List Int) (K : Nat) (S : Nat → Int) (ch : Int) (i : Int) : Prop := 0 ≤ i ∧ i ≤ 70

noncomputable def L52_6a.mu (n : Nat) (g : Nat → SD) (rv12 : Nat) (rl12 : List Int) (K : Nat) (S : Nat → Int) (ch : Int) (i : Int) : Nat := (71 - i).toNat

noncomputable def L52_6a.E : L52_6a.O → Exit
  | .e0 a0 => Exit.ret
  | .e1 => Exit.exit 0

noncomputable def L52_6a.X (n : Nat) (g : Nat → SD) (rv12 : Nat) (rl12 : List Int) (K : Nat) (S : Nat → Int) (ch : Int) : L52_6a.O → List AV
  | .e0 a0 => mkT 44 [(9, (AV.int IntKind.u64 a0)), (10, (AV.bool true))]
  | .e1 => mkT 44 []

noncomputable def L52_6a.XH (n : Nat) (g : Nat → SD) (rv12 : Nat) (rl12 : List Int) (K : Nat) (S : Nat → Int) (ch : Int) : L52_6a.O → AHeap
  | .e0 a0 => ([AObj.var (AV.sl 5 n fun (i : Nat) => AV.agg [AV.str (g i).nm, AV.int IntKind.i64 (g i).x, AV.int IntKind.i64 (g i).y, AV.sl 1 (g i).nr fun (i_1 : Nat) => AV.int IntKind.i64 ((g i).r i_1), AV.sl 1 (g i).nl fun (i_1 : Nat) => AV.int IntKind.i64 ((g i).l i_1)]), AObj.var (AV.sl 1 K fun (i : Nat) => AV.int IntKind.u64 (S i)), AObj.var (AV.fn 49 [AV.ptr 1 1 1 0 0]), AObj.var (AV.fn 52 [AV.ptr 2 1 1 0 0, AV.ptr 0 1 1 0 0, AV.ptr 3 1 1 0 0]), AObj.row 1 rv12 (Col.ints IntKind.i64 rl12)])
  | .e1 => ([AObj.var (AV.sl 5 n fun (i : Nat) => AV.agg [AV.str (g i).nm, AV.int IntKind.i64 (g i).x, AV.int IntKind.i64 (g i).y, AV.sl 1 (g i).nr fun (i_1 : Nat) => AV.int IntKind.i64 ((g i).r i_1), AV.sl 1 (g i).nl fun (i_1 : Nat) => AV.int IntKind.i64 ((g i).l i_1)]), AObj.var (AV.sl 1 K fun (i : Nat) => AV.int IntKind.u64 (S i)), AObj.var (AV.fn 49 [AV.ptr 1 1 1 0 0]), AObj.var (AV.fn 52 [AV.ptr 2 1 1 0 0, AV.ptr 0 1 1 0 0, AV.ptr 3 1 1 0 0]), AObj.row 1 rv12 (Col.ints IntKind.i64 rl12)])

noncomputable def L52_6a.N (n : Nat) (K : Nat) (S : Nat → Int) (ch : Int) : Nat → Int → L52_6a.O
  | 0, _ => .e0 default
  | k_ + 1, i => (bif decide (IntKind.i64.wrap (i + 6) ≤ (↑n : Int)) then (bif r52_5.v1 n K S (IntKind.i64.wrap (i + 1)) (IntKind.u64.wrap (↑(BitVec.ofInt 64 ch ||| BitVec.ofInt 64 (IntKind.u64.wrap (1 * 2 ^ min i.toNat 64))).toNat : Int)) then (.e0 (r52_5.v0 n K S (IntKind.i64.wrap (i + 1)) (IntKind.u64.wrap (↑(BitVec.ofInt 64 ch ||| BitVec.ofInt 64 (IntKind.u64.wrap (1 * 2 ^ min i.toNat 64))).toNat : Int)))) else (L52_6a.N n K S ch k_ (IntKind.i64.wrap (i + 1)))) else (.e1))

noncomputable def L52_6a.run (n : Nat) (K : Nat) (S : Nat → Int) (ch : Int) (i : Int) : L52_6a.O := L52_6a.N n K S ch (((71 - i).toNat) + 1) i

theorem L52_6a.nx (n : Nat) (g : Nat → SD) (rv12 : Nat) (rl12 : List Int) (K : Nat) (S : Nat → Int) (ch : Int) {k_ : Nat} {z_ : Int} {h_ : AHeap} (s_ : Int) (h1 : L52_6a.inv n g rv12 rl12 K S ch s_) (h2 : L52_6a.mu n g rv12 rl12 K S ch s_ < L52_6a.mu n g rv12 rl12 K S ch z_) (h3 : L52_6a.N n K S ch k_ s_ = L52_6a.N n K S ch (k_ + 1) z_) (h4 : PopOk (L52_6a.H n g rv12 rl12 K S ch z_) h_ (L52_6a.T n g rv12 rl12 K S ch s_) (L52_6a.H n g rv12 rl12 K S ch s_)) : LNextP (fun (z_ : Int) => L52_6a.T n g rv12 rl12 K S ch z_) (fun (z_ : Int) => L52_6a.H n g rv12 rl12 K S ch z_) (fun (z_ : Int) => L52_6a.inv n g rv12 rl12 K S ch z_) (fun (z_ : Int) => L52_6a.mu n g rv12 rl12 K S ch z_) (fun (k_ : Nat) (z_ : Int) => L52_6a.N n K S ch k_ z_) k_ z_ (L52_6a.T n g rv12 rl12 K S ch s_) h_ := LNextP.mk (Tm := (fun (z_ : Int) => L52_6a.T n g rv12 rl12 K S ch z_)) (Hp := (fun (z_ : Int) => L52_6a.H n g rv12 rl12 K S ch z_)) (inv := (fun (z_ : Int) => L52_6a.inv n g rv12 rl12 K S ch z_)) (mu := (fun (z_ : Int) => L52_6a.mu n g rv12 rl12 K S ch z_)) (l := (fun (k_ : Nat) (z_ : Int) => L52_6a.N n K S ch k_ z_)) s_ h1 h2 h3 h4

theorem L52_6a.en (n : Nat) (g : Nat → SD) (rv12 : Nat) (rl12 : List Int) (K : Nat) (S : Nat → Int) (ch : Int) {k_ : Nat} {z_ : Int} {h_ : AHeap} (o_ : L52_6a.O) (h3 : L52_6a.N n K S ch (k_ + 1) z_ = o_) (h4 : PopOk (L52_6a.H n g rv12 rl12 K S ch z_) h_ (L52_6a.X n g rv12 rl12 K S ch o_) (L52_6a.XH n g rv12 rl12 K S ch o_)) : LEndP (fun (z_ : Int) => L52_6a.H n g rv12 rl12 K S ch z_) (fun (k_ : Nat) (z_ : Int) => L52_6a.N n K S ch k_ z_) L52_6a.E (L52_6a.X n g rv12 rl12 K S ch) (L52_6a.XH n g rv12 rl12 K S ch) k_ z_ (L52_6a.E o_) (L52_6a.X n g rv12 rl12 K S ch o_) h_ := LEndP.mk (Hp := (fun (z_ : Int) => L52_6a.H n g rv12 rl12 K S ch z_)) (l := (fun (k_ : Nat) (z_ : Int) => L52_6a.N n K S ch k_ z_)) (oE := L52_6a.E) (oT := L52_6a.X n g rv12 rl12 K S ch) (oH := L52_6a.XH n g rv12 rl12 K S ch) o_ h3 h4

theorem L52_6a.spec (n : Nat) (g : Nat → SD) (rv12 : Nat) (rl12 : List Int) (hn : (↑n : Int) ≤ 64) (K : Nat) (S : Nat → Int) (hK : K ≤ 9223372036854775807) (ch : Int) (k_ : Nat) (z_ : Int) (hi_ : L52_6a.inv n g rv12 rl12 K S ch z_) (hm_ : L52_6a.mu n g rv12 rl12 K S ch z_ < k_) : LoopTo Try.prog (loopN Try.f52 0) (L52_6a.T n g rv12 rl12 K S ch z_) (L52_6a.H n g rv12 rl12 K S ch z_) (L52_6a.E (L52_6a.N n K S ch k_ z_)) (L52_6a.X n g rv12 rl12 K S ch (L52_6a.N n K S ch k_ z_)) (L52_6a.XH n g rv12 rl12 K S ch (L52_6a.N n K S ch k_ z_)) := by
  refine LoopTo.fuelP mix (fun (z_ : Int) => L52_6a.T n g rv12 rl12 K S ch z_) (fun (z_ : Int) => L52_6a.H n g rv12 rl12 K S ch z_) (fun (z_ : Int) => L52_6a.inv n g rv12 rl12 K S ch z_) (fun (z_ : Int) => L52_6a.mu n g rv12 rl12 K S ch z_) (fun (k_ : Nat) (z_ : Int) => L52_6a.N n K S ch k_ z_) L52_6a.E (L52_6a.X n g rv12 rl12 K S ch) (L52_6a.XH n g rv12 rl12 K S ch) (others 44 [1, 2, 3, 4, 5, 11]) (others 44 [9, 10]) (others 44 []) ?_ k_ z_ hi_ hm_
  clear hm_ hi_ z_ k_
  intro k_ z_ hinv hmu
  revert hinv hmu; revert z_; intro i hinv hmu
  have hinv : 0 ≤ i ∧ i ≤ 70 := hinv
  have hmu : ((71 - i).toNat) < k_ + 1 := hmu
  cases h1 : decide (IntKind.i64.wrap (i + 6) ≤ (↑n : Int)) with
  | true =>
    have h1p := of_decide_eq_true h1
    try have := bd_ik (by first | assumption | omega) (by first | assumption | omega) (by first | assumption | omega) (by first | assumption | omega) (by first | assumption | omega)
    have o0 : (0 : Int) ≤ i := by first | assumption | omega | (simp_all; done)
    have o1 : (↑n : Int) ≤ (64 : Int) := by first | assumption | omega | (simp_all; done)
    have o2 : K ≤ (9223372036854775807 : Nat) := by first | assumption | omega | (simp_all; done)
    try have := IntWalk.i64_in (i + 1) (by omega)
    have o3 : (0 : Int) ≤ IntKind.i64.wrap (i + (1 : Int)) := by first | assumption | omega | (simp_all; done)
    have o4 : IntKind.i64.wrap (i + (1 : Int)) ≤ (70 : Int) := by first | assumption | omega | (simp_all; done)
    cases h2 : r52_5.v1 n K S (IntKind.i64.wrap (i + 1)) (IntKind.u64.wrap (↑(BitVec.ofInt 64 ch ||| BitVec.ofInt 64 (IntKind.u64.wrap (1 * 2 ^ min i.toNat 64))).toNat : Int)) with
    | true =>
      exact ⟨[.b true, .ret (AV.tup [AV.int IntKind.u64 (r52_5.v0 n K S (IntKind.i64.wrap (i + 1)) (IntKind.u64.wrap (↑(BitVec.ofInt 64 ch ||| BitVec.ofInt 64 (IntKind.u64.wrap (1 * 2 ^ min i.toNat 64))).toNat : Int))), AV.bool (r52_5.v1 n K S (IntKind.i64.wrap (i + 1)) (IntKind.u64.wrap (↑(BitVec.ofInt 64 ch ||| BitVec.ofInt 64 (IntKind.u64.wrap (1 * 2 ^ min i.toNat 64))).toNat : Int)))]) ([AObj.var (AV.sl 5 n fun (i : Nat) => AV.agg [AV.str (g i).nm, AV.int IntKind.i64 (g i).x, AV.int IntKind.i64 (g i).y, AV.sl 1 (g i).nr fun (i_1 : Nat) => AV.int IntKind.i64 ((g i).r i_1), AV.sl 1 (g i).nl fun (i_1 : Nat) => AV.int IntKind.i64 ((g i).l i_1)]), AObj.var (AV.sl 1 K fun (i : Nat) => AV.int IntKind.u64 (S i)), AObj.var (AV.fn 49 [AV.ptr 1 1 1 0 0]), AObj.var (AV.fn 52 [AV.ptr 2 1 1 0 0, AV.ptr 0 1 1 0 0, AV.ptr 3 1 1 0 0]), AObj.row 1 rv12 (Col.ints IntKind.i64 rl12)]), .b true], kmp (by kernel_rfl) (And.intro h1 (And.intro o0 (And.intro (r52_5 (n) (g) (rv12) (rl12) o1 (K) (S) o2 (IntKind.i64.wrap (i + 1)) (IntKind.u64.wrap (↑(BitVec.ofInt 64 ch ||| BitVec.ofInt 64 (IntKind.u64.wrap (1 * 2 ^ min i.toNat 64))).toNat : Int)) o3 o4) (And.intro h2 (L52_6a.en n g rv12 rl12 K S ch (k_ := k_) (z_ := i) (.e0 (r52_5.v0 n K S (IntKind.i64.wrap (i + 1)) (IntKind.u64.wrap (↑(BitVec.ofInt 64 ch ||| BitVec.ofInt 64 (IntKind.u64.wrap (1 * 2 ^ min i.toNat 64))).toNat : Int))) : L52_6a.O) (by first | (simp only [L52_6a.N, h1, h2, cond_true, cond_false]; done) | (try unfold L52_6a.N; try simp only [h1, cond_true, cond_false]; try simp only [h2, cond_true, cond_false]; try rfl; done)) PopOk.same)))))⟩
    | false =>
      try have := bd_ik (by first | assumption | omega) (by first | assumption | omega) (by first | assumption | omega) (by first | assumption | omega) (by first | assumption | omega)
      try have := IntWalk.i64_in (i + 1) (by omega)
      have o5 : ((71 : Int) - IntKind.i64.wrap (i + (1 : Int))).toNat < ((71 : Int) - i).toNat := by first | assumption | omega | (simp_all; done)
      exact ⟨[.b true, .ret (AV.tup [AV.int IntKind.u64 (r52_5.v0 n K S (IntKind.i64.wrap (i + 1)) (IntKind.u64.wrap (↑(BitVec.ofInt 64 ch ||| BitVec.ofInt 64 (IntKind.u64.wrap (1 * 2 ^ min i.toNat 64))).toNat : Int))), AV.bool (r52_5.v1 n K S (IntKind.i64.wrap (i + 1)) (IntKind.u64.wrap (↑(BitVec.ofInt 64 ch ||| BitVec.ofInt 64 (IntKind.u64.wrap (1 * 2 ^ min i.toNat 64))).toNat : Int)))]) ([AObj.var (AV.sl 5 n fun (i : Nat) => AV.agg [AV.str (g i).nm, AV.int IntKind.i64 (g i).x, AV.int IntKind.i64 (g i).y, AV.sl 1 (g i).nr fun (i_1 : Nat) => AV.int IntKind.i64 ((g i).r i_1), AV.sl 1 (g i).nl fun (i_1 : Nat) => AV.int IntKind.i64 ((g i).l i_1)]), AObj.var (AV.sl 1 K fun (i : Nat) => AV.int IntKind.u64 (S i)), AObj.var (AV.fn 49 [AV.ptr 1 1 1 0 0]), AObj.var (AV.fn 52 [AV.ptr 2 1 1 0 0, AV.ptr 0 1 1 0 0, AV.ptr 3 1 1 0 0]), AObj.row 1 rv12 (Col.ints IntKind.i64 rl12)]), .b false], kmp (by kernel_rfl) (And.intro h1 (And.intro o0 (And.intro (r52_5 (n) (g) (rv12) (rl12) o1 (K) (S) o2 (IntKind.i64.wrap (i + 1)) (IntKind.u64.wrap (↑(BitVec.ofInt 64 ch ||| BitVec.ofInt 64 (IntKind.u64.wrap (1 * 2 ^ min i.toNat 64))).toNat : Int)) o3 o4) (And.intro h2 (L52_6a.nx n g rv12 rl12 K S ch (k_ := k_) (z_ := i) (IntKind.i64.wrap (i + 1)) (And.intro o3 o4) o5 (by first | (simp only [L52_6a.N, h1, h2, cond_true, cond_false]; done) | (try unfold L52_6a.N; try simp only [h1, cond_true, cond_false]; try simp only [h2, cond_true, cond_false]; try rfl; done)) PopOk.same)))))⟩
  | false =>
    have h1p := of_decide_eq_false h1
    exact ⟨[.b false], kmp (by kernel_rfl) (And.intro h1 (L52_6a.en n g rv12 rl12 K S ch (k_ := k_) (z_ := i) (.e1 : L52_6a.O) (by first | (simp only [L52_6a.N, h1, cond_true, cond_false]; done) | (try unfold L52_6a.N; try simp only [h1, cond_true, cond_false]; try rfl; done)) PopOk.same))⟩

theorem L52_6a.e0 (n : Nat) (g : Nat → SD) (rv12 : Nat) (rl12 : List Int) (hn : (↑n : Int) ≤ 64) (K : Nat) (S : Nat → Int) (hK : K ≤ 9223372036854775807) (ch : Int) (i : Int) (hinv : L52_6a.inv n g rv12 rl12 K S ch i) (a0 : Int) (hN : L52_6a.run n K S ch i = (.e0 a0 : L52_6a.O)) : LoopTo Try.prog (loopN Try.f52 0) (L52_6a.T n g rv12 rl12 K S ch i) (L52_6a.H n g rv12 rl12 K S ch i) (Exit.ret) (L52_6a.X n g rv12 rl12 K S ch (.e0 a0 : L52_6a.O)) (L52_6a.XH n g rv12 rl12 K S ch (.e0 a0 : L52_6a.O)) := by
  have h_ := L52_6a.spec n g rv12 rl12 hn K S hK ch (((71 - i).toNat) + 1) i hinv (Nat.lt_succ_self _)
  unfold L52_6a.run at hN
  simp only [hN] at h_
  exact h_

theorem L52_6a.e1 (n : Nat) (g : Nat → SD) (rv12 : Nat) (rl12 : List Int) (hn : (↑n : Int) ≤ 64) (K : Nat) (S : Nat → Int) (hK : K ≤ 9223372036854775807) (ch : Int) (i : Int) (hinv : L52_6a.inv n g rv12 rl12 K S ch i) (hN : L52_6a.run n K S ch i = (.e1 : L52_6a.O)) : LoopTo Try.prog (loopN Try.f52 0) (L52_6a.T n g rv12 rl12 K S ch i) (L52_6a.H n g rv12 rl12 K S ch i) (Exit.exit 0) (L52_6a.X n g rv12 rl12 K S ch (.e1 : L52_6a.O)) (L52_6a.XH n g rv12 rl12 K S ch (.e1 : L52_6a.O)) := by
  have h_ := L52_6a.spec n g rv12 rl12 hn K S hK ch (((71 - i).toNat) + 1) i hinv (Nat.lt_succ_self _)
  unfold L52_6a.run at hN
  simp only [hN] at h_
  exact h_

noncomputable def r52_6.v0 (n : Nat) (K : Nat) (S : Nat → Int) (from_ : Int) (ch : Int) : Int := (match L52_6a.run n K S ch from_ with | .e0 h1d0 => h1d0 | .e1 => 0 )

noncomputable def r52_6.v1 (n : Nat) (K : Nat) (S : Nat → Int) (from_ : Int) (ch : Int) : Bool := (match L52_6a.run n K S ch from_ with | .e0 h1d0 => true | .e1 => false )

noncomputable abbrev r52_6.h0 (n : Nat) (g : Nat → SD) (rv12 : Nat) (rl12 : List Int) (K : Nat) (S : Nat → Int) (from_ : Int) (ch : Int) : AHeap := ([AObj.var (sts n g), AObj.var (uvs K S), AObj.var (AV.fn 49 [AV.ptr 1 1 1 0 0]), AObj.var (AV.fn 52 [AV.ptr 2 1 1 0 0, AV.ptr 0 1 1 0 0, AV.ptr 3 1 1 0 0]), AObj.row 1 rv12 (Col.ints IntKind.i64 rl12)])

theorem r52_6 (n : Nat) (g : Nat → SD) (rv12 : Nat) (rl12 : List Int) (hn : (↑n : Int) ≤ 64) (K : Nat) (S : Nat → Int) (hK : K ≤ 9223372036854775807) (from_ : Int) (ch : Int) (h0 : 0 ≤ from_) (h1 : from_ ≤ 70) : Ret Try.prog 52 ([AV.int IntKind.i64 from_, AV.int IntKind.i64 6, AV.int IntKind.u64 ch, AV.ptr 2 1 1 0 0, AV.ptr 0 1 1 0 0, AV.ptr 3 1 1 0 0]) (r52_6.h0 n g rv12 rl12 K S from_ ch) (AV.tup [(AV.int IntKind.u64 (r52_6.v0 n K S from_ ch)), (AV.bool (r52_6.v1 n K S from_ ch))]) (r52_6.h0 n g rv12 rl12 K S from_ ch) := by
  have o0 : (↑n : Int) ≤ (64 : Int) := by first | assumption | omega | (simp_all; done)
  have o1 : K ≤ (9223372036854775807 : Nat) := by first | assumption | omega | (simp_all; done)
  have o2 : (0 : Int) ≤ from_ := by first | assumption | omega | (simp_all; done)
  have o3 : from_ ≤ (70 : Int) := by first | assumption | omega | (simp_all; done)
  cases h1 : L52_6a.run n K S ch from_ with
  | e0 h1d0 =>
    exact Ret.of_runH mix [(AV.int IntKind.u64 (r52_6.v0 n K S from_ ch)), (AV.bool (r52_6.v1 n K S from_ ch))] (r52_6.h0 n g rv12 rl12 K S from_ ch) Try.func52 rfl [.b false, .loop (others 44 [1, 2, 3, 4, 5, 11]) (Exit.ret) (L52_6a.X n g rv12 rl12 K S ch (L52_6a.O.e0 h1d0)) (L52_6a.XH n g rv12 rl12 K S ch (L52_6a.O.e0 h1d0))] (by simp) (kmp (by kernel_rfl) (And.intro (rfl : false = false) (And.intro (L52_6a.e0 (n) (g) (rv12) (rl12) o0 (K) (S) o1 (ch) (from_) (And.intro o2 o3) h1d0 h1) (And.intro (And.intro (show (AV.int IntKind.u64 h1d0) = ((AV.int IntKind.u64 (r52_6.v0 n K S from_ ch))) by first | (simp only [r52_6.v0, r52_6.v1, h1, cond_true, cond_false]; done) | (try unfold r52_6.v0; try unfold r52_6.v1; try simp only [h1, cond_true, cond_false]; try rfl; done) | rfl) (And.intro (show (AV.bool true) = ((AV.bool (r52_6.v1 n K S from_ ch))) by first | (simp only [r52_6.v0, r52_6.v1, h1, cond_true, cond_false]; done) | (try unfold r52_6.v0; try unfold r52_6.v1; try simp only [h1, cond_true, cond_false]; try rfl; done) | rfl) trivial)) (rfl : ([AObj.var (sts n g), AObj.var (uvs K S), AObj.var (AV.fn 49 [AV.ptr 1 1 1 0 0]), AObj.var (AV.fn 52 [AV.ptr 2 1 1 0 0, AV.ptr 0 1 1 0 0, AV.ptr 3 1 1 0 0]), AObj.row 1 rv12 (Col.ints IntKind.i64 rl12)] : AHeap) = [AObj.var (sts n g), AObj.var (uvs K S), AObj.var (AV.fn 49 [AV.ptr 1 1 1 0 0]), AObj.var (AV.fn 52 [AV.ptr 2 1 1 0 0, AV.ptr 0 1 1 0 0, AV.ptr 3 1 1 0 0]), AObj.row 1 rv12 (Col.ints IntKind.i64 rl12)])))))
  | e1 =>
    exact Ret.of_runH mix [(AV.int IntKind.u64 (r52_6.v0 n K S from_ ch)), (AV.bool (r52_6.v1 n K S from_ ch))] (r52_6.h0 n g rv12 rl12 K S from_ ch) Try.func52 rfl [.b false, .loop (others 44 [1, 2, 3, 4, 5, 11]) (Exit.exit 0) (L52_6a.X n g rv12 rl12 K S ch L52_6a.O.e1) (L52_6a.XH n g rv12 rl12 K S ch L52_6a.O.e1)] (by simp) (kmp (by kernel_rfl) (And.intro (rfl : false = false) (And.intro (L52_6a.e1 (n) (g) (rv12) (rl12) o0 (K) (S) o1 (ch) (from_) (And.intro o2 o3) h1) (And.intro (And.intro (show (AV.int IntKind.u64 0) = ((AV.int IntKind.u64 (r52_6.v0 n K S from_ ch))) by first | (simp only [r52_6.v0, r52_6.v1, h1, cond_true, cond_false]; done) | (try unfold r52_6.v0; try unfold r52_6.v1; try simp only [h1, cond_true, cond_false]; try rfl; done) | rfl) (And.intro (show (AV.bool false) = ((AV.bool (r52_6.v1 n K S from_ ch))) by first | (simp only [r52_6.v0, r52_6.v1, h1, cond_true, cond_false]; done) | (try unfold r52_6.v0; try unfold r52_6.v1; try simp only [h1, cond_true, cond_false]; try rfl; done) | rfl) trivial)) (rfl : ([AObj.var (sts n g), AObj.var (uvs K S), AObj.var (AV.fn 49 [AV.ptr 1 1 1 0 0]), AObj.var (AV.fn 52 [AV.ptr 2 1 1 0 0, AV.ptr 0 1 1 0 0, AV.ptr 3 1 1 0 0]), AObj.row 1 rv12 (Col.ints IntKind.i64 rl12)] : AHeap) = [AObj.var (sts n g), AObj.var (uvs K S), AObj.var (AV.fn 49 [AV.ptr 1 1 1 0 0]), AObj.var (AV.fn 52 [AV.ptr 2 1 1 0 0, AV.ptr 0 1 1 0 0, AV.ptr 3 1 1 0 0]), AObj.row 1 rv12 (Col.ints IntKind.i64 rl12)])))))

end Go.Proofs.Ytgmppoappaolkaa

open Go

namespace Go.Proofs.Ytgmppoappaolkaa

set_option linter.unusedVariables false

set_option linter.unusedSimpArgs false

variable {n nb : Nat} {g : Nat → SD} {gb : Nat → BD} {m : Int}

noncomputable def bx0 (x : BD) : Int := r36.v x.a x.b x.c x.d x.e x.f

theorem L47_run (hnb : nb ≤ 9223372036854775807) : L47.run nb gb 0 = srch (fun i => !(bx0 (gb i) == 0)) (fun i => L47.O.e0 (bx0 (gb i))) .e1 0 nb := by
  have := search_eq (n := nb) (fun i => !(bx0 (gb i) == 0)) (fun i => L47.O.e0 (bx0 (gb i))) .e1 (N := L47.N nb gb) (fun k' i h => by
    simp only [L47.N, wrap_succ hnb h, Int.toNat_natCast]
    rw [decide_eq_true (show (i : Int) < nb by omega)]
    show (bif true then (bif bx0 (gb i) == 0 then _ else L47.O.e0 (bx0 (gb i))) else _) = _
    cases bx0 (gb i) == 0 <;> rfl) (fun k => by simp [L47.N]) (nb + 1) 0 (Nat.zero_le _) (by omega)
  simpa [L47.run] using this

theorem ready_ok (h : (r47.v n g nb gb m == 0) = true) (hn : n ≤ 9223372036854775807) : r20.v n g = 0 ∧ nb ≤ 256 ∧ (∀ i, i < nb → (r36.v (gb i).a (gb i).b (gb i).c (gb i).d (gb i).e (gb i).f == 0) = true) ∧ r37.v m = true ∧ ∀ i, i < n → (g i).nl = (g i).nr := by
  have h := eq_of_beq h
  unfold r47.v at h
  cases h1 : (r20.v n g == 0) with
  | false =>
    rw [h1] at h
    simp only [cond_false] at h
    rw [h] at h1; cases h1
  | true =>
    rw [h1] at h
    simp only [cond_true] at h
    by_cases h2 : (nb : Int) > 256
    · rw [decide_eq_true h2] at h; cases h
    · rw [decide_eq_false h2, L47_run (by omega)] at h
      simp only [cond_false] at h
      rcases srch_cases (fun i => !(bx0 (gb i) == 0)) (fun i => L47.O.e0 (bx0 (gb i))) .e1 nb 0 with ⟨a1, a2⟩ | ⟨i, a1, a2, a3, a4, a5⟩
      · rw [a2] at h
        cases hd : r37.v m with
        | false => rw [hd] at h; cases h
        | true => exact ⟨eq_of_beq h1, by omega, fun i hi => by simpa [bx0] using a1 i (Nat.zero_le _) (by omega), rfl, ok20 hn h1⟩
      · rw [a5] at h
        have h : bx0 (gb i) = 0 := h
        rw [h] at a3; cases a3

theorem rd_g (h : (r47.v n g nb gb m == 0) = true) (hn : n ≤ 9223372036854775807) : ∀ i, i < n → (g i).nl = (g i).nr := (ready_ok h hn).2.2.2.2

theorem rd_b (h : (r47.v n g nb gb m == 0) = true) (hn : n ≤ 9223372036854775807) : ∀ i, i < nb → (r36.v (gb i).a (gb i).b (gb i).c (gb i).d (gb i).e (gb i).f == 0) = true := (ready_ok h hn).2.2.1

theorem rd_d (h : (r47.v n g nb gb m == 0) = true) (hn : n ≤ 9223372036854775807) : r37.v m = true := (ready_ok h hn).2.2.2.1

theorem bd_rd (h : (r47.v n g nb gb m == 0) = true) (hn : n ≤ 9223372036854775807) : nb ≤ 256 := (ready_ok h hn).2.1

/-- What each block is lifted by: a set of stands. -/
theorem L48_len (q : Nat) : ∀ (v : Nat) (al : List Int) (a : Nat) (v' : Nat) (al' : List Int), a ≤ nb → nb ≤ 256 → nb - a < q → L48a.N n g nb gb m q v al (a : Int) = .e0 v' al' → al'.length = al.length + (nb - a) := by
  induction q with
  | zero => intro v al a v' al' _ _ h; omega
  | succ q ih =>
    intro v al a v' al' ha hb hq e
    simp only [L48a.N] at e
    by_cases h : a < nb
    · rw [decide_eq_true (show (a : Int) < nb by omega), wrap_succ (n := nb) (by omega) h] at e
      simp only [cond_true] at e
      cases h2 : L48ab.run n g gb m (a : Int) 0 0 with
      | e0 x =>
        rw [h2] at e
        have := ih _ _ (a + 1) _ _ h hb (by omega) e
        simp only [List.length_append, List.length_cons, List.length_nil] at this
        omega
    · rw [decide_eq_false (by omega)] at e
      cases e
      omega

theorem r48_len (hb : nb ≤ 256) : (r48.v n g nb gb m).length = nb := by
  unfold r48.v
  cases e : L48a.run n g nb gb m 0 [] 0 with
  | e0 a b =>
    have := L48_len (n := n) (g := g) (gb := gb) (m := m) _ _ _ 0 _ _ (Nat.zero_le _) hb (show nb - 0 < ((nb : Int) - 0).toNat + 1 by omega) e
    simpa using this

end Go.Proofs.Ytgmppoappaolkaa
