/- the tolerance seat's contracts: runs. -/
import Derived.Test.YtjdakdjgkpfjkaaD1
open Go
namespace Go.Proofs.Ytjdakdjgkpfjkaa
set_option linter.unusedSimpArgs false
set_option linter.unusedVariables false
set_option maxHeartbeats 0
set_option maxRecDepth 100000
inductive L40a.O where
  | e0
  | e1
noncomputable def L40a.T (n : Nat) (g : Nat → PD) (m : Int) (a23 : Int) : List AV := mkT 55 [(0, AV.sl 2 n fun (i : Nat) => AV.agg [AV.int IntKind.i64 (g i).lo, AV.int IntKind.i64 (g i).hi]), (1, AV.int IntKind.i64 m), (21, AV.sl 2 n fun (i : Nat) => AV.agg [AV.int IntKind.i64 (g i).lo, AV.int IntKind.i64 (g i).hi]), (22, AV.int IntKind.i64 (↑n : Int)), (23, AV.int IntKind.i64 a23)]
noncomputable def L40a.H (n : Nat) (g : Nat → PD) (m : Int) (a23 : Int) : AHeap := []
def L40a.inv (n : Nat) (g : Nat → PD) (m : Int) (a23 : Int) : Prop := 0 ≤ a23 ∧ (a23 ≤ (↑n : Int) ∨ a23 ≤ 0)
noncomputable def L40a.mu (n : Nat) (g : Nat → PD) (m : Int) (a23 : Int) : Nat := ((↑n : Int) - a23).toNat
noncomputable def L40a.E : L40a.O → Exit
  | .e0 => Exit.ret
  | .e1 => Exit.exit 0
noncomputable def L40a.X (n : Nat) (g : Nat → PD) (m : Int) : L40a.O → List AV
  | .e0 => mkT 55 [(4, (AV.int IntKind.i64 1))]
  | .e1 => mkT 55 [(0, (AV.sl 2 n fun (i : Nat) => AV.agg [AV.int IntKind.i64 (g i).lo, AV.int IntKind.i64 (g i).hi]))]
noncomputable def L40a.XH (n : Nat) (g : Nat → PD) (m : Int) : L40a.O → AHeap
  | .e0 => ([])
  | .e1 => ([])
noncomputable def L40a.N (n : Nat) (g : Nat → PD) (m : Int) : Nat → Int → L40a.O
  | 0, _ => .e0
  | k_ + 1, a23 => (bif decide (a23 < (↑n : Int)) then (bif decide ((g a23.toNat).lo < 1) then (.e0) else (bif decide ((g a23.toNat).lo > m) then (.e0) else (bif decide (a23 > 0) then (bif decide ((g (IntKind.i64.wrap (a23 - 1)).toNat).lo ≥ (g a23.toNat).lo) then (.e0) else (L40a.N n g m k_ (IntKind.i64.wrap (a23 + 1)))) else (L40a.N n g m k_ (IntKind.i64.wrap (a23 + 1)))))) else (.e1))
noncomputable def L40a.run (n : Nat) (g : Nat → PD) (m : Int) (a23 : Int) : L40a.O := L40a.N n g m ((((↑n : Int) - a23).toNat) + 1) a23
def L40a.Next (n : Nat) (g : Nat → PD) (m : Int) (k_ : Nat) (z_ : Int) (T_ : List AV) (h_ : AHeap) : Prop := LNextP (fun (z_ : Int) => L40a.T n g m z_) (fun (z_ : Int) => L40a.H n g m z_) (fun (z_ : Int) => L40a.inv n g m z_) (fun (z_ : Int) => L40a.mu n g m z_) (fun (k_ : Nat) (z_ : Int) => L40a.N n g m k_ z_) k_ z_ T_ h_
def L40a.End (n : Nat) (g : Nat → PD) (m : Int) (k_ : Nat) (z_ : Int) (e_ : Exit) (T_ : List AV) (h_ : AHeap) : Prop := LEndP (fun (z_ : Int) => L40a.H n g m z_) (fun (k_ : Nat) (z_ : Int) => L40a.N n g m k_ z_) L40a.E (L40a.X n g m) (L40a.XH n g m) k_ z_ e_ T_ h_
theorem L40a.nx (n : Nat) (g : Nat → PD) (m : Int) {k_ : Nat} {z_ : Int} {h_ : AHeap} (s_ : Int) (h1 : L40a.inv n g m s_) (h2 : L40a.mu n g m s_ < L40a.mu n g m z_) (h3 : L40a.N n g m k_ s_ = L40a.N n g m (k_ + 1) z_) (h4 : PopOk (L40a.H n g m z_) h_ (L40a.T n g m s_) (L40a.H n g m s_)) : LNextP (fun (z_ : Int) => L40a.T n g m z_) (fun (z_ : Int) => L40a.H n g m z_) (fun (z_ : Int) => L40a.inv n g m z_) (fun (z_ : Int) => L40a.mu n g m z_) (fun (k_ : Nat) (z_ : Int) => L40a.N n g m k_ z_) k_ z_ (L40a.T n g m s_) h_ := LNextP.mk (Tm := (fun (z_ : Int) => L40a.T n g m z_)) (Hp := (fun (z_ : Int) => L40a.H n g m z_)) (inv := (fun (z_ : Int) => L40a.inv n g m z_)) (mu := (fun (z_ : Int) => L40a.mu n g m z_)) (l := (fun (k_ : Nat) (z_ : Int) => L40a.N n g m k_ z_)) s_ h1 h2 h3 h4
theorem L40a.en (n : Nat) (g : Nat → PD) (m : Int) {k_ : Nat} {z_ : Int} {h_ : AHeap} (o_ : L40a.O) (h3 : L40a.N n g m (k_ + 1) z_ = o_) (h4 : PopOk (L40a.H n g m z_) h_ (L40a.X n g m o_) (L40a.XH n g m o_)) : LEndP (fun (z_ : Int) => L40a.H n g m z_) (fun (k_ : Nat) (z_ : Int) => L40a.N n g m k_ z_) L40a.E (L40a.X n g m) (L40a.XH n g m) k_ z_ (L40a.E o_) (L40a.X n g m o_) h_ := LEndP.mk (Hp := (fun (z_ : Int) => L40a.H n g m z_)) (l := (fun (k_ : Nat) (z_ : Int) => L40a.N n g m k_ z_)) (oE := L40a.E) (oT := L40a.X n g m) (oH := L40a.XH n g m) o_ h3 h4
theorem L40a.spec (n : Nat) (g : Nat → PD) (hn : n ≤ 9223372036854775807) (m : Int) (k0_1 : ((↑n : Int) == 0) = false) (p0_1 : (↑n : Int) ≠ 0) (k0_2 : ((g (IntKind.i64.wrap ((↑n : Int) - 1)).toNat).lo == m) = true) (p0_2 : (g (IntKind.i64.wrap ((↑n : Int) - 1)).toNat).lo = m) (k_ : Nat) (z_ : Int) (hi_ : L40a.inv n g m z_) (hm_ : L40a.mu n g m z_ < k_) : LoopTo Try.prog (loopN Try.f40 0) (L40a.T n g m z_) (L40a.H n g m z_) (L40a.E (L40a.N n g m k_ z_)) (L40a.X n g m (L40a.N n g m k_ z_)) (L40a.XH n g m (L40a.N n g m k_ z_)) := by
  refine LoopTo.fuelP mix (fun (z_ : Int) => L40a.T n g m z_) (fun (z_ : Int) => L40a.H n g m z_) (fun (z_ : Int) => L40a.inv n g m z_) (fun (z_ : Int) => L40a.mu n g m z_) (fun (k_ : Nat) (z_ : Int) => L40a.N n g m k_ z_) L40a.E (L40a.X n g m) (L40a.XH n g m) (others 55 [0, 1, 21, 22, 23]) (others 55 [4]) (others 55 [0]) ?_ k_ z_ hi_ hm_
  clear hm_ hi_ z_ k_
  intro k_ z_ hinv hmu
  revert hinv hmu; revert z_; intro a23 hinv hmu
  have hinv : 0 ≤ a23 ∧ (a23 ≤ (↑n : Int) ∨ a23 ≤ 0) := hinv
  have hmu : (((↑n : Int) - a23).toNat) < k_ + 1 := hmu
  cases h1 : decide (a23 < (↑n : Int)) with
  | true =>
    have h1p := of_decide_eq_true h1
    have o0 : (0 : Int) ≤ a23 := by first | assumption | omega | (simp_all; done)
    have o1 : a23 < (↑n : Int) := by first | assumption | omega | (simp_all; done)
    cases h2 : decide ((g a23.toNat).lo < 1) with
    | true =>
      have h2p := of_decide_eq_true h2
      exact ⟨[.b true, .b true, .b true, .b true, .b true, .b true, .b true, .b true, .b true, .b true, .b true, .b true], kmp (by kernel_rfl) (And.intro h1 (And.intro (And.intro o0 o1) (And.intro h2 (And.intro h2 (And.intro h2 (And.intro h2 (And.intro h2 (And.intro (rfl : true = true) (And.intro (rfl : true = true) (And.intro (rfl : true = true) (And.intro (rfl : true = true) (And.intro (rfl : true = true) (And.intro (rfl : true = true) (L40a.en n g m (k_ := k_) (z_ := a23) (h_ := [AObj.var (AV.agg [AV.int IntKind.i64 (g a23.toNat).lo, AV.int IntKind.i64 (g a23.toNat).hi])]) (.e0 : L40a.O) (by first | (simp only [L40a.N, h1, h2, cond_true, cond_false]; done) | (try unfold L40a.N; try simp only [h1, cond_true, cond_false]; try simp only [h2, cond_true, cond_false]; try rfl; done)) (PopOk.pop rfl (by simp [L40a.T, L40a.X, L40a.H, L40a.XH]))))))))))))))))⟩
    | false =>
      have h2p := of_decide_eq_false h2
      cases h3 : decide ((g a23.toNat).lo > m) with
      | true =>
        have h3p := of_decide_eq_true h3
        exact ⟨[.b true, .b false, .b false, .b false, .b false, .b false, .b true, .b true, .b true, .b true, .b true, .b true], kmp (by kernel_rfl) (And.intro h1 (And.intro (And.intro o0 o1) (And.intro h2 (And.intro h2 (And.intro h2 (And.intro h2 (And.intro h2 (And.intro h3 (And.intro h3 (And.intro h3 (And.intro h3 (And.intro h3 (And.intro (rfl : true = true) (L40a.en n g m (k_ := k_) (z_ := a23) (h_ := [AObj.var (AV.agg [AV.int IntKind.i64 (g a23.toNat).lo, AV.int IntKind.i64 (g a23.toNat).hi])]) (.e0 : L40a.O) (by first | (simp only [L40a.N, h1, h2, h3, cond_true, cond_false]; done) | (try unfold L40a.N; try simp only [h1, cond_true, cond_false]; try simp only [h2, cond_true, cond_false]; try simp only [h3, cond_true, cond_false]; try rfl; done)) (PopOk.pop rfl (by simp [L40a.T, L40a.X, L40a.H, L40a.XH]))))))))))))))))⟩
      | false =>
        have h3p := of_decide_eq_false h3
        cases h4 : decide (a23 > 0) with
        | true =>
          have h4p := of_decide_eq_true h4
          try have := IntWalk.i64_in (a23 - 1) (by omega)
          have o2 : (0 : Int) ≤ IntKind.i64.wrap (a23 - (1 : Int)) := by first | assumption | omega | (simp_all; done)
          have o3 : IntKind.i64.wrap (a23 - (1 : Int)) < (↑n : Int) := by first | assumption | omega | (simp_all; done)
          cases h5 : decide ((g (IntKind.i64.wrap (a23 - 1)).toNat).lo ≥ (g a23.toNat).lo) with
          | true =>
            have h5p := of_decide_eq_true h5
            exact ⟨[.b true, .b false, .b false, .b false, .b false, .b false, .b false, .b false, .b false, .b true, .b true, .b true, .b true, .b true, .b true, .b true, .b true, .b true, .b false, .b true, .b false, .b true], kmp (by kernel_rfl) (And.intro h1 (And.intro (And.intro o0 o1) (And.intro h2 (And.intro h2 (And.intro h2 (And.intro h2 (And.intro h2 (And.intro h3 (And.intro h3 (And.intro h3 (And.intro h4 (And.intro h4 (And.intro h4 (And.intro h4 (And.intro (And.intro o2 o3) (And.intro h4 (And.intro h4 (And.intro h4 (And.intro h4 (And.intro h4 (And.intro h3 (And.intro h4 (And.intro h3 (And.intro h5 (L40a.en n g m (k_ := k_) (z_ := a23) (h_ := [AObj.var (AV.agg [AV.int IntKind.i64 (g a23.toNat).lo, AV.int IntKind.i64 (g a23.toNat).hi])]) (.e0 : L40a.O) (by first | (simp only [L40a.N, h1, h2, h3, h4, h5, cond_true, cond_false]; done) | (try unfold L40a.N; try simp only [h1, cond_true, cond_false]; try simp only [h2, cond_true, cond_false]; try simp only [h3, cond_true, cond_false]; try simp only [h4, cond_true, cond_false]; try simp only [h5, cond_true, cond_false]; try rfl; done)) (PopOk.pop rfl (by simp [L40a.T, L40a.X, L40a.H, L40a.XH])))))))))))))))))))))))))))⟩
          | false =>
            have h5p := of_decide_eq_false h5
            try have := IntWalk.i64_in (a23 + 1) (by omega)
            have o4 : (0 : Int) ≤ IntKind.i64.wrap (a23 + (1 : Int)) := by first | assumption | omega | (simp_all; done)
            have o5 : IntKind.i64.wrap (a23 + (1 : Int)) ≤ (↑n : Int) ∨ IntKind.i64.wrap (a23 + (1 : Int)) ≤ (0 : Int) := by first | assumption | omega | (simp_all; done)
            have o6 : ((↑n : Int) - IntKind.i64.wrap (a23 + (1 : Int))).toNat < ((↑n : Int) - a23).toNat := by first | assumption | omega | (simp_all; done)
            exact ⟨[.b true, .b false, .b false, .b false, .b false, .b false, .b false, .b false, .b false, .b true, .b true, .b true, .b true, .b true, .b true, .b true, .b true, .b true, .b false, .b true, .b false, .b false], kmp (by kernel_rfl) (And.intro h1 (And.intro (And.intro o0 o1) (And.intro h2 (And.intro h2 (And.intro h2 (And.intro h2 (And.intro h2 (And.intro h3 (And.intro h3 (And.intro h3 (And.intro h4 (And.intro h4 (And.intro h4 (And.intro h4 (And.intro (And.intro o2 o3) (And.intro h4 (And.intro h4 (And.intro h4 (And.intro h4 (And.intro h4 (And.intro h3 (And.intro h4 (And.intro h3 (And.intro h5 (L40a.nx n g m (k_ := k_) (z_ := a23) (h_ := [AObj.var (AV.agg [AV.int IntKind.i64 (g a23.toNat).lo, AV.int IntKind.i64 (g a23.toNat).hi])]) (IntKind.i64.wrap (a23 + 1)) (And.intro o4 o5) o6 (by first | (simp only [L40a.N, h1, h2, h3, h4, h5, cond_true, cond_false]; done) | (try unfold L40a.N; try simp only [h1, cond_true, cond_false]; try simp only [h2, cond_true, cond_false]; try simp only [h3, cond_true, cond_false]; try simp only [h4, cond_true, cond_false]; try simp only [h5, cond_true, cond_false]; try rfl; done)) (PopOk.pop rfl (by simp [L40a.T, L40a.X, L40a.H, L40a.XH])))))))))))))))))))))))))))⟩
        | false =>
          have h4p := of_decide_eq_false h4
          try have := IntWalk.i64_in (a23 + 1) (by omega)
          have o4 : (0 : Int) ≤ IntKind.i64.wrap (a23 + (1 : Int)) := by first | assumption | omega | (simp_all; done)
          have o5 : IntKind.i64.wrap (a23 + (1 : Int)) ≤ (↑n : Int) ∨ IntKind.i64.wrap (a23 + (1 : Int)) ≤ (0 : Int) := by first | assumption | omega | (simp_all; done)
          have o6 : ((↑n : Int) - IntKind.i64.wrap (a23 + (1 : Int))).toNat < ((↑n : Int) - a23).toNat := by first | assumption | omega | (simp_all; done)
          exact ⟨[.b true, .b false, .b false, .b false, .b false, .b false, .b false, .b false, .b false, .b false, .b false, .b false, .b false, .b false, .b false, .b false, .b false, .b false, .b false, .b false, .b false, .b false], kmp (by kernel_rfl) (And.intro h1 (And.intro (And.intro o0 o1) (And.intro h2 (And.intro h2 (And.intro h2 (And.intro h2 (And.intro h2 (And.intro h3 (And.intro h3 (And.intro h3 (And.intro h4 (And.intro h4 (And.intro h4 (And.intro h4 (And.intro h4 (And.intro h4 (And.intro h4 (And.intro h4 (And.intro h4 (And.intro h3 (And.intro h4 (And.intro h3 (And.intro (rfl : false = false) (L40a.nx n g m (k_ := k_) (z_ := a23) (h_ := [AObj.var (AV.agg [AV.int IntKind.i64 (g a23.toNat).lo, AV.int IntKind.i64 (g a23.toNat).hi])]) (IntKind.i64.wrap (a23 + 1)) (And.intro o4 o5) o6 (by first | (simp only [L40a.N, h1, h2, h3, h4, cond_true, cond_false]; done) | (try unfold L40a.N; try simp only [h1, cond_true, cond_false]; try simp only [h2, cond_true, cond_false]; try simp only [h3, cond_true, cond_false]; try simp only [h4, cond_true, cond_false]; try rfl; done)) (PopOk.pop rfl (by simp [L40a.T, L40a.X, L40a.H, L40a.XH]))))))))))))))))))))))))))⟩
  | false =>
    have h1p := of_decide_eq_false h1
    exact ⟨[.b false], kmp (by kernel_rfl) (And.intro h1 (L40a.en n g m (k_ := k_) (z_ := a23) (.e1 : L40a.O) (by first | (simp only [L40a.N, h1, cond_true, cond_false]; done) | (try unfold L40a.N; try simp only [h1, cond_true, cond_false]; try rfl; done)) PopOk.same))⟩
theorem L40a.e0 (n : Nat) (g : Nat → PD) (hn : n ≤ 9223372036854775807) (m : Int) (k0_1 : ((↑n : Int) == 0) = false) (p0_1 : (↑n : Int) ≠ 0) (k0_2 : ((g (IntKind.i64.wrap ((↑n : Int) - 1)).toNat).lo == m) = true) (p0_2 : (g (IntKind.i64.wrap ((↑n : Int) - 1)).toNat).lo = m) (a23 : Int) (hinv : L40a.inv n g m a23) (hN : L40a.run n g m a23 = (.e0 : L40a.O)) : LoopTo Try.prog (loopN Try.f40 0) (L40a.T n g m a23) (L40a.H n g m a23) (Exit.ret) (L40a.X n g m (.e0 : L40a.O)) (L40a.XH n g m (.e0 : L40a.O)) := by
  have h_ := L40a.spec n g hn m k0_1 p0_1 k0_2 p0_2 ((((↑n : Int) - a23).toNat) + 1) a23 hinv (Nat.lt_succ_self _)
  unfold L40a.run at hN
  simp only [hN] at h_
  exact h_
theorem L40a.e1 (n : Nat) (g : Nat → PD) (hn : n ≤ 9223372036854775807) (m : Int) (k0_1 : ((↑n : Int) == 0) = false) (p0_1 : (↑n : Int) ≠ 0) (k0_2 : ((g (IntKind.i64.wrap ((↑n : Int) - 1)).toNat).lo == m) = true) (p0_2 : (g (IntKind.i64.wrap ((↑n : Int) - 1)).toNat).lo = m) (a23 : Int) (hinv : L40a.inv n g m a23) (hN : L40a.run n g m a23 = (.e1 : L40a.O)) : LoopTo Try.prog (loopN Try.f40 0) (L40a.T n g m a23) (L40a.H n g m a23) (Exit.exit 0) (L40a.X n g m (.e1 : L40a.O)) (L40a.XH n g m (.e1 : L40a.O)) := by
  have h_ := L40a.spec n g hn m k0_1 p0_1 k0_2 p0_2 ((((↑n : Int) - a23).toNat) + 1) a23 hinv (Nat.lt_succ_self _)
  unfold L40a.run at hN
  simp only [hN] at h_
  exact h_

noncomputable def r40.v (n : Nat) (g : Nat → PD) (m : Int) : Int := (bif (↑n : Int) == 0 then 1 else (bif (g (IntKind.i64.wrap ((↑n : Int) - 1)).toNat).lo == m then (match L40a.run n g m 0 with | .e0 => 1 | .e1 => (bif r60.v n g then 6 else 0) ) else 1))
theorem r40 (n : Nat) (g : Nat → PD) (hn : n ≤ 9223372036854775807) (m : Int) (h : AHeap) : Ret Try.prog 40 ([prs n g, AV.int IntKind.i64 m]) h (AV.int IntKind.i64 (r40.v n g m)) h := by
  cases h1 : (↑n : Int) == 0 with
  | true =>
    have h1p := eq_of_beq h1
    exact Ret.of_run1 mix [(AV.int IntKind.i64 (r40.v n g m))] Try.func40 rfl [.b true, .b true, .b true, .b true, .b true, .b true, .b true, .b true, .b true, .b true, .b true] (by simp) (by simp) (kmp (by kernel_rfl) (And.intro h1 (And.intro h1 (And.intro h1 (And.intro h1 (And.intro h1 (And.intro h1 (And.intro h1 (And.intro h1 (And.intro h1 (And.intro h1 (And.intro (rfl : true = true) (And.intro (show (AV.int IntKind.i64 1) = ((AV.int IntKind.i64 (r40.v n g m))) by first | (simp only [r40.v, h1, cond_true, cond_false]; done) | (try unfold r40.v; try simp only [h1, cond_true, cond_false]; try rfl; done) | rfl) trivial))))))))))))) h
  | false =>
    have h1p := ne_of_beq_false h1
    try have := IntWalk.i64_in ((↑n : Int) - 1) (by omega)
    have o0 : (0 : Int) ≤ IntKind.i64.wrap ((↑n : Int) - (1 : Int)) := by first | assumption | omega | (simp_all; done)
    have o1 : IntKind.i64.wrap ((↑n : Int) - (1 : Int)) < (↑n : Int) := by first | assumption | omega | (simp_all; done)
    cases h2 : (g (IntKind.i64.wrap ((↑n : Int) - 1)).toNat).lo == m with
    | true =>
      have h2p := eq_of_beq h2
      have o2 : n ≤ (9223372036854775807 : Nat) := by first | assumption | omega | (simp_all; done)
      have o3 : ((↑n : Int) == (0 : Int)) = false := by first | assumption | omega | (simp_all; done)
      have o4 : (↑n : Int) ≠ (0 : Int) := by first | assumption | omega | (simp_all; done)
      try have := IntWalk.i64_in ((↑n : Int) - 1) (by omega)
      have o5 : ((g (IntKind.i64.wrap ((↑n : Int) - (1 : Int))).toNat).lo == m) = true := by first | assumption | omega | (simp_all; done)
      have o6 : (g (IntKind.i64.wrap ((↑n : Int) - (1 : Int))).toNat).lo = m := by first | assumption | omega | (simp_all; done)
      have o7 : (0 : Int) ≤ (↑n : Int) ∨ (0 : Int) ≤ (0 : Int) := by first | assumption | omega | (simp_all; done)
      cases h3 : L40a.run n g m 0 with
      | e0 =>
        exact Ret.of_run1 mix [(AV.int IntKind.i64 (r40.v n g m))] Try.func40 rfl [.b false, .b false, .b false, .b false, .b false, .b false, .b false, .b false, .b false, .b false, .b false, .loop (others 55 [0, 1, 21, 22, 23]) (Exit.ret) (L40a.X n g m L40a.O.e0) (L40a.XH n g m L40a.O.e0)] (by simp) (by simp) (kmp (by kernel_rfl) (And.intro h1 (And.intro h1 (And.intro h1 (And.intro h1 (And.intro h1 (And.intro (And.intro o0 o1) (And.intro h1 (And.intro h1 (And.intro h1 (And.intro h1 (And.intro h1 (And.intro (show (bnot ((g (IntKind.i64.wrap ((↑n : Int) - 1)).toNat).lo == m)) = false by rw [h2]; try rfl) (And.intro (L40a.e0 (n) (g) o2 (m) o3 o4 o5 o6 (0) (And.intro (show (0 : Int) ≤ (0 : Int) by first | decide | exact Int.NonNeg.mk _) o7) h3) (And.intro (show (AV.int IntKind.i64 1) = ((AV.int IntKind.i64 (r40.v n g m))) by first | (simp only [r40.v, h1, h2, h3, cond_true, cond_false]; done) | (try unfold r40.v; try simp only [h1, cond_true, cond_false]; try simp only [h2, cond_true, cond_false]; try simp only [h3, cond_true, cond_false]; try rfl; done) | rfl) trivial))))))))))))))) h
      | e1 =>
        cases h4 : r60.v n g with
        | true =>
          exact Ret.of_run1 mix [(AV.int IntKind.i64 (r40.v n g m))] Try.func40 rfl [.b false, .b false, .b false, .b false, .b false, .b false, .b false, .b false, .b false, .b false, .b false, .loop (others 55 [0, 1, 21, 22, 23]) (Exit.exit 0) (L40a.X n g m L40a.O.e1) (L40a.XH n g m L40a.O.e1), .ret (AV.bool (r60.v n g)) ([]), .b true] (by simp) (by simp) (kmp (by kernel_rfl) (And.intro h1 (And.intro h1 (And.intro h1 (And.intro h1 (And.intro h1 (And.intro (And.intro o0 o1) (And.intro h1 (And.intro h1 (And.intro h1 (And.intro h1 (And.intro h1 (And.intro (show (bnot ((g (IntKind.i64.wrap ((↑n : Int) - 1)).toNat).lo == m)) = false by rw [h2]; try rfl) (And.intro (L40a.e1 (n) (g) o2 (m) o3 o4 o5 o6 (0) (And.intro (show (0 : Int) ≤ (0 : Int) by first | decide | exact Int.NonNeg.mk _) o7) h3) (And.intro (r60 (n) (g) o2 ([])) (And.intro h4 (And.intro (show (AV.int IntKind.i64 6) = ((AV.int IntKind.i64 (r40.v n g m))) by first | (simp only [r40.v, h1, h2, h4, h3, cond_true, cond_false]; done) | (try unfold r40.v; try simp only [h1, cond_true, cond_false]; try simp only [h2, cond_true, cond_false]; try simp only [h4, cond_true, cond_false]; try simp only [h3, cond_true, cond_false]; try rfl; done) | rfl) trivial))))))))))))))))) h
        | false =>
          exact Ret.of_run1 mix [(AV.int IntKind.i64 (r40.v n g m))] Try.func40 rfl [.b false, .b false, .b false, .b false, .b false, .b false, .b false, .b false, .b false, .b false, .b false, .loop (others 55 [0, 1, 21, 22, 23]) (Exit.exit 0) (L40a.X n g m L40a.O.e1) (L40a.XH n g m L40a.O.e1), .ret (AV.bool (r60.v n g)) ([]), .b false] (by simp) (by simp) (kmp (by kernel_rfl) (And.intro h1 (And.intro h1 (And.intro h1 (And.intro h1 (And.intro h1 (And.intro (And.intro o0 o1) (And.intro h1 (And.intro h1 (And.intro h1 (And.intro h1 (And.intro h1 (And.intro (show (bnot ((g (IntKind.i64.wrap ((↑n : Int) - 1)).toNat).lo == m)) = false by rw [h2]; try rfl) (And.intro (L40a.e1 (n) (g) o2 (m) o3 o4 o5 o6 (0) (And.intro (show (0 : Int) ≤ (0 : Int) by first | decide | exact Int.NonNeg.mk _) o7) h3) (And.intro (r60 (n) (g) o2 ([])) (And.intro h4 (And.intro (show (AV.int IntKind.i64 0) = ((AV.int IntKind.i64 (r40.v n g m))) by first | (simp only [r40.v, h1, h2, h4, h3, cond_true, cond_false]; done) | (try unfold r40.v; try simp only [h1, cond_true, cond_false]; try simp only [h2, cond_true, cond_false]; try simp only [h4, cond_true, cond_false]; try simp only [h3, cond_true, cond_false]; try rfl; done) | rfl) trivial))))))))))))))))) h
    | false =>
      have h2p := ne_of_beq_false h2
      exact Ret.of_run1 mix [(AV.int IntKind.i64 (r40.v n g m))] Try.func40 rfl [.b false, .b false, .b false, .b false, .b false, .b false, .b false, .b false, .b false, .b false, .b true] (by simp) (by simp) (kmp (by kernel_rfl) (And.intro h1 (And.intro h1 (And.intro h1 (And.intro h1 (And.intro h1 (And.intro (And.intro o0 o1) (And.intro h1 (And.intro h1 (And.intro h1 (And.intro h1 (And.intro h1 (And.intro (show (bnot ((g (IntKind.i64.wrap ((↑n : Int) - 1)).toNat).lo == m)) = true by rw [h2]; try rfl) (And.intro (show (AV.int IntKind.i64 1) = ((AV.int IntKind.i64 (r40.v n g m))) by first | (simp only [r40.v, h1, h2, cond_true, cond_false]; done) | (try unfold r40.v; try simp only [h1, cond_true, cond_false]; try simp only [h2, cond_true, cond_false]; try rfl; done) | rfl) trivial)))))))))))))) h

noncomputable def r16.v (n : Nat) (g : Nat → PD) (j1 : Int) (j2 : Int) (k : Nat) (p : Nat → PD) : Int := (bif r36.v (↑n : Int) == 0 then (bif r37.v n g then 6 else (bif r39.v j1 j2 then r40.v k p (↑n : Int) else 6)) else r36.v (↑n : Int))
noncomputable abbrev r16.h0 (n : Nat) (g : Nat → PD) (j1 : Int) (j2 : Int) (k : Nat) (p : Nat → PD) : AHeap := ([AObj.var (AV.agg [AV.sl 2 n fun (i : Nat) => AV.agg [AV.int IntKind.i64 (g i).lo, AV.int IntKind.i64 (g i).hi], AV.int IntKind.i64 j1, AV.int IntKind.i64 j2, AV.sl 2 k fun (i : Nat) => AV.agg [AV.int IntKind.i64 (p i).lo, AV.int IntKind.i64 (p i).hi]])])
theorem r16 (n : Nat) (g : Nat → PD) (hn : n ≤ 9223372036854775807) (j1 : Int) (j2 : Int) (k : Nat) (p : Nat → PD) (hk : k ≤ 9223372036854775807) (h : AHeap) : Ret Try.prog 16 ([rn n g j1 j2 k p]) h (AV.int IntKind.i64 (r16.v n g j1 j2 k p)) h := by
  cases h1 : r36.v (↑n : Int) == 0 with
  | true =>
    have h1p := eq_of_beq h1
    have o0 : n ≤ (9223372036854775807 : Nat) := by first | assumption | omega | (simp_all; done)
    cases h2 : r37.v n g with
    | true =>
      exact Ret.of_run1 mix [(AV.int IntKind.i64 (r16.v n g j1 j2 k p))] Try.func16 rfl [.ret (AV.int IntKind.i64 (r36.v (↑n : Int))) (r16.h0 n g j1 j2 k p), .b false, .ret (AV.bool (r37.v n g)) (r16.h0 n g j1 j2 k p), .b true, .b true, .b true, .b true, .b true, .b true] (by simp) (by simp) (kmp (by kernel_rfl) (And.intro (r36 ((↑n : Int)) (r16.h0 n g j1 j2 k p)) (And.intro (show (bnot (r36.v (↑n : Int) == 0)) = false by rw [h1]; try rfl) (And.intro (r37 (n) (g) o0 (r16.h0 n g j1 j2 k p)) (And.intro h2 (And.intro h2 (And.intro h2 (And.intro h2 (And.intro h2 (And.intro (rfl : true = true) (And.intro (show (AV.int IntKind.i64 6) = ((AV.int IntKind.i64 (r16.v n g j1 j2 k p))) by first | (simp only [r16.v, h1, h2, cond_true, cond_false]; done) | (try unfold r16.v; try simp only [h1, cond_true, cond_false]; try simp only [h2, cond_true, cond_false]; try rfl; done) | rfl) trivial))))))))))) h
    | false =>
      cases h3 : r39.v j1 j2 with
      | true =>
        have o1 : k ≤ (9223372036854775807 : Nat) := by first | assumption | omega | (simp_all; done)
        exact Ret.of_run1 mix [(AV.int IntKind.i64 (r16.v n g j1 j2 k p))] Try.func16 rfl [.ret (AV.int IntKind.i64 (r36.v (↑n : Int))) (r16.h0 n g j1 j2 k p), .b false, .ret (AV.bool (r37.v n g)) (r16.h0 n g j1 j2 k p), .b false, .b false, .b false, .ret (AV.bool (r39.v j1 j2)) (r16.h0 n g j1 j2 k p), .b false, .b false, .b false, .ret (AV.int IntKind.i64 (r40.v k p (↑n : Int))) (r16.h0 n g j1 j2 k p)] (by simp) (by simp) (kmp (by kernel_rfl) (And.intro (r36 ((↑n : Int)) (r16.h0 n g j1 j2 k p)) (And.intro (show (bnot (r36.v (↑n : Int) == 0)) = false by rw [h1]; try rfl) (And.intro (r37 (n) (g) o0 (r16.h0 n g j1 j2 k p)) (And.intro h2 (And.intro h2 (And.intro h2 (And.intro (r39 (j1) (j2) (r16.h0 n g j1 j2 k p)) (And.intro h2 (And.intro h2 (And.intro (show (bnot (r39.v j1 j2)) = false by rw [h3]; try rfl) (And.intro (r40 (k) (p) o1 ((↑n : Int)) (r16.h0 n g j1 j2 k p)) (And.intro (show (AV.int IntKind.i64 (r40.v k p (↑n : Int))) = ((AV.int IntKind.i64 (r16.v n g j1 j2 k p))) by first | (simp only [r16.v, h1, h2, h3, cond_true, cond_false]; done) | (try unfold r16.v; try simp only [h1, cond_true, cond_false]; try simp only [h2, cond_true, cond_false]; try simp only [h3, cond_true, cond_false]; try rfl; done) | rfl) trivial))))))))))))) h
      | false =>
        exact Ret.of_run1 mix [(AV.int IntKind.i64 (r16.v n g j1 j2 k p))] Try.func16 rfl [.ret (AV.int IntKind.i64 (r36.v (↑n : Int))) (r16.h0 n g j1 j2 k p), .b false, .ret (AV.bool (r37.v n g)) (r16.h0 n g j1 j2 k p), .b false, .b false, .b false, .ret (AV.bool (r39.v j1 j2)) (r16.h0 n g j1 j2 k p), .b false, .b false, .b true] (by simp) (by simp) (kmp (by kernel_rfl) (And.intro (r36 ((↑n : Int)) (r16.h0 n g j1 j2 k p)) (And.intro (show (bnot (r36.v (↑n : Int) == 0)) = false by rw [h1]; try rfl) (And.intro (r37 (n) (g) o0 (r16.h0 n g j1 j2 k p)) (And.intro h2 (And.intro h2 (And.intro h2 (And.intro (r39 (j1) (j2) (r16.h0 n g j1 j2 k p)) (And.intro h2 (And.intro h2 (And.intro (show (bnot (r39.v j1 j2)) = true by rw [h3]; try rfl) (And.intro (show (AV.int IntKind.i64 6) = ((AV.int IntKind.i64 (r16.v n g j1 j2 k p))) by first | (simp only [r16.v, h1, h2, h3, cond_true, cond_false]; done) | (try unfold r16.v; try simp only [h1, cond_true, cond_false]; try simp only [h2, cond_true, cond_false]; try simp only [h3, cond_true, cond_false]; try rfl; done) | rfl) trivial)))))))))))) h
  | false =>
    have h1p := ne_of_beq_false h1
    exact Ret.of_run1 mix [(AV.int IntKind.i64 (r16.v n g j1 j2 k p))] Try.func16 rfl [.ret (AV.int IntKind.i64 (r36.v (↑n : Int))) (r16.h0 n g j1 j2 k p), .b true] (by simp) (by simp) (kmp (by kernel_rfl) (And.intro (r36 ((↑n : Int)) (r16.h0 n g j1 j2 k p)) (And.intro (show (bnot (r36.v (↑n : Int) == 0)) = true by rw [h1]; try rfl) (And.intro (show (AV.int IntKind.i64 (r36.v (↑n : Int))) = ((AV.int IntKind.i64 (r16.v n g j1 j2 k p))) by first | (simp only [r16.v, h1, cond_true, cond_false]; done) | (try unfold r16.v; try simp only [h1, cond_true, cond_false]; try rfl; done) | rfl) trivial)))) h

inductive L35a.O where
  | e0
  | e1
noncomputable def L35a.T (n : Nat) (g : Nat → PD) (m : Int) (a5 : Int) : List AV := mkT 80 [(0, AV.sl 2 n fun (i : Nat) => AV.agg [AV.int IntKind.i64 (g i).lo, AV.int IntKind.i64 (g i).hi]), (1, AV.int IntKind.i64 m), (5, AV.int IntKind.i64 a5)]
noncomputable def L35a.H (n : Nat) (g : Nat → PD) (m : Int) (a5 : Int) : AHeap := []
def L35a.inv (n : Nat) (g : Nat → PD) (m : Int) (a5 : Int) : Prop := 0 ≤ a5 ∧ (a5 ≤ (↑n : Int) ∨ a5 ≤ 0)
noncomputable def L35a.mu (n : Nat) (g : Nat → PD) (m : Int) (a5 : Int) : Nat := ((↑n : Int) - a5).toNat
noncomputable def L35a.E : L35a.O → Exit
  | .e0 => Exit.ret
  | .e1 => Exit.exit 0
noncomputable def L35a.X (n : Nat) (g : Nat → PD) (m : Int) : L35a.O → List AV
  | .e0 => mkT 80 [(4, (AV.int IntKind.i64 1))]
  | .e1 => mkT 80 [(0, (AV.sl 2 n fun (i : Nat) => AV.agg [AV.int IntKind.i64 (g i).lo, AV.int IntKind.i64 (g i).hi]))]
noncomputable def L35a.XH (n : Nat) (g : Nat → PD) (m : Int) : L35a.O → AHeap
  | .e0 => ([])
  | .e1 => ([])
noncomputable def L35a.N (n : Nat) (g : Nat → PD) (m : Int) : Nat → Int → L35a.O
  | 0, _ => .e0
  | k_ + 1, a5 => (bif decide (a5 < (↑n : Int)) then (bif decide ((g a5.toNat).lo < 1) then (.e0) else (bif decide ((g a5.toNat).lo > m) then (.e0) else (bif decide (a5 > 0) then (bif decide ((g (IntKind.i64.wrap (a5 - 1)).toNat).lo ≥ (g a5.toNat).lo) then (.e0) else (L35a.N n g m k_ (IntKind.i64.wrap (a5 + 1)))) else (L35a.N n g m k_ (IntKind.i64.wrap (a5 + 1)))))) else (.e1))
noncomputable def L35a.run (n : Nat) (g : Nat → PD) (m : Int) (a5 : Int) : L35a.O := L35a.N n g m ((((↑n : Int) - a5).toNat) + 1) a5
def L35a.Next (n : Nat) (g : Nat → PD) (m : Int) (k_ : Nat) (z_ : Int) (T_ : List AV) (h_ : AHeap) : Prop := LNextP (fun (z_ : Int) => L35a.T n g m z_) (fun (z_ : Int) => L35a.H n g m z_) (fun (z_ : Int) => L35a.inv n g m z_) (fun (z_ : Int) => L35a.mu n g m z_) (fun (k_ : Nat) (z_ : Int) => L35a.N n g m k_ z_) k_ z_ T_ h_
def L35a.End (n : Nat) (g : Nat → PD) (m : Int) (k_ : Nat) (z_ : Int) (e_ : Exit) (T_ : List AV) (h_ : AHeap) : Prop := LEndP (fun (z_ : Int) => L35a.H n g m z_) (fun (k_ : Nat) (z_ : Int) => L35a.N n g m k_ z_) L35a.E (L35a.X n g m) (L35a.XH n g m) k_ z_ e_ T_ h_
theorem L35a.nx (n : Nat) (g : Nat → PD) (m : Int) {k_ : Nat} {z_ : Int} {h_ : AHeap} (s_ : Int) (h1 : L35a.inv n g m s_) (h2 : L35a.mu n g m s_ < L35a.mu n g m z_) (h3 : L35a.N n g m k_ s_ = L35a.N n g m (k_ + 1) z_) (h4 : PopOk (L35a.H n g m z_) h_ (L35a.T n g m s_) (L35a.H n g m s_)) : LNextP (fun (z_ : Int) => L35a.T n g m z_) (fun (z_ : Int) => L35a.H n g m z_) (fun (z_ : Int) => L35a.inv n g m z_) (fun (z_ : Int) => L35a.mu n g m z_) (fun (k_ : Nat) (z_ : Int) => L35a.N n g m k_ z_) k_ z_ (L35a.T n g m s_) h_ := LNextP.mk (Tm := (fun (z_ : Int) => L35a.T n g m z_)) (Hp := (fun (z_ : Int) => L35a.H n g m z_)) (inv := (fun (z_ : Int) => L35a.inv n g m z_)) (mu := (fun (z_ : Int) => L35a.mu n g m z_)) (l := (fun (k_ : Nat) (z_ : Int) => L35a.N n g m k_ z_)) s_ h1 h2 h3 h4
theorem L35a.en (n : Nat) (g : Nat → PD) (m : Int) {k_ : Nat} {z_ : Int} {h_ : AHeap} (o_ : L35a.O) (h3 : L35a.N n g m (k_ + 1) z_ = o_) (h4 : PopOk (L35a.H n g m z_) h_ (L35a.X n g m o_) (L35a.XH n g m o_)) : LEndP (fun (z_ : Int) => L35a.H n g m z_) (fun (k_ : Nat) (z_ : Int) => L35a.N n g m k_ z_) L35a.E (L35a.X n g m) (L35a.XH n g m) k_ z_ (L35a.E o_) (L35a.X n g m o_) h_ := LEndP.mk (Hp := (fun (z_ : Int) => L35a.H n g m z_)) (l := (fun (k_ : Nat) (z_ : Int) => L35a.N n g m k_ z_)) (oE := L35a.E) (oT := L35a.X n g m) (oH := L35a.XH n g m) o_ h3 h4
theorem L35a.spec (n : Nat) (g : Nat → PD) (hn : n ≤ 9223372036854775807) (m : Int) (k0_1 : ((↑n : Int) == 0) = false) (p0_1 : (↑n : Int) ≠ 0) (k0_2 : ((g (IntKind.i64.wrap ((↑n : Int) - 1)).toNat).lo == m) = true) (p0_2 : (g (IntKind.i64.wrap ((↑n : Int) - 1)).toNat).lo = m) (k_ : Nat) (z_ : Int) (hi_ : L35a.inv n g m z_) (hm_ : L35a.mu n g m z_ < k_) : LoopTo Try.prog (loopN Try.f35 0) (L35a.T n g m z_) (L35a.H n g m z_) (L35a.E (L35a.N n g m k_ z_)) (L35a.X n g m (L35a.N n g m k_ z_)) (L35a.XH n g m (L35a.N n g m k_ z_)) := by
  refine LoopTo.fuelP mix (fun (z_ : Int) => L35a.T n g m z_) (fun (z_ : Int) => L35a.H n g m z_) (fun (z_ : Int) => L35a.inv n g m z_) (fun (z_ : Int) => L35a.mu n g m z_) (fun (k_ : Nat) (z_ : Int) => L35a.N n g m k_ z_) L35a.E (L35a.X n g m) (L35a.XH n g m) (others 80 [0, 1, 5]) (others 80 [4]) (others 80 [0]) ?_ k_ z_ hi_ hm_
  clear hm_ hi_ z_ k_
  intro k_ z_ hinv hmu
  revert hinv hmu; revert z_; intro a5 hinv hmu
  have hinv : 0 ≤ a5 ∧ (a5 ≤ (↑n : Int) ∨ a5 ≤ 0) := hinv
  have hmu : (((↑n : Int) - a5).toNat) < k_ + 1 := hmu
  cases h1 : decide (a5 < (↑n : Int)) with
  | true =>
    have h1p := of_decide_eq_true h1
    have o0 : (0 : Int) ≤ a5 := by first | assumption | omega | (simp_all; done)
    have o1 : a5 < (↑n : Int) := by first | assumption | omega | (simp_all; done)
    cases h2 : decide ((g a5.toNat).lo < 1) with
    | true =>
      have h2p := of_decide_eq_true h2
      exact ⟨[.b true, .b true, .b true, .b true, .b true, .b true, .b true, .b true, .b true, .b true, .b true, .b true, .b true, .b true, .b true], kmp (by kernel_rfl) (And.intro h1 (And.intro (And.intro o0 o1) (And.intro h2 (And.intro h2 (And.intro h2 (And.intro h2 (And.intro h2 (And.intro h2 (And.intro h2 (And.intro h2 (And.intro (rfl : true = true) (And.intro (rfl : true = true) (And.intro (rfl : true = true) (And.intro (rfl : true = true) (And.intro (rfl : true = true) (And.intro (rfl : true = true) (L35a.en n g m (k_ := k_) (z_ := a5) (.e0 : L35a.O) (by first | (simp only [L35a.N, h1, h2, cond_true, cond_false]; done) | (try unfold L35a.N; try simp only [h1, cond_true, cond_false]; try simp only [h2, cond_true, cond_false]; try rfl; done)) PopOk.same)))))))))))))))))⟩
    | false =>
      have h2p := of_decide_eq_false h2
      cases h3 : decide ((g a5.toNat).lo > m) with
      | true =>
        have h3p := of_decide_eq_true h3
        exact ⟨[.b true, .b false, .b false, .b false, .b false, .b false, .b false, .b false, .b false, .b true, .b true, .b true, .b true, .b true, .b true], kmp (by kernel_rfl) (And.intro h1 (And.intro (And.intro o0 o1) (And.intro h2 (And.intro h2 (And.intro h2 (And.intro (And.intro o0 o1) (And.intro h2 (And.intro h2 (And.intro h2 (And.intro h2 (And.intro h2 (And.intro h3 (And.intro h3 (And.intro h3 (And.intro h3 (And.intro h3 (And.intro (rfl : true = true) (L35a.en n g m (k_ := k_) (z_ := a5) (.e0 : L35a.O) (by first | (simp only [L35a.N, h1, h2, h3, cond_true, cond_false]; done) | (try unfold L35a.N; try simp only [h1, cond_true, cond_false]; try simp only [h2, cond_true, cond_false]; try simp only [h3, cond_true, cond_false]; try rfl; done)) PopOk.same))))))))))))))))))⟩
      | false =>
        have h3p := of_decide_eq_false h3
        cases h4 : decide (a5 > 0) with
        | true =>
          have h4p := of_decide_eq_true h4
          try have := IntWalk.i64_in (a5 - 1) (by omega)
          have o2 : (0 : Int) ≤ IntKind.i64.wrap (a5 - (1 : Int)) := by first | assumption | omega | (simp_all; done)
          have o3 : IntKind.i64.wrap (a5 - (1 : Int)) < (↑n : Int) := by first | assumption | omega | (simp_all; done)
          cases h5 : decide ((g (IntKind.i64.wrap (a5 - 1)).toNat).lo ≥ (g a5.toNat).lo) with
          | true =>
            have h5p := of_decide_eq_true h5
            exact ⟨[.b true, .b false, .b false, .b false, .b false, .b false, .b false, .b false, .b false, .b false, .b false, .b false, .b true, .b true, .b true, .b true, .b true, .b true, .b true, .b true, .b true, .b true, .b true, .b true, .b false, .b true, .b false, .b true], kmp (by kernel_rfl) (And.intro h1 (And.intro (And.intro o0 o1) (And.intro h2 (And.intro h2 (And.intro h2 (And.intro (And.intro o0 o1) (And.intro h2 (And.intro h2 (And.intro h2 (And.intro h2 (And.intro h2 (And.intro h3 (And.intro h3 (And.intro h3 (And.intro h4 (And.intro h4 (And.intro h4 (And.intro h4 (And.intro (And.intro o2 o3) (And.intro h4 (And.intro h4 (And.intro h4 (And.intro h4 (And.intro h4 (And.intro (And.intro o0 o1) (And.intro h4 (And.intro h4 (And.intro h4 (And.intro h3 (And.intro h4 (And.intro h3 (And.intro h5 (L35a.en n g m (k_ := k_) (z_ := a5) (.e0 : L35a.O) (by first | (simp only [L35a.N, h1, h2, h3, h4, h5, cond_true, cond_false]; done) | (try unfold L35a.N; try simp only [h1, cond_true, cond_false]; try simp only [h2, cond_true, cond_false]; try simp only [h3, cond_true, cond_false]; try simp only [h4, cond_true, cond_false]; try simp only [h5, cond_true, cond_false]; try rfl; done)) PopOk.same)))))))))))))))))))))))))))))))))⟩
          | false =>
            have h5p := of_decide_eq_false h5
            try have := IntWalk.i64_in (a5 + 1) (by omega)
            have o4 : (0 : Int) ≤ IntKind.i64.wrap (a5 + (1 : Int)) := by first | assumption | omega | (simp_all; done)
            have o5 : IntKind.i64.wrap (a5 + (1 : Int)) ≤ (↑n : Int) ∨ IntKind.i64.wrap (a5 + (1 : Int)) ≤ (0 : Int) := by first | assumption | omega | (simp_all; done)
            have o6 : ((↑n : Int) - IntKind.i64.wrap (a5 + (1 : Int))).toNat < ((↑n : Int) - a5).toNat := by first | assumption | omega | (simp_all; done)
            exact ⟨[.b true, .b false, .b false, .b false, .b false, .b false, .b false, .b false, .b false, .b false, .b false, .b false, .b true, .b true, .b true, .b true, .b true, .b true, .b true, .b true, .b true, .b true, .b true, .b true, .b false, .b true, .b false, .b false], kmp (by kernel_rfl) (And.intro h1 (And.intro (And.intro o0 o1) (And.intro h2 (And.intro h2 (And.intro h2 (And.intro (And.intro o0 o1) (And.intro h2 (And.intro h2 (And.intro h2 (And.intro h2 (And.intro h2 (And.intro h3 (And.intro h3 (And.intro h3 (And.intro h4 (And.intro h4 (And.intro h4 (And.intro h4 (And.intro (And.intro o2 o3) (And.intro h4 (And.intro h4 (And.intro h4 (And.intro h4 (And.intro h4 (And.intro (And.intro o0 o1) (And.intro h4 (And.intro h4 (And.intro h4 (And.intro h3 (And.intro h4 (And.intro h3 (And.intro h5 (L35a.nx n g m (k_ := k_) (z_ := a5) (IntKind.i64.wrap (a5 + 1)) (And.intro o4 o5) o6 (by first | (simp only [L35a.N, h1, h2, h3, h4, h5, cond_true, cond_false]; done) | (try unfold L35a.N; try simp only [h1, cond_true, cond_false]; try simp only [h2, cond_true, cond_false]; try simp only [h3, cond_true, cond_false]; try simp only [h4, cond_true, cond_false]; try simp only [h5, cond_true, cond_false]; try rfl; done)) PopOk.same)))))))))))))))))))))))))))))))))⟩
        | false =>
          have h4p := of_decide_eq_false h4
          try have := IntWalk.i64_in (a5 + 1) (by omega)
          have o4 : (0 : Int) ≤ IntKind.i64.wrap (a5 + (1 : Int)) := by first | assumption | omega | (simp_all; done)
          have o5 : IntKind.i64.wrap (a5 + (1 : Int)) ≤ (↑n : Int) ∨ IntKind.i64.wrap (a5 + (1 : Int)) ≤ (0 : Int) := by first | assumption | omega | (simp_all; done)
          have o6 : ((↑n : Int) - IntKind.i64.wrap (a5 + (1 : Int))).toNat < ((↑n : Int) - a5).toNat := by first | assumption | omega | (simp_all; done)
          exact ⟨[.b true, .b false, .b false, .b false, .b false, .b false, .b false, .b false, .b false, .b false, .b false, .b false, .b false, .b false, .b false, .b false, .b false, .b false, .b false, .b false, .b false, .b false, .b false, .b false, .b false, .b false, .b false, .b false], kmp (by kernel_rfl) (And.intro h1 (And.intro (And.intro o0 o1) (And.intro h2 (And.intro h2 (And.intro h2 (And.intro (And.intro o0 o1) (And.intro h2 (And.intro h2 (And.intro h2 (And.intro h2 (And.intro h2 (And.intro h3 (And.intro h3 (And.intro h3 (And.intro h4 (And.intro h4 (And.intro h4 (And.intro h4 (And.intro h4 (And.intro h4 (And.intro h4 (And.intro h4 (And.intro h4 (And.intro h4 (And.intro h4 (And.intro h4 (And.intro h3 (And.intro h4 (And.intro h3 (And.intro (rfl : false = false) (L35a.nx n g m (k_ := k_) (z_ := a5) (IntKind.i64.wrap (a5 + 1)) (And.intro o4 o5) o6 (by first | (simp only [L35a.N, h1, h2, h3, h4, cond_true, cond_false]; done) | (try unfold L35a.N; try simp only [h1, cond_true, cond_false]; try simp only [h2, cond_true, cond_false]; try simp only [h3, cond_true, cond_false]; try simp only [h4, cond_true, cond_false]; try rfl; done)) PopOk.same)))))))))))))))))))))))))))))))⟩
  | false =>
    have h1p := of_decide_eq_false h1
    exact ⟨[.b false], kmp (by kernel_rfl) (And.intro h1 (L35a.en n g m (k_ := k_) (z_ := a5) (.e1 : L35a.O) (by first | (simp only [L35a.N, h1, cond_true, cond_false]; done) | (try unfold L35a.N; try simp only [h1, cond_true, cond_false]; try rfl; done)) PopOk.same))⟩
theorem L35a.e0 (n : Nat) (g : Nat → PD) (hn : n ≤ 9223372036854775807) (m : Int) (k0_1 : ((↑n : Int) == 0) = false) (p0_1 : (↑n : Int) ≠ 0) (k0_2 : ((g (IntKind.i64.wrap ((↑n : Int) - 1)).toNat).lo == m) = true) (p0_2 : (g (IntKind.i64.wrap ((↑n : Int) - 1)).toNat).lo = m) (a5 : Int) (hinv : L35a.inv n g m a5) (hN : L35a.run n g m a5 = (.e0 : L35a.O)) : LoopTo Try.prog (loopN Try.f35 0) (L35a.T n g m a5) (L35a.H n g m a5) (Exit.ret) (L35a.X n g m (.e0 : L35a.O)) (L35a.XH n g m (.e0 : L35a.O)) := by
  have h_ := L35a.spec n g hn m k0_1 p0_1 k0_2 p0_2 ((((↑n : Int) - a5).toNat) + 1) a5 hinv (Nat.lt_succ_self _)
  unfold L35a.run at hN
  simp only [hN] at h_
  exact h_
theorem L35a.e1 (n : Nat) (g : Nat → PD) (hn : n ≤ 9223372036854775807) (m : Int) (k0_1 : ((↑n : Int) == 0) = false) (p0_1 : (↑n : Int) ≠ 0) (k0_2 : ((g (IntKind.i64.wrap ((↑n : Int) - 1)).toNat).lo == m) = true) (p0_2 : (g (IntKind.i64.wrap ((↑n : Int) - 1)).toNat).lo = m) (a5 : Int) (hinv : L35a.inv n g m a5) (hN : L35a.run n g m a5 = (.e1 : L35a.O)) : LoopTo Try.prog (loopN Try.f35 0) (L35a.T n g m a5) (L35a.H n g m a5) (Exit.exit 0) (L35a.X n g m (.e1 : L35a.O)) (L35a.XH n g m (.e1 : L35a.O)) := by
  have h_ := L35a.spec n g hn m k0_1 p0_1 k0_2 p0_2 ((((↑n : Int) - a5).toNat) + 1) a5 hinv (Nat.lt_succ_self _)
  unfold L35a.run at hN
  simp only [hN] at h_
  exact h_

inductive L35b.O where
  | e0
  | e1
noncomputable def L35b.T (n : Nat) (g : Nat → PD) (m : Int) (b6 : Int) : List AV := mkT 80 [(0, AV.sl 2 n fun (i : Nat) => AV.agg [AV.int IntKind.i64 (g i).lo, AV.int IntKind.i64 (g i).hi]), (6, AV.int IntKind.i64 b6)]
noncomputable def L35b.H (n : Nat) (g : Nat → PD) (m : Int) (b6 : Int) : AHeap := []
def L35b.inv (n : Nat) (g : Nat → PD) (m : Int) (b6 : Int) : Prop := 0 ≤ b6 ∧ (b6 ≤ (↑n : Int) ∨ b6 ≤ 0)
noncomputable def L35b.mu (n : Nat) (g : Nat → PD) (m : Int) (b6 : Int) : Nat := ((↑n : Int) - b6).toNat
noncomputable def L35b.E : L35b.O → Exit
  | .e0 => Exit.ret
  | .e1 => Exit.exit 2
noncomputable def L35b.X (n : Nat) (g : Nat → PD) (m : Int) : L35b.O → List AV
  | .e0 => mkT 80 [(4, (AV.int IntKind.i64 6))]
  | .e1 => mkT 80 []
noncomputable def L35b.XH (n : Nat) (g : Nat → PD) (m : Int) : L35b.O → AHeap
  | .e0 => ([])
  | .e1 => ([])
noncomputable def L35b.N (n : Nat) (g : Nat → PD) : Nat → Int → L35b.O
  | 0, _ => .e0
  | k_ + 1, b6 => (bif decide (b6 < (↑n : Int)) then (bif decide ((g b6.toNat).hi < 1) then (.e0) else (bif decide ((g b6.toNat).hi > 1000000000) then (.e0) else (L35b.N n g k_ (IntKind.i64.wrap (b6 + 1))))) else (.e1))
noncomputable def L35b.run (n : Nat) (g : Nat → PD) (b6 : Int) : L35b.O := L35b.N n g ((((↑n : Int) - b6).toNat) + 1) b6
def L35b.Next (n : Nat) (g : Nat → PD) (m : Int) (k_ : Nat) (z_ : Int) (T_ : List AV) (h_ : AHeap) : Prop := LNextP (fun (z_ : Int) => L35b.T n g m z_) (fun (z_ : Int) => L35b.H n g m z_) (fun (z_ : Int) => L35b.inv n g m z_) (fun (z_ : Int) => L35b.mu n g m z_) (fun (k_ : Nat) (z_ : Int) => L35b.N n g k_ z_) k_ z_ T_ h_
def L35b.End (n : Nat) (g : Nat → PD) (m : Int) (k_ : Nat) (z_ : Int) (e_ : Exit) (T_ : List AV) (h_ : AHeap) : Prop := LEndP (fun (z_ : Int) => L35b.H n g m z_) (fun (k_ : Nat) (z_ : Int) => L35b.N n g k_ z_) L35b.E (L35b.X n g m) (L35b.XH n g m) k_ z_ e_ T_ h_
theorem L35b.nx (n : Nat) (g : Nat → PD) (m : Int) {k_ : Nat} {z_ : Int} {h_ : AHeap} (s_ : Int) (h1 : L35b.inv n g m s_) (h2 : L35b.mu n g m s_ < L35b.mu n g m z_) (h3 : L35b.N n g k_ s_ = L35b.N n g (k_ + 1) z_) (h4 : PopOk (L35b.H n g m z_) h_ (L35b.T n g m s_) (L35b.H n g m s_)) : LNextP (fun (z_ : Int) => L35b.T n g m z_) (fun (z_ : Int) => L35b.H n g m z_) (fun (z_ : Int) => L35b.inv n g m z_) (fun (z_ : Int) => L35b.mu n g m z_) (fun (k_ : Nat) (z_ : Int) => L35b.N n g k_ z_) k_ z_ (L35b.T n g m s_) h_ := LNextP.mk (Tm := (fun (z_ : Int) => L35b.T n g m z_)) (Hp := (fun (z_ : Int) => L35b.H n g m z_)) (inv := (fun (z_ : Int) => L35b.inv n g m z_)) (mu := (fun (z_ : Int) => L35b.mu n g m z_)) (l := (fun (k_ : Nat) (z_ : Int) => L35b.N n g k_ z_)) s_ h1 h2 h3 h4
theorem L35b.en (n : Nat) (g : Nat → PD) (m : Int) {k_ : Nat} {z_ : Int} {h_ : AHeap} (o_ : L35b.O) (h3 : L35b.N n g (k_ + 1) z_ = o_) (h4 : PopOk (L35b.H n g m z_) h_ (L35b.X n g m o_) (L35b.XH n g m o_)) : LEndP (fun (z_ : Int) => L35b.H n g m z_) (fun (k_ : Nat) (z_ : Int) => L35b.N n g k_ z_) L35b.E (L35b.X n g m) (L35b.XH n g m) k_ z_ (L35b.E o_) (L35b.X n g m o_) h_ := LEndP.mk (Hp := (fun (z_ : Int) => L35b.H n g m z_)) (l := (fun (k_ : Nat) (z_ : Int) => L35b.N n g k_ z_)) (oE := L35b.E) (oT := L35b.X n g m) (oH := L35b.XH n g m) o_ h3 h4
theorem L35b.spec (n : Nat) (g : Nat → PD) (hn : n ≤ 9223372036854775807) (m : Int) (k1_1 : ((↑n : Int) == 0) = false) (p1_1 : (↑n : Int) ≠ 0) (k1_2 : ((g (IntKind.i64.wrap ((↑n : Int) - 1)).toNat).lo == m) = true) (p1_2 : (g (IntKind.i64.wrap ((↑n : Int) - 1)).toNat).lo = m) (k_ : Nat) (z_ : Int) (hi_ : L35b.inv n g m z_) (hm_ : L35b.mu n g m z_ < k_) : LoopTo Try.prog (loopN Try.f35 1) (L35b.T n g m z_) (L35b.H n g m z_) (L35b.E (L35b.N n g k_ z_)) (L35b.X n g m (L35b.N n g k_ z_)) (L35b.XH n g m (L35b.N n g k_ z_)) := by
  refine LoopTo.fuelP mix (fun (z_ : Int) => L35b.T n g m z_) (fun (z_ : Int) => L35b.H n g m z_) (fun (z_ : Int) => L35b.inv n g m z_) (fun (z_ : Int) => L35b.mu n g m z_) (fun (k_ : Nat) (z_ : Int) => L35b.N n g k_ z_) L35b.E (L35b.X n g m) (L35b.XH n g m) (others 80 [0, 6]) (others 80 [4]) (others 80 []) ?_ k_ z_ hi_ hm_
  clear hm_ hi_ z_ k_
  intro k_ z_ hinv hmu
  revert hinv hmu; revert z_; intro b6 hinv hmu
  have hinv : 0 ≤ b6 ∧ (b6 ≤ (↑n : Int) ∨ b6 ≤ 0) := hinv
  have hmu : (((↑n : Int) - b6).toNat) < k_ + 1 := hmu
  cases h1 : decide (b6 < (↑n : Int)) with
  | true =>
    have h1p := of_decide_eq_true h1
    have o0 : (0 : Int) ≤ b6 := by first | assumption | omega | (simp_all; done)
    have o1 : b6 < (↑n : Int) := by first | assumption | omega | (simp_all; done)
    cases h2 : decide ((g b6.toNat).hi < 1) with
    | true =>
      have h2p := of_decide_eq_true h2
      exact ⟨[.b true, .b true, .b true, .b true, .b true, .b true, .b true, .b true, .b true], kmp (by kernel_rfl) (And.intro h1 (And.intro (And.intro o0 o1) (And.intro h2 (And.intro h2 (And.intro h2 (And.intro h2 (And.intro h2 (And.intro h2 (And.intro h2 (And.intro (rfl : true = true) (L35b.en n g m (k_ := k_) (z_ := b6) (.e0 : L35b.O) (by first | (simp only [L35b.N, h1, h2, cond_true, cond_false]; done) | (try unfold L35b.N; try simp only [h1, cond_true, cond_false]; try simp only [h2, cond_true, cond_false]; try rfl; done)) PopOk.same)))))))))))⟩
    | false =>
      have h2p := of_decide_eq_false h2
      cases h3 : decide ((g b6.toNat).hi > 1000000000) with
      | true =>
        have h3p := of_decide_eq_true h3
        exact ⟨[.b true, .b false, .b false, .b false, .b false, .b false, .b false, .b false, .b true], kmp (by kernel_rfl) (And.intro h1 (And.intro (And.intro o0 o1) (And.intro h2 (And.intro h2 (And.intro h2 (And.intro (And.intro o0 o1) (And.intro h2 (And.intro h2 (And.intro h2 (And.intro h2 (And.intro h3 (L35b.en n g m (k_ := k_) (z_ := b6) (.e0 : L35b.O) (by first | (simp only [L35b.N, h1, h2, h3, cond_true, cond_false]; done) | (try unfold L35b.N; try simp only [h1, cond_true, cond_false]; try simp only [h2, cond_true, cond_false]; try simp only [h3, cond_true, cond_false]; try rfl; done)) PopOk.same))))))))))))⟩
      | false =>
        have h3p := of_decide_eq_false h3
        try have := IntWalk.i64_in (b6 + 1) (by omega)
        have o2 : (0 : Int) ≤ IntKind.i64.wrap (b6 + (1 : Int)) := by first | assumption | omega | (simp_all; done)
        have o3 : IntKind.i64.wrap (b6 + (1 : Int)) ≤ (↑n : Int) ∨ IntKind.i64.wrap (b6 + (1 : Int)) ≤ (0 : Int) := by first | assumption | omega | (simp_all; done)
        have o4 : ((↑n : Int) - IntKind.i64.wrap (b6 + (1 : Int))).toNat < ((↑n : Int) - b6).toNat := by first | assumption | omega | (simp_all; done)
        exact ⟨[.b true, .b false, .b false, .b false, .b false, .b false, .b false, .b false, .b false], kmp (by kernel_rfl) (And.intro h1 (And.intro (And.intro o0 o1) (And.intro h2 (And.intro h2 (And.intro h2 (And.intro (And.intro o0 o1) (And.intro h2 (And.intro h2 (And.intro h2 (And.intro h2 (And.intro h3 (L35b.nx n g m (k_ := k_) (z_ := b6) (IntKind.i64.wrap (b6 + 1)) (And.intro o2 o3) o4 (by first | (simp only [L35b.N, h1, h2, h3, cond_true, cond_false]; done) | (try unfold L35b.N; try simp only [h1, cond_true, cond_false]; try simp only [h2, cond_true, cond_false]; try simp only [h3, cond_true, cond_false]; try rfl; done)) PopOk.same))))))))))))⟩
  | false =>
    have h1p := of_decide_eq_false h1
    exact ⟨[.b false], kmp (by kernel_rfl) (And.intro h1 (L35b.en n g m (k_ := k_) (z_ := b6) (.e1 : L35b.O) (by first | (simp only [L35b.N, h1, cond_true, cond_false]; done) | (try unfold L35b.N; try simp only [h1, cond_true, cond_false]; try rfl; done)) PopOk.same))⟩
theorem L35b.e0 (n : Nat) (g : Nat → PD) (hn : n ≤ 9223372036854775807) (m : Int) (k1_1 : ((↑n : Int) == 0) = false) (p1_1 : (↑n : Int) ≠ 0) (k1_2 : ((g (IntKind.i64.wrap ((↑n : Int) - 1)).toNat).lo == m) = true) (p1_2 : (g (IntKind.i64.wrap ((↑n : Int) - 1)).toNat).lo = m) (b6 : Int) (hinv : L35b.inv n g m b6) (hN : L35b.run n g b6 = (.e0 : L35b.O)) : LoopTo Try.prog (loopN Try.f35 1) (L35b.T n g m b6) (L35b.H n g m b6) (Exit.ret) (L35b.X n g m (.e0 : L35b.O)) (L35b.XH n g m (.e0 : L35b.O)) := by
  have h_ := L35b.spec n g hn m k1_1 p1_1 k1_2 p1_2 ((((↑n : Int) - b6).toNat) + 1) b6 hinv (Nat.lt_succ_self _)
  unfold L35b.run at hN
  simp only [hN] at h_
  exact h_
theorem L35b.e1 (n : Nat) (g : Nat → PD) (hn : n ≤ 9223372036854775807) (m : Int) (k1_1 : ((↑n : Int) == 0) = false) (p1_1 : (↑n : Int) ≠ 0) (k1_2 : ((g (IntKind.i64.wrap ((↑n : Int) - 1)).toNat).lo == m) = true) (p1_2 : (g (IntKind.i64.wrap ((↑n : Int) - 1)).toNat).lo = m) (b6 : Int) (hinv : L35b.inv n g m b6) (hN : L35b.run n g b6 = (.e1 : L35b.O)) : LoopTo Try.prog (loopN Try.f35 1) (L35b.T n g m b6) (L35b.H n g m b6) (Exit.exit 2) (L35b.X n g m (.e1 : L35b.O)) (L35b.XH n g m (.e1 : L35b.O)) := by
  have h_ := L35b.spec n g hn m k1_1 p1_1 k1_2 p1_2 ((((↑n : Int) - b6).toNat) + 1) b6 hinv (Nat.lt_succ_self _)
  unfold L35b.run at hN
  simp only [hN] at h_
  exact h_

noncomputable def r35.v (n : Nat) (g : Nat → PD) (m : Int) : Int := (bif (↑n : Int) == 0 then 1 else (bif (g (IntKind.i64.wrap ((↑n : Int) - 1)).toNat).lo == m then (match L35a.run n g m 0 with | .e0 => 1 | .e1 => (match L35b.run n g 0 with | .e0 => 6 | .e1 => 0 ) ) else 1))
theorem r35 (n : Nat) (g : Nat → PD) (hn : n ≤ 9223372036854775807) (m : Int) (h : AHeap) : Ret Try.prog 35 ([prs n g, AV.int IntKind.i64 m]) h (AV.int IntKind.i64 (r35.v n g m)) h := by
  cases h1 : (↑n : Int) == 0 with
  | true =>
    have h1p := eq_of_beq h1
    exact Ret.of_run1 mix [(AV.int IntKind.i64 (r35.v n g m))] Try.func35 rfl [.b true, .b true, .b true, .b true, .b true, .b true, .b true, .b true, .b true, .b true, .b true] (by simp) (by simp) (kmp (by kernel_rfl) (And.intro h1 (And.intro h1 (And.intro h1 (And.intro h1 (And.intro h1 (And.intro h1 (And.intro h1 (And.intro h1 (And.intro h1 (And.intro h1 (And.intro (rfl : true = true) (And.intro (show (AV.int IntKind.i64 1) = ((AV.int IntKind.i64 (r35.v n g m))) by first | (simp only [r35.v, h1, cond_true, cond_false]; done) | (try unfold r35.v; try simp only [h1, cond_true, cond_false]; try rfl; done) | rfl) trivial))))))))))))) h
  | false =>
    have h1p := ne_of_beq_false h1
    try have := IntWalk.i64_in ((↑n : Int) - 1) (by omega)
    have o0 : (0 : Int) ≤ IntKind.i64.wrap ((↑n : Int) - (1 : Int)) := by first | assumption | omega | (simp_all; done)
    have o1 : IntKind.i64.wrap ((↑n : Int) - (1 : Int)) < (↑n : Int) := by first | assumption | omega | (simp_all; done)
    cases h2 : (g (IntKind.i64.wrap ((↑n : Int) - 1)).toNat).lo == m with
    | true =>
      have h2p := eq_of_beq h2
      have o2 : n ≤ (9223372036854775807 : Nat) := by first | assumption | omega | (simp_all; done)
      have o3 : ((↑n : Int) == (0 : Int)) = false := by first | assumption | omega | (simp_all; done)
      have o4 : (↑n : Int) ≠ (0 : Int) := by first | assumption | omega | (simp_all; done)
      try have := IntWalk.i64_in ((↑n : Int) - 1) (by omega)
      have o5 : ((g (IntKind.i64.wrap ((↑n : Int) - (1 : Int))).toNat).lo == m) = true := by first | assumption | omega | (simp_all; done)
      have o6 : (g (IntKind.i64.wrap ((↑n : Int) - (1 : Int))).toNat).lo = m := by first | assumption | omega | (simp_all; done)
      have o7 : (0 : Int) ≤ (↑n : Int) ∨ (0 : Int) ≤ (0 : Int) := by first | assumption | omega | (simp_all; done)
      cases h3 : L35a.run n g m 0 with
      | e0 =>
        exact Ret.of_run1 mix [(AV.int IntKind.i64 (r35.v n g m))] Try.func35 rfl [.b false, .b false, .b false, .b false, .b false, .b false, .b false, .b false, .b false, .b false, .b false, .loop (others 80 [0, 1, 5]) (Exit.ret) (L35a.X n g m L35a.O.e0) (L35a.XH n g m L35a.O.e0)] (by simp) (by simp) (kmp (by kernel_rfl) (And.intro h1 (And.intro h1 (And.intro h1 (And.intro h1 (And.intro h1 (And.intro (And.intro o0 o1) (And.intro h1 (And.intro h1 (And.intro h1 (And.intro h1 (And.intro h1 (And.intro (show (bnot ((g (IntKind.i64.wrap ((↑n : Int) - 1)).toNat).lo == m)) = false by rw [h2]; try rfl) (And.intro (L35a.e0 (n) (g) o2 (m) o3 o4 o5 o6 (0) (And.intro (show (0 : Int) ≤ (0 : Int) by first | decide | exact Int.NonNeg.mk _) o7) h3) (And.intro (show (AV.int IntKind.i64 1) = ((AV.int IntKind.i64 (r35.v n g m))) by first | (simp only [r35.v, h1, h2, h3, cond_true, cond_false]; done) | (try unfold r35.v; try simp only [h1, cond_true, cond_false]; try simp only [h2, cond_true, cond_false]; try simp only [h3, cond_true, cond_false]; try rfl; done) | rfl) trivial))))))))))))))) h
      | e1 =>
        cases h4 : L35b.run n g 0 with
        | e0 =>
          exact Ret.of_run1 mix [(AV.int IntKind.i64 (r35.v n g m))] Try.func35 rfl [.b false, .b false, .b false, .b false, .b false, .b false, .b false, .b false, .b false, .b false, .b false, .loop (others 80 [0, 1, 5]) (Exit.exit 0) (L35a.X n g m L35a.O.e1) (L35a.XH n g m L35a.O.e1), .loop (others 80 [0, 6]) (Exit.ret) (L35b.X n g m L35b.O.e0) (L35b.XH n g m L35b.O.e0)] (by simp) (by simp) (kmp (by kernel_rfl) (And.intro h1 (And.intro h1 (And.intro h1 (And.intro h1 (And.intro h1 (And.intro (And.intro o0 o1) (And.intro h1 (And.intro h1 (And.intro h1 (And.intro h1 (And.intro h1 (And.intro (show (bnot ((g (IntKind.i64.wrap ((↑n : Int) - 1)).toNat).lo == m)) = false by rw [h2]; try rfl) (And.intro (L35a.e1 (n) (g) o2 (m) o3 o4 o5 o6 (0) (And.intro (show (0 : Int) ≤ (0 : Int) by first | decide | exact Int.NonNeg.mk _) o7) h3) (And.intro (L35b.e0 (n) (g) o2 (m) o3 o4 o5 o6 (0) (And.intro (show (0 : Int) ≤ (0 : Int) by first | decide | exact Int.NonNeg.mk _) o7) h4) (And.intro (show (AV.int IntKind.i64 6) = ((AV.int IntKind.i64 (r35.v n g m))) by first | (simp only [r35.v, h1, h2, h3, h4, cond_true, cond_false]; done) | (try unfold r35.v; try simp only [h1, cond_true, cond_false]; try simp only [h2, cond_true, cond_false]; try simp only [h3, cond_true, cond_false]; try simp only [h4, cond_true, cond_false]; try rfl; done) | rfl) trivial)))))))))))))))) h
        | e1 =>
          exact Ret.of_run1 mix [(AV.int IntKind.i64 (r35.v n g m))] Try.func35 rfl [.b false, .b false, .b false, .b false, .b false, .b false, .b false, .b false, .b false, .b false, .b false, .loop (others 80 [0, 1, 5]) (Exit.exit 0) (L35a.X n g m L35a.O.e1) (L35a.XH n g m L35a.O.e1), .loop (others 80 [0, 6]) (Exit.exit 2) (L35b.X n g m L35b.O.e1) (L35b.XH n g m L35b.O.e1)] (by simp) (by simp) (kmp (by kernel_rfl) (And.intro h1 (And.intro h1 (And.intro h1 (And.intro h1 (And.intro h1 (And.intro (And.intro o0 o1) (And.intro h1 (And.intro h1 (And.intro h1 (And.intro h1 (And.intro h1 (And.intro (show (bnot ((g (IntKind.i64.wrap ((↑n : Int) - 1)).toNat).lo == m)) = false by rw [h2]; try rfl) (And.intro (L35a.e1 (n) (g) o2 (m) o3 o4 o5 o6 (0) (And.intro (show (0 : Int) ≤ (0 : Int) by first | decide | exact Int.NonNeg.mk _) o7) h3) (And.intro (L35b.e1 (n) (g) o2 (m) o3 o4 o5 o6 (0) (And.intro (show (0 : Int) ≤ (0 : Int) by first | decide | exact Int.NonNeg.mk _) o7) h4) (And.intro (show (AV.int IntKind.i64 0) = ((AV.int IntKind.i64 (r35.v n g m))) by first | (simp only [r35.v, h1, h2, h3, h4, cond_true, cond_false]; done) | (try unfold r35.v; try simp only [h1, cond_true, cond_false]; try simp only [h2, cond_true, cond_false]; try simp only [h3, cond_true, cond_false]; try simp only [h4, cond_true, cond_false]; try rfl; done) | rfl) trivial)))))))))))))))) h
    | false =>
      have h2p := ne_of_beq_false h2
      exact Ret.of_run1 mix [(AV.int IntKind.i64 (r35.v n g m))] Try.func35 rfl [.b false, .b false, .b false, .b false, .b false, .b false, .b false, .b false, .b false, .b false, .b true] (by simp) (by simp) (kmp (by kernel_rfl) (And.intro h1 (And.intro h1 (And.intro h1 (And.intro h1 (And.intro h1 (And.intro (And.intro o0 o1) (And.intro h1 (And.intro h1 (And.intro h1 (And.intro h1 (And.intro h1 (And.intro (show (bnot ((g (IntKind.i64.wrap ((↑n : Int) - 1)).toNat).lo == m)) = true by rw [h2]; try rfl) (And.intro (show (AV.int IntKind.i64 1) = ((AV.int IntKind.i64 (r35.v n g m))) by first | (simp only [r35.v, h1, h2, cond_true, cond_false]; done) | (try unfold r35.v; try simp only [h1, cond_true, cond_false]; try simp only [h2, cond_true, cond_false]; try rfl; done) | rfl) trivial)))))))))))))) h

inductive L28a.O where
  | e0 (a0 : Nat) (a1 : List PD)
noncomputable def L28a.T (n : Nat) (g : Nat → PD) (av3 : Nat) (al3 : List PD) (a4 : Int) : List AV := mkT 27 [(0, AV.sl 2 n fun (i : Nat) => AV.agg [AV.int IntKind.i64 (g i).lo, AV.int IntKind.i64 (g i).hi]), (3, AV.ms 0 av3 2 0 (List.map PD.av al3).length), (4, AV.int IntKind.i64 a4)]
noncomputable def L28a.H (n : Nat) (g : Nat → PD) (av3 : Nat) (al3 : List PD) (a4 : Int) : AHeap := [AObj.row 2 av3 (Col.recs (List.map PD.av al3))]
def L28a.inv (n : Nat) (g : Nat → PD) (av3 : Nat) (al3 : List PD) (a4 : Int) : Prop := 0 ≤ a4 ∧ (a4 ≤ (↑n : Int) ∨ a4 ≤ 0) ∧ (↑al3.length : Int) ≤ a4 - 0
noncomputable def L28a.mu (n : Nat) (g : Nat → PD) (av3 : Nat) (al3 : List PD) (a4 : Int) : Nat := ((↑n : Int) - a4).toNat
noncomputable def L28a.E : L28a.O → Exit
  | .e0 a0 a1 => Exit.exit 0
noncomputable def L28a.X (n : Nat) (g : Nat → PD) : L28a.O → List AV
  | .e0 a0 a1 => mkT 27 [(3, (AV.ms 0 a0 2 0 (List.length (List.map PD.av a1))))]
noncomputable def L28a.XH (n : Nat) (g : Nat → PD) : L28a.O → AHeap
  | .e0 a0 a1 => ((AObj.row 2 a0 (Col.recs (List.map PD.av a1))) :: ([]))
noncomputable def L28a.N (n : Nat) (g : Nat → PD) : Nat → Nat → (List PD) → Int → L28a.O
  | 0, _, _, _ => .e0 default default
  | k_ + 1, av3, al3, a4 => (bif decide (a4 < (↑n : Int)) then (L28a.N n g k_ (av3 + 1) (PD.mk (g a4.toNat).lo (g a4.toNat).hi :: al3) (IntKind.i64.wrap (a4 + 1))) else (.e0 (av3) (al3)))
noncomputable def L28a.run (n : Nat) (g : Nat → PD) (av3 : Nat) (al3 : List PD) (a4 : Int) : L28a.O := L28a.N n g ((((↑n : Int) - a4).toNat) + 1) av3 al3 a4
def L28a.Next (n : Nat) (g : Nat → PD) (k_ : Nat) (z_ : Nat × (List PD) × Int) (T_ : List AV) (h_ : AHeap) : Prop := LNextP (fun (z_ : Nat × (List PD) × Int) => L28a.T n g z_.1 z_.2.1 z_.2.2) (fun (z_ : Nat × (List PD) × Int) => L28a.H n g z_.1 z_.2.1 z_.2.2) (fun (z_ : Nat × (List PD) × Int) => L28a.inv n g z_.1 z_.2.1 z_.2.2) (fun (z_ : Nat × (List PD) × Int) => L28a.mu n g z_.1 z_.2.1 z_.2.2) (fun (k_ : Nat) (z_ : Nat × (List PD) × Int) => L28a.N n g k_ z_.1 z_.2.1 z_.2.2) k_ z_ T_ h_
def L28a.End (n : Nat) (g : Nat → PD) (k_ : Nat) (z_ : Nat × (List PD) × Int) (e_ : Exit) (T_ : List AV) (h_ : AHeap) : Prop := LEndP (fun (z_ : Nat × (List PD) × Int) => L28a.H n g z_.1 z_.2.1 z_.2.2) (fun (k_ : Nat) (z_ : Nat × (List PD) × Int) => L28a.N n g k_ z_.1 z_.2.1 z_.2.2) L28a.E (L28a.X n g) (L28a.XH n g) k_ z_ e_ T_ h_
theorem L28a.nx (n : Nat) (g : Nat → PD) {k_ : Nat} {z_ : Nat × (List PD) × Int} {h_ : AHeap} (s_ : Nat × (List PD) × Int) (h1 : L28a.inv n g s_.1 s_.2.1 s_.2.2) (h2 : L28a.mu n g s_.1 s_.2.1 s_.2.2 < L28a.mu n g z_.1 z_.2.1 z_.2.2) (h3 : L28a.N n g k_ s_.1 s_.2.1 s_.2.2 = L28a.N n g (k_ + 1) z_.1 z_.2.1 z_.2.2) (h4 : PopOk (L28a.H n g z_.1 z_.2.1 z_.2.2) h_ (L28a.T n g s_.1 s_.2.1 s_.2.2) (L28a.H n g s_.1 s_.2.1 s_.2.2)) : LNextP (fun (z_ : Nat × (List PD) × Int) => L28a.T n g z_.1 z_.2.1 z_.2.2) (fun (z_ : Nat × (List PD) × Int) => L28a.H n g z_.1 z_.2.1 z_.2.2) (fun (z_ : Nat × (List PD) × Int) => L28a.inv n g z_.1 z_.2.1 z_.2.2) (fun (z_ : Nat × (List PD) × Int) => L28a.mu n g z_.1 z_.2.1 z_.2.2) (fun (k_ : Nat) (z_ : Nat × (List PD) × Int) => L28a.N n g k_ z_.1 z_.2.1 z_.2.2) k_ z_ (L28a.T n g s_.1 s_.2.1 s_.2.2) h_ := LNextP.mk (Tm := (fun (z_ : Nat × (List PD) × Int) => L28a.T n g z_.1 z_.2.1 z_.2.2)) (Hp := (fun (z_ : Nat × (List PD) × Int) => L28a.H n g z_.1 z_.2.1 z_.2.2)) (inv := (fun (z_ : Nat × (List PD) × Int) => L28a.inv n g z_.1 z_.2.1 z_.2.2)) (mu := (fun (z_ : Nat × (List PD) × Int) => L28a.mu n g z_.1 z_.2.1 z_.2.2)) (l := (fun (k_ : Nat) (z_ : Nat × (List PD) × Int) => L28a.N n g k_ z_.1 z_.2.1 z_.2.2)) s_ h1 h2 h3 h4
theorem L28a.en (n : Nat) (g : Nat → PD) {k_ : Nat} {z_ : Nat × (List PD) × Int} {h_ : AHeap} (o_ : L28a.O) (h3 : L28a.N n g (k_ + 1) z_.1 z_.2.1 z_.2.2 = o_) (h4 : PopOk (L28a.H n g z_.1 z_.2.1 z_.2.2) h_ (L28a.X n g o_) (L28a.XH n g o_)) : LEndP (fun (z_ : Nat × (List PD) × Int) => L28a.H n g z_.1 z_.2.1 z_.2.2) (fun (k_ : Nat) (z_ : Nat × (List PD) × Int) => L28a.N n g k_ z_.1 z_.2.1 z_.2.2) L28a.E (L28a.X n g) (L28a.XH n g) k_ z_ (L28a.E o_) (L28a.X n g o_) h_ := LEndP.mk (Hp := (fun (z_ : Nat × (List PD) × Int) => L28a.H n g z_.1 z_.2.1 z_.2.2)) (l := (fun (k_ : Nat) (z_ : Nat × (List PD) × Int) => L28a.N n g k_ z_.1 z_.2.1 z_.2.2)) (oE := L28a.E) (oT := L28a.X n g) (oH := L28a.XH n g) o_ h3 h4
theorem L28a.spec (n : Nat) (g : Nat → PD) (hn : n ≤ 30) (k_ : Nat) (z_ : Nat × (List PD) × Int) (hi_ : L28a.inv n g z_.1 z_.2.1 z_.2.2) (hm_ : L28a.mu n g z_.1 z_.2.1 z_.2.2 < k_) : LoopTo Try.prog (loopN Try.f28 0) (L28a.T n g z_.1 z_.2.1 z_.2.2) (L28a.H n g z_.1 z_.2.1 z_.2.2) (L28a.E (L28a.N n g k_ z_.1 z_.2.1 z_.2.2)) (L28a.X n g (L28a.N n g k_ z_.1 z_.2.1 z_.2.2)) (L28a.XH n g (L28a.N n g k_ z_.1 z_.2.1 z_.2.2)) := by
  refine LoopTo.fuelP mix (fun (z_ : Nat × (List PD) × Int) => L28a.T n g z_.1 z_.2.1 z_.2.2) (fun (z_ : Nat × (List PD) × Int) => L28a.H n g z_.1 z_.2.1 z_.2.2) (fun (z_ : Nat × (List PD) × Int) => L28a.inv n g z_.1 z_.2.1 z_.2.2) (fun (z_ : Nat × (List PD) × Int) => L28a.mu n g z_.1 z_.2.1 z_.2.2) (fun (k_ : Nat) (z_ : Nat × (List PD) × Int) => L28a.N n g k_ z_.1 z_.2.1 z_.2.2) L28a.E (L28a.X n g) (L28a.XH n g) (others 27 [0, 3, 4]) (others 27 [2]) (others 27 [3]) ?_ k_ z_ hi_ hm_
  clear hm_ hi_ z_ k_
  intro k_ z_ hinv hmu
  obtain ⟨av3, al3, a4⟩ := z_
  have hinv : 0 ≤ a4 ∧ (a4 ≤ (↑n : Int) ∨ a4 ≤ 0) ∧ (↑al3.length : Int) ≤ a4 - 0 := hinv
  have hmu : (((↑n : Int) - a4).toNat) < k_ + 1 := hmu
  cases h1 : decide (a4 < (↑n : Int)) with
  | true =>
    have h1p := of_decide_eq_true h1
    have o0 : (0 : Int) ≤ a4 := by first | assumption | omega | (simp_all; done)
    have o1 : a4 < (↑n : Int) := by first | assumption | omega | (simp_all; done)
    have o2 : ((List.map PD.av al3).length + (1 : Nat)) * (16 : Nat) ≤ (140737488355328 : Nat) := by first | assumption | omega | (simp only [List.length_append, List.length_cons, List.length_nil, List.length_map]; omega) | (simp_all; done)
    have o3 : (List.map PD.av al3).length = (Col.recs (List.map PD.av al3)).len := by first | assumption | omega | (simp only [List.length_append, List.length_cons, List.length_nil, List.length_map]; omega) | rfl | (exact Nat.le_refl _) | (simp [Col.len]; done) | (simp_all; done)
    try have := IntWalk.i64_in (a4 + 1) (by omega)
    have o4 : (0 : Int) ≤ IntKind.i64.wrap (a4 + (1 : Int)) := by first | assumption | omega | (simp_all; done)
    have o5 : IntKind.i64.wrap (a4 + (1 : Int)) ≤ (↑n : Int) ∨ IntKind.i64.wrap (a4 + (1 : Int)) ≤ (0 : Int) := by first | assumption | omega | (simp_all; done)
    have o6 : (↑(PD.mk (g a4.toNat).lo (g a4.toNat).hi :: al3).length : Int) ≤ IntKind.i64.wrap (a4 + (1 : Int)) - (0 : Int) := by first | assumption | omega | (simp only [List.length_append, List.length_cons, List.length_nil, List.length_map]; omega) | (simp_all; done)
    have o7 : ((↑n : Int) - IntKind.i64.wrap (a4 + (1 : Int))).toNat < ((↑n : Int) - a4).toNat := by first | assumption | omega | (simp_all; done)
    exact ⟨[.b true, .app .one false], kmp (by kernel_rfl) (And.intro h1 (And.intro (And.intro o0 o1) (And.intro (And.intro o0 o1) (And.intro (And.intro (show (2 : Nat) = (2 : Nat) by first | decide | exact Int.NonNeg.mk _) (And.intro (show AppMode.one.needs 1 fun (a : Nat) => (Col.ofList [AV.agg [AV.int IntKind.i64 (g a4.toNat).lo, AV.int IntKind.i64 (g a4.toNat).hi]]).get a by first | exact ⟨rfl, rfl⟩ | simp [AppMode.needs]) (And.intro o2 (And.intro (rfl : av3 = av3) (And.intro (show (0 : Nat) = (0 : Nat) by first | decide | exact Int.NonNeg.mk _) o3))))) (L28a.nx n g (k_ := k_) (z_ := (av3, al3, a4)) ((av3 + 1, PD.mk (g a4.toNat).lo (g a4.toNat).hi :: al3, IntKind.i64.wrap (a4 + 1))) (And.intro o4 (And.intro o5 o6)) o7 (by first | (simp only [L28a.N, h1, cond_true, cond_false]; done) | (try unfold L28a.N; try simp only [h1, cond_true, cond_false]; try rfl; done)) PopOk.same)))))⟩
  | false =>
    have h1p := of_decide_eq_false h1
    exact ⟨[.b false], kmp (by kernel_rfl) (And.intro h1 (L28a.en n g (k_ := k_) (z_ := (av3, al3, a4)) (.e0 (av3) (al3) : L28a.O) (by first | (simp only [L28a.N, h1, cond_true, cond_false]; done) | (try unfold L28a.N; try simp only [h1, cond_true, cond_false]; try rfl; done)) PopOk.same))⟩
theorem L28a.e0 (n : Nat) (g : Nat → PD) (hn : n ≤ 30) (av3 : Nat) (al3 : List PD) (a4 : Int) (hinv : L28a.inv n g av3 al3 a4) (a0 : Nat) (a1 : List PD) (hN : L28a.run n g av3 al3 a4 = (.e0 a0 a1 : L28a.O)) : LoopTo Try.prog (loopN Try.f28 0) (L28a.T n g av3 al3 a4) (L28a.H n g av3 al3 a4) (Exit.exit 0) (L28a.X n g (.e0 a0 a1 : L28a.O)) (L28a.XH n g (.e0 a0 a1 : L28a.O)) := by
  have h_ := L28a.spec n g hn ((((↑n : Int) - a4).toNat) + 1) (av3, al3, a4) hinv (Nat.lt_succ_self _)
  unfold L28a.run at hN
  simp only [hN] at h_
  exact h_
theorem L28a.len0_1 (n : Nat) (g : Nat → PD) : ∀ (m_ : Nat) (av3 : Nat) (al3 : List PD) (a4 : Int) (a0_ : Nat) (a1_ : List PD), L28a.N n g m_ av3 al3 a4 = (.e0 a0_ a1_ : L28a.O) → (a1_).length ≤ (al3).length + m_ := by
  intro m_
  induction m_ with
  | zero =>
    intro av3 al3 a4 a0_ a1_ h_
    simp only [L28a.N] at h_
    cases h_
    exact Nat.zero_le _
  | succ m_ ih_ =>
    intro av3 al3 a4 a0_ a1_ h_
    cases h1 : decide (a4 < (↑n : Int)) with
    | true =>
      have h1p := of_decide_eq_true h1
      (simp only [L28a.N, h1, cond_true, cond_false] at h_; first | (have := ih_ _ _ _ _ _ h_; simp only [List.length_append, List.length_cons, List.length_nil] at this; omega) | (cases h_; done) | (cases h_; omega))
    | false =>
      have h1p := of_decide_eq_false h1
      (simp only [L28a.N, h1, cond_true, cond_false] at h_; first | (have := ih_ _ _ _ _ _ h_; simp only [List.length_append, List.length_cons, List.length_nil] at this; omega) | (cases h_; done) | (cases h_; omega))
theorem L28a.lenR0_1 (n : Nat) (g : Nat → PD) {av3 : Nat} {al3 : List PD} {a4 : Int} {a0_ : Nat} {a1_ : List PD} (h_ : L28a.run n g av3 al3 a4 = (.e0 a0_ a1_ : L28a.O)) : (a1_).length ≤ (al3).length + ((((↑n : Int) - a4).toNat) + 1) := L28a.len0_1 n g _ av3 al3 a4 a0_ a1_ h_

noncomputable def r28.v (n : Nat) (g : Nat → PD) : List PD := (match L28a.run n g 0 [] 0 with | .e0 h1d0 h1d1 => h1d1 )
theorem r28_ (n : Nat) (g : Nat → PD) (hn : n ≤ 30) (h : AHeap) : Ret Try.prog 28 ([prs n g]) h (avRecs 2 (List.map PD.av (r28.v n g))) h := by
  have o0 : n ≤ (30 : Nat) := by first | assumption | omega | (simp_all; done)
  have o1 : (0 : Int) ≤ (↑n : Int) ∨ (0 : Int) ≤ (0 : Int) := by first | assumption | omega | (simp_all; done)
  cases h1 : L28a.run n g 0 [] 0 with
  | e0 h1d0 h1d1 =>
    try have := L28a.lenR0_1 _ _ (by assumption); (try simp only [List.length_nil] at this)
    have o2 : (0 : Nat) + (List.map PD.av h1d1).length ≤ (Col.recs (List.map PD.av h1d1)).len := by first | assumption | omega | (simp only [List.length_append, List.length_cons, List.length_nil, List.length_map]; omega) | rfl | (exact Nat.le_refl _) | (simp [Col.len]; done) | (simp_all; done)
    exact Ret.of_run1 mix [(avRecs 2 (List.map PD.av (r28.v n g)))] Try.func28 rfl [.virt [] [(none, 3, 2, Col.recs [])], .loop (others 27 [0, 3, 4]) (Exit.exit 0) (L28a.X n g (L28a.O.e0 h1d0 h1d1)) (L28a.XH n g (L28a.O.e0 h1d0 h1d1))] (by simp) (by simp) (kmp (by kernel_rfl) (And.intro (And.intro (rfl : AV.snil = AV.snil) (And.intro (rfl : (0 : Nat) = 0) trivial)) (And.intro (L28a.e0 (n) (g) o0 (0) ([]) (0) (And.intro (show (0 : Int) ≤ (0 : Int) by first | decide | exact Int.NonNeg.mk _) (And.intro o1 (show (0 : Int) ≤ (0 : Int) by first | decide | exact Int.NonNeg.mk _))) h1d0 h1d1 h1) (And.intro (And.intro (rfl : h1d0 = h1d0) (And.intro (show (2 : Nat) = (2 : Nat) by first | decide | exact Int.NonNeg.mk _) (And.intro o2 (show ((avRecs 2 (List.map PD.av h1d1))) = ((avRecs 2 (List.map PD.av (r28.v n g)))) by first | (simp only [r28.v, h1, cond_true, cond_false]; done) | (try unfold r28.v; try simp only [h1, cond_true, cond_false]; try rfl; done) | rfl)))) trivial)))) h
theorem r28 (n : Nat) (g : Nat → PD) (hn : n ≤ 30) (h : AHeap) : Ret Try.prog 28 ([prs n g]) h (recL 2 PD.av (r28.v n g)) h := (r28_ n g hn h).out imp_recL

end Go.Proofs.Ytjdakdjgkpfjkaa
