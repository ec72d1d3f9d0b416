/- Contracts of the functions and plain laws, part 3. Conditions: none. -/
import Derived.Test.Ytjdbmmilcihpoaa82

open Go
namespace Go.Proofs.Ytjdbmmilcihpoaa
set_option linter.unusedSimpArgs false
set_option linter.unusedVariables false
set_option maxHeartbeats 0
set_option maxRecDepth 100000
theorem bd_crs {L : Nat → List SD} {b : Int} {k : Nat} (h : b < ((L k).length : Int)) (hl : ∀ k, (L k).length ≤ 10000) : b < 10000 := by have := hl k; omega
theorem last_lo {L : Nat → List SD} {k : Nat} (hl : ∀ k, (L k).length ≤ 10000) {N : Nat} (hne : ∀ k, k < N → 0 < (L k).length) (hk : k < N) : 0 ≤ IntKind.i64.wrap (((L k).length : Int) - 1) := by
  have := hl k; have := hne k hk
  rw [IntWalk.i64_in _ (by omega)]; omega
theorem last_hi {L : Nat → List SD} {k : Nat} (hl : ∀ k, (L k).length ≤ 10000) {N : Nat} (hne : ∀ k, k < N → 0 < (L k).length) (hk : k < N) : IntKind.i64.wrap (((L k).length : Int) - 1) < ((L k).length : Int) := by
  have := hl k; have := hne k hk
  rw [IntWalk.i64_in _ (by omega)]; omega
theorem len_pos {L : Nat → List SD} {k : Nat} {N : Nat} (hne : ∀ k, k < N → 0 < (L k).length) (hk : k < N) : (0 : Int) < ((L k).length : Int) := by have := hne k hk; omega
inductive L57ab.O where
  | e0
  | e1
noncomputable def L57ab.T (N : Nat) (L : Nat → List SD) (a8 : Int) (b5 : Int) : List AV := mkT 32 [(4, AV.sl 14 (L a8.toNat).length fun (q : Nat) => (SD.av ((L a8.toNat).getD q default))), (5, AV.int IntKind.i64 b5), (6, AV.sl 1 N fun (j : Nat) => AV.sl 14 (L j).length fun (q : Nat) => (SD.av ((L j).getD q default))), (7, AV.int IntKind.i64 (↑N : Int)), (8, AV.int IntKind.i64 a8)]
noncomputable def L57ab.H (N : Nat) (L : Nat → List SD) (a8 : Int) (b5 : Int) : AHeap := []
def L57ab.inv (N : Nat) (L : Nat → List SD) (a8 : Int) (b5 : Int) : Prop := 1 ≤ b5 ∧ (b5 ≤ (↑(L a8.toNat).length : Int) ∨ b5 ≤ 1)
noncomputable def L57ab.mu (N : Nat) (L : Nat → List SD) (a8 : Int) (b5 : Int) : Nat := ((↑(L a8.toNat).length : Int) - b5).toNat
noncomputable def L57ab.E : L57ab.O → Exit
  | .e0 => Exit.ret
  | .e1 => Exit.exit 2
noncomputable def L57ab.X (N : Nat) (L : Nat → List SD) (a8 : Int) : L57ab.O → List AV
  | .e0 => mkT 32 [(2, (AV.bool true))]
  | .e1 => mkT 32 [(6, (AV.sl 1 N fun (j : Nat) => AV.sl 14 (L j).length fun (q : Nat) => (SD.av ((L j).getD q default)))), (7, (AV.int IntKind.i64 (↑N : Int))), (8, (AV.int IntKind.i64 a8))]
noncomputable def L57ab.XH (N : Nat) (L : Nat → List SD) (a8 : Int) : L57ab.O → AHeap
  | .e0 => ([])
  | .e1 => ([])
noncomputable def L57ab.N (L : Nat → List SD) (a8 : Int) : Nat → Int → L57ab.O
  | 0, _ => .e0
  | k_ + 1, b5 => (bif decide (b5 < (↑(L a8.toNat).length : Int)) then (bif decide (((L a8.toNat).getD b5.toNat default).ax < r61.v ((L a8.toNat).getD (IntKind.i64.wrap (b5 - 1)).toNat default)) then (.e0) else (L57ab.N L a8 k_ (IntKind.i64.wrap (b5 + 1)))) else (.e1))
noncomputable def L57ab.run (L : Nat → List SD) (a8 : Int) (b5 : Int) : L57ab.O := L57ab.N L a8 ((((↑(L a8.toNat).length : Int) - b5).toNat) + 1) b5
theorem L57ab.nx (N : Nat) (L : Nat → List SD) (a8 : Int) {k_ : Nat} {z_ : Int} {h_ : AHeap} (s_ : Int) (h1 : L57ab.inv N L a8 s_) (h2 : L57ab.mu N L a8 s_ < L57ab.mu N L a8 z_) (h3 : L57ab.N L a8 k_ s_ = L57ab.N L a8 (k_ + 1) z_) (h4 : PopOk (L57ab.H N L a8 z_) h_ (L57ab.T N L a8 s_) (L57ab.H N L a8 s_)) : LNextP (fun (z_ : Int) => L57ab.T N L a8 z_) (fun (z_ : Int) => L57ab.H N L a8 z_) (fun (z_ : Int) => L57ab.inv N L a8 z_) (fun (z_ : Int) => L57ab.mu N L a8 z_) (fun (k_ : Nat) (z_ : Int) => L57ab.N L a8 k_ z_) k_ z_ (L57ab.T N L a8 s_) h_ := LNextP.mk (Tm := (fun (z_ : Int) => L57ab.T N L a8 z_)) (Hp := (fun (z_ : Int) => L57ab.H N L a8 z_)) (inv := (fun (z_ : Int) => L57ab.inv N L a8 z_)) (mu := (fun (z_ : Int) => L57ab.mu N L a8 z_)) (l := (fun (k_ : Nat) (z_ : Int) => L57ab.N L a8 k_ z_)) s_ h1 h2 h3 h4
theorem L57ab.en (N : Nat) (L : Nat → List SD) (a8 : Int) {k_ : Nat} {z_ : Int} {h_ : AHeap} (o_ : L57ab.O) (h3 : L57ab.N L a8 (k_ + 1) z_ = o_) (h4 : PopOk (L57ab.H N L a8 z_) h_ (L57ab.X N L a8 o_) (L57ab.XH N L a8 o_)) : LEndP (fun (z_ : Int) => L57ab.H N L a8 z_) (fun (k_ : Nat) (z_ : Int) => L57ab.N L a8 k_ z_) L57ab.E (L57ab.X N L a8) (L57ab.XH N L a8) k_ z_ (L57ab.E o_) (L57ab.X N L a8 o_) h_ := LEndP.mk (Hp := (fun (z_ : Int) => L57ab.H N L a8 z_)) (l := (fun (k_ : Nat) (z_ : Int) => L57ab.N L a8 k_ z_)) (oE := L57ab.E) (oT := L57ab.X N L a8) (oH := L57ab.XH N L a8) o_ h3 h4
theorem L57ab.spec (N : Nat) (hb : N ≤ 1000) (L : Nat → List SD) (hl : ∀ (k : Nat), (L k).length ≤ 10000) (a8 : Int) (i57a_0 : 0 ≤ a8) (i57a_1 : a8 ≤ (↑N : Int) ∨ a8 ≤ 0) (k1_1 : decide (a8 < (↑N : Int)) = true) (p1_1 : a8 < (↑N : Int)) (k_ : Nat) (z_ : Int) (hi_ : L57ab.inv N L a8 z_) (hm_ : L57ab.mu N L a8 z_ < k_) : LoopTo Try.prog (loopN Try.f57 1) (L57ab.T N L a8 z_) (L57ab.H N L a8 z_) (L57ab.E (L57ab.N L a8 k_ z_)) (L57ab.X N L a8 (L57ab.N L a8 k_ z_)) (L57ab.XH N L a8 (L57ab.N L a8 k_ z_)) := by
  refine LoopTo.fuelP mix (fun (z_ : Int) => L57ab.T N L a8 z_) (fun (z_ : Int) => L57ab.H N L a8 z_) (fun (z_ : Int) => L57ab.inv N L a8 z_) (fun (z_ : Int) => L57ab.mu N L a8 z_) (fun (k_ : Nat) (z_ : Int) => L57ab.N L a8 k_ z_) L57ab.E (L57ab.X N L a8) (L57ab.XH N L a8) (others 32 [4, 5, 6, 7, 8]) (others 32 [2]) (others 32 [6, 7, 8]) ?_ k_ z_ hi_ hm_
  clear hm_ hi_ z_ k_
  intro k_ z_ hinv hmu
  revert hinv hmu; revert z_; intro b5 hinv hmu
  have hinv : 1 ≤ b5 ∧ (b5 ≤ (↑(L a8.toNat).length : Int) ∨ b5 ≤ 1) := hinv
  have hmu : (((↑(L a8.toNat).length : Int) - b5).toNat) < k_ + 1 := hmu
  cases h1 : decide (b5 < (↑(L a8.toNat).length : Int)) with
  | true =>
    have h1p := of_decide_eq_true h1
    try have := bd_crs (by assumption) (by assumption)
    have o0 : (0 : Int) ≤ b5 := by omega
    have o1 : b5 < (↑(L a8.toNat).length : Int) := by assumption
    try have := IntWalk.i64_in (b5 - 1) (by omega)
    have o2 : (0 : Int) ≤ IntKind.i64.wrap (b5 - (1 : Int)) := by omega
    have o3 : IntKind.i64.wrap (b5 - (1 : Int)) < (↑(L a8.toNat).length : Int) := by omega
    cases h2 : decide (((L a8.toNat).getD b5.toNat default).ax < r61.v ((L a8.toNat).getD (IntKind.i64.wrap (b5 - 1)).toNat default)) with
    | true =>
      have h2p := of_decide_eq_true h2
      exact ⟨[.b true, .ret (AV.int IntKind.i64 (r61.v ((L a8.toNat).getD (IntKind.i64.wrap (b5 - 1)).toNat default))) ([]), .b true], kmp (by kernel_rfl) (And.intro h1 (And.intro (And.intro o0 o1) (And.intro (And.intro o2 o3) (And.intro (r61 ((L a8.toNat).getD (IntKind.i64.wrap (b5 - 1)).toNat default) ([])) (And.intro h2 (L57ab.en N L a8 (k_ := k_) (z_ := b5) (.e0 : L57ab.O) (by simp only [L57ab.N, h1, h2, cond_true, cond_false]) PopOk.same))))))⟩
    | false =>
      have h2p := of_decide_eq_false h2
      try have := bd_crs (by assumption) (by assumption)
      try have := IntWalk.i64_in (b5 + 1) (by omega)
      have o4 : (1 : Int) ≤ IntKind.i64.wrap (b5 + (1 : Int)) := by omega
      have o5 : IntKind.i64.wrap (b5 + (1 : Int)) ≤ (↑(L a8.toNat).length : Int) ∨ IntKind.i64.wrap (b5 + (1 : Int)) ≤ (1 : Int) := by omega
      have o6 : ((↑(L a8.toNat).length : Int) - IntKind.i64.wrap (b5 + (1 : Int))).toNat < ((↑(L a8.toNat).length : Int) - b5).toNat := by omega
      exact ⟨[.b true, .ret (AV.int IntKind.i64 (r61.v ((L a8.toNat).getD (IntKind.i64.wrap (b5 - 1)).toNat default))) ([]), .b false], kmp (by kernel_rfl) (And.intro h1 (And.intro (And.intro o0 o1) (And.intro (And.intro o2 o3) (And.intro (r61 ((L a8.toNat).getD (IntKind.i64.wrap (b5 - 1)).toNat default) ([])) (And.intro h2 (L57ab.nx N L a8 (k_ := k_) (z_ := b5) (IntKind.i64.wrap (b5 + 1)) (And.intro o4 o5) o6 (by simp only [L57ab.N, h1, h2, cond_true, cond_false]) PopOk.same))))))⟩
  | false =>
    have h1p := of_decide_eq_false h1
    exact ⟨[.b false], kmp (by kernel_rfl) (And.intro h1 (L57ab.en N L a8 (k_ := k_) (z_ := b5) (.e1 : L57ab.O) (by simp only [L57ab.N, h1, cond_true, cond_false]) PopOk.same))⟩
theorem L57ab.e0 (N : Nat) (hb : N ≤ 1000) (L : Nat → List SD) (hl : ∀ (k : Nat), (L k).length ≤ 10000) (a8 : Int) (i57a_0 : 0 ≤ a8) (i57a_1 : a8 ≤ (↑N : Int) ∨ a8 ≤ 0) (k1_1 : decide (a8 < (↑N : Int)) = true) (p1_1 : a8 < (↑N : Int)) (b5 : Int) (hinv : L57ab.inv N L a8 b5) (hN : L57ab.run L a8 b5 = (.e0 : L57ab.O)) : LoopTo Try.prog (loopN Try.f57 1) (L57ab.T N L a8 b5) (L57ab.H N L a8 b5) (Exit.ret) (L57ab.X N L a8 (.e0 : L57ab.O)) (L57ab.XH N L a8 (.e0 : L57ab.O)) := by
  have h_ := L57ab.spec N hb L hl a8 i57a_0 i57a_1 k1_1 p1_1 ((((↑(L a8.toNat).length : Int) - b5).toNat) + 1) b5 hinv (Nat.lt_succ_self _)
  unfold L57ab.run at hN
  simp only [hN] at h_
  exact h_
theorem L57ab.e1 (N : Nat) (hb : N ≤ 1000) (L : Nat → List SD) (hl : ∀ (k : Nat), (L k).length ≤ 10000) (a8 : Int) (i57a_0 : 0 ≤ a8) (i57a_1 : a8 ≤ (↑N : Int) ∨ a8 ≤ 0) (k1_1 : decide (a8 < (↑N : Int)) = true) (p1_1 : a8 < (↑N : Int)) (b5 : Int) (hinv : L57ab.inv N L a8 b5) (hN : L57ab.run L a8 b5 = (.e1 : L57ab.O)) : LoopTo Try.prog (loopN Try.f57 1) (L57ab.T N L a8 b5) (L57ab.H N L a8 b5) (Exit.exit 2) (L57ab.X N L a8 (.e1 : L57ab.O)) (L57ab.XH N L a8 (.e1 : L57ab.O)) := by
  have h_ := L57ab.spec N hb L hl a8 i57a_0 i57a_1 k1_1 p1_1 ((((↑(L a8.toNat).length : Int) - b5).toNat) + 1) b5 hinv (Nat.lt_succ_self _)
  unfold L57ab.run at hN
  simp only [hN] at h_
  exact h_
inductive L57a.O where
  | e0
  | e1
noncomputable def L57a.T (N : Nat) (L : Nat → List SD) (a8 : Int) : List AV := mkT 32 [(6, AV.sl 1 N fun (j : Nat) => AV.sl 14 (L j).length fun (q : Nat) => (SD.av ((L j).getD q default))), (7, AV.int IntKind.i64 (↑N : Int)), (8, AV.int IntKind.i64 a8)]
noncomputable def L57a.H (N : Nat) (L : Nat → List SD) (a8 : Int) : AHeap := []
def L57a.inv (N : Nat) (L : Nat → List SD) (a8 : Int) : Prop := 0 ≤ a8 ∧ (a8 ≤ (↑N : Int) ∨ a8 ≤ 0)
noncomputable def L57a.mu (N : Nat) (L : Nat → List SD) (a8 : Int) : Nat := ((↑N : Int) - a8).toNat
noncomputable def L57a.E : L57a.O → Exit
  | .e0 => Exit.ret
  | .e1 => Exit.exit 0
noncomputable def L57a.X (N : Nat) (L : Nat → List SD) : L57a.O → List AV
  | .e0 => mkT 32 [(2, (AV.bool true))]
  | .e1 => mkT 32 []
noncomputable def L57a.XH (N : Nat) (L : Nat → List SD) : L57a.O → AHeap
  | .e0 => ([])
  | .e1 => ([])
noncomputable def L57a.N (N : Nat) (L : Nat → List SD) : Nat → Int → L57a.O
  | 0, _ => .e0
  | k_ + 1, a8 => (bif decide (a8 < (↑N : Int)) then (match L57ab.run L a8 1 with | .e0 => (.e0) | .e1 => (L57a.N N L k_ (IntKind.i64.wrap (a8 + 1))) ) else (.e1))
noncomputable def L57a.run (N : Nat) (L : Nat → List SD) (a8 : Int) : L57a.O := L57a.N N L ((((↑N : Int) - a8).toNat) + 1) a8
theorem L57a.nx (N : Nat) (L : Nat → List SD) {k_ : Nat} {z_ : Int} {h_ : AHeap} (s_ : Int) (h1 : L57a.inv N L s_) (h2 : L57a.mu N L s_ < L57a.mu N L z_) (h3 : L57a.N N L k_ s_ = L57a.N N L (k_ + 1) z_) (h4 : PopOk (L57a.H N L z_) h_ (L57a.T N L s_) (L57a.H N L s_)) : LNextP (fun (z_ : Int) => L57a.T N L z_) (fun (z_ : Int) => L57a.H N L z_) (fun (z_ : Int) => L57a.inv N L z_) (fun (z_ : Int) => L57a.mu N L z_) (fun (k_ : Nat) (z_ : Int) => L57a.N N L k_ z_) k_ z_ (L57a.T N L s_) h_ := LNextP.mk (Tm := (fun (z_ : Int) => L57a.T N L z_)) (Hp := (fun (z_ : Int) => L57a.H N L z_)) (inv := (fun (z_ : Int) => L57a.inv N L z_)) (mu := (fun (z_ : Int) => L57a.mu N L z_)) (l := (fun (k_ : Nat) (z_ : Int) => L57a.N N L k_ z_)) s_ h1 h2 h3 h4
theorem L57a.en (N : Nat) (L : Nat → List SD) {k_ : Nat} {z_ : Int} {h_ : AHeap} (o_ : L57a.O) (h3 : L57a.N N L (k_ + 1) z_ = o_) (h4 : PopOk (L57a.H N L z_) h_ (L57a.X N L o_) (L57a.XH N L o_)) : LEndP (fun (z_ : Int) => L57a.H N L z_) (fun (k_ : Nat) (z_ : Int) => L57a.N N L k_ z_) L57a.E (L57a.X N L) (L57a.XH N L) k_ z_ (L57a.E o_) (L57a.X N L o_) h_ := LEndP.mk (Hp := (fun (z_ : Int) => L57a.H N L z_)) (l := (fun (k_ : Nat) (z_ : Int) => L57a.N N L k_ z_)) (oE := L57a.E) (oT := L57a.X N L) (oH := L57a.XH N L) o_ h3 h4
theorem L57a.spec (N : Nat) (hb : N ≤ 1000) (L : Nat → List SD) (hl : ∀ (k : Nat), (L k).length ≤ 10000) (k_ : Nat) (z_ : Int) (hi_ : L57a.inv N L z_) (hm_ : L57a.mu N L z_ < k_) : LoopTo Try.prog (loopN Try.f57 0) (L57a.T N L z_) (L57a.H N L z_) (L57a.E (L57a.N N L k_ z_)) (L57a.X N L (L57a.N N L k_ z_)) (L57a.XH N L (L57a.N N L k_ z_)) := by
  refine LoopTo.fuelP mix (fun (z_ : Int) => L57a.T N L z_) (fun (z_ : Int) => L57a.H N L z_) (fun (z_ : Int) => L57a.inv N L z_) (fun (z_ : Int) => L57a.mu N L z_) (fun (k_ : Nat) (z_ : Int) => L57a.N N L k_ z_) L57a.E (L57a.X N L) (L57a.XH N L) (others 32 [6, 7, 8]) (others 32 [2]) (others 32 []) ?_ k_ z_ hi_ hm_
  clear hm_ hi_ z_ k_
  intro k_ z_ hinv hmu
  revert hinv hmu; revert z_; intro a8 hinv hmu
  have hinv : 0 ≤ a8 ∧ (a8 ≤ (↑N : Int) ∨ a8 ≤ 0) := hinv
  have hmu : (((↑N : Int) - a8).toNat) < k_ + 1 := hmu
  cases h1 : decide (a8 < (↑N : Int)) with
  | true =>
    have h1p := of_decide_eq_true h1
    try have := bd_crs (by first | assumption | omega) (by first | assumption | omega)
    have o0 : (0 : Int) ≤ a8 := by omega
    have o1 : a8 < (↑N : Int) := by assumption
    have o2 : N ≤ (1000 : Nat) := by assumption
    have o3 : ∀ (k : Nat), (L k).length ≤ (10000 : Nat) := by assumption
    have o4 : a8 ≤ (↑N : Int) ∨ a8 ≤ (0 : Int) := by omega
    have o5 : decide (a8 < (↑N : Int)) = true := by assumption
    have o6 : (1 : Int) ≤ (↑(L a8.toNat).length : Int) ∨ (1 : Int) ≤ (1 : Int) := by omega
    cases h2 : L57ab.run L a8 1 with
    | e0 =>
      exact ⟨[.b true, .loop (others 32 [4, 5, 6, 7, 8]) (Exit.ret) (L57ab.X N L a8 L57ab.O.e0) (L57ab.XH N L a8 L57ab.O.e0)], kmp (by kernel_rfl) (And.intro h1 (And.intro (And.intro o0 o1) (And.intro (L57ab.e0 (N) o2 (L) o3 (a8) o0 o4 o5 o1 (1) (And.intro (show (1 : Int) ≤ (1 : Int) by decide) o6) h2) (L57a.en N L (k_ := k_) (z_ := a8) (.e0 : L57a.O) (by simp only [L57a.N, h1, h2, cond_true, cond_false]) PopOk.same))))⟩
    | e1 =>
      try have := bd_crs (by first | assumption | omega) (by first | assumption | omega)
      try have := IntWalk.i64_in (a8 + 1) (by omega)
      have o7 : (0 : Int) ≤ IntKind.i64.wrap (a8 + (1 : Int)) := by omega
      have o8 : IntKind.i64.wrap (a8 + (1 : Int)) ≤ (↑N : Int) ∨ IntKind.i64.wrap (a8 + (1 : Int)) ≤ (0 : Int) := by omega
      have o9 : ((↑N : Int) - IntKind.i64.wrap (a8 + (1 : Int))).toNat < ((↑N : Int) - a8).toNat := by omega
      exact ⟨[.b true, .loop (others 32 [4, 5, 6, 7, 8]) (Exit.exit 2) (L57ab.X N L a8 L57ab.O.e1) (L57ab.XH N L a8 L57ab.O.e1)], kmp (by kernel_rfl) (And.intro h1 (And.intro (And.intro o0 o1) (And.intro (L57ab.e1 (N) o2 (L) o3 (a8) o0 o4 o5 o1 (1) (And.intro (show (1 : Int) ≤ (1 : Int) by decide) o6) h2) (L57a.nx N L (k_ := k_) (z_ := a8) (IntKind.i64.wrap (a8 + 1)) (And.intro o7 o8) o9 (by simp only [L57a.N, h1, h2, cond_true, cond_false]) PopOk.same))))⟩
  | false =>
    have h1p := of_decide_eq_false h1
    exact ⟨[.b false], kmp (by kernel_rfl) (And.intro h1 (L57a.en N L (k_ := k_) (z_ := a8) (.e1 : L57a.O) (by simp only [L57a.N, h1, cond_true, cond_false]) PopOk.same))⟩
theorem L57a.e0 (N : Nat) (hb : N ≤ 1000) (L : Nat → List SD) (hl : ∀ (k : Nat), (L k).length ≤ 10000) (a8 : Int) (hinv : L57a.inv N L a8) (hN : L57a.run N L a8 = (.e0 : L57a.O)) : LoopTo Try.prog (loopN Try.f57 0) (L57a.T N L a8) (L57a.H N L a8) (Exit.ret) (L57a.X N L (.e0 : L57a.O)) (L57a.XH N L (.e0 : L57a.O)) := by
  have h_ := L57a.spec N hb L hl ((((↑N : Int) - a8).toNat) + 1) a8 hinv (Nat.lt_succ_self _)
  unfold L57a.run at hN
  simp only [hN] at h_
  exact h_
theorem L57a.e1 (N : Nat) (hb : N ≤ 1000) (L : Nat → List SD) (hl : ∀ (k : Nat), (L k).length ≤ 10000) (a8 : Int) (hinv : L57a.inv N L a8) (hN : L57a.run N L a8 = (.e1 : L57a.O)) : LoopTo Try.prog (loopN Try.f57 0) (L57a.T N L a8) (L57a.H N L a8) (Exit.exit 0) (L57a.X N L (.e1 : L57a.O)) (L57a.XH N L (.e1 : L57a.O)) := by
  have h_ := L57a.spec N hb L hl ((((↑N : Int) - a8).toNat) + 1) a8 hinv (Nat.lt_succ_self _)
  unfold L57a.run at hN
  simp only [hN] at h_
  exact h_
noncomputable def r57.v (N : Nat) (L : Nat → List SD) : Bool := (match L57a.run N L 0 with | .e0 => true | .e1 => false )
theorem r57 (N : Nat) (hb : N ≤ 1000) (L : Nat → List SD) (hl : ∀ (k : Nat), (L k).length ≤ 10000) (h : AHeap) : Ret Try.prog 57 ([nsts N L]) h (AV.bool (r57.v N L)) h := by
  try have := bd_crs (by first | assumption | omega) (by first | assumption | omega)
  have o0 : N ≤ (1000 : Nat) := by assumption
  have o1 : ∀ (k : Nat), (L k).length ≤ (10000 : Nat) := by assumption
  have o2 : (0 : Int) ≤ (↑N : Int) ∨ (0 : Int) ≤ (0 : Int) := by omega
  cases h1 : L57a.run N L 0 with
  | e0 =>
    exact Ret.of_run1 mix [(AV.bool (r57.v N L))] Try.func57 rfl [.loop (others 32 [6, 7, 8]) (Exit.ret) (L57a.X N L L57a.O.e0) (L57a.XH N L L57a.O.e0)] (by simp) (by simp) (kmp (by kernel_rfl) (And.intro (L57a.e0 (N) o0 (L) o1 (0) (And.intro (show (0 : Int) ≤ (0 : Int) by decide) o2) h1) (And.intro (show (AV.bool true) = ((AV.bool (r57.v N L))) by simp only [r57.v, h1, cond_true, cond_false]) trivial))) h
  | e1 =>
    exact Ret.of_run1 mix [(AV.bool (r57.v N L))] Try.func57 rfl [.loop (others 32 [6, 7, 8]) (Exit.exit 0) (L57a.X N L L57a.O.e1) (L57a.XH N L L57a.O.e1)] (by simp) (by simp) (kmp (by kernel_rfl) (And.intro (L57a.e1 (N) o0 (L) o1 (0) (And.intro (show (0 : Int) ≤ (0 : Int) by decide) o2) h1) (And.intro (show (AV.bool false) = ((AV.bool (r57.v N L))) by simp only [r57.v, h1, cond_true, cond_false]) trivial))) h
inductive L58ab.O where
  | e0
  | e1
noncomputable def L58ab.T (w : WD) (N : Nat) (L : Nat → List SD) (a10 : Int) (b7 : Int) : List AV := mkT 60 [(2, AV.ptr 0 1 6 0 0), (6, AV.sl 14 (L a10.toNat).length fun (q : Nat) => (SD.av ((L a10.toNat).getD q default))), (7, AV.int IntKind.i64 b7), (8, AV.sl 1 N fun (j : Nat) => AV.sl 14 (L j).length fun (q : Nat) => (SD.av ((L j).getD q default))), (9, AV.int IntKind.i64 (↑N : Int)), (10, AV.int IntKind.i64 a10)]
noncomputable def L58ab.H (w : WD) (N : Nat) (L : Nat → List SD) (a10 : Int) (b7 : Int) : AHeap := [AObj.var (WD.av w)]
def L58ab.inv (w : WD) (N : Nat) (L : Nat → List SD) (a10 : Int) (b7 : Int) : Prop := 1 ≤ b7 ∧ (b7 ≤ (↑(L a10.toNat).length : Int) ∨ b7 ≤ 1)
noncomputable def L58ab.mu (w : WD) (N : Nat) (L : Nat → List SD) (a10 : Int) (b7 : Int) : Nat := ((↑(L a10.toNat).length : Int) - b7).toNat
noncomputable def L58ab.E : L58ab.O → Exit
  | .e0 => Exit.ret
  | .e1 => Exit.exit 2
noncomputable def L58ab.X (w : WD) (N : Nat) (L : Nat → List SD) (a10 : Int) : L58ab.O → List AV
  | .e0 => mkT 60 [(4, (AV.bool false))]
  | .e1 => mkT 60 [(2, (AV.ptr 0 1 6 0 0)), (8, (AV.sl 1 N fun (j : Nat) => AV.sl 14 (L j).length fun (q : Nat) => (SD.av ((L j).getD q default)))), (9, (AV.int IntKind.i64 (↑N : Int))), (10, (AV.int IntKind.i64 a10))]
noncomputable def L58ab.XH (w : WD) (N : Nat) (L : Nat → List SD) (a10 : Int) : L58ab.O → AHeap
  | .e0 => ([AObj.var (WD.av w)])
  | .e1 => ([AObj.var (WD.av w)])
noncomputable def L58ab.N (w : WD) (L : Nat → List SD) (a10 : Int) : Nat → Int → L58ab.O
  | 0, _ => .e0
  | k_ + 1, b7 => (bif decide (b7 < (↑(L a10.toNat).length : Int)) then (bif r51.v (IntKind.i64.wrap (((L a10.toNat).getD b7.toNat default).ax - r61.v ((L a10.toNat).getD (IntKind.i64.wrap (b7 - 1)).toNat default))) w.jl w.jh then (L58ab.N w L a10 k_ (IntKind.i64.wrap (b7 + 1))) else (.e0)) else (.e1))
noncomputable def L58ab.run (w : WD) (L : Nat → List SD) (a10 : Int) (b7 : Int) : L58ab.O := L58ab.N w L a10 ((((↑(L a10.toNat).length : Int) - b7).toNat) + 1) b7
theorem L58ab.nx (w : WD) (N : Nat) (L : Nat → List SD) (a10 : Int) {k_ : Nat} {z_ : Int} {h_ : AHeap} (s_ : Int) (h1 : L58ab.inv w N L a10 s_) (h2 : L58ab.mu w N L a10 s_ < L58ab.mu w N L a10 z_) (h3 : L58ab.N w L a10 k_ s_ = L58ab.N w L a10 (k_ + 1) z_) (h4 : PopOk (L58ab.H w N L a10 z_) h_ (L58ab.T w N L a10 s_) (L58ab.H w N L a10 s_)) : LNextP (fun (z_ : Int) => L58ab.T w N L a10 z_) (fun (z_ : Int) => L58ab.H w N L a10 z_) (fun (z_ : Int) => L58ab.inv w N L a10 z_) (fun (z_ : Int) => L58ab.mu w N L a10 z_) (fun (k_ : Nat) (z_ : Int) => L58ab.N w L a10 k_ z_) k_ z_ (L58ab.T w N L a10 s_) h_ := LNextP.mk (Tm := (fun (z_ : Int) => L58ab.T w N L a10 z_)) (Hp := (fun (z_ : Int) => L58ab.H w N L a10 z_)) (inv := (fun (z_ : Int) => L58ab.inv w N L a10 z_)) (mu := (fun (z_ : Int) => L58ab.mu w N L a10 z_)) (l := (fun (k_ : Nat) (z_ : Int) => L58ab.N w L a10 k_ z_)) s_ h1 h2 h3 h4
theorem L58ab.en (w : WD) (N : Nat) (L : Nat → List SD) (a10 : Int) {k_ : Nat} {z_ : Int} {h_ : AHeap} (o_ : L58ab.O) (h3 : L58ab.N w L a10 (k_ + 1) z_ = o_) (h4 : PopOk (L58ab.H w N L a10 z_) h_ (L58ab.X w N L a10 o_) (L58ab.XH w N L a10 o_)) : LEndP (fun (z_ : Int) => L58ab.H w N L a10 z_) (fun (k_ : Nat) (z_ : Int) => L58ab.N w L a10 k_ z_) L58ab.E (L58ab.X w N L a10) (L58ab.XH w N L a10) k_ z_ (L58ab.E o_) (L58ab.X w N L a10 o_) h_ := LEndP.mk (Hp := (fun (z_ : Int) => L58ab.H w N L a10 z_)) (l := (fun (k_ : Nat) (z_ : Int) => L58ab.N w L a10 k_ z_)) (oE := L58ab.E) (oT := L58ab.X w N L a10) (oH := L58ab.XH w N L a10) o_ h3 h4
noncomputable abbrev L58ab.h0 (w : WD) (N : Nat) (L : Nat → List SD) (a10 : Int) (b7 : Int) : AHeap := ([AObj.var (WD.av w)])
theorem L58ab.spec (w : WD) (N : Nat) (hb : N ≤ 1000) (L : Nat → List SD) (hl : ∀ (k : Nat), (L k).length ≤ 10000) (hne : ∀ (k : Nat), k < N → 0 < (L k).length) (a10 : Int) (i58a_0 : 0 ≤ a10) (i58a_1 : a10 ≤ (↑N : Int) ∨ a10 ≤ 0) (k1_1 : decide (a10 < (↑N : Int)) = true) (p1_1 : a10 < (↑N : Int)) (k1_2 : (((L a10.toNat).getD 0 default).ax == 0) = true) (p1_2 : ((L a10.toNat).getD 0 default).ax = 0) (k1_3 : (r61.v ((L a10.toNat).getD (IntKind.i64.wrap ((↑(L a10.toNat).length : Int) - 1)).toNat default) == w.len) = true) (p1_3 : r61.v ((L a10.toNat).getD (IntKind.i64.wrap ((↑(L a10.toNat).length : Int) - 1)).toNat default) = w.len) (k_ : Nat) (z_ : Int) (hi_ : L58ab.inv w N L a10 z_) (hm_ : L58ab.mu w N L a10 z_ < k_) : LoopTo Try.prog (loopN Try.f58 1) (L58ab.T w N L a10 z_) (L58ab.H w N L a10 z_) (L58ab.E (L58ab.N w L a10 k_ z_)) (L58ab.X w N L a10 (L58ab.N w L a10 k_ z_)) (L58ab.XH w N L a10 (L58ab.N w L a10 k_ z_)) := by
  refine LoopTo.fuelP mix (fun (z_ : Int) => L58ab.T w N L a10 z_) (fun (z_ : Int) => L58ab.H w N L a10 z_) (fun (z_ : Int) => L58ab.inv w N L a10 z_) (fun (z_ : Int) => L58ab.mu w N L a10 z_) (fun (k_ : Nat) (z_ : Int) => L58ab.N w L a10 k_ z_) L58ab.E (L58ab.X w N L a10) (L58ab.XH w N L a10) (others 60 [2, 6, 7, 8, 9, 10]) (others 60 [4]) (others 60 [2, 8, 9, 10]) ?_ k_ z_ hi_ hm_
  clear hm_ hi_ z_ k_
  intro k_ z_ hinv hmu
  revert hinv hmu; revert z_; intro b7 hinv hmu
  have hinv : 1 ≤ b7 ∧ (b7 ≤ (↑(L a10.toNat).length : Int) ∨ b7 ≤ 1) := hinv
  have hmu : (((↑(L a10.toNat).length : Int) - b7).toNat) < k_ + 1 := hmu
  cases h1 : decide (b7 < (↑(L a10.toNat).length : Int)) with
  | true =>
    have h1p := of_decide_eq_true h1
    try have := bd_crs (by assumption) (by assumption)
    have o0 : (0 : Int) ≤ b7 := by omega
    have o1 : b7 < (↑(L a10.toNat).length : Int) := by assumption
    try have := IntWalk.i64_in (b7 - 1) (by omega)
    have o2 : (0 : Int) ≤ IntKind.i64.wrap (b7 - (1 : Int)) := by omega
    have o3 : IntKind.i64.wrap (b7 - (1 : Int)) < (↑(L a10.toNat).length : Int) := by omega
    cases h2 : r51.v (IntKind.i64.wrap (((L a10.toNat).getD b7.toNat default).ax - r61.v ((L a10.toNat).getD (IntKind.i64.wrap (b7 - 1)).toNat default))) w.jl w.jh with
    | true =>
      try have := bd_crs (by assumption) (by assumption)
      try have := IntWalk.i64_in (b7 + 1) (by omega)
      have o4 : (1 : Int) ≤ IntKind.i64.wrap (b7 + (1 : Int)) := by omega
      have o5 : IntKind.i64.wrap (b7 + (1 : Int)) ≤ (↑(L a10.toNat).length : Int) ∨ IntKind.i64.wrap (b7 + (1 : Int)) ≤ (1 : Int) := by omega
      have o6 : ((↑(L a10.toNat).length : Int) - IntKind.i64.wrap (b7 + (1 : Int))).toNat < ((↑(L a10.toNat).length : Int) - b7).toNat := by omega
      exact ⟨[.b true, .ret (AV.int IntKind.i64 (r61.v ((L a10.toNat).getD (IntKind.i64.wrap (b7 - 1)).toNat default))) (L58ab.h0 w N L a10 b7), .ret (AV.bool (r51.v (IntKind.i64.wrap (((L a10.toNat).getD b7.toNat default).ax - r61.v ((L a10.toNat).getD (IntKind.i64.wrap (b7 - 1)).toNat default))) w.jl w.jh)) (L58ab.h0 w N L a10 b7), .b false], kmp (by kernel_rfl) (And.intro h1 (And.intro (And.intro o0 o1) (And.intro (And.intro o2 o3) (And.intro (r61 ((L a10.toNat).getD (IntKind.i64.wrap (b7 - 1)).toNat default) (L58ab.h0 w N L a10 b7)) (And.intro (r51 (IntKind.i64.wrap (((L a10.toNat).getD b7.toNat default).ax - r61.v ((L a10.toNat).getD (IntKind.i64.wrap (b7 - 1)).toNat default))) (w.jl) (w.jh) (L58ab.h0 w N L a10 b7)) (And.intro (show (bnot (r51.v (IntKind.i64.wrap (((L a10.toNat).getD b7.toNat default).ax - r61.v ((L a10.toNat).getD (IntKind.i64.wrap (b7 - 1)).toNat default))) w.jl w.jh)) = false by rw [h2]; try rfl) (L58ab.nx w N L a10 (k_ := k_) (z_ := b7) (IntKind.i64.wrap (b7 + 1)) (And.intro o4 o5) o6 (by simp only [L58ab.N, h1, h2, cond_true, cond_false]) PopOk.same)))))))⟩
    | false =>
      exact ⟨[.b true, .ret (AV.int IntKind.i64 (r61.v ((L a10.toNat).getD (IntKind.i64.wrap (b7 - 1)).toNat default))) (L58ab.h0 w N L a10 b7), .ret (AV.bool (r51.v (IntKind.i64.wrap (((L a10.toNat).getD b7.toNat default).ax - r61.v ((L a10.toNat).getD (IntKind.i64.wrap (b7 - 1)).toNat default))) w.jl w.jh)) (L58ab.h0 w N L a10 b7), .b true], kmp (by kernel_rfl) (And.intro h1 (And.intro (And.intro o0 o1) (And.intro (And.intro o2 o3) (And.intro (r61 ((L a10.toNat).getD (IntKind.i64.wrap (b7 - 1)).toNat default) (L58ab.h0 w N L a10 b7)) (And.intro (r51 (IntKind.i64.wrap (((L a10.toNat).getD b7.toNat default).ax - r61.v ((L a10.toNat).getD (IntKind.i64.wrap (b7 - 1)).toNat default))) (w.jl) (w.jh) (L58ab.h0 w N L a10 b7)) (And.intro (show (bnot (r51.v (IntKind.i64.wrap (((L a10.toNat).getD b7.toNat default).ax - r61.v ((L a10.toNat).getD (IntKind.i64.wrap (b7 - 1)).toNat default))) w.jl w.jh)) = true by rw [h2]; try rfl) (L58ab.en w N L a10 (k_ := k_) (z_ := b7) (.e0 : L58ab.O) (by simp only [L58ab.N, h1, h2, cond_true, cond_false]) PopOk.same)))))))⟩
  | false =>
    have h1p := of_decide_eq_false h1
    exact ⟨[.b false], kmp (by kernel_rfl) (And.intro h1 (L58ab.en w N L a10 (k_ := k_) (z_ := b7) (.e1 : L58ab.O) (by simp only [L58ab.N, h1, cond_true, cond_false]) PopOk.same))⟩
theorem L58ab.e0 (w : WD) (N : Nat) (hb : N ≤ 1000) (L : Nat → List SD) (hl : ∀ (k : Nat), (L k).length ≤ 10000) (hne : ∀ (k : Nat), k < N → 0 < (L k).length) (a10 : Int) (i58a_0 : 0 ≤ a10) (i58a_1 : a10 ≤ (↑N : Int) ∨ a10 ≤ 0) (k1_1 : decide (a10 < (↑N : Int)) = true) (p1_1 : a10 < (↑N : Int)) (k1_2 : (((L a10.toNat).getD 0 default).ax == 0) = true) (p1_2 : ((L a10.toNat).getD 0 default).ax = 0) (k1_3 : (r61.v ((L a10.toNat).getD (IntKind.i64.wrap ((↑(L a10.toNat).length : Int) - 1)).toNat default) == w.len) = true) (p1_3 : r61.v ((L a10.toNat).getD (IntKind.i64.wrap ((↑(L a10.toNat).length : Int) - 1)).toNat default) = w.len) (b7 : Int) (hinv : L58ab.inv w N L a10 b7) (hN : L58ab.run w L a10 b7 = (.e0 : L58ab.O)) : LoopTo Try.prog (loopN Try.f58 1) (L58ab.T w N L a10 b7) (L58ab.H w N L a10 b7) (Exit.ret) (L58ab.X w N L a10 (.e0 : L58ab.O)) (L58ab.XH w N L a10 (.e0 : L58ab.O)) := by
  have h_ := L58ab.spec w N hb L hl hne a10 i58a_0 i58a_1 k1_1 p1_1 k1_2 p1_2 k1_3 p1_3 ((((↑(L a10.toNat).length : Int) - b7).toNat) + 1) b7 hinv (Nat.lt_succ_self _)
  unfold L58ab.run at hN
  simp only [hN] at h_
  exact h_
theorem L58ab.e1 (w : WD) (N : Nat) (hb : N ≤ 1000) (L : Nat → List SD) (hl : ∀ (k : Nat), (L k).length ≤ 10000) (hne : ∀ (k : Nat), k < N → 0 < (L k).length) (a10 : Int) (i58a_0 : 0 ≤ a10) (i58a_1 : a10 ≤ (↑N : Int) ∨ a10 ≤ 0) (k1_1 : decide (a10 < (↑N : Int)) = true) (p1_1 : a10 < (↑N : Int)) (k1_2 : (((L a10.toNat).getD 0 default).ax == 0) = true) (p1_2 : ((L a10.toNat).getD 0 default).ax = 0) (k1_3 : (r61.v ((L a10.toNat).getD (IntKind.i64.wrap ((↑(L a10.toNat).length : Int) - 1)).toNat default) == w.len) = true) (p1_3 : r61.v ((L a10.toNat).getD (IntKind.i64.wrap ((↑(L a10.toNat).length : Int) - 1)).toNat default) = w.len) (b7 : Int) (hinv : L58ab.inv w N L a10 b7) (hN : L58ab.run w L a10 b7 = (.e1 : L58ab.O)) : LoopTo Try.prog (loopN Try.f58 1) (L58ab.T w N L a10 b7) (L58ab.H w N L a10 b7) (Exit.exit 2) (L58ab.X w N L a10 (.e1 : L58ab.O)) (L58ab.XH w N L a10 (.e1 : L58ab.O)) := by
  have h_ := L58ab.spec w N hb L hl hne a10 i58a_0 i58a_1 k1_1 p1_1 k1_2 p1_2 k1_3 p1_3 ((((↑(L a10.toNat).length : Int) - b7).toNat) + 1) b7 hinv (Nat.lt_succ_self _)
  unfold L58ab.run at hN
  simp only [hN] at h_
  exact h_
inductive L58a.O where
  | e0
  | e1
noncomputable def L58a.T (w : WD) (N : Nat) (L : Nat → List SD) (a10 : Int) : List AV := mkT 60 [(2, AV.ptr 0 1 6 0 0), (8, AV.sl 1 N fun (j : Nat) => AV.sl 14 (L j).length fun (q : Nat) => (SD.av ((L j).getD q default))), (9, AV.int IntKind.i64 (↑N : Int)), (10, AV.int IntKind.i64 a10)]
noncomputable def L58a.H (w : WD) (N : Nat) (L : Nat → List SD) (a10 : Int) : AHeap := [AObj.var (WD.av w)]
def L58a.inv (w : WD) (N : Nat) (L : Nat → List SD) (a10 : Int) : Prop := 0 ≤ a10 ∧ (a10 ≤ (↑N : Int) ∨ a10 ≤ 0)
noncomputable def L58a.mu (w : WD) (N : Nat) (L : Nat → List SD) (a10 : Int) : Nat := ((↑N : Int) - a10).toNat
noncomputable def L58a.E : L58a.O → Exit
  | .e0 => Exit.ret
  | .e1 => Exit.exit 0
noncomputable def L58a.X (w : WD) (N : Nat) (L : Nat → List SD) : L58a.O → List AV
  | .e0 => mkT 60 [(4, (AV.bool false))]
  | .e1 => mkT 60 []
noncomputable def L58a.XH (w : WD) (N : Nat) (L : Nat → List SD) : L58a.O → AHeap
  | .e0 => ([AObj.var (WD.av w)])
  | .e1 => ([AObj.var (WD.av w)])
noncomputable def L58a.N (w : WD) (N : Nat) (L : Nat → List SD) : Nat → Int → L58a.O
  | 0, _ => .e0
  | k_ + 1, a10 => (bif decide (a10 < (↑N : Int)) then (bif ((L a10.toNat).getD 0 default).ax == 0 then (bif r61.v ((L a10.toNat).getD (IntKind.i64.wrap ((↑(L a10.toNat).length : Int) - 1)).toNat default) == w.len then (match L58ab.run w L a10 1 with | .e0 => (.e0) | .e1 => (L58a.N w N L k_ (IntKind.i64.wrap (a10 + 1))) ) else (.e0)) else (.e0)) else (.e1))
noncomputable def L58a.run (w : WD) (N : Nat) (L : Nat → List SD) (a10 : Int) : L58a.O := L58a.N w N L ((((↑N : Int) - a10).toNat) + 1) a10
theorem L58a.nx (w : WD) (N : Nat) (L : Nat → List SD) {k_ : Nat} {z_ : Int} {h_ : AHeap} (s_ : Int) (h1 : L58a.inv w N L s_) (h2 : L58a.mu w N L s_ < L58a.mu w N L z_) (h3 : L58a.N w N L k_ s_ = L58a.N w N L (k_ + 1) z_) (h4 : PopOk (L58a.H w N L z_) h_ (L58a.T w N L s_) (L58a.H w N L s_)) : LNextP (fun (z_ : Int) => L58a.T w N L z_) (fun (z_ : Int) => L58a.H w N L z_) (fun (z_ : Int) => L58a.inv w N L z_) (fun (z_ : Int) => L58a.mu w N L z_) (fun (k_ : Nat) (z_ : Int) => L58a.N w N L k_ z_) k_ z_ (L58a.T w N L s_) h_ := LNextP.mk (Tm := (fun (z_ : Int) => L58a.T w N L z_)) (Hp := (fun (z_ : Int) => L58a.H w N L z_)) (inv := (fun (z_ : Int) => L58a.inv w N L z_)) (mu := (fun (z_ : Int) => L58a.mu w N L z_)) (l := (fun (k_ : Nat) (z_ : Int) => L58a.N w N L k_ z_)) s_ h1 h2 h3 h4
theorem L58a.en (w : WD) (N : Nat) (L : Nat → List SD) {k_ : Nat} {z_ : Int} {h_ : AHeap} (o_ : L58a.O) (h3 : L58a.N w N L (k_ + 1) z_ = o_) (h4 : PopOk (L58a.H w N L z_) h_ (L58a.X w N L o_) (L58a.XH w N L o_)) : LEndP (fun (z_ : Int) => L58a.H w N L z_) (fun (k_ : Nat) (z_ : Int) => L58a.N w N L k_ z_) L58a.E (L58a.X w N L) (L58a.XH w N L) k_ z_ (L58a.E o_) (L58a.X w N L o_) h_ := LEndP.mk (Hp := (fun (z_ : Int) => L58a.H w N L z_)) (l := (fun (k_ : Nat) (z_ : Int) => L58a.N w N L k_ z_)) (oE := L58a.E) (oT := L58a.X w N L) (oH := L58a.XH w N L) o_ h3 h4
noncomputable abbrev L58a.h0 (w : WD) (N : Nat) (L : Nat → List SD) (a10 : Int) : AHeap := ([AObj.var (WD.av w)])
theorem L58a.spec (w : WD) (N : Nat) (hb : N ≤ 1000) (L : Nat → List SD) (hl : ∀ (k : Nat), (L k).length ≤ 10000) (hne : ∀ (k : Nat), k < N → 0 < (L k).length) (k_ : Nat) (z_ : Int) (hi_ : L58a.inv w N L z_) (hm_ : L58a.mu w N L z_ < k_) : LoopTo Try.prog (loopN Try.f58 0) (L58a.T w N L z_) (L58a.H w N L z_) (L58a.E (L58a.N w N L k_ z_)) (L58a.X w N L (L58a.N w N L k_ z_)) (L58a.XH w N L (L58a.N w N L k_ z_)) := by
  refine LoopTo.fuelP mix (fun (z_ : Int) => L58a.T w N L z_) (fun (z_ : Int) => L58a.H w N L z_) (fun (z_ : Int) => L58a.inv w N L z_) (fun (z_ : Int) => L58a.mu w N L z_) (fun (k_ : Nat) (z_ : Int) => L58a.N w N L k_ z_) L58a.E (L58a.X w N L) (L58a.XH w N L) (others 60 [2, 8, 9, 10]) (others 60 [4]) (others 60 []) ?_ k_ z_ hi_ hm_
  clear hm_ hi_ z_ k_
  intro k_ z_ hinv hmu
  revert hinv hmu; revert z_; intro a10 hinv hmu
  have hinv : 0 ≤ a10 ∧ (a10 ≤ (↑N : Int) ∨ a10 ≤ 0) := hinv
  have hmu : (((↑N : Int) - a10).toNat) < k_ + 1 := hmu
  cases h1 : decide (a10 < (↑N : Int)) with
  | true =>
    have h1p := of_decide_eq_true h1
    try have := bd_crs (by first | assumption | omega) (by first | assumption | omega)
    have o0 : (0 : Int) ≤ a10 := by omega
    have o1 : a10 < (↑N : Int) := by assumption
    have o2 : (0 : Int) < (↑(L a10.toNat).length : Int) := by first | assumption | omega | (simp only [List.length_append, List.length_cons, List.length_nil, List.length_map]; omega) | (apply len_pos <;> first | assumption | omega) | (exact hl _) | (exact hl _ (by omega)) | (exact hne _) | (exact hne _ (by omega)) | (simp_all; done)
    cases h2 : ((L a10.toNat).getD 0 default).ax == 0 with
    | true =>
      have h2p := eq_of_beq h2
      try have := bd_crs (by assumption) (by assumption)
      try have := IntWalk.i64_in ((↑(L a10.toNat).length : Int) - 1) (by omega)
      have o3 : (0 : Int) ≤ IntKind.i64.wrap ((↑(L a10.toNat).length : Int) - (1 : Int)) := by first | assumption | omega | (simp only [List.length_append, List.length_cons, List.length_nil, List.length_map]; omega) | (apply last_lo <;> first | assumption | omega) | (exact hl _) | (exact hl _ (by omega)) | (exact hne _) | (exact hne _ (by omega)) | (simp_all; done)
      have o4 : IntKind.i64.wrap ((↑(L a10.toNat).length : Int) - (1 : Int)) < (↑(L a10.toNat).length : Int) := by first | assumption | omega | (simp only [List.length_append, List.length_cons, List.length_nil, List.length_map]; omega) | (apply last_hi <;> first | assumption | omega) | (exact hl _) | (exact hl _ (by omega)) | (exact hne _) | (exact hne _ (by omega)) | (simp_all; done)
      cases h3 : r61.v ((L a10.toNat).getD (IntKind.i64.wrap ((↑(L a10.toNat).length : Int) - 1)).toNat default) == w.len with
      | true =>
        have h3p := eq_of_beq h3
        try have := bd_crs (by assumption) (by assumption)
        have o5 : N ≤ (1000 : Nat) := by assumption
        have o6 : ∀ (k : Nat), (L k).length ≤ (10000 : Nat) := by assumption
        have o7 : ∀ (k : Nat), k < N → (0 : Nat) < (L k).length := by assumption
        have o8 : a10 ≤ (↑N : Int) ∨ a10 ≤ (0 : Int) := by omega
        have o9 : decide (a10 < (↑N : Int)) = true := by assumption
        have o10 : (((L a10.toNat).getD (0 : Nat) default).ax == (0 : Int)) = true := by assumption
        have o11 : ((L a10.toNat).getD (0 : Nat) default).ax = (0 : Int) := by assumption
        try have := IntWalk.i64_in ((↑(L a10.toNat).length : Int) - 1) (by omega)
        have o12 : (r61.v ((L a10.toNat).getD (IntKind.i64.wrap ((↑(L a10.toNat).length : Int) - (1 : Int))).toNat default) == w.len) = true := by assumption
        have o13 : r61.v ((L a10.toNat).getD (IntKind.i64.wrap ((↑(L a10.toNat).length : Int) - (1 : Int))).toNat default) = w.len := by assumption
        have o14 : (1 : Int) ≤ (↑(L a10.toNat).length : Int) ∨ (1 : Int) ≤ (1 : Int) := by omega
        cases h4 : L58ab.run w L a10 1 with
        | e0 =>
          exact ⟨[.b true, .b false, .b false, .b false, .b false, .b false, .b false, .b false, .ret (AV.int IntKind.i64 (r61.v ((L a10.toNat).getD (IntKind.i64.wrap ((↑(L a10.toNat).length : Int) - 1)).toNat default))) (L58a.h0 w N L a10), .b false, .b false, .b false, .b false, .b false, .loop (others 60 [2, 6, 7, 8, 9, 10]) (Exit.ret) (L58ab.X w N L a10 L58ab.O.e0) (L58ab.XH w N L a10 L58ab.O.e0)], kmp (by kernel_rfl) (And.intro h1 (And.intro (And.intro o0 o1) (And.intro (And.intro (show (0 : Int) ≤ (0 : Int) by decide) o2) (And.intro (show (bnot (((L a10.toNat).getD 0 default).ax == 0)) = false by rw [h2]; try rfl) (And.intro (show (bnot (((L a10.toNat).getD 0 default).ax == 0)) = false by rw [h2]; try rfl) (And.intro (show (bnot (((L a10.toNat).getD 0 default).ax == 0)) = false by rw [h2]; try rfl) (And.intro (show (bnot (((L a10.toNat).getD 0 default).ax == 0)) = false by rw [h2]; try rfl) (And.intro (show (bnot (((L a10.toNat).getD 0 default).ax == 0)) = false by rw [h2]; try rfl) (And.intro (And.intro o3 o4) (And.intro (show (bnot (((L a10.toNat).getD 0 default).ax == 0)) = false by rw [h2]; try rfl) (And.intro (show (bnot (((L a10.toNat).getD 0 default).ax == 0)) = false by rw [h2]; try rfl) (And.intro (r61 ((L a10.toNat).getD (IntKind.i64.wrap ((↑(L a10.toNat).length : Int) - 1)).toNat default) (L58a.h0 w N L a10)) (And.intro (show (bnot (((L a10.toNat).getD 0 default).ax == 0)) = false by rw [h2]; try rfl) (And.intro (show (bnot (((L a10.toNat).getD 0 default).ax == 0)) = false by rw [h2]; try rfl) (And.intro (show (bnot (((L a10.toNat).getD 0 default).ax == 0)) = false by rw [h2]; try rfl) (And.intro (show (bnot (((L a10.toNat).getD 0 default).ax == 0)) = false by rw [h2]; try rfl) (And.intro (show (bnot (r61.v ((L a10.toNat).getD (IntKind.i64.wrap ((↑(L a10.toNat).length : Int) - 1)).toNat default) == w.len)) = false by rw [h3]; try rfl) (And.intro (L58ab.e0 (w) (N) o5 (L) o6 o7 (a10) o0 o8 o9 o1 o10 o11 o12 o13 (1) (And.intro (show (1 : Int) ≤ (1 : Int) by decide) o14) h4) (L58a.en w N L (k_ := k_) (z_ := a10) (.e0 : L58a.O) (by simp only [L58a.N, h1, h2, h3, h4, cond_true, cond_false]) PopOk.same)))))))))))))))))))⟩
        | e1 =>
          try have := bd_crs (by assumption) (by assumption)
          try have := IntWalk.i64_in (a10 + 1) (by omega)
          have o15 : (0 : Int) ≤ IntKind.i64.wrap (a10 + (1 : Int)) := by omega
          have o16 : IntKind.i64.wrap (a10 + (1 : Int)) ≤ (↑N : Int) ∨ IntKind.i64.wrap (a10 + (1 : Int)) ≤ (0 : Int) := by omega
          have o17 : ((↑N : Int) - IntKind.i64.wrap (a10 + (1 : Int))).toNat < ((↑N : Int) - a10).toNat := by omega
          exact ⟨[.b true, .b false, .b false, .b false, .b false, .b false, .b false, .b false, .ret (AV.int IntKind.i64 (r61.v ((L a10.toNat).getD (IntKind.i64.wrap ((↑(L a10.toNat).length : Int) - 1)).toNat default))) (L58a.h0 w N L a10), .b false, .b false, .b false, .b false, .b false, .loop (others 60 [2, 6, 7, 8, 9, 10]) (Exit.exit 2) (L58ab.X w N L a10 L58ab.O.e1) (L58ab.XH w N L a10 L58ab.O.e1)], kmp (by kernel_rfl) (And.intro h1 (And.intro (And.intro o0 o1) (And.intro (And.intro (show (0 : Int) ≤ (0 : Int) by decide) o2) (And.intro (show (bnot (((L a10.toNat).getD 0 default).ax == 0)) = false by rw [h2]; try rfl) (And.intro (show (bnot (((L a10.toNat).getD 0 default).ax == 0)) = false by rw [h2]; try rfl) (And.intro (show (bnot (((L a10.toNat).getD 0 default).ax == 0)) = false by rw [h2]; try rfl) (And.intro (show (bnot (((L a10.toNat).getD 0 default).ax == 0)) = false by rw [h2]; try rfl) (And.intro (show (bnot (((L a10.toNat).getD 0 default).ax == 0)) = false by rw [h2]; try rfl) (And.intro (And.intro o3 o4) (And.intro (show (bnot (((L a10.toNat).getD 0 default).ax == 0)) = false by rw [h2]; try rfl) (And.intro (show (bnot (((L a10.toNat).getD 0 default).ax == 0)) = false by rw [h2]; try rfl) (And.intro (r61 ((L a10.toNat).getD (IntKind.i64.wrap ((↑(L a10.toNat).length : Int) - 1)).toNat default) (L58a.h0 w N L a10)) (And.intro (show (bnot (((L a10.toNat).getD 0 default).ax == 0)) = false by rw [h2]; try rfl) (And.intro (show (bnot (((L a10.toNat).getD 0 default).ax == 0)) = false by rw [h2]; try rfl) (And.intro (show (bnot (((L a10.toNat).getD 0 default).ax == 0)) = false by rw [h2]; try rfl) (And.intro (show (bnot (((L a10.toNat).getD 0 default).ax == 0)) = false by rw [h2]; try rfl) (And.intro (show (bnot (r61.v ((L a10.toNat).getD (IntKind.i64.wrap ((↑(L a10.toNat).length : Int) - 1)).toNat default) == w.len)) = false by rw [h3]; try rfl) (And.intro (L58ab.e1 (w) (N) o5 (L) o6 o7 (a10) o0 o8 o9 o1 o10 o11 o12 o13 (1) (And.intro (show (1 : Int) ≤ (1 : Int) by decide) o14) h4) (L58a.nx w N L (k_ := k_) (z_ := a10) (IntKind.i64.wrap (a10 + 1)) (And.intro o15 o16) o17 (by simp only [L58a.N, h1, h2, h3, h4, cond_true, cond_false]) PopOk.same)))))))))))))))))))⟩
      | false =>
        have h3p := ne_of_beq_false h3
        exact ⟨[.b true, .b false, .b false, .b false, .b false, .b false, .b false, .b false, .ret (AV.int IntKind.i64 (r61.v ((L a10.toNat).getD (IntKind.i64.wrap ((↑(L a10.toNat).length : Int) - 1)).toNat default))) (L58a.h0 w N L a10), .b false, .b false, .b false, .b false, .b true], kmp (by kernel_rfl) (And.intro h1 (And.intro (And.intro o0 o1) (And.intro (And.intro (show (0 : Int) ≤ (0 : Int) by decide) o2) (And.intro (show (bnot (((L a10.toNat).getD 0 default).ax == 0)) = false by rw [h2]; try rfl) (And.intro (show (bnot (((L a10.toNat).getD 0 default).ax == 0)) = false by rw [h2]; try rfl) (And.intro (show (bnot (((L a10.toNat).getD 0 default).ax == 0)) = false by rw [h2]; try rfl) (And.intro (show (bnot (((L a10.toNat).getD 0 default).ax == 0)) = false by rw [h2]; try rfl) (And.intro (show (bnot (((L a10.toNat).getD 0 default).ax == 0)) = false by rw [h2]; try rfl) (And.intro (And.intro o3 o4) (And.intro (show (bnot (((L a10.toNat).getD 0 default).ax == 0)) = false by rw [h2]; try rfl) (And.intro (show (bnot (((L a10.toNat).getD 0 default).ax == 0)) = false by rw [h2]; try rfl) (And.intro (r61 ((L a10.toNat).getD (IntKind.i64.wrap ((↑(L a10.toNat).length : Int) - 1)).toNat default) (L58a.h0 w N L a10)) (And.intro (show (bnot (((L a10.toNat).getD 0 default).ax == 0)) = false by rw [h2]; try rfl) (And.intro (show (bnot (((L a10.toNat).getD 0 default).ax == 0)) = false by rw [h2]; try rfl) (And.intro (show (bnot (((L a10.toNat).getD 0 default).ax == 0)) = false by rw [h2]; try rfl) (And.intro (show (bnot (((L a10.toNat).getD 0 default).ax == 0)) = false by rw [h2]; try rfl) (And.intro (show (bnot (r61.v ((L a10.toNat).getD (IntKind.i64.wrap ((↑(L a10.toNat).length : Int) - 1)).toNat default) == w.len)) = true by rw [h3]; try rfl) (L58a.en w N L (k_ := k_) (z_ := a10) (.e0 : L58a.O) (by simp only [L58a.N, h1, h2, h3, cond_true, cond_false]) PopOk.same))))))))))))))))))⟩
    | false =>
      have h2p := ne_of_beq_false h2
      exact ⟨[.b true, .b true, .b true, .b true, .b true, .b true, .b true, .b true, .b true, .b true, .b true, .b true, .b true], kmp (by kernel_rfl) (And.intro h1 (And.intro (And.intro o0 o1) (And.intro (And.intro (show (0 : Int) ≤ (0 : Int) by decide) o2) (And.intro (show (bnot (((L a10.toNat).getD 0 default).ax == 0)) = true by rw [h2]; try rfl) (And.intro (show (bnot (((L a10.toNat).getD 0 default).ax == 0)) = true by rw [h2]; try rfl) (And.intro (show (bnot (((L a10.toNat).getD 0 default).ax == 0)) = true by rw [h2]; try rfl) (And.intro (show (bnot (((L a10.toNat).getD 0 default).ax == 0)) = true by rw [h2]; try rfl) (And.intro (show (bnot (((L a10.toNat).getD 0 default).ax == 0)) = true by rw [h2]; try rfl) (And.intro (show (bnot (((L a10.toNat).getD 0 default).ax == 0)) = true by rw [h2]; try rfl) (And.intro (show (bnot (((L a10.toNat).getD 0 default).ax == 0)) = true by rw [h2]; try rfl) (And.intro (show (bnot (((L a10.toNat).getD 0 default).ax == 0)) = true by rw [h2]; try rfl) (And.intro (show (bnot (((L a10.toNat).getD 0 default).ax == 0)) = true by rw [h2]; try rfl) (And.intro (show (bnot (((L a10.toNat).getD 0 default).ax == 0)) = true by rw [h2]; try rfl) (And.intro (show (bnot (((L a10.toNat).getD 0 default).ax == 0)) = true by rw [h2]; try rfl) (And.intro (rfl : true = true) (L58a.en w N L (k_ := k_) (z_ := a10) (.e0 : L58a.O) (by simp only [L58a.N, h1, h2, cond_true, cond_false]) PopOk.same))))))))))))))))⟩
  | false =>
    have h1p := of_decide_eq_false h1
    exact ⟨[.b false], kmp (by kernel_rfl) (And.intro h1 (L58a.en w N L (k_ := k_) (z_ := a10) (.e1 : L58a.O) (by simp only [L58a.N, h1, cond_true, cond_false]) PopOk.same))⟩
theorem L58a.e0 (w : WD) (N : Nat) (hb : N ≤ 1000) (L : Nat → List SD) (hl : ∀ (k : Nat), (L k).length ≤ 10000) (hne : ∀ (k : Nat), k < N → 0 < (L k).length) (a10 : Int) (hinv : L58a.inv w N L a10) (hN : L58a.run w N L a10 = (.e0 : L58a.O)) : LoopTo Try.prog (loopN Try.f58 0) (L58a.T w N L a10) (L58a.H w N L a10) (Exit.ret) (L58a.X w N L (.e0 : L58a.O)) (L58a.XH w N L (.e0 : L58a.O)) := by
  have h_ := L58a.spec w N hb L hl hne ((((↑N : Int) - a10).toNat) + 1) a10 hinv (Nat.lt_succ_self _)
  unfold L58a.run at hN
  simp only [hN] at h_
  exact h_
theorem L58a.e1 (w : WD) (N : Nat) (hb : N ≤ 1000) (L : Nat → List SD) (hl : ∀ (k : Nat), (L k).length ≤ 10000) (hne : ∀ (k : Nat), k < N → 0 < (L k).length) (a10 : Int) (hinv : L58a.inv w N L a10) (hN : L58a.run w N L a10 = (.e1 : L58a.O)) : LoopTo Try.prog (loopN Try.f58 0) (L58a.T w N L a10) (L58a.H w N L a10) (Exit.exit 0) (L58a.X w N L (.e1 : L58a.O)) (L58a.XH w N L (.e1 : L58a.O)) := by
  have h_ := L58a.spec w N hb L hl hne ((((↑N : Int) - a10).toNat) + 1) a10 hinv (Nat.lt_succ_self _)
  unfold L58a.run at hN
  simp only [hN] at h_
  exact h_
noncomputable def r58.v (w : WD) (N : Nat) (L : Nat → List SD) : Bool := (match L58a.run w N L 0 with | .e0 => false | .e1 => true )
theorem r58 (w : WD) (N : Nat) (hb : N ≤ 1000) (L : Nat → List SD) (hl : ∀ (k : Nat), (L k).length ≤ 10000) (hne : ∀ (k : Nat), k < N → 0 < (L k).length) (h : AHeap) : Ret Try.prog 58 ([w.av, nsts N L]) h (AV.bool (r58.v w N L)) h := by
  try have := bd_crs (by first | assumption | omega) (by first | assumption | omega)
  have o0 : N ≤ (1000 : Nat) := by assumption
  have o1 : ∀ (k : Nat), (L k).length ≤ (10000 : Nat) := by assumption
  have o2 : ∀ (k : Nat), k < N → (0 : Nat) < (L k).length := by assumption
  have o3 : (0 : Int) ≤ (↑N : Int) ∨ (0 : Int) ≤ (0 : Int) := by omega
  cases h1 : L58a.run w N L 0 with
  | e0 =>
    exact Ret.of_run1 mix [(AV.bool (r58.v w N L))] Try.func58 rfl [.loop (others 60 [2, 8, 9, 10]) (Exit.ret) (L58a.X w N L L58a.O.e0) (L58a.XH w N L L58a.O.e0)] (by simp) (by simp) (kmp (by kernel_rfl) (And.intro (L58a.e0 (w) (N) o0 (L) o1 o2 (0) (And.intro (show (0 : Int) ≤ (0 : Int) by decide) o3) h1) (And.intro (show (AV.bool false) = ((AV.bool (r58.v w N L))) by simp only [r58.v, h1, cond_true, cond_false]) trivial))) h
  | e1 =>
    exact Ret.of_run1 mix [(AV.bool (r58.v w N L))] Try.func58 rfl [.loop (others 60 [2, 8, 9, 10]) (Exit.exit 0) (L58a.X w N L L58a.O.e1) (L58a.XH w N L L58a.O.e1)] (by simp) (by simp) (kmp (by kernel_rfl) (And.intro (L58a.e1 (w) (N) o0 (L) o1 o2 (0) (And.intro (show (0 : Int) ≤ (0 : Int) by decide) o3) h1) (And.intro (show (AV.bool true) = ((AV.bool (r58.v w N L))) by simp only [r58.v, h1, cond_true, cond_false]) trivial))) h
end Go.Proofs.Ytjdbmmilcihpoaa
open Go
namespace Go.Proofs.Ytjdbmmilcihpoaa
set_option linter.unusedSimpArgs false
set_option linter.unusedVariables false
set_option maxHeartbeats 0
set_option maxRecDepth 100000
noncomputable def r78.v (g : Nat → SD) (s : SD) : Bool := (bif s.az == (g 0).az then s.sz != (g 0).sz else true)
theorem r78 (w : WD) (n : Nat) (hp : 0 < n) (g : Nat → SD) (s : SD) : Ret Try.prog 78 ([s.av, AV.ptr 1 1 1 0 0]) ([AObj.var w.av, AObj.var (sds n g)]) (AV.bool (r78.v g s)) ( [AObj.var w.av, AObj.var (sds n g)]) := by
  have o0 : (0 : Int) < (↑n : Int) := by omega
  cases h1 : s.az == (g 0).az with
  | true =>
    have h1p := eq_of_beq h1
    exact Ret.of_runH mix [(AV.bool (r78.v g s))] ([AObj.var w.av, AObj.var (sds n g)]) Try.func78 rfl [.b false, .b false, .b false, .b false, .b false, .b false, .b false, .b false, .b false, .b false] (by simp) (kmp (by kernel_rfl) (And.intro (And.intro (show (0 : Int) ≤ (0 : Int) by decide) o0) (And.intro (show (bnot (s.az == (g 0).az)) = false by rw [h1]; try rfl) (And.intro (show (bnot (s.az == (g 0).az)) = false by rw [h1]; try rfl) (And.intro (show (bnot (s.az == (g 0).az)) = false by rw [h1]; try rfl) (And.intro (show (bnot (s.az == (g 0).az)) = false by rw [h1]; try rfl) (And.intro (show (bnot (s.az == (g 0).az)) = false by rw [h1]; try rfl) (And.intro (And.intro (show (0 : Int) ≤ (0 : Int) by decide) o0) (And.intro (show (bnot (s.az == (g 0).az)) = false by rw [h1]; try rfl) (And.intro (show (bnot (s.az == (g 0).az)) = false by rw [h1]; try rfl) (And.intro (show (bnot (s.az == (g 0).az)) = false by rw [h1]; try rfl) (And.intro (show (bnot (s.az == (g 0).az)) = false by rw [h1]; try rfl) (And.intro (show (bnot (s.az == (g 0).az)) = false by rw [h1]; try rfl) (And.intro (And.intro (show (AV.bool (s.sz != (g 0).sz)) = ((AV.bool (r78.v g s))) by simp only [r78.v, h1, cond_true, cond_false]) trivial) (rfl : ([AObj.var w.av, AObj.var (sds n g)] : AHeap) = [AObj.var w.av, AObj.var (sds n g)])))))))))))))))
  | false =>
    have h1p := ne_of_beq_false h1
    exact Ret.of_runH mix [(AV.bool (r78.v g s))] ([AObj.var w.av, AObj.var (sds n g)]) Try.func78 rfl [.b true, .b true, .b true, .b true, .b true, .b true, .b true, .b true, .b true, .b true] (by simp) (kmp (by kernel_rfl) (And.intro (And.intro (show (0 : Int) ≤ (0 : Int) by decide) o0) (And.intro (show (bnot (s.az == (g 0).az)) = true by rw [h1]; try rfl) (And.intro (show (bnot (s.az == (g 0).az)) = true by rw [h1]; try rfl) (And.intro (show (bnot (s.az == (g 0).az)) = true by rw [h1]; try rfl) (And.intro (show (bnot (s.az == (g 0).az)) = true by rw [h1]; try rfl) (And.intro (show (bnot (s.az == (g 0).az)) = true by rw [h1]; try rfl) (And.intro (show (bnot (s.az == (g 0).az)) = true by rw [h1]; try rfl) (And.intro (show (bnot (s.az == (g 0).az)) = true by rw [h1]; try rfl) (And.intro (show (bnot (s.az == (g 0).az)) = true by rw [h1]; try rfl) (And.intro (show (bnot (s.az == (g 0).az)) = true by rw [h1]; try rfl) (And.intro (show (bnot (s.az == (g 0).az)) = true by rw [h1]; try rfl) (And.intro (And.intro (show (AV.bool true) = ((AV.bool (r78.v g s))) by simp only [r78.v, h1, cond_true, cond_false]) trivial) (rfl : ([AObj.var w.av, AObj.var (sds n g)] : AHeap) = [AObj.var w.av, AObj.var (sds n g)]))))))))))))))
inductive L59c.O where
  | e0 (a0 : Int)
  | e1
noncomputable def L59c.T (w : WD) (n : Nat) (g : Nat → SD) (i : Int) : List AV := mkT 19 [(0, sds n g), (1, AV.fn 78 [AV.ptr 1 1 1 0 0]), (7, AV.int IntKind.i64 (↑n : Int)), (8, AV.int IntKind.i64 i)]
noncomputable def L59c.H (w : WD) (n : Nat) (g : Nat → SD) (i : Int) : AHeap := [AObj.var w.av, AObj.var (sds n g)]
def L59c.inv (w : WD) (n : Nat) (g : Nat → SD) (i : Int) : Prop := 0 ≤ i ∧ i ≤ (↑n : Int)
noncomputable def L59c.mu (w : WD) (n : Nat) (g : Nat → SD) (i : Int) : Nat := ((↑n : Int) - i).toNat
noncomputable def L59c.E : L59c.O → Exit
  | .e0 a0 => Exit.ret
  | .e1 => Exit.exit 0
noncomputable def L59c.X (w : WD) (n : Nat) (g : Nat → SD) : L59c.O → List AV
  | .e0 a0 => mkT 19 [(4, (AV.int IntKind.i64 a0))]
  | .e1 => mkT 19 []
noncomputable def L59c.XH (w : WD) (n : Nat) (g : Nat → SD) : L59c.O → AHeap
  | .e0 a0 => ([AObj.var (WD.av w), AObj.var (AV.sl 14 n fun (i : Nat) => (SD.av (g i)))])
  | .e1 => ([AObj.var (WD.av w), AObj.var (AV.sl 14 n fun (i : Nat) => (SD.av (g i)))])
noncomputable def L59c.N (n : Nat) (g : Nat → SD) : Nat → Int → L59c.O
  | 0, i => .e0 i
  | k_ + 1, i => (bif decide (i < (↑n : Int)) then (bif r78.v g (g i.toNat) then (.e0 (i)) else (L59c.N n g k_ (IntKind.i64.wrap (i + 1)))) else (.e1))
noncomputable def L59c.run (n : Nat) (g : Nat → SD) (i : Int) : L59c.O := L59c.N n g ((((↑n : Int) - i).toNat) + 1) i
theorem L59c.nx (w : WD) (n : Nat) (g : Nat → SD) {k_ : Nat} {z_ : Int} {h_ : AHeap} (s_ : Int) (h1 : L59c.inv w n g s_) (h2 : L59c.mu w n g s_ < L59c.mu w n g z_) (h3 : L59c.N n g k_ s_ = L59c.N n g (k_ + 1) z_) (h4 : PopOk (L59c.H w n g z_) h_ (L59c.T w n g s_) (L59c.H w n g s_)) : LNextP (fun (z_ : Int) => L59c.T w n g z_) (fun (z_ : Int) => L59c.H w n g z_) (fun (z_ : Int) => L59c.inv w n g z_) (fun (z_ : Int) => L59c.mu w n g z_) (fun (k_ : Nat) (z_ : Int) => L59c.N n g k_ z_) k_ z_ (L59c.T w n g s_) h_ := LNextP.mk (Tm := (fun (z_ : Int) => L59c.T w n g z_)) (Hp := (fun (z_ : Int) => L59c.H w n g z_)) (inv := (fun (z_ : Int) => L59c.inv w n g z_)) (mu := (fun (z_ : Int) => L59c.mu w n g z_)) (l := (fun (k_ : Nat) (z_ : Int) => L59c.N n g k_ z_)) s_ h1 h2 h3 h4
theorem L59c.en (w : WD) (n : Nat) (g : Nat → SD) {k_ : Nat} {z_ : Int} {h_ : AHeap} (o_ : L59c.O) (h3 : L59c.N n g (k_ + 1) z_ = o_) (h4 : PopOk (L59c.H w n g z_) h_ (L59c.X w n g o_) (L59c.XH w n g o_)) : LEndP (fun (z_ : Int) => L59c.H w n g z_) (fun (k_ : Nat) (z_ : Int) => L59c.N n g k_ z_) L59c.E (L59c.X w n g) (L59c.XH w n g) k_ z_ (L59c.E o_) (L59c.X w n g o_) h_ := LEndP.mk (Hp := (fun (z_ : Int) => L59c.H w n g z_)) (l := (fun (k_ : Nat) (z_ : Int) => L59c.N n g k_ z_)) (oE := L59c.E) (oT := L59c.X w n g) (oH := L59c.XH w n g) o_ h3 h4
theorem L59c.spec (w : WD) (n : Nat) (hp : 0 < n) (hn : n ≤ 10000) (g : Nat → SD) (k_ : Nat) (z_ : Int) (hi_ : L59c.inv w n g z_) (hm_ : L59c.mu w n g z_ < k_) : LoopTo Try.prog (loopN Try.f59 0) (L59c.T w n g z_) (L59c.H w n g z_) (L59c.E (L59c.N n g k_ z_)) (L59c.X w n g (L59c.N n g k_ z_)) (L59c.XH w n g (L59c.N n g k_ z_)) := by
  refine LoopTo.fuelP mix (fun (z_ : Int) => L59c.T w n g z_) (fun (z_ : Int) => L59c.H w n g z_) (fun (z_ : Int) => L59c.inv w n g z_) (fun (z_ : Int) => L59c.mu w n g z_) (fun (k_ : Nat) (z_ : Int) => L59c.N n g k_ z_) L59c.E (L59c.X w n g) (L59c.XH w n g) (others 19 [0, 1, 7, 8]) (others 19 [4]) (others 19 []) ?_ k_ z_ hi_ hm_
  clear hm_ hi_ z_ k_
  intro k_ z_ hinv hmu
  revert hinv hmu; revert z_; intro i hinv hmu
  have hinv : 0 ≤ i ∧ i ≤ (↑n : Int) := hinv
  have hmu : (((↑n : Int) - i).toNat) < k_ + 1 := hmu
  cases h1 : decide (i < (↑n : Int)) with
  | true =>
    have h1p := of_decide_eq_true h1
    have o0 : (0 : Int) ≤ i := by omega
    have o1 : i < (↑n : Int) := by assumption
    have o2 : (0 : Nat) < n := by assumption
    cases h2 : r78.v g (g i.toNat) with
    | true =>
      exact ⟨[.b true, .ret (AV.bool (r78.v g (g i.toNat))) ([AObj.var (WD.av w), AObj.var (AV.sl 14 n fun (i : Nat) => (SD.av (g i)))]), .b true], kmp (by kernel_rfl) (And.intro h1 (And.intro (And.intro o0 o1) (And.intro (r78 (w) (n) o2 (g) (g i.toNat)) (And.intro h2 (L59c.en w n g (k_ := k_) (z_ := i) (.e0 (i) : L59c.O) (by simp only [L59c.N, h1, h2, cond_true, cond_false]) PopOk.same)))))⟩
    | false =>
      try have := IntWalk.i64_in (i + 1) (by omega)
      have o3 : (0 : Int) ≤ IntKind.i64.wrap (i + (1 : Int)) := by omega
      have o4 : IntKind.i64.wrap (i + (1 : Int)) ≤ (↑n : Int) := by omega
      have o5 : ((↑n : Int) - IntKind.i64.wrap (i + (1 : Int))).toNat < ((↑n : Int) - i).toNat := by omega
      exact ⟨[.b true, .ret (AV.bool (r78.v g (g i.toNat))) ([AObj.var (WD.av w), AObj.var (AV.sl 14 n fun (i : Nat) => (SD.av (g i)))]), .b false], kmp (by kernel_rfl) (And.intro h1 (And.intro (And.intro o0 o1) (And.intro (r78 (w) (n) o2 (g) (g i.toNat)) (And.intro h2 (L59c.nx w n g (k_ := k_) (z_ := i) (IntKind.i64.wrap (i + 1)) (And.intro o3 o4) o5 (by simp only [L59c.N, h1, h2, cond_true, cond_false]) PopOk.same)))))⟩
  | false =>
    have h1p := of_decide_eq_false h1
    exact ⟨[.b false], kmp (by kernel_rfl) (And.intro h1 (L59c.en w n g (k_ := k_) (z_ := i) (.e1 : L59c.O) (by simp only [L59c.N, h1, cond_true, cond_false]) PopOk.same))⟩
theorem L59c.e0 (w : WD) (n : Nat) (hp : 0 < n) (hn : n ≤ 10000) (g : Nat → SD) (i : Int) (hinv : L59c.inv w n g i) (a0 : Int) (hN : L59c.run n g i = (.e0 a0 : L59c.O)) : LoopTo Try.prog (loopN Try.f59 0) (L59c.T w n g i) (L59c.H w n g i) (Exit.ret) (L59c.X w n g (.e0 a0 : L59c.O)) (L59c.XH w n g (.e0 a0 : L59c.O)) := by
  have h_ := L59c.spec w n hp hn g ((((↑n : Int) - i).toNat) + 1) i hinv (Nat.lt_succ_self _)
  unfold L59c.run at hN
  simp only [hN] at h_
  exact h_
theorem L59c.e1 (w : WD) (n : Nat) (hp : 0 < n) (hn : n ≤ 10000) (g : Nat → SD) (i : Int) (hinv : L59c.inv w n g i) (hN : L59c.run n g i = (.e1 : L59c.O)) : LoopTo Try.prog (loopN Try.f59 0) (L59c.T w n g i) (L59c.H w n g i) (Exit.exit 0) (L59c.X w n g (.e1 : L59c.O)) (L59c.XH w n g (.e1 : L59c.O)) := by
  have h_ := L59c.spec w n hp hn g ((((↑n : Int) - i).toNat) + 1) i hinv (Nat.lt_succ_self _)
  unfold L59c.run at hN
  simp only [hN] at h_
  exact h_
noncomputable def r59c.v (n : Nat) (g : Nat → SD) : Int := (match L59c.run n g 0 with | .e0 h1d0 => h1d0 | .e1 => -1 )
theorem r59c (w : WD) (n : Nat) (hp : 0 < n) (hn : n ≤ 10000) (g : Nat → SD) : Ret Try.prog 59 ([sds n g, AV.fn 78 [AV.ptr 1 1 1 0 0]]) ([AObj.var w.av, AObj.var (sds n g)]) (AV.int IntKind.i64 (r59c.v n g)) ( [AObj.var w.av, AObj.var (sds n g)]) := by
  have o0 : (0 : Nat) < n := by assumption
  have o1 : n ≤ (10000 : Nat) := by assumption
  have o2 : (0 : Int) ≤ (↑n : Int) := by omega
  cases h1 : L59c.run n g 0 with
  | e0 h1d0 =>
    exact Ret.of_runH mix [(AV.int IntKind.i64 (r59c.v n g))] ([AObj.var w.av, AObj.var (sds n g)]) Try.func59 rfl [.loop (others 19 [0, 1, 7, 8]) (Exit.ret) (L59c.X w n g (L59c.O.e0 h1d0)) (L59c.XH w n g (L59c.O.e0 h1d0))] (by simp) (kmp (by kernel_rfl) (And.intro (L59c.e0 (w) (n) o0 o1 (g) (0) (And.intro (show (0 : Int) ≤ (0 : Int) by decide) o2) h1d0 h1) (And.intro (And.intro (show (AV.int IntKind.i64 h1d0) = ((AV.int IntKind.i64 (r59c.v n g))) by simp only [r59c.v, h1, cond_true, cond_false]) trivial) (rfl : ([AObj.var w.av, AObj.var (sds n g)] : AHeap) = [AObj.var w.av, AObj.var (sds n g)]))))
  | e1 =>
    exact Ret.of_runH mix [(AV.int IntKind.i64 (r59c.v n g))] ([AObj.var w.av, AObj.var (sds n g)]) Try.func59 rfl [.loop (others 19 [0, 1, 7, 8]) (Exit.exit 0) (L59c.X w n g L59c.O.e1) (L59c.XH w n g L59c.O.e1)] (by simp) (kmp (by kernel_rfl) (And.intro (L59c.e1 (w) (n) o0 o1 (g) (0) (And.intro (show (0 : Int) ≤ (0 : Int) by decide) o2) h1) (And.intro (And.intro (show (AV.int IntKind.i64 (-1)) = ((AV.int IntKind.i64 (r59c.v n g))) by simp only [r59c.v, h1, cond_true, cond_false]) trivial) (rfl : ([AObj.var w.av, AObj.var (sds n g)] : AHeap) = [AObj.var w.av, AObj.var (sds n g)]))))
noncomputable def r49c.v (n : Nat) (g : Nat → SD) : Bool := decide (r59c.v n g ≥ 0)
theorem r49c (w : WD) (n : Nat) (hp : 0 < n) (hn : n ≤ 10000) (g : Nat → SD) : Ret Try.prog 49 ([sds n g, AV.fn 78 [AV.ptr 1 1 1 0 0]]) ([AObj.var w.av, AObj.var (sds n g)]) (AV.bool (r49c.v n g)) ( [AObj.var w.av, AObj.var (sds n g)]) := by
  have o0 : (0 : Nat) < n := by assumption
  have o1 : n ≤ (10000 : Nat) := by assumption
  exact Ret.of_runH mix [(AV.bool (r49c.v n g))] ([AObj.var w.av, AObj.var (sds n g)]) Try.func49 rfl [.ret (AV.int IntKind.i64 (r59c.v n g)) ([AObj.var (WD.av w), AObj.var (AV.sl 14 n fun (i : Nat) => (SD.av (g i)))])] (by simp) (kmp (by kernel_rfl) (And.intro (r59c (w) (n) o0 o1 (g)) (And.intro (And.intro (show (AV.bool (decide (r59c.v n g ≥ 0))) = ((AV.bool (r49c.v n g))) by simp only [r49c.v, cond_true, cond_false]) trivial) (rfl : ([AObj.var w.av, AObj.var (sds n g)] : AHeap) = [AObj.var w.av, AObj.var (sds n g)]))))
theorem len_ps {L : Nat → List SD} {k : Nat} {N : Nat} (hne : ∀ k, k < N → 0 < (L k).length) (hk : k < N) : 0 < (L k).length := hne k hk
inductive L56a.O where
  | e0
  | e1
noncomputable def L56a.T (w : WD) (N : Nat) (L : Nat → List SD) (a9 : Int) : List AV := mkT 55 [(1, AV.sl 1 N fun (j : Nat) => AV.sl 14 (L j).length fun (q : Nat) => (SD.av ((L j).getD q default))), (2, AV.ptr 0 1 6 0 0), (7, AV.sl 1 N fun (j : Nat) => AV.sl 14 (L j).length fun (q : Nat) => (SD.av ((L j).getD q default))), (8, AV.int IntKind.i64 (↑N : Int)), (9, AV.int IntKind.i64 a9)]
noncomputable def L56a.H (w : WD) (N : Nat) (L : Nat → List SD) (a9 : Int) : AHeap := [AObj.var (WD.av w)]
def L56a.inv (w : WD) (N : Nat) (L : Nat → List SD) (a9 : Int) : Prop := 0 ≤ a9 ∧ (a9 ≤ (↑N : Int) ∨ a9 ≤ 0)
noncomputable def L56a.mu (w : WD) (N : Nat) (L : Nat → List SD) (a9 : Int) : Nat := ((↑N : Int) - a9).toNat
noncomputable def L56a.E : L56a.O → Exit
  | .e0 => Exit.ret
  | .e1 => Exit.exit 0
noncomputable def L56a.X (w : WD) (N : Nat) (L : Nat → List SD) : L56a.O → List AV
  | .e0 => mkT 55 [(4, (AV.bool false))]
  | .e1 => mkT 55 []
noncomputable def L56a.XH (w : WD) (N : Nat) (L : Nat → List SD) : L56a.O → AHeap
  | .e0 => ([AObj.var (WD.av w)])
  | .e1 => ([AObj.var (WD.av w)])
noncomputable def L56a.N (w : WD) (N : Nat) (L : Nat → List SD) : Nat → Int → L56a.O
  | 0, _ => .e0
  | k_ + 1, a9 => (bif decide (a9 < (↑N : Int)) then (bif r49c.v (L a9.toNat).length fun (i : Nat) => (L a9.toNat).getD i default then (.e0) else (bif decide (a9 > 0) then (bif r51.v (IntKind.i64.wrap (IntKind.i64.wrap (((L a9.toNat).getD 0 default).az - ((L (IntKind.i64.wrap (a9 - 1)).toNat).getD 0 default).az) - ((L (IntKind.i64.wrap (a9 - 1)).toNat).getD 0 default).sz)) w.jl w.jh then (L56a.N w N L k_ (IntKind.i64.wrap (a9 + 1))) else (.e0)) else (L56a.N w N L k_ (IntKind.i64.wrap (a9 + 1))))) else (.e1))
noncomputable def L56a.run (w : WD) (N : Nat) (L : Nat → List SD) (a9 : Int) : L56a.O := L56a.N w N L ((((↑N : Int) - a9).toNat) + 1) a9
theorem L56a.nx (w : WD) (N : Nat) (L : Nat → List SD) {k_ : Nat} {z_ : Int} {h_ : AHeap} (s_ : Int) (h1 : L56a.inv w N L s_) (h2 : L56a.mu w N L s_ < L56a.mu w N L z_) (h3 : L56a.N w N L k_ s_ = L56a.N w N L (k_ + 1) z_) (h4 : PopOk (L56a.H w N L z_) h_ (L56a.T w N L s_) (L56a.H w N L s_)) : LNextP (fun (z_ : Int) => L56a.T w N L z_) (fun (z_ : Int) => L56a.H w N L z_) (fun (z_ : Int) => L56a.inv w N L z_) (fun (z_ : Int) => L56a.mu w N L z_) (fun (k_ : Nat) (z_ : Int) => L56a.N w N L k_ z_) k_ z_ (L56a.T w N L s_) h_ := LNextP.mk (Tm := (fun (z_ : Int) => L56a.T w N L z_)) (Hp := (fun (z_ : Int) => L56a.H w N L z_)) (inv := (fun (z_ : Int) => L56a.inv w N L z_)) (mu := (fun (z_ : Int) => L56a.mu w N L z_)) (l := (fun (k_ : Nat) (z_ : Int) => L56a.N w N L k_ z_)) s_ h1 h2 h3 h4
theorem L56a.en (w : WD) (N : Nat) (L : Nat → List SD) {k_ : Nat} {z_ : Int} {h_ : AHeap} (o_ : L56a.O) (h3 : L56a.N w N L (k_ + 1) z_ = o_) (h4 : PopOk (L56a.H w N L z_) h_ (L56a.X w N L o_) (L56a.XH w N L o_)) : LEndP (fun (z_ : Int) => L56a.H w N L z_) (fun (k_ : Nat) (z_ : Int) => L56a.N w N L k_ z_) L56a.E (L56a.X w N L) (L56a.XH w N L) k_ z_ (L56a.E o_) (L56a.X w N L o_) h_ := LEndP.mk (Hp := (fun (z_ : Int) => L56a.H w N L z_)) (l := (fun (k_ : Nat) (z_ : Int) => L56a.N w N L k_ z_)) (oE := L56a.E) (oT := L56a.X w N L) (oH := L56a.XH w N L) o_ h3 h4
noncomputable abbrev L56a.h0 (w : WD) (N : Nat) (L : Nat → List SD) (a9 : Int) : AHeap := ([AObj.var (WD.av w), AObj.var (AV.sl 14 (L a9.toNat).length fun (i : Nat) => (SD.av ((fun (i : Nat) => (L a9.toNat).getD i default) i)))])
theorem L56a.spec (w : WD) (N : Nat) (hb : N ≤ 1000) (L : Nat → List SD) (hl : ∀ (k : Nat), (L k).length ≤ 10000) (hne : ∀ (k : Nat), k < N → 0 < (L k).length) (k_ : Nat) (z_ : Int) (hi_ : L56a.inv w N L z_) (hm_ : L56a.mu w N L z_ < k_) : LoopTo Try.prog (loopN Try.f56 0) (L56a.T w N L z_) (L56a.H w N L z_) (L56a.E (L56a.N w N L k_ z_)) (L56a.X w N L (L56a.N w N L k_ z_)) (L56a.XH w N L (L56a.N w N L k_ z_)) := by
  refine LoopTo.fuelP mix (fun (z_ : Int) => L56a.T w N L z_) (fun (z_ : Int) => L56a.H w N L z_) (fun (z_ : Int) => L56a.inv w N L z_) (fun (z_ : Int) => L56a.mu w N L z_) (fun (k_ : Nat) (z_ : Int) => L56a.N w N L k_ z_) L56a.E (L56a.X w N L) (L56a.XH w N L) (others 55 [1, 2, 7, 8, 9]) (others 55 [4]) (others 55 []) ?_ k_ z_ hi_ hm_
  clear hm_ hi_ z_ k_
  intro k_ z_ hinv hmu
  revert hinv hmu; revert z_; intro a9 hinv hmu
  have hinv : 0 ≤ a9 ∧ (a9 ≤ (↑N : Int) ∨ a9 ≤ 0) := hinv
  have hmu : (((↑N : Int) - a9).toNat) < k_ + 1 := hmu
  cases h1 : decide (a9 < (↑N : Int)) with
  | true =>
    have h1p := of_decide_eq_true h1
    have o0 : (0 : Int) ≤ a9 := by omega
    have o1 : a9 < (↑N : Int) := by assumption
    have o2 : (0 : Nat) < (L a9.toNat).length := by first | assumption | omega | (simp only [List.length_append, List.length_cons, List.length_nil, List.length_map]; omega) | (apply len_ps <;> first | assumption | omega) | (exact hl _) | (exact hl _ (by omega)) | (exact hne _) | (exact hne _ (by omega)) | (simp_all; done)
    have o3 : (L a9.toNat).length ≤ (10000 : Nat) := by exact hl _
    cases h2 : r49c.v (L a9.toNat).length fun (i : Nat) => (L a9.toNat).getD i default with
    | true =>
      exact ⟨[.b true, .ret (AV.bool (r49c.v (L a9.toNat).length fun (i : Nat) => (L a9.toNat).getD i default)) (L56a.h0 w N L a9), .b true], kmp (by kernel_rfl) (And.intro h1 (And.intro (And.intro o0 o1) (And.intro (r49c (w) ((L a9.toNat).length) o2 o3 (fun (i : Nat) => (L a9.toNat).getD i default)) (And.intro h2 (L56a.en w N L (k_ := k_) (z_ := a9) (h_ := [AObj.var (WD.av w), AObj.var (AV.sl 14 (L a9.toNat).length fun (i : Nat) => (SD.av ((fun (i : Nat) => (L a9.toNat).getD i default) i)))]) (.e0 : L56a.O) (by simp only [L56a.N, h1, h2, cond_true, cond_false]) (PopOk.pop rfl (by simp [L56a.T, L56a.X, L56a.H, L56a.XH])))))))⟩
    | false =>
      cases h3 : decide (a9 > 0) with
      | true =>
        have h3p := of_decide_eq_true h3
        have o4 : (0 : Int) < (↑(L a9.toNat).length : Int) := by first | assumption | omega | (simp only [List.length_append, List.length_cons, List.length_nil, List.length_map]; omega) | (apply len_pos <;> first | assumption | omega) | (exact hl _) | (exact hl _ (by omega)) | (exact hne _) | (exact hne _ (by omega)) | (simp_all; done)
        try have := IntWalk.i64_in (a9 - 1) (by omega)
        have o5 : (0 : Int) ≤ IntKind.i64.wrap (a9 - (1 : Int)) := by omega
        have o6 : IntKind.i64.wrap (a9 - (1 : Int)) < (↑N : Int) := by omega
        have o7 : (0 : Int) < (↑(L (IntKind.i64.wrap (a9 - (1 : Int))).toNat).length : Int) := by first | assumption | omega | (simp only [List.length_append, List.length_cons, List.length_nil, List.length_map]; omega) | (apply len_pos <;> first | assumption | omega) | (exact hl _) | (exact hl _ (by omega)) | (exact hne _) | (exact hne _ (by omega)) | (simp_all; done)
        cases h4 : r51.v (IntKind.i64.wrap (IntKind.i64.wrap (((L a9.toNat).getD 0 default).az - ((L (IntKind.i64.wrap (a9 - 1)).toNat).getD 0 default).az) - ((L (IntKind.i64.wrap (a9 - 1)).toNat).getD 0 default).sz)) w.jl w.jh with
        | true =>
          try have := IntWalk.i64_in (a9 + 1) (by omega)
          have o8 : (0 : Int) ≤ IntKind.i64.wrap (a9 + (1 : Int)) := by omega
          have o9 : IntKind.i64.wrap (a9 + (1 : Int)) ≤ (↑N : Int) ∨ IntKind.i64.wrap (a9 + (1 : Int)) ≤ (0 : Int) := by omega
          have o10 : ((↑N : Int) - IntKind.i64.wrap (a9 + (1 : Int))).toNat < ((↑N : Int) - a9).toNat := by omega
          exact ⟨[.b true, .ret (AV.bool (r49c.v (L a9.toNat).length fun (i : Nat) => (L a9.toNat).getD i default)) (L56a.h0 w N L a9), .b false, .b true, .b true, .b true, .b true, .b true, .b true, .b true, .b true, .b true, .b true, .b true, .b true, .b true, .b true, .b true, .b true, .b true, .b true, .b true, .b true, .b true, .b true, .b true, .b true, .b true, .b true, .b true, .b true, .b true, .b true, .b true, .b true, .ret (AV.bool (r51.v (IntKind.i64.wrap (IntKind.i64.wrap (((fun (i : Nat) => (L a9.toNat).getD i default) 0).az - ((L (IntKind.i64.wrap (a9 - 1)).toNat).getD 0 default).az) - ((L (IntKind.i64.wrap (a9 - 1)).toNat).getD 0 default).sz)) w.jl w.jh)) (L56a.h0 w N L a9), .b true, .b true, .b false], kmp (by kernel_rfl) (And.intro h1 (And.intro (And.intro o0 o1) (And.intro (r49c (w) ((L a9.toNat).length) o2 o3 (fun (i : Nat) => (L a9.toNat).getD i default)) (And.intro h2 (And.intro h3 (And.intro h3 (And.intro (And.intro (show (0 : Int) ≤ (0 : Int) by decide) o4) (And.intro h3 (And.intro h3 (And.intro h3 (And.intro h3 (And.intro h3 (And.intro h3 (And.intro h3 (And.intro (And.intro o5 o6) (And.intro h3 (And.intro h3 (And.intro (And.intro (show (0 : Int) ≤ (0 : Int) by decide) o7) (And.intro h3 (And.intro h3 (And.intro h3 (And.intro h3 (And.intro h3 (And.intro h3 (And.intro h3 (And.intro h3 (And.intro (And.intro o5 o6) (And.intro h3 (And.intro h3 (And.intro (And.intro (show (0 : Int) ≤ (0 : Int) by decide) o7) (And.intro h3 (And.intro h3 (And.intro h3 (And.intro h3 (And.intro h3 (And.intro h3 (And.intro h3 (And.intro h3 (And.intro h3 (And.intro h3 (And.intro h3 (And.intro (r51 (IntKind.i64.wrap (IntKind.i64.wrap (((fun (i : Nat) => (L a9.toNat).getD i default) 0).az - ((L (IntKind.i64.wrap (a9 - 1)).toNat).getD 0 default).az) - ((L (IntKind.i64.wrap (a9 - 1)).toNat).getD 0 default).sz)) (w.jl) (w.jh) (L56a.h0 w N L a9)) (And.intro h3 (And.intro h3 (And.intro (show (bnot (r51.v (IntKind.i64.wrap (IntKind.i64.wrap (((L a9.toNat).getD 0 default).az - ((L (IntKind.i64.wrap (a9 - 1)).toNat).getD 0 default).az) - ((L (IntKind.i64.wrap (a9 - 1)).toNat).getD 0 default).sz)) w.jl w.jh)) = false by rw [h4]; try rfl) (L56a.nx w N L (k_ := k_) (z_ := a9) (h_ := [AObj.var (WD.av w), AObj.var (AV.sl 14 (L a9.toNat).length fun (i : Nat) => (SD.av ((fun (i : Nat) => (L a9.toNat).getD i default) i)))]) (IntKind.i64.wrap (a9 + 1)) (And.intro o8 o9) o10 (by simp only [L56a.N, h1, h2, h3, h4, cond_true, cond_false]) (PopOk.pop rfl (by simp [L56a.T, L56a.X, L56a.H, L56a.XH]))))))))))))))))))))))))))))))))))))))))))))))))⟩
        | false =>
          exact ⟨[.b true, .ret (AV.bool (r49c.v (L a9.toNat).length fun (i : Nat) => (L a9.toNat).getD i default)) (L56a.h0 w N L a9), .b false, .b true, .b true, .b true, .b true, .b true, .b true, .b true, .b true, .b true, .b true, .b true, .b true, .b true, .b true, .b true, .b true, .b true, .b true, .b true, .b true, .b true, .b true, .b true, .b true, .b true, .b true, .b true, .b true, .b true, .b true, .b true, .b true, .ret (AV.bool (r51.v (IntKind.i64.wrap (IntKind.i64.wrap (((fun (i : Nat) => (L a9.toNat).getD i default) 0).az - ((L (IntKind.i64.wrap (a9 - 1)).toNat).getD 0 default).az) - ((L (IntKind.i64.wrap (a9 - 1)).toNat).getD 0 default).sz)) w.jl w.jh)) (L56a.h0 w N L a9), .b true, .b true, .b true], kmp (by kernel_rfl) (And.intro h1 (And.intro (And.intro o0 o1) (And.intro (r49c (w) ((L a9.toNat).length) o2 o3 (fun (i : Nat) => (L a9.toNat).getD i default)) (And.intro h2 (And.intro h3 (And.intro h3 (And.intro (And.intro (show (0 : Int) ≤ (0 : Int) by decide) o4) (And.intro h3 (And.intro h3 (And.intro h3 (And.intro h3 (And.intro h3 (And.intro h3 (And.intro h3 (And.intro (And.intro o5 o6) (And.intro h3 (And.intro h3 (And.intro (And.intro (show (0 : Int) ≤ (0 : Int) by decide) o7) (And.intro h3 (And.intro h3 (And.intro h3 (And.intro h3 (And.intro h3 (And.intro h3 (And.intro h3 (And.intro h3 (And.intro (And.intro o5 o6) (And.intro h3 (And.intro h3 (And.intro (And.intro (show (0 : Int) ≤ (0 : Int) by decide) o7) (And.intro h3 (And.intro h3 (And.intro h3 (And.intro h3 (And.intro h3 (And.intro h3 (And.intro h3 (And.intro h3 (And.intro h3 (And.intro h3 (And.intro h3 (And.intro (r51 (IntKind.i64.wrap (IntKind.i64.wrap (((fun (i : Nat) => (L a9.toNat).getD i default) 0).az - ((L (IntKind.i64.wrap (a9 - 1)).toNat).getD 0 default).az) - ((L (IntKind.i64.wrap (a9 - 1)).toNat).getD 0 default).sz)) (w.jl) (w.jh) (L56a.h0 w N L a9)) (And.intro h3 (And.intro h3 (And.intro (show (bnot (r51.v (IntKind.i64.wrap (IntKind.i64.wrap (((L a9.toNat).getD 0 default).az - ((L (IntKind.i64.wrap (a9 - 1)).toNat).getD 0 default).az) - ((L (IntKind.i64.wrap (a9 - 1)).toNat).getD 0 default).sz)) w.jl w.jh)) = true by rw [h4]; try rfl) (L56a.en w N L (k_ := k_) (z_ := a9) (h_ := [AObj.var (WD.av w), AObj.var (AV.sl 14 (L a9.toNat).length fun (i : Nat) => (SD.av ((fun (i : Nat) => (L a9.toNat).getD i default) i)))]) (.e0 : L56a.O) (by simp only [L56a.N, h1, h2, h3, h4, cond_true, cond_false]) (PopOk.pop rfl (by simp [L56a.T, L56a.X, L56a.H, L56a.XH]))))))))))))))))))))))))))))))))))))))))))))))))⟩
      | false =>
        have h3p := of_decide_eq_false h3
        try have := IntWalk.i64_in (a9 + 1) (by omega)
        have o8 : (0 : Int) ≤ IntKind.i64.wrap (a9 + (1 : Int)) := by omega
        have o9 : IntKind.i64.wrap (a9 + (1 : Int)) ≤ (↑N : Int) ∨ IntKind.i64.wrap (a9 + (1 : Int)) ≤ (0 : Int) := by omega
        have o10 : ((↑N : Int) - IntKind.i64.wrap (a9 + (1 : Int))).toNat < ((↑N : Int) - a9).toNat := by omega
        exact ⟨[.b true, .ret (AV.bool (r49c.v (L a9.toNat).length fun (i : Nat) => (L a9.toNat).getD i default)) (L56a.h0 w N L a9), .b false, .b false, .b false, .b false, .b false, .b false, .b false, .b false, .b false, .b false, .b false, .b false, .b false, .b false, .b false, .b false, .b false, .b false, .b false, .b false, .b false, .b false, .b false, .b false, .b false, .b false, .b false, .b false, .b false, .b false, .b false, .b false, .b false, .b false, .b false, .b false], kmp (by kernel_rfl) (And.intro h1 (And.intro (And.intro o0 o1) (And.intro (r49c (w) ((L a9.toNat).length) o2 o3 (fun (i : Nat) => (L a9.toNat).getD i default)) (And.intro h2 (And.intro h3 (And.intro h3 (And.intro h3 (And.intro h3 (And.intro h3 (And.intro h3 (And.intro h3 (And.intro h3 (And.intro h3 (And.intro h3 (And.intro h3 (And.intro h3 (And.intro h3 (And.intro h3 (And.intro h3 (And.intro h3 (And.intro h3 (And.intro h3 (And.intro h3 (And.intro h3 (And.intro h3 (And.intro h3 (And.intro h3 (And.intro h3 (And.intro h3 (And.intro h3 (And.intro h3 (And.intro h3 (And.intro h3 (And.intro h3 (And.intro h3 (And.intro h3 (And.intro h3 (And.intro h3 (And.intro (rfl : false = false) (L56a.nx w N L (k_ := k_) (z_ := a9) (h_ := [AObj.var (WD.av w), AObj.var (AV.sl 14 (L a9.toNat).length fun (i : Nat) => (SD.av ((fun (i : Nat) => (L a9.toNat).getD i default) i)))]) (IntKind.i64.wrap (a9 + 1)) (And.intro o8 o9) o10 (by simp only [L56a.N, h1, h2, h3, cond_true, cond_false]) (PopOk.pop rfl (by simp [L56a.T, L56a.X, L56a.H, L56a.XH]))))))))))))))))))))))))))))))))))))))))))⟩
  | false =>
    have h1p := of_decide_eq_false h1
    exact ⟨[.b false], kmp (by kernel_rfl) (And.intro h1 (L56a.en w N L (k_ := k_) (z_ := a9) (.e1 : L56a.O) (by simp only [L56a.N, h1, cond_true, cond_false]) PopOk.same))⟩
theorem L56a.e0 (w : WD) (N : Nat) (hb : N ≤ 1000) (L : Nat → List SD) (hl : ∀ (k : Nat), (L k).length ≤ 10000) (hne : ∀ (k : Nat), k < N → 0 < (L k).length) (a9 : Int) (hinv : L56a.inv w N L a9) (hN : L56a.run w N L a9 = (.e0 : L56a.O)) : LoopTo Try.prog (loopN Try.f56 0) (L56a.T w N L a9) (L56a.H w N L a9) (Exit.ret) (L56a.X w N L (.e0 : L56a.O)) (L56a.XH w N L (.e0 : L56a.O)) := by
  have h_ := L56a.spec w N hb L hl hne ((((↑N : Int) - a9).toNat) + 1) a9 hinv (Nat.lt_succ_self _)
  unfold L56a.run at hN
  simp only [hN] at h_
  exact h_
theorem L56a.e1 (w : WD) (N : Nat) (hb : N ≤ 1000) (L : Nat → List SD) (hl : ∀ (k : Nat), (L k).length ≤ 10000) (hne : ∀ (k : Nat), k < N → 0 < (L k).length) (a9 : Int) (hinv : L56a.inv w N L a9) (hN : L56a.run w N L a9 = (.e1 : L56a.O)) : LoopTo Try.prog (loopN Try.f56 0) (L56a.T w N L a9) (L56a.H w N L a9) (Exit.exit 0) (L56a.X w N L (.e1 : L56a.O)) (L56a.XH w N L (.e1 : L56a.O)) := by
  have h_ := L56a.spec w N hb L hl hne ((((↑N : Int) - a9).toNat) + 1) a9 hinv (Nat.lt_succ_self _)
  unfold L56a.run at hN
  simp only [hN] at h_
  exact h_
noncomputable def r56.v (w : WD) (N : Nat) (L : Nat → List SD) : Bool := (match L56a.run w N L 0 with | .e0 => false | .e1 => true )
theorem r56 (w : WD) (N : Nat) (hb : N ≤ 1000) (L : Nat → List SD) (hl : ∀ (k : Nat), (L k).length ≤ 10000) (hne : ∀ (k : Nat), k < N → 0 < (L k).length) (h : AHeap) : Ret Try.prog 56 ([w.av, nsts N L]) h (AV.bool (r56.v w N L)) h := by
  have o0 : N ≤ (1000 : Nat) := by assumption
  have o1 : ∀ (k : Nat), (L k).length ≤ (10000 : Nat) := by assumption
  have o2 : ∀ (k : Nat), k < N → (0 : Nat) < (L k).length := by first | assumption | omega | (simp only [List.length_append, List.length_cons, List.length_nil, List.length_map]; omega) | (apply len_ps <;> first | assumption | omega) | (exact hl _) | (exact hl _ (by omega)) | (exact hne _) | (exact hne _ (by omega)) | (simp_all; done)
  have o3 : (0 : Int) ≤ (↑N : Int) ∨ (0 : Int) ≤ (0 : Int) := by omega
  cases h1 : L56a.run w N L 0 with
  | e0 =>
    exact Ret.of_run1 mix [(AV.bool (r56.v w N L))] Try.func56 rfl [.loop (others 55 [1, 2, 7, 8, 9]) (Exit.ret) (L56a.X w N L L56a.O.e0) (L56a.XH w N L L56a.O.e0)] (by simp) (by simp) (kmp (by kernel_rfl) (And.intro (L56a.e0 (w) (N) o0 (L) o1 o2 (0) (And.intro (show (0 : Int) ≤ (0 : Int) by decide) o3) h1) (And.intro (show (AV.bool false) = ((AV.bool (r56.v w N L))) by simp only [r56.v, h1, cond_true, cond_false]) trivial))) h
  | e1 =>
    exact Ret.of_run1 mix [(AV.bool (r56.v w N L))] Try.func56 rfl [.loop (others 55 [1, 2, 7, 8, 9]) (Exit.exit 0) (L56a.X w N L L56a.O.e1) (L56a.XH w N L L56a.O.e1)] (by simp) (by simp) (kmp (by kernel_rfl) (And.intro (L56a.e1 (w) (N) o0 (L) o1 o2 (0) (And.intro (show (0 : Int) ≤ (0 : Int) by decide) o3) h1) (And.intro (show (AV.bool true) = ((AV.bool (r56.v w N L))) by simp only [r56.v, h1, cond_true, cond_false]) trivial))) h
end Go.Proofs.Ytjdbmmilcihpoaa
open Go
namespace Go.Proofs.Ytjdbmmilcihpoaa
set_option linter.unusedSimpArgs false
set_option linter.unusedVariables false
set_option maxHeartbeats 0
set_option maxRecDepth 100000
inductive L24a.O where
  | e0
  | e1
noncomputable def L24a.T (w : WD) (a3 : Int) : List AV := mkT 97 [(1, AV.ptr 0 1 6 0 0), (3, AV.int IntKind.i64 a3)]
noncomputable def L24a.H (w : WD) (a3 : Int) : AHeap := [AObj.var w.av]
def L24a.inv (w : WD) (a3 : Int) : Prop := 1 ≤ a3 ∧ (a3 ≤ (↑w.n : Int) ∨ a3 ≤ 1)
noncomputable def L24a.mu (w : WD) (a3 : Int) : Nat := ((↑w.n : Int) - a3).toNat
noncomputable def L24a.E : L24a.O → Exit
  | .e0 => Exit.ret
  | .e1 => Exit.exit 1
noncomputable def L24a.X (w : WD) : L24a.O → List AV
  | .e0 => mkT 97 [(2, (AV.int IntKind.i64 5))]
  | .e1 => mkT 97 [(1, (AV.ptr 0 1 6 0 0))]
noncomputable def L24a.XH (w : WD) : L24a.O → AHeap
  | .e0 => ([AObj.var (WD.av w)])
  | .e1 => ([AObj.var (WD.av w)])
noncomputable def L24a.N (w : WD) : Nat → Int → L24a.O
  | 0, _ => .e0
  | k_ + 1, a3 => (bif decide (a3 < (↑w.n : Int)) then (bif Op.bytesLess (w.g (IntKind.i64.wrap (a3 - 1)).toNat).nm.toList (w.g a3.toNat).nm.toList then (L24a.N w k_ (IntKind.i64.wrap (a3 + 1))) else (.e0)) else (.e1))
noncomputable def L24a.run (w : WD) (a3 : Int) : L24a.O := L24a.N w ((((↑w.n : Int) - a3).toNat) + 1) a3
theorem L24a.nx (w : WD) {k_ : Nat} {z_ : Int} {h_ : AHeap} (s_ : Int) (h1 : L24a.inv w s_) (h2 : L24a.mu w s_ < L24a.mu w z_) (h3 : L24a.N w k_ s_ = L24a.N w (k_ + 1) z_) (h4 : PopOk (L24a.H w z_) h_ (L24a.T w s_) (L24a.H w s_)) : LNextP (fun (z_ : Int) => L24a.T w z_) (fun (z_ : Int) => L24a.H w z_) (fun (z_ : Int) => L24a.inv w z_) (fun (z_ : Int) => L24a.mu w z_) (fun (k_ : Nat) (z_ : Int) => L24a.N w k_ z_) k_ z_ (L24a.T w s_) h_ := LNextP.mk (Tm := (fun (z_ : Int) => L24a.T w z_)) (Hp := (fun (z_ : Int) => L24a.H w z_)) (inv := (fun (z_ : Int) => L24a.inv w z_)) (mu := (fun (z_ : Int) => L24a.mu w z_)) (l := (fun (k_ : Nat) (z_ : Int) => L24a.N w k_ z_)) s_ h1 h2 h3 h4
theorem L24a.en (w : WD) {k_ : Nat} {z_ : Int} {h_ : AHeap} (o_ : L24a.O) (h3 : L24a.N w (k_ + 1) z_ = o_) (h4 : PopOk (L24a.H w z_) h_ (L24a.X w o_) (L24a.XH w o_)) : LEndP (fun (z_ : Int) => L24a.H w z_) (fun (k_ : Nat) (z_ : Int) => L24a.N w k_ z_) L24a.E (L24a.X w) (L24a.XH w) k_ z_ (L24a.E o_) (L24a.X w o_) h_ := LEndP.mk (Hp := (fun (z_ : Int) => L24a.H w z_)) (l := (fun (k_ : Nat) (z_ : Int) => L24a.N w k_ z_)) (oE := L24a.E) (oT := L24a.X w) (oH := L24a.XH w) o_ h3 h4
theorem L24a.spec (w : WD) (hn : w.n ≤ 10000) (k_ : Nat) (z_ : Int) (hi_ : L24a.inv w z_) (hm_ : L24a.mu w z_ < k_) : LoopTo Try.prog (loopN Try.f24 0) (L24a.T w z_) (L24a.H w z_) (L24a.E (L24a.N w k_ z_)) (L24a.X w (L24a.N w k_ z_)) (L24a.XH w (L24a.N w k_ z_)) := by
  refine LoopTo.fuelP mix (fun (z_ : Int) => L24a.T w z_) (fun (z_ : Int) => L24a.H w z_) (fun (z_ : Int) => L24a.inv w z_) (fun (z_ : Int) => L24a.mu w z_) (fun (k_ : Nat) (z_ : Int) => L24a.N w k_ z_) L24a.E (L24a.X w) (L24a.XH w) (others 97 [1, 3]) (others 97 [2]) (others 97 [1]) ?_ k_ z_ hi_ hm_
  clear hm_ hi_ z_ k_
  intro k_ z_ hinv hmu
  revert hinv hmu; revert z_; intro a3 hinv hmu
  have hinv : 1 ≤ a3 ∧ (a3 ≤ (↑w.n : Int) ∨ a3 ≤ 1) := hinv
  have hmu : (((↑w.n : Int) - a3).toNat) < k_ + 1 := hmu
  cases h1 : decide (a3 < (↑w.n : Int)) with
  | true =>
    have h1p := of_decide_eq_true h1
    try have := IntWalk.i64_in (a3 - 1) (by omega)
    have o0 : (0 : Int) ≤ IntKind.i64.wrap (a3 - (1 : Int)) := by omega
    have o1 : IntKind.i64.wrap (a3 - (1 : Int)) < (↑w.n : Int) := by omega
    have o2 : (0 : Int) ≤ a3 := by omega
    have o3 : a3 < (↑w.n : Int) := by assumption
    cases h2 : Op.bytesLess (w.g (IntKind.i64.wrap (a3 - 1)).toNat).nm.toList (w.g a3.toNat).nm.toList with
    | true =>
      try have := IntWalk.i64_in (a3 + 1) (by omega)
      have o4 : (1 : Int) ≤ IntKind.i64.wrap (a3 + (1 : Int)) := by omega
      have o5 : IntKind.i64.wrap (a3 + (1 : Int)) ≤ (↑w.n : Int) ∨ IntKind.i64.wrap (a3 + (1 : Int)) ≤ (1 : Int) := by omega
      have o6 : ((↑w.n : Int) - IntKind.i64.wrap (a3 + (1 : Int))).toNat < ((↑w.n : Int) - a3).toNat := by omega
      exact ⟨[.b true, .b false], kmp (by kernel_rfl) (And.intro h1 (And.intro (And.intro o0 o1) (And.intro (And.intro o2 o3) (And.intro (show (bnot (Op.bytesLess (w.g (IntKind.i64.wrap (a3 - 1)).toNat).nm.toList (w.g a3.toNat).nm.toList)) = false by rw [h2]; try rfl) (L24a.nx w (k_ := k_) (z_ := a3) (IntKind.i64.wrap (a3 + 1)) (And.intro o4 o5) o6 (by simp only [L24a.N, h1, h2, cond_true, cond_false]) PopOk.same)))))⟩
    | false =>
      exact ⟨[.b true, .b true], kmp (by kernel_rfl) (And.intro h1 (And.intro (And.intro o0 o1) (And.intro (And.intro o2 o3) (And.intro (show (bnot (Op.bytesLess (w.g (IntKind.i64.wrap (a3 - 1)).toNat).nm.toList (w.g a3.toNat).nm.toList)) = true by rw [h2]; try rfl) (L24a.en w (k_ := k_) (z_ := a3) (.e0 : L24a.O) (by simp only [L24a.N, h1, h2, cond_true, cond_false]) PopOk.same)))))⟩
  | false =>
    have h1p := of_decide_eq_false h1
    exact ⟨[.b false], kmp (by kernel_rfl) (And.intro h1 (L24a.en w (k_ := k_) (z_ := a3) (.e1 : L24a.O) (by simp only [L24a.N, h1, cond_true, cond_false]) PopOk.same))⟩
theorem L24a.e0 (w : WD) (hn : w.n ≤ 10000) (a3 : Int) (hinv : L24a.inv w a3) (hN : L24a.run w a3 = (.e0 : L24a.O)) : LoopTo Try.prog (loopN Try.f24 0) (L24a.T w a3) (L24a.H w a3) (Exit.ret) (L24a.X w (.e0 : L24a.O)) (L24a.XH w (.e0 : L24a.O)) := by
  have h_ := L24a.spec w hn ((((↑w.n : Int) - a3).toNat) + 1) a3 hinv (Nat.lt_succ_self _)
  unfold L24a.run at hN
  simp only [hN] at h_
  exact h_
theorem L24a.e1 (w : WD) (hn : w.n ≤ 10000) (a3 : Int) (hinv : L24a.inv w a3) (hN : L24a.run w a3 = (.e1 : L24a.O)) : LoopTo Try.prog (loopN Try.f24 0) (L24a.T w a3) (L24a.H w a3) (Exit.exit 1) (L24a.X w (.e1 : L24a.O)) (L24a.XH w (.e1 : L24a.O)) := by
  have h_ := L24a.spec w hn ((((↑w.n : Int) - a3).toNat) + 1) a3 hinv (Nat.lt_succ_self _)
  unfold L24a.run at hN
  simp only [hN] at h_
  exact h_
end Go.Proofs.Ytjdbmmilcihpoaa
open Go
namespace Go.Proofs.Ytjdbmmilcihpoaa
set_option maxHeartbeats 0
set_option maxRecDepth 100000
set_option linter.unusedVariables false
set_option linter.unusedSimpArgs false
theorem idx_any (p : Nat → Bool) (n : Nat) (O : Type) (f : O → Int) (hit : Nat → O) (miss : O) (h1 : ∀ i : Nat, f (hit i) = i) (h2 : f miss = -1) :
    decide (f (srch p hit miss 0 n) ≥ 0) = anyN n p := by
  rcases srch_cases p hit miss n 0 with ⟨a1, a2⟩ | ⟨j, a1, a2, a3, a4, a5⟩
  · rw [a2, h2, anyN_false.2 fun i hi => a1 i (Nat.zero_le _) (by omega)]; rfl
  · rw [a5, h1, anyN_true.2 ⟨j, by omega, a3⟩, decide_eq_true (by omega)]
theorem r49a_v {n : Nat} {g : Nat → SD} (hn : n ≤ 9223372036854775807) : r49a.v n g = anyN n (fun i => r50.v (g i)) := by
  have := search_eq (n := n) (fun i => r50.v (g i)) (fun i => L59aa.O.e0 i) .e1 (N := L59aa.N n g) (fun k i h => by
    simp only [L59aa.N, wrap_succ hn h, Int.toNat_natCast]; rw [decide_eq_true (by omega)]; rfl) (fun k => by simp [L59aa.N]) (n + 1) 0 (Nat.zero_le _) (by omega)
  have e : L59aa.run n g 0 = srch (fun i => r50.v (g i)) (fun i => L59aa.O.e0 i) .e1 0 n := by simpa [L59aa.run] using this
  unfold r49a.v r59a.v
  rw [e]
  exact idx_any _ n L59aa.O (fun o => match o with | .e0 a => a | .e1 => -1) _ _ (fun i => rfl) rfl
theorem r49b_v {n : Nat} {g : Nat → SD} (hn : n ≤ 9223372036854775807) : r49b.v n g = anyN n (fun i => r52.v (g i)) := by
  have := search_eq (n := n) (fun i => r52.v (g i)) (fun i => L59ba.O.e0 i) .e1 (N := L59ba.N n g) (fun k i h => by
    simp only [L59ba.N, wrap_succ hn h, Int.toNat_natCast]; rw [decide_eq_true (by omega)]; rfl) (fun k => by simp [L59ba.N]) (n + 1) 0 (Nat.zero_le _) (by omega)
  have e : L59ba.run n g 0 = srch (fun i => r52.v (g i)) (fun i => L59ba.O.e0 i) .e1 0 n := by simpa [L59ba.run] using this
  unfold r49b.v r59b.v
  rw [e]
  exact idx_any _ n L59ba.O (fun o => match o with | .e0 a => a | .e1 => -1) _ _ (fun i => rfl) rfl
theorem r54_v {n : Nat} {L : Nat → List SD} (hn : n ≤ 9223372036854775807) : r54.v n L = anyN n (fun i => r55.v (L i).length) := by
  have := search_eq (n := n) (fun i => r55.v (L i).length) (fun i => L77a.O.e0 i) .e1 (N := L77a.N n L) (fun k i h => by
    simp only [L77a.N, wrap_succ hn h, Int.toNat_natCast]; rw [decide_eq_true (by omega)]; rfl) (fun k => by simp [L77a.N]) (n + 1) 0 (Nat.zero_le _) (by omega)
  have e : L77a.run n L 0 = srch (fun i => r55.v (L i).length) (fun i => L77a.O.e0 i) .e1 0 n := by simpa [L77a.run] using this
  unfold r54.v r77.v
  rw [e]
  exact idx_any _ n L77a.O (fun o => match o with | .e0 a => a | .e1 => -1) _ _ (fun i => rfl) rfl
theorem in51 {x a b : Int} (h : r51.v x a b = true) : a ≤ x ∧ x ≤ b := by
  unfold r51.v at h
  by_cases q : x ≥ a
  · rw [decide_eq_true q, cond_true] at h; exact ⟨q, of_decide_eq_true h⟩
  · rw [decide_eq_false q] at h; cases h
/-- The numbers of a stone. -/
structure SOk (s : SD) : Prop where
  sx : 1 ≤ s.sx ∧ s.sx ≤ 1000000
  sz : 1 ≤ s.sz ∧ s.sz ≤ 1000000
  ax : 0 ≤ s.ax ∧ s.ax ≤ 1000000
  az : 0 ≤ s.az ∧ s.az ≤ 1000000
  tl : 0 ≤ s.tl ∧ s.tl ≤ 100
  co : 0 ≤ s.co ∧ s.co ≤ 99
theorem sok {s : SD} (h : r52.v s = false) : SOk s := by
  unfold r52.v at h
  have h : r53.v s = true := by cases q : r53.v s with | true => rfl | false => rw [q] at h; cases h
  unfold r53.v at h
  have st : ∀ {b x : Bool}, (bif b then x else false) = true → b = true ∧ x = true := by
    intro b x h; cases b
    · cases h
    · exact ⟨rfl, h⟩
  obtain ⟨h1, h⟩ := st h
  obtain ⟨h2, h⟩ := st h
  obtain ⟨h3, h⟩ := st h
  obtain ⟨h4, h⟩ := st h
  obtain ⟨h5, h6⟩ := st h
  exact ⟨in51 h1, in51 h2, in51 h3, in51 h4, in51 h5, in51 h6⟩
theorem sok_all {n : Nat} {g : Nat → SD} (hn : n ≤ 10000) (h : r49b.v n g = false) : ∀ i, i < n → SOk (g i) := by
  rw [r49b_v (by omega)] at h
  exact fun i hi => sok (anyN_false.1 h i hi)
theorem co_of {w : WD} (hn : w.n ≤ 10000) (h : r49b.v w.n w.g = false) : ∀ i, i < w.n → 0 ≤ (w.g i).co ∧ (w.g i).co ≤ 99 := fun i hi => (sok_all hn h i hi).co
/-- Names rise. -/
theorem rise_N {w : WD} (hn : w.n ≤ 10000) : ∀ (m i : Nat), 1 ≤ i → L24a.N w m (i : Int) = .e1 → ∀ j, i ≤ j → j < w.n → (w.g (j - 1)).nm.toList < (w.g j).nm.toList := by
  intro m
  induction m with
  | zero => intro i h1 h; cases h
  | succ m ih =>
    intro i h1 h j hj hjn
    simp only [L24a.N, Int.toNat_natCast] at h
    have hi : i < w.n := by omega
    rw [decide_eq_true (show (i : Int) < (w.n : Int) by omega), cond_true, show IntKind.i64.wrap ((i : Int) - 1) = ((i - 1 : Nat) : Int) by rw [IntWalk.i64_in _ (by omega)]; omega, show IntKind.i64.wrap ((i : Int) + 1) = ((i + 1 : Nat) : Int) by rw [IntWalk.i64_in _ (by omega)]; omega, Int.toNat_natCast] at h
    rw [Go.Proofs.bytesLess_eq] at h
    by_cases q : (w.g (i - 1)).nm.toList < (w.g i).nm.toList
    · rw [decide_eq_true q, cond_true] at h
      by_cases e : j = i
      · subst e; exact q
      · exact ih (i + 1) (by omega) h j (by omega) hjn
    · rw [decide_eq_false q] at h; cases h
theorem rise_lt {g : Nat → SD} {n : Nat} (h : ∀ j, 1 ≤ j → j < n → (g (j - 1)).nm.toList < (g j).nm.toList) : ∀ (d i : Nat), i + d + 1 < n → (g i).nm.toList < (g (i + d + 1)).nm.toList := by
  intro d
  induction d with
  | zero => intro i hi; have := h (i + 1) (by omega) hi; rwa [Nat.add_sub_cancel] at this
  | succ d ih =>
    intro i hi
    have h1 := ih i (by omega)
    have h2 := h (i + d + 1 + 1) (by omega) (by omega)
    rw [Nat.add_sub_cancel] at h2
    exact List.lt_trans h1 h2
theorem rise {w : WD} (hn : w.n ≤ 10000) (h : L24a.run w 1 = .e1) : ∀ i j, i < j → j < w.n → (w.g i).nm.toList < (w.g j).nm.toList := by
  have hr := rise_N hn _ 1 (Nat.le_refl _) h
  intro i j hij hj
  have := rise_lt (g := w.g) (n := w.n) (fun j h1 h2 => hr j h1 h2) (j - i - 1) i (by omega)
  rwa [show i + (j - i - 1) + 1 = j by omega] at this
theorem nm_of {w : WD} (hn : w.n ≤ 10000) (h : L24a.run w 1 = .e1) : ∀ i j, i < w.n → j < w.n → (w.g i).nm.toList = (w.g j).nm.toList → i = j := by
  intro i j hi hj e
  rcases Nat.lt_trichotomy i j with q | q | q
  · have := rise hn h i j q hj; rw [e] at this; exact absurd this (List.lt_irrefl _)
  · exact q
  · have := rise hn h j i q hi; rw [e] at this; exact absurd this (List.lt_irrefl _)
theorem cC_len {w : WD} (hn : w.n ≤ 10000) : ∀ k, (cC w k).length ≤ 10000 := fun k => by
  unfold cC
  rw [srtS_len]
  have := crs_lt w.g k w.n
  omega
theorem nC_le {w : WD} (hn : w.n ≤ 10000) (h : r49b.v w.n w.g = false) : nC w ≤ 1000 := by
  obtain ⟨_, t2⟩ := top_le w.g 99 (by decide) w.n fun i hi => (co_of hn h i hi).2
  unfold nC; omega
theorem cC_pos {w : WD} (hn : w.n ≤ 10000) (hN : nC w ≤ 1000) (h : r54.v (nC w) (cC w) = false) : ∀ k, k < nC w → 0 < (cC w k).length := by
  rw [r54_v (by omega)] at h
  intro k hk
  have := anyN_false.1 h k hk
  unfold r55.v at this
  have h0 : ((cC w k).length : Int) ≠ 0 := by simpa using this
  omega
end Go.Proofs.Ytjdbmmilcihpoaa
open Go
namespace Go.Proofs.Ytjdbmmilcihpoaa
set_option linter.unusedSimpArgs false
set_option linter.unusedVariables false
set_option maxHeartbeats 0
set_option maxRecDepth 100000
noncomputable def r24.v (w : WD) : Int := (bif decide ((↑w.n : Int) > 512) then 7 else (bif r48.v w.nm then (bif r49a.v w.n w.g then 4 else (bif r51.v w.len 1 1000000 then (bif r51.v w.lap 0 1000000 then (bif r51.v w.jl 0 1000 then (bif r51.v w.jh 0 1000 then (bif r49b.v w.n w.g then 6 else (bif decide (w.jl > w.jh) then 1 else (match L24a.run w 1 with | .e0 => 5 | .e1 => (bif r54.v (nC w) (cC w) then 9 else (bif r56.v w (nC w) (cC w) then (bif r57.v (nC w) (cC w) then 11 else (bif r58.v w (nC w) (cC w) then 0 else 10)) else 10)) ))) else 6) else 6) else 6) else 6)) else 4))
noncomputable abbrev r24.h0 (w : WD) : AHeap := ([AObj.var (WD.av w)])
theorem r24 (w : WD) (hn : w.n ≤ 10000) (hnm : w.nm.size ≤ 9223372036854775807) (hg : ∀ (i : Nat), (w.g i).nm.size ≤ 9223372036854775807) (h : AHeap) : Ret Try.prog 24 ([w.av]) h (AV.int IntKind.i64 (r24.v w)) h := by
  cases h1 : decide ((↑w.n : Int) > 512) with
  | true =>
    have h1p := of_decide_eq_true h1
    exact Ret.of_run1 mix [(AV.int IntKind.i64 (r24.v w))] Try.func24 rfl [.b true] (by simp) (by simp) (kmp (by kernel_rfl) (And.intro h1 (And.intro (show (AV.int IntKind.i64 7) = ((AV.int IntKind.i64 (r24.v w))) by simp only [r24.v, h1, cond_true, cond_false]) trivial))) h
  | false =>
    have h1p := of_decide_eq_false h1
    have o0 : w.nm.size ≤ (9223372036854775807 : Nat) := by assumption
    cases h2 : r48.v w.nm with
    | true =>
      have o1 : w.n ≤ (9223372036854775807 : Nat) := by omega
      have o2 : ∀ (i : Nat), (w.g i).nm.size ≤ (9223372036854775807 : Nat) := by assumption
      cases h3 : r49a.v w.n w.g with
      | true =>
        exact Ret.of_run1 mix [(AV.int IntKind.i64 (r24.v w))] Try.func24 rfl [.b false, .ret (AV.bool (r48.v w.nm)) (r24.h0 w), .b false, .b false, .b false, .ret (AV.bool (r49a.v w.n w.g)) (r24.h0 w), .b false, .b true] (by simp) (by simp) (kmp (by kernel_rfl) (And.intro h1 (And.intro (r48 (w.nm) o0 (r24.h0 w)) (And.intro (show (bnot (r48.v w.nm)) = false by rw [h2]; try rfl) (And.intro (show (bnot (r48.v w.nm)) = false by rw [h2]; try rfl) (And.intro (show (bnot (r48.v w.nm)) = false by rw [h2]; try rfl) (And.intro (r49a (w.n) (w.g) o1 o2 (r24.h0 w)) (And.intro (show (bnot (r48.v w.nm)) = false by rw [h2]; try rfl) (And.intro h3 (And.intro (show (AV.int IntKind.i64 4) = ((AV.int IntKind.i64 (r24.v w))) by simp only [r24.v, h1, h2, h3, cond_true, cond_false]) trivial)))))))))) h
      | false =>
        cases h4 : r51.v w.len 1 1000000 with
        | true =>
          cases h5 : r51.v w.lap 0 1000000 with
          | true =>
            cases h6 : r51.v w.jl 0 1000 with
            | true =>
              cases h7 : r51.v w.jh 0 1000 with
              | true =>
                cases h8 : r49b.v w.n w.g with
                | true =>
                  exact Ret.of_run1 mix [(AV.int IntKind.i64 (r24.v w))] Try.func24 rfl [.b false, .ret (AV.bool (r48.v w.nm)) (r24.h0 w), .b false, .b false, .b false, .ret (AV.bool (r49a.v w.n w.g)) (r24.h0 w), .b false, .b false, .ret (AV.bool (r51.v w.len 1 1000000)) (r24.h0 w), .b false, .b false, .b false, .ret (AV.bool (r51.v w.lap 0 1000000)) (r24.h0 w), .b false, .b false, .b false, .b false, .b false, .b false, .ret (AV.bool (r51.v w.jl 0 1000)) (r24.h0 w), .b false, .b false, .b false, .b false, .b false, .b false, .ret (AV.bool (r51.v w.jh 0 1000)) (r24.h0 w), .b false, .b false, .b false, .b false, .b false, .ret (AV.bool (r49b.v w.n w.g)) (r24.h0 w), .b false, .b true] (by simp) (by simp) (kmp (by kernel_rfl) (And.intro h1 (And.intro (r48 (w.nm) o0 (r24.h0 w)) (And.intro (show (bnot (r48.v w.nm)) = false by rw [h2]; try rfl) (And.intro (show (bnot (r48.v w.nm)) = false by rw [h2]; try rfl) (And.intro (show (bnot (r48.v w.nm)) = false by rw [h2]; try rfl) (And.intro (r49a (w.n) (w.g) o1 o2 (r24.h0 w)) (And.intro (show (bnot (r48.v w.nm)) = false by rw [h2]; try rfl) (And.intro h3 (And.intro (r51 (w.len) (1) (1000000) (r24.h0 w)) (And.intro (show (bnot (r51.v w.len 1 1000000)) = false by rw [h4]; try rfl) (And.intro (show (bnot (r51.v w.len 1 1000000)) = false by rw [h4]; try rfl) (And.intro (show (bnot (r51.v w.len 1 1000000)) = false by rw [h4]; try rfl) (And.intro (r51 (w.lap) (0) (1000000) (r24.h0 w)) (And.intro (show (bnot (r51.v w.len 1 1000000)) = false by rw [h4]; try rfl) (And.intro (show (bnot (r51.v w.len 1 1000000)) = false by rw [h4]; try rfl) (And.intro (show (bnot (r51.v w.lap 0 1000000)) = false by rw [h5]; try rfl) (And.intro (show (bnot (r51.v w.lap 0 1000000)) = false by rw [h5]; try rfl) (And.intro (show (bnot (r51.v w.lap 0 1000000)) = false by rw [h5]; try rfl) (And.intro (show (bnot (r51.v w.lap 0 1000000)) = false by rw [h5]; try rfl) (And.intro (r51 (w.jl) (0) (1000) (r24.h0 w)) (And.intro (show (bnot (r51.v w.lap 0 1000000)) = false by rw [h5]; try rfl) (And.intro (show (bnot (r51.v w.lap 0 1000000)) = false by rw [h5]; try rfl) (And.intro (show (bnot (r51.v w.jl 0 1000)) = false by rw [h6]; try rfl) (And.intro (show (bnot (r51.v w.jl 0 1000)) = false by rw [h6]; try rfl) (And.intro (show (bnot (r51.v w.jl 0 1000)) = false by rw [h6]; try rfl) (And.intro (show (bnot (r51.v w.jl 0 1000)) = false by rw [h6]; try rfl) (And.intro (r51 (w.jh) (0) (1000) (r24.h0 w)) (And.intro (show (bnot (r51.v w.jl 0 1000)) = false by rw [h6]; try rfl) (And.intro (show (bnot (r51.v w.jl 0 1000)) = false by rw [h6]; try rfl) (And.intro (show (bnot (r51.v w.jh 0 1000)) = false by rw [h7]; try rfl) (And.intro (show (bnot (r51.v w.jh 0 1000)) = false by rw [h7]; try rfl) (And.intro (show (bnot (r51.v w.jh 0 1000)) = false by rw [h7]; try rfl) (And.intro (r49b (w.n) (w.g) o1 (r24.h0 w)) (And.intro (show (bnot (r51.v w.jh 0 1000)) = false by rw [h7]; try rfl) (And.intro h8 (And.intro (show (AV.int IntKind.i64 6) = ((AV.int IntKind.i64 (r24.v w))) by simp only [r24.v, h1, h2, h3, h4, h5, h6, h7, h8, cond_true, cond_false]) trivial))))))))))))))))))))))))))))))))))))) h
                | false =>
                  cases h9 : decide (w.jl > w.jh) with
                  | true =>
                    have h9p := of_decide_eq_true h9
                    exact Ret.of_run1 mix [(AV.int IntKind.i64 (r24.v w))] Try.func24 rfl [.b false, .ret (AV.bool (r48.v w.nm)) (r24.h0 w), .b false, .b false, .b false, .ret (AV.bool (r49a.v w.n w.g)) (r24.h0 w), .b false, .b false, .ret (AV.bool (r51.v w.len 1 1000000)) (r24.h0 w), .b false, .b false, .b false, .ret (AV.bool (r51.v w.lap 0 1000000)) (r24.h0 w), .b false, .b false, .b false, .b false, .b false, .b false, .ret (AV.bool (r51.v w.jl 0 1000)) (r24.h0 w), .b false, .b false, .b false, .b false, .b false, .b false, .ret (AV.bool (r51.v w.jh 0 1000)) (r24.h0 w), .b false, .b false, .b false, .b false, .b false, .ret (AV.bool (r49b.v w.n w.g)) (r24.h0 w), .b false, .b false, .b true] (by simp) (by simp) (kmp (by kernel_rfl) (And.intro h1 (And.intro (r48 (w.nm) o0 (r24.h0 w)) (And.intro (show (bnot (r48.v w.nm)) = false by rw [h2]; try rfl) (And.intro (show (bnot (r48.v w.nm)) = false by rw [h2]; try rfl) (And.intro (show (bnot (r48.v w.nm)) = false by rw [h2]; try rfl) (And.intro (r49a (w.n) (w.g) o1 o2 (r24.h0 w)) (And.intro (show (bnot (r48.v w.nm)) = false by rw [h2]; try rfl) (And.intro h3 (And.intro (r51 (w.len) (1) (1000000) (r24.h0 w)) (And.intro (show (bnot (r51.v w.len 1 1000000)) = false by rw [h4]; try rfl) (And.intro (show (bnot (r51.v w.len 1 1000000)) = false by rw [h4]; try rfl) (And.intro (show (bnot (r51.v w.len 1 1000000)) = false by rw [h4]; try rfl) (And.intro (r51 (w.lap) (0) (1000000) (r24.h0 w)) (And.intro (show (bnot (r51.v w.len 1 1000000)) = false by rw [h4]; try rfl) (And.intro (show (bnot (r51.v w.len 1 1000000)) = false by rw [h4]; try rfl) (And.intro (show (bnot (r51.v w.lap 0 1000000)) = false by rw [h5]; try rfl) (And.intro (show (bnot (r51.v w.lap 0 1000000)) = false by rw [h5]; try rfl) (And.intro (show (bnot (r51.v w.lap 0 1000000)) = false by rw [h5]; try rfl) (And.intro (show (bnot (r51.v w.lap 0 1000000)) = false by rw [h5]; try rfl) (And.intro (r51 (w.jl) (0) (1000) (r24.h0 w)) (And.intro (show (bnot (r51.v w.lap 0 1000000)) = false by rw [h5]; try rfl) (And.intro (show (bnot (r51.v w.lap 0 1000000)) = false by rw [h5]; try rfl) (And.intro (show (bnot (r51.v w.jl 0 1000)) = false by rw [h6]; try rfl) (And.intro (show (bnot (r51.v w.jl 0 1000)) = false by rw [h6]; try rfl) (And.intro (show (bnot (r51.v w.jl 0 1000)) = false by rw [h6]; try rfl) (And.intro (show (bnot (r51.v w.jl 0 1000)) = false by rw [h6]; try rfl) (And.intro (r51 (w.jh) (0) (1000) (r24.h0 w)) (And.intro (show (bnot (r51.v w.jl 0 1000)) = false by rw [h6]; try rfl) (And.intro (show (bnot (r51.v w.jl 0 1000)) = false by rw [h6]; try rfl) (And.intro (show (bnot (r51.v w.jh 0 1000)) = false by rw [h7]; try rfl) (And.intro (show (bnot (r51.v w.jh 0 1000)) = false by rw [h7]; try rfl) (And.intro (show (bnot (r51.v w.jh 0 1000)) = false by rw [h7]; try rfl) (And.intro (r49b (w.n) (w.g) o1 (r24.h0 w)) (And.intro (show (bnot (r51.v w.jh 0 1000)) = false by rw [h7]; try rfl) (And.intro h8 (And.intro h9 (And.intro (show (AV.int IntKind.i64 1) = ((AV.int IntKind.i64 (r24.v w))) by simp only [r24.v, h1, h2, h3, h4, h5, h6, h7, h8, h9, cond_true, cond_false]) trivial)))))))))))))))))))))))))))))))))))))) h
                  | false =>
                    have h9p := of_decide_eq_false h9
                    have o3 : w.n ≤ (10000 : Nat) := by assumption
                    have o4 : (1 : Int) ≤ (↑w.n : Int) ∨ (1 : Int) ≤ (1 : Int) := by omega
                    cases h10 : L24a.run w 1 with
                    | e0 =>
                      exact Ret.of_run1 mix [(AV.int IntKind.i64 (r24.v w))] Try.func24 rfl [.b false, .ret (AV.bool (r48.v w.nm)) (r24.h0 w), .b false, .b false, .b false, .ret (AV.bool (r49a.v w.n w.g)) (r24.h0 w), .b false, .b false, .ret (AV.bool (r51.v w.len 1 1000000)) (r24.h0 w), .b false, .b false, .b false, .ret (AV.bool (r51.v w.lap 0 1000000)) (r24.h0 w), .b false, .b false, .b false, .b false, .b false, .b false, .ret (AV.bool (r51.v w.jl 0 1000)) (r24.h0 w), .b false, .b false, .b false, .b false, .b false, .b false, .ret (AV.bool (r51.v w.jh 0 1000)) (r24.h0 w), .b false, .b false, .b false, .b false, .b false, .ret (AV.bool (r49b.v w.n w.g)) (r24.h0 w), .b false, .b false, .b false, .loop (others 97 [1, 3]) (Exit.ret) (L24a.X w L24a.O.e0) (L24a.XH w L24a.O.e0)] (by simp) (by simp) (kmp (by kernel_rfl) (And.intro h1 (And.intro (r48 (w.nm) o0 (r24.h0 w)) (And.intro (show (bnot (r48.v w.nm)) = false by rw [h2]; try rfl) (And.intro (show (bnot (r48.v w.nm)) = false by rw [h2]; try rfl) (And.intro (show (bnot (r48.v w.nm)) = false by rw [h2]; try rfl) (And.intro (r49a (w.n) (w.g) o1 o2 (r24.h0 w)) (And.intro (show (bnot (r48.v w.nm)) = false by rw [h2]; try rfl) (And.intro h3 (And.intro (r51 (w.len) (1) (1000000) (r24.h0 w)) (And.intro (show (bnot (r51.v w.len 1 1000000)) = false by rw [h4]; try rfl) (And.intro (show (bnot (r51.v w.len 1 1000000)) = false by rw [h4]; try rfl) (And.intro (show (bnot (r51.v w.len 1 1000000)) = false by rw [h4]; try rfl) (And.intro (r51 (w.lap) (0) (1000000) (r24.h0 w)) (And.intro (show (bnot (r51.v w.len 1 1000000)) = false by rw [h4]; try rfl) (And.intro (show (bnot (r51.v w.len 1 1000000)) = false by rw [h4]; try rfl) (And.intro (show (bnot (r51.v w.lap 0 1000000)) = false by rw [h5]; try rfl) (And.intro (show (bnot (r51.v w.lap 0 1000000)) = false by rw [h5]; try rfl) (And.intro (show (bnot (r51.v w.lap 0 1000000)) = false by rw [h5]; try rfl) (And.intro (show (bnot (r51.v w.lap 0 1000000)) = false by rw [h5]; try rfl) (And.intro (r51 (w.jl) (0) (1000) (r24.h0 w)) (And.intro (show (bnot (r51.v w.lap 0 1000000)) = false by rw [h5]; try rfl) (And.intro (show (bnot (r51.v w.lap 0 1000000)) = false by rw [h5]; try rfl) (And.intro (show (bnot (r51.v w.jl 0 1000)) = false by rw [h6]; try rfl) (And.intro (show (bnot (r51.v w.jl 0 1000)) = false by rw [h6]; try rfl) (And.intro (show (bnot (r51.v w.jl 0 1000)) = false by rw [h6]; try rfl) (And.intro (show (bnot (r51.v w.jl 0 1000)) = false by rw [h6]; try rfl) (And.intro (r51 (w.jh) (0) (1000) (r24.h0 w)) (And.intro (show (bnot (r51.v w.jl 0 1000)) = false by rw [h6]; try rfl) (And.intro (show (bnot (r51.v w.jl 0 1000)) = false by rw [h6]; try rfl) (And.intro (show (bnot (r51.v w.jh 0 1000)) = false by rw [h7]; try rfl) (And.intro (show (bnot (r51.v w.jh 0 1000)) = false by rw [h7]; try rfl) (And.intro (show (bnot (r51.v w.jh 0 1000)) = false by rw [h7]; try rfl) (And.intro (r49b (w.n) (w.g) o1 (r24.h0 w)) (And.intro (show (bnot (r51.v w.jh 0 1000)) = false by rw [h7]; try rfl) (And.intro h8 (And.intro h9 (And.intro (L24a.e0 (w) o3 (1) (And.intro (show (1 : Int) ≤ (1 : Int) by decide) o4) h10) (And.intro (show (AV.int IntKind.i64 5) = ((AV.int IntKind.i64 (r24.v w))) by simp only [r24.v, h1, h2, h3, h4, h5, h6, h7, h8, h9, h10, cond_true, cond_false]) trivial))))))))))))))))))))))))))))))))))))))) h
                    | e1 =>
                      have o5 : ∀ (i : Nat), i < w.n → (0 : Int) ≤ (w.g i).co ∧ (w.g i).co ≤ (99 : Int) := by first | assumption | omega | (apply co_of <;> first | assumption | omega) | (exact hg _) | (exact hg _ (by omega)) | (simp_all; done)
                      have o6 : ∀ (i j : Nat), i < w.n → j < w.n → (w.g i).nm.toList = (w.g j).nm.toList → i = j := by first | assumption | omega | (apply nm_of <;> first | assumption | omega) | (exact hg _) | (exact hg _ (by omega)) | (simp_all; done)
                      have o7 : nC w ≤ (1000 : Nat) := by first | assumption | omega | (apply nC_le <;> first | assumption | omega) | (exact hg _) | (exact hg _ (by omega)) | (simp_all; done)
                      cases h11 : r54.v (nC w) (cC w) with
                      | true =>
                        exact Ret.of_run1 mix [(AV.int IntKind.i64 (r24.v w))] Try.func24 rfl [.b false, .ret (AV.bool (r48.v w.nm)) (r24.h0 w), .b false, .b false, .b false, .ret (AV.bool (r49a.v w.n w.g)) (r24.h0 w), .b false, .b false, .ret (AV.bool (r51.v w.len 1 1000000)) (r24.h0 w), .b false, .b false, .b false, .ret (AV.bool (r51.v w.lap 0 1000000)) (r24.h0 w), .b false, .b false, .b false, .b false, .b false, .b false, .ret (AV.bool (r51.v w.jl 0 1000)) (r24.h0 w), .b false, .b false, .b false, .b false, .b false, .b false, .ret (AV.bool (r51.v w.jh 0 1000)) (r24.h0 w), .b false, .b false, .b false, .b false, .b false, .ret (AV.bool (r49b.v w.n w.g)) (r24.h0 w), .b false, .b false, .b false, .loop (others 97 [1, 3]) (Exit.exit 1) (L24a.X w L24a.O.e1) (L24a.XH w L24a.O.e1), .ret (AV.sl 1 (nC w) fun (j : Nat) => AV.sl 14 (cC w j).length fun (q : Nat) => (SD.av ((cC w j).getD q default))) (r24.h0 w), .ret (AV.bool (r54.v (nC w) (cC w))) (r24.h0 w), .b true] (by simp) (by simp) (kmp (by kernel_rfl) (And.intro h1 (And.intro (r48 (w.nm) o0 (r24.h0 w)) (And.intro (show (bnot (r48.v w.nm)) = false by rw [h2]; try rfl) (And.intro (show (bnot (r48.v w.nm)) = false by rw [h2]; try rfl) (And.intro (show (bnot (r48.v w.nm)) = false by rw [h2]; try rfl) (And.intro (r49a (w.n) (w.g) o1 o2 (r24.h0 w)) (And.intro (show (bnot (r48.v w.nm)) = false by rw [h2]; try rfl) (And.intro h3 (And.intro (r51 (w.len) (1) (1000000) (r24.h0 w)) (And.intro (show (bnot (r51.v w.len 1 1000000)) = false by rw [h4]; try rfl) (And.intro (show (bnot (r51.v w.len 1 1000000)) = false by rw [h4]; try rfl) (And.intro (show (bnot (r51.v w.len 1 1000000)) = false by rw [h4]; try rfl) (And.intro (r51 (w.lap) (0) (1000000) (r24.h0 w)) (And.intro (show (bnot (r51.v w.len 1 1000000)) = false by rw [h4]; try rfl) (And.intro (show (bnot (r51.v w.len 1 1000000)) = false by rw [h4]; try rfl) (And.intro (show (bnot (r51.v w.lap 0 1000000)) = false by rw [h5]; try rfl) (And.intro (show (bnot (r51.v w.lap 0 1000000)) = false by rw [h5]; try rfl) (And.intro (show (bnot (r51.v w.lap 0 1000000)) = false by rw [h5]; try rfl) (And.intro (show (bnot (r51.v w.lap 0 1000000)) = false by rw [h5]; try rfl) (And.intro (r51 (w.jl) (0) (1000) (r24.h0 w)) (And.intro (show (bnot (r51.v w.lap 0 1000000)) = false by rw [h5]; try rfl) (And.intro (show (bnot (r51.v w.lap 0 1000000)) = false by rw [h5]; try rfl) (And.intro (show (bnot (r51.v w.jl 0 1000)) = false by rw [h6]; try rfl) (And.intro (show (bnot (r51.v w.jl 0 1000)) = false by rw [h6]; try rfl) (And.intro (show (bnot (r51.v w.jl 0 1000)) = false by rw [h6]; try rfl) (And.intro (show (bnot (r51.v w.jl 0 1000)) = false by rw [h6]; try rfl) (And.intro (r51 (w.jh) (0) (1000) (r24.h0 w)) (And.intro (show (bnot (r51.v w.jl 0 1000)) = false by rw [h6]; try rfl) (And.intro (show (bnot (r51.v w.jl 0 1000)) = false by rw [h6]; try rfl) (And.intro (show (bnot (r51.v w.jh 0 1000)) = false by rw [h7]; try rfl) (And.intro (show (bnot (r51.v w.jh 0 1000)) = false by rw [h7]; try rfl) (And.intro (show (bnot (r51.v w.jh 0 1000)) = false by rw [h7]; try rfl) (And.intro (r49b (w.n) (w.g) o1 (r24.h0 w)) (And.intro (show (bnot (r51.v w.jh 0 1000)) = false by rw [h7]; try rfl) (And.intro h8 (And.intro h9 (And.intro (L24a.e1 (w) o3 (1) (And.intro (show (1 : Int) ≤ (1 : Int) by decide) o4) h10) (And.intro (r44 (w) o3 o5 o6 (r24.h0 w)) (And.intro (r54 (nC w) o7 (cC w) (r24.h0 w)) (And.intro h11 (And.intro (show (AV.int IntKind.i64 9) = ((AV.int IntKind.i64 (r24.v w))) by simp only [r24.v, h1, h2, h3, h4, h5, h6, h7, h8, h9, h11, h10, cond_true, cond_false]) trivial)))))))))))))))))))))))))))))))))))))))))) h
                      | false =>
                        have o8 : ∀ (k : Nat), (cC w k).length ≤ (10000 : Nat) := by first | assumption | omega | (simp only [List.length_append, List.length_cons, List.length_nil, List.length_map]; omega) | (apply cC_len <;> first | assumption | omega) | (exact hg _) | (exact hg _ (by omega)) | (simp_all; done)
                        have o9 : ∀ (k : Nat), k < nC w → (0 : Nat) < (cC w k).length := by first | assumption | omega | (simp only [List.length_append, List.length_cons, List.length_nil, List.length_map]; omega) | (apply cC_pos <;> first | assumption | omega) | (exact hg _) | (exact hg _ (by omega)) | (simp_all; done)
                        cases h12 : r56.v w (nC w) (cC w) with
                        | true =>
                          cases h13 : r57.v (nC w) (cC w) with
                          | true =>
                            exact Ret.of_run1 mix [(AV.int IntKind.i64 (r24.v w))] Try.func24 rfl [.b false, .ret (AV.bool (r48.v w.nm)) (r24.h0 w), .b false, .b false, .b false, .ret (AV.bool (r49a.v w.n w.g)) (r24.h0 w), .b false, .b false, .ret (AV.bool (r51.v w.len 1 1000000)) (r24.h0 w), .b false, .b false, .b false, .ret (AV.bool (r51.v w.lap 0 1000000)) (r24.h0 w), .b false, .b false, .b false, .b false, .b false, .b false, .ret (AV.bool (r51.v w.jl 0 1000)) (r24.h0 w), .b false, .b false, .b false, .b false, .b false, .b false, .ret (AV.bool (r51.v w.jh 0 1000)) (r24.h0 w), .b false, .b false, .b false, .b false, .b false, .ret (AV.bool (r49b.v w.n w.g)) (r24.h0 w), .b false, .b false, .b false, .loop (others 97 [1, 3]) (Exit.exit 1) (L24a.X w L24a.O.e1) (L24a.XH w L24a.O.e1), .ret (AV.sl 1 (nC w) fun (j : Nat) => AV.sl 14 (cC w j).length fun (q : Nat) => (SD.av ((cC w j).getD q default))) (r24.h0 w), .ret (AV.bool (r54.v (nC w) (cC w))) (r24.h0 w), .b false, .ret (AV.bool (r56.v w (nC w) (cC w))) (r24.h0 w), .b false, .ret (AV.bool (r57.v (nC w) (cC w))) (r24.h0 w), .b true] (by simp) (by simp) (kmp (by kernel_rfl) (And.intro h1 (And.intro (r48 (w.nm) o0 (r24.h0 w)) (And.intro (show (bnot (r48.v w.nm)) = false by rw [h2]; try rfl) (And.intro (show (bnot (r48.v w.nm)) = false by rw [h2]; try rfl) (And.intro (show (bnot (r48.v w.nm)) = false by rw [h2]; try rfl) (And.intro (r49a (w.n) (w.g) o1 o2 (r24.h0 w)) (And.intro (show (bnot (r48.v w.nm)) = false by rw [h2]; try rfl) (And.intro h3 (And.intro (r51 (w.len) (1) (1000000) (r24.h0 w)) (And.intro (show (bnot (r51.v w.len 1 1000000)) = false by rw [h4]; try rfl) (And.intro (show (bnot (r51.v w.len 1 1000000)) = false by rw [h4]; try rfl) (And.intro (show (bnot (r51.v w.len 1 1000000)) = false by rw [h4]; try rfl) (And.intro (r51 (w.lap) (0) (1000000) (r24.h0 w)) (And.intro (show (bnot (r51.v w.len 1 1000000)) = false by rw [h4]; try rfl) (And.intro (show (bnot (r51.v w.len 1 1000000)) = false by rw [h4]; try rfl) (And.intro (show (bnot (r51.v w.lap 0 1000000)) = false by rw [h5]; try rfl) (And.intro (show (bnot (r51.v w.lap 0 1000000)) = false by rw [h5]; try rfl) (And.intro (show (bnot (r51.v w.lap 0 1000000)) = false by rw [h5]; try rfl) (And.intro (show (bnot (r51.v w.lap 0 1000000)) = false by rw [h5]; try rfl) (And.intro (r51 (w.jl) (0) (1000) (r24.h0 w)) (And.intro (show (bnot (r51.v w.lap 0 1000000)) = false by rw [h5]; try rfl) (And.intro (show (bnot (r51.v w.lap 0 1000000)) = false by rw [h5]; try rfl) (And.intro (show (bnot (r51.v w.jl 0 1000)) = false by rw [h6]; try rfl) (And.intro (show (bnot (r51.v w.jl 0 1000)) = false by rw [h6]; try rfl) (And.intro (show (bnot (r51.v w.jl 0 1000)) = false by rw [h6]; try rfl) (And.intro (show (bnot (r51.v w.jl 0 1000)) = false by rw [h6]; try rfl) (And.intro (r51 (w.jh) (0) (1000) (r24.h0 w)) (And.intro (show (bnot (r51.v w.jl 0 1000)) = false by rw [h6]; try rfl) (And.intro (show (bnot (r51.v w.jl 0 1000)) = false by rw [h6]; try rfl) (And.intro (show (bnot (r51.v w.jh 0 1000)) = false by rw [h7]; try rfl) (And.intro (show (bnot (r51.v w.jh 0 1000)) = false by rw [h7]; try rfl) (And.intro (show (bnot (r51.v w.jh 0 1000)) = false by rw [h7]; try rfl) (And.intro (r49b (w.n) (w.g) o1 (r24.h0 w)) (And.intro (show (bnot (r51.v w.jh 0 1000)) = false by rw [h7]; try rfl) (And.intro h8 (And.intro h9 (And.intro (L24a.e1 (w) o3 (1) (And.intro (show (1 : Int) ≤ (1 : Int) by decide) o4) h10) (And.intro (r44 (w) o3 o5 o6 (r24.h0 w)) (And.intro (r54 (nC w) o7 (cC w) (r24.h0 w)) (And.intro h11 (And.intro (r56 (w) (nC w) o7 (cC w) o8 o9 (r24.h0 w)) (And.intro (show (bnot (r56.v w (nC w) (cC w))) = false by rw [h12]; try rfl) (And.intro (r57 (nC w) o7 (cC w) o8 (r24.h0 w)) (And.intro h13 (And.intro (show (AV.int IntKind.i64 11) = ((AV.int IntKind.i64 (r24.v w))) by simp only [r24.v, h1, h2, h3, h4, h5, h6, h7, h8, h9, h11, h12, h13, h10, cond_true, cond_false]) trivial)))))))))))))))))))))))))))))))))))))))))))))) h
                          | false =>
                            cases h14 : r58.v w (nC w) (cC w) with
                            | true =>
                              exact Ret.of_run1 mix [(AV.int IntKind.i64 (r24.v w))] Try.func24 rfl [.b false, .ret (AV.bool (r48.v w.nm)) (r24.h0 w), .b false, .b false, .b false, .ret (AV.bool (r49a.v w.n w.g)) (r24.h0 w), .b false, .b false, .ret (AV.bool (r51.v w.len 1 1000000)) (r24.h0 w), .b false, .b false, .b false, .ret (AV.bool (r51.v w.lap 0 1000000)) (r24.h0 w), .b false, .b false, .b false, .b false, .b false, .b false, .ret (AV.bool (r51.v w.jl 0 1000)) (r24.h0 w), .b false, .b false, .b false, .b false, .b false, .b false, .ret (AV.bool (r51.v w.jh 0 1000)) (r24.h0 w), .b false, .b false, .b false, .b false, .b false, .ret (AV.bool (r49b.v w.n w.g)) (r24.h0 w), .b false, .b false, .b false, .loop (others 97 [1, 3]) (Exit.exit 1) (L24a.X w L24a.O.e1) (L24a.XH w L24a.O.e1), .ret (AV.sl 1 (nC w) fun (j : Nat) => AV.sl 14 (cC w j).length fun (q : Nat) => (SD.av ((cC w j).getD q default))) (r24.h0 w), .ret (AV.bool (r54.v (nC w) (cC w))) (r24.h0 w), .b false, .ret (AV.bool (r56.v w (nC w) (cC w))) (r24.h0 w), .b false, .ret (AV.bool (r57.v (nC w) (cC w))) (r24.h0 w), .b false, .ret (AV.bool (r58.v w (nC w) (cC w))) (r24.h0 w), .b false] (by simp) (by simp) (kmp (by kernel_rfl) (And.intro h1 (And.intro (r48 (w.nm) o0 (r24.h0 w)) (And.intro (show (bnot (r48.v w.nm)) = false by rw [h2]; try rfl) (And.intro (show (bnot (r48.v w.nm)) = false by rw [h2]; try rfl) (And.intro (show (bnot (r48.v w.nm)) = false by rw [h2]; try rfl) (And.intro (r49a (w.n) (w.g) o1 o2 (r24.h0 w)) (And.intro (show (bnot (r48.v w.nm)) = false by rw [h2]; try rfl) (And.intro h3 (And.intro (r51 (w.len) (1) (1000000) (r24.h0 w)) (And.intro (show (bnot (r51.v w.len 1 1000000)) = false by rw [h4]; try rfl) (And.intro (show (bnot (r51.v w.len 1 1000000)) = false by rw [h4]; try rfl) (And.intro (show (bnot (r51.v w.len 1 1000000)) = false by rw [h4]; try rfl) (And.intro (r51 (w.lap) (0) (1000000) (r24.h0 w)) (And.intro (show (bnot (r51.v w.len 1 1000000)) = false by rw [h4]; try rfl) (And.intro (show (bnot (r51.v w.len 1 1000000)) = false by rw [h4]; try rfl) (And.intro (show (bnot (r51.v w.lap 0 1000000)) = false by rw [h5]; try rfl) (And.intro (show (bnot (r51.v w.lap 0 1000000)) = false by rw [h5]; try rfl) (And.intro (show (bnot (r51.v w.lap 0 1000000)) = false by rw [h5]; try rfl) (And.intro (show (bnot (r51.v w.lap 0 1000000)) = false by rw [h5]; try rfl) (And.intro (r51 (w.jl) (0) (1000) (r24.h0 w)) (And.intro (show (bnot (r51.v w.lap 0 1000000)) = false by rw [h5]; try rfl) (And.intro (show (bnot (r51.v w.lap 0 1000000)) = false by rw [h5]; try rfl) (And.intro (show (bnot (r51.v w.jl 0 1000)) = false by rw [h6]; try rfl) (And.intro (show (bnot (r51.v w.jl 0 1000)) = false by rw [h6]; try rfl) (And.intro (show (bnot (r51.v w.jl 0 1000)) = false by rw [h6]; try rfl) (And.intro (show (bnot (r51.v w.jl 0 1000)) = false by rw [h6]; try rfl) (And.intro (r51 (w.jh) (0) (1000) (r24.h0 w)) (And.intro (show (bnot (r51.v w.jl 0 1000)) = false by rw [h6]; try rfl) (And.intro (show (bnot (r51.v w.jl 0 1000)) = false by rw [h6]; try rfl) (And.intro (show (bnot (r51.v w.jh 0 1000)) = false by rw [h7]; try rfl) (And.intro (show (bnot (r51.v w.jh 0 1000)) = false by rw [h7]; try rfl) (And.intro (show (bnot (r51.v w.jh 0 1000)) = false by rw [h7]; try rfl) (And.intro (r49b (w.n) (w.g) o1 (r24.h0 w)) (And.intro (show (bnot (r51.v w.jh 0 1000)) = false by rw [h7]; try rfl) (And.intro h8 (And.intro h9 (And.intro (L24a.e1 (w) o3 (1) (And.intro (show (1 : Int) ≤ (1 : Int) by decide) o4) h10) (And.intro (r44 (w) o3 o5 o6 (r24.h0 w)) (And.intro (r54 (nC w) o7 (cC w) (r24.h0 w)) (And.intro h11 (And.intro (r56 (w) (nC w) o7 (cC w) o8 o9 (r24.h0 w)) (And.intro (show (bnot (r56.v w (nC w) (cC w))) = false by rw [h12]; try rfl) (And.intro (r57 (nC w) o7 (cC w) o8 (r24.h0 w)) (And.intro h13 (And.intro (r58 (w) (nC w) o7 (cC w) o8 o9 (r24.h0 w)) (And.intro (show (bnot (r58.v w (nC w) (cC w))) = false by rw [h14]; try rfl) (And.intro (show (AV.int IntKind.i64 0) = ((AV.int IntKind.i64 (r24.v w))) by simp only [r24.v, h1, h2, h3, h4, h5, h6, h7, h8, h9, h11, h12, h13, h14, h10, cond_true, cond_false]) trivial)))))))))))))))))))))))))))))))))))))))))))))))) h
                            | false =>
                              exact Ret.of_run1 mix [(AV.int IntKind.i64 (r24.v w))] Try.func24 rfl [.b false, .ret (AV.bool (r48.v w.nm)) (r24.h0 w), .b false, .b false, .b false, .ret (AV.bool (r49a.v w.n w.g)) (r24.h0 w), .b false, .b false, .ret (AV.bool (r51.v w.len 1 1000000)) (r24.h0 w), .b false, .b false, .b false, .ret (AV.bool (r51.v w.lap 0 1000000)) (r24.h0 w), .b false, .b false, .b false, .b false, .b false, .b false, .ret (AV.bool (r51.v w.jl 0 1000)) (r24.h0 w), .b false, .b false, .b false, .b false, .b false, .b false, .ret (AV.bool (r51.v w.jh 0 1000)) (r24.h0 w), .b false, .b false, .b false, .b false, .b false, .ret (AV.bool (r49b.v w.n w.g)) (r24.h0 w), .b false, .b false, .b false, .loop (others 97 [1, 3]) (Exit.exit 1) (L24a.X w L24a.O.e1) (L24a.XH w L24a.O.e1), .ret (AV.sl 1 (nC w) fun (j : Nat) => AV.sl 14 (cC w j).length fun (q : Nat) => (SD.av ((cC w j).getD q default))) (r24.h0 w), .ret (AV.bool (r54.v (nC w) (cC w))) (r24.h0 w), .b false, .ret (AV.bool (r56.v w (nC w) (cC w))) (r24.h0 w), .b false, .ret (AV.bool (r57.v (nC w) (cC w))) (r24.h0 w), .b false, .ret (AV.bool (r58.v w (nC w) (cC w))) (r24.h0 w), .b true] (by simp) (by simp) (kmp (by kernel_rfl) (And.intro h1 (And.intro (r48 (w.nm) o0 (r24.h0 w)) (And.intro (show (bnot (r48.v w.nm)) = false by rw [h2]; try rfl) (And.intro (show (bnot (r48.v w.nm)) = false by rw [h2]; try rfl) (And.intro (show (bnot (r48.v w.nm)) = false by rw [h2]; try rfl) (And.intro (r49a (w.n) (w.g) o1 o2 (r24.h0 w)) (And.intro (show (bnot (r48.v w.nm)) = false by rw [h2]; try rfl) (And.intro h3 (And.intro (r51 (w.len) (1) (1000000) (r24.h0 w)) (And.intro (show (bnot (r51.v w.len 1 1000000)) = false by rw [h4]; try rfl) (And.intro (show (bnot (r51.v w.len 1 1000000)) = false by rw [h4]; try rfl) (And.intro (show (bnot (r51.v w.len 1 1000000)) = false by rw [h4]; try rfl) (And.intro (r51 (w.lap) (0) (1000000) (r24.h0 w)) (And.intro (show (bnot (r51.v w.len 1 1000000)) = false by rw [h4]; try rfl) (And.intro (show (bnot (r51.v w.len 1 1000000)) = false by rw [h4]; try rfl) (And.intro (show (bnot (r51.v w.lap 0 1000000)) = false by rw [h5]; try rfl) (And.intro (show (bnot (r51.v w.lap 0 1000000)) = false by rw [h5]; try rfl) (And.intro (show (bnot (r51.v w.lap 0 1000000)) = false by rw [h5]; try rfl) (And.intro (show (bnot (r51.v w.lap 0 1000000)) = false by rw [h5]; try rfl) (And.intro (r51 (w.jl) (0) (1000) (r24.h0 w)) (And.intro (show (bnot (r51.v w.lap 0 1000000)) = false by rw [h5]; try rfl) (And.intro (show (bnot (r51.v w.lap 0 1000000)) = false by rw [h5]; try rfl) (And.intro (show (bnot (r51.v w.jl 0 1000)) = false by rw [h6]; try rfl) (And.intro (show (bnot (r51.v w.jl 0 1000)) = false by rw [h6]; try rfl) (And.intro (show (bnot (r51.v w.jl 0 1000)) = false by rw [h6]; try rfl) (And.intro (show (bnot (r51.v w.jl 0 1000)) = false by rw [h6]; try rfl) (And.intro (r51 (w.jh) (0) (1000) (r24.h0 w)) (And.intro (show (bnot (r51.v w.jl 0 1000)) = false by rw [h6]; try rfl) (And.intro (show (bnot (r51.v w.jl 0 1000)) = false by rw [h6]; try rfl) (And.intro (show (bnot (r51.v w.jh 0 1000)) = false by rw [h7]; try rfl) (And.intro (show (bnot (r51.v w.jh 0 1000)) = false by rw [h7]; try rfl) (And.intro (show (bnot (r51.v w.jh 0 1000)) = false by rw [h7]; try rfl) (And.intro (r49b (w.n) (w.g) o1 (r24.h0 w)) (And.intro (show (bnot (r51.v w.jh 0 1000)) = false by rw [h7]; try rfl) (And.intro h8 (And.intro h9 (And.intro (L24a.e1 (w) o3 (1) (And.intro (show (1 : Int) ≤ (1 : Int) by decide) o4) h10) (And.intro (r44 (w) o3 o5 o6 (r24.h0 w)) (And.intro (r54 (nC w) o7 (cC w) (r24.h0 w)) (And.intro h11 (And.intro (r56 (w) (nC w) o7 (cC w) o8 o9 (r24.h0 w)) (And.intro (show (bnot (r56.v w (nC w) (cC w))) = false by rw [h12]; try rfl) (And.intro (r57 (nC w) o7 (cC w) o8 (r24.h0 w)) (And.intro h13 (And.intro (r58 (w) (nC w) o7 (cC w) o8 o9 (r24.h0 w)) (And.intro (show (bnot (r58.v w (nC w) (cC w))) = true by rw [h14]; try rfl) (And.intro (show (AV.int IntKind.i64 10) = ((AV.int IntKind.i64 (r24.v w))) by simp only [r24.v, h1, h2, h3, h4, h5, h6, h7, h8, h9, h11, h12, h13, h14, h10, cond_true, cond_false]) trivial)))))))))))))))))))))))))))))))))))))))))))))))) h
                        | false =>
                          exact Ret.of_run1 mix [(AV.int IntKind.i64 (r24.v w))] Try.func24 rfl [.b false, .ret (AV.bool (r48.v w.nm)) (r24.h0 w), .b false, .b false, .b false, .ret (AV.bool (r49a.v w.n w.g)) (r24.h0 w), .b false, .b false, .ret (AV.bool (r51.v w.len 1 1000000)) (r24.h0 w), .b false, .b false, .b false, .ret (AV.bool (r51.v w.lap 0 1000000)) (r24.h0 w), .b false, .b false, .b false, .b false, .b false, .b false, .ret (AV.bool (r51.v w.jl 0 1000)) (r24.h0 w), .b false, .b false, .b false, .b false, .b false, .b false, .ret (AV.bool (r51.v w.jh 0 1000)) (r24.h0 w), .b false, .b false, .b false, .b false, .b false, .ret (AV.bool (r49b.v w.n w.g)) (r24.h0 w), .b false, .b false, .b false, .loop (others 97 [1, 3]) (Exit.exit 1) (L24a.X w L24a.O.e1) (L24a.XH w L24a.O.e1), .ret (AV.sl 1 (nC w) fun (j : Nat) => AV.sl 14 (cC w j).length fun (q : Nat) => (SD.av ((cC w j).getD q default))) (r24.h0 w), .ret (AV.bool (r54.v (nC w) (cC w))) (r24.h0 w), .b false, .ret (AV.bool (r56.v w (nC w) (cC w))) (r24.h0 w), .b true] (by simp) (by simp) (kmp (by kernel_rfl) (And.intro h1 (And.intro (r48 (w.nm) o0 (r24.h0 w)) (And.intro (show (bnot (r48.v w.nm)) = false by rw [h2]; try rfl) (And.intro (show (bnot (r48.v w.nm)) = false by rw [h2]; try rfl) (And.intro (show (bnot (r48.v w.nm)) = false by rw [h2]; try rfl) (And.intro (r49a (w.n) (w.g) o1 o2 (r24.h0 w)) (And.intro (show (bnot (r48.v w.nm)) = false by rw [h2]; try rfl) (And.intro h3 (And.intro (r51 (w.len) (1) (1000000) (r24.h0 w)) (And.intro (show (bnot (r51.v w.len 1 1000000)) = false by rw [h4]; try rfl) (And.intro (show (bnot (r51.v w.len 1 1000000)) = false by rw [h4]; try rfl) (And.intro (show (bnot (r51.v w.len 1 1000000)) = false by rw [h4]; try rfl) (And.intro (r51 (w.lap) (0) (1000000) (r24.h0 w)) (And.intro (show (bnot (r51.v w.len 1 1000000)) = false by rw [h4]; try rfl) (And.intro (show (bnot (r51.v w.len 1 1000000)) = false by rw [h4]; try rfl) (And.intro (show (bnot (r51.v w.lap 0 1000000)) = false by rw [h5]; try rfl) (And.intro (show (bnot (r51.v w.lap 0 1000000)) = false by rw [h5]; try rfl) (And.intro (show (bnot (r51.v w.lap 0 1000000)) = false by rw [h5]; try rfl) (And.intro (show (bnot (r51.v w.lap 0 1000000)) = false by rw [h5]; try rfl) (And.intro (r51 (w.jl) (0) (1000) (r24.h0 w)) (And.intro (show (bnot (r51.v w.lap 0 1000000)) = false by rw [h5]; try rfl) (And.intro (show (bnot (r51.v w.lap 0 1000000)) = false by rw [h5]; try rfl) (And.intro (show (bnot (r51.v w.jl 0 1000)) = false by rw [h6]; try rfl) (And.intro (show (bnot (r51.v w.jl 0 1000)) = false by rw [h6]; try rfl) (And.intro (show (bnot (r51.v w.jl 0 1000)) = false by rw [h6]; try rfl) (And.intro (show (bnot (r51.v w.jl 0 1000)) = false by rw [h6]; try rfl) (And.intro (r51 (w.jh) (0) (1000) (r24.h0 w)) (And.intro (show (bnot (r51.v w.jl 0 1000)) = false by rw [h6]; try rfl) (And.intro (show (bnot (r51.v w.jl 0 1000)) = false by rw [h6]; try rfl) (And.intro (show (bnot (r51.v w.jh 0 1000)) = false by rw [h7]; try rfl) (And.intro (show (bnot (r51.v w.jh 0 1000)) = false by rw [h7]; try rfl) (And.intro (show (bnot (r51.v w.jh 0 1000)) = false by rw [h7]; try rfl) (And.intro (r49b (w.n) (w.g) o1 (r24.h0 w)) (And.intro (show (bnot (r51.v w.jh 0 1000)) = false by rw [h7]; try rfl) (And.intro h8 (And.intro h9 (And.intro (L24a.e1 (w) o3 (1) (And.intro (show (1 : Int) ≤ (1 : Int) by decide) o4) h10) (And.intro (r44 (w) o3 o5 o6 (r24.h0 w)) (And.intro (r54 (nC w) o7 (cC w) (r24.h0 w)) (And.intro h11 (And.intro (r56 (w) (nC w) o7 (cC w) o8 o9 (r24.h0 w)) (And.intro (show (bnot (r56.v w (nC w) (cC w))) = true by rw [h12]; try rfl) (And.intro (show (AV.int IntKind.i64 10) = ((AV.int IntKind.i64 (r24.v w))) by simp only [r24.v, h1, h2, h3, h4, h5, h6, h7, h8, h9, h11, h12, h10, cond_true, cond_false]) trivial)))))))))))))))))))))))))))))))))))))))))))) h
              | false =>
                exact Ret.of_run1 mix [(AV.int IntKind.i64 (r24.v w))] Try.func24 rfl [.b false, .ret (AV.bool (r48.v w.nm)) (r24.h0 w), .b false, .b false, .b false, .ret (AV.bool (r49a.v w.n w.g)) (r24.h0 w), .b false, .b false, .ret (AV.bool (r51.v w.len 1 1000000)) (r24.h0 w), .b false, .b false, .b false, .ret (AV.bool (r51.v w.lap 0 1000000)) (r24.h0 w), .b false, .b false, .b false, .b false, .b false, .b false, .ret (AV.bool (r51.v w.jl 0 1000)) (r24.h0 w), .b false, .b false, .b false, .b false, .b false, .b false, .ret (AV.bool (r51.v w.jh 0 1000)) (r24.h0 w), .b false, .b false, .b true, .b true, .b true, .b true, .b true] (by simp) (by simp) (kmp (by kernel_rfl) (And.intro h1 (And.intro (r48 (w.nm) o0 (r24.h0 w)) (And.intro (show (bnot (r48.v w.nm)) = false by rw [h2]; try rfl) (And.intro (show (bnot (r48.v w.nm)) = false by rw [h2]; try rfl) (And.intro (show (bnot (r48.v w.nm)) = false by rw [h2]; try rfl) (And.intro (r49a (w.n) (w.g) o1 o2 (r24.h0 w)) (And.intro (show (bnot (r48.v w.nm)) = false by rw [h2]; try rfl) (And.intro h3 (And.intro (r51 (w.len) (1) (1000000) (r24.h0 w)) (And.intro (show (bnot (r51.v w.len 1 1000000)) = false by rw [h4]; try rfl) (And.intro (show (bnot (r51.v w.len 1 1000000)) = false by rw [h4]; try rfl) (And.intro (show (bnot (r51.v w.len 1 1000000)) = false by rw [h4]; try rfl) (And.intro (r51 (w.lap) (0) (1000000) (r24.h0 w)) (And.intro (show (bnot (r51.v w.len 1 1000000)) = false by rw [h4]; try rfl) (And.intro (show (bnot (r51.v w.len 1 1000000)) = false by rw [h4]; try rfl) (And.intro (show (bnot (r51.v w.lap 0 1000000)) = false by rw [h5]; try rfl) (And.intro (show (bnot (r51.v w.lap 0 1000000)) = false by rw [h5]; try rfl) (And.intro (show (bnot (r51.v w.lap 0 1000000)) = false by rw [h5]; try rfl) (And.intro (show (bnot (r51.v w.lap 0 1000000)) = false by rw [h5]; try rfl) (And.intro (r51 (w.jl) (0) (1000) (r24.h0 w)) (And.intro (show (bnot (r51.v w.lap 0 1000000)) = false by rw [h5]; try rfl) (And.intro (show (bnot (r51.v w.lap 0 1000000)) = false by rw [h5]; try rfl) (And.intro (show (bnot (r51.v w.jl 0 1000)) = false by rw [h6]; try rfl) (And.intro (show (bnot (r51.v w.jl 0 1000)) = false by rw [h6]; try rfl) (And.intro (show (bnot (r51.v w.jl 0 1000)) = false by rw [h6]; try rfl) (And.intro (show (bnot (r51.v w.jl 0 1000)) = false by rw [h6]; try rfl) (And.intro (r51 (w.jh) (0) (1000) (r24.h0 w)) (And.intro (show (bnot (r51.v w.jl 0 1000)) = false by rw [h6]; try rfl) (And.intro (show (bnot (r51.v w.jl 0 1000)) = false by rw [h6]; try rfl) (And.intro (show (bnot (r51.v w.jh 0 1000)) = true by rw [h7]; try rfl) (And.intro (show (bnot (r51.v w.jh 0 1000)) = true by rw [h7]; try rfl) (And.intro (show (bnot (r51.v w.jh 0 1000)) = true by rw [h7]; try rfl) (And.intro (show (bnot (r51.v w.jh 0 1000)) = true by rw [h7]; try rfl) (And.intro (rfl : true = true) (And.intro (show (AV.int IntKind.i64 6) = ((AV.int IntKind.i64 (r24.v w))) by simp only [r24.v, h1, h2, h3, h4, h5, h6, h7, cond_true, cond_false]) trivial)))))))))))))))))))))))))))))))))))) h
            | false =>
              exact Ret.of_run1 mix [(AV.int IntKind.i64 (r24.v w))] Try.func24 rfl [.b false, .ret (AV.bool (r48.v w.nm)) (r24.h0 w), .b false, .b false, .b false, .ret (AV.bool (r49a.v w.n w.g)) (r24.h0 w), .b false, .b false, .ret (AV.bool (r51.v w.len 1 1000000)) (r24.h0 w), .b false, .b false, .b false, .ret (AV.bool (r51.v w.lap 0 1000000)) (r24.h0 w), .b false, .b false, .b false, .b false, .b false, .b false, .ret (AV.bool (r51.v w.jl 0 1000)) (r24.h0 w), .b false, .b false, .b true, .b true, .b true, .b true, .b true, .b true, .b true, .b true, .b true, .b true, .b true] (by simp) (by simp) (kmp (by kernel_rfl) (And.intro h1 (And.intro (r48 (w.nm) o0 (r24.h0 w)) (And.intro (show (bnot (r48.v w.nm)) = false by rw [h2]; try rfl) (And.intro (show (bnot (r48.v w.nm)) = false by rw [h2]; try rfl) (And.intro (show (bnot (r48.v w.nm)) = false by rw [h2]; try rfl) (And.intro (r49a (w.n) (w.g) o1 o2 (r24.h0 w)) (And.intro (show (bnot (r48.v w.nm)) = false by rw [h2]; try rfl) (And.intro h3 (And.intro (r51 (w.len) (1) (1000000) (r24.h0 w)) (And.intro (show (bnot (r51.v w.len 1 1000000)) = false by rw [h4]; try rfl) (And.intro (show (bnot (r51.v w.len 1 1000000)) = false by rw [h4]; try rfl) (And.intro (show (bnot (r51.v w.len 1 1000000)) = false by rw [h4]; try rfl) (And.intro (r51 (w.lap) (0) (1000000) (r24.h0 w)) (And.intro (show (bnot (r51.v w.len 1 1000000)) = false by rw [h4]; try rfl) (And.intro (show (bnot (r51.v w.len 1 1000000)) = false by rw [h4]; try rfl) (And.intro (show (bnot (r51.v w.lap 0 1000000)) = false by rw [h5]; try rfl) (And.intro (show (bnot (r51.v w.lap 0 1000000)) = false by rw [h5]; try rfl) (And.intro (show (bnot (r51.v w.lap 0 1000000)) = false by rw [h5]; try rfl) (And.intro (show (bnot (r51.v w.lap 0 1000000)) = false by rw [h5]; try rfl) (And.intro (r51 (w.jl) (0) (1000) (r24.h0 w)) (And.intro (show (bnot (r51.v w.lap 0 1000000)) = false by rw [h5]; try rfl) (And.intro (show (bnot (r51.v w.lap 0 1000000)) = false by rw [h5]; try rfl) (And.intro (show (bnot (r51.v w.jl 0 1000)) = true by rw [h6]; try rfl) (And.intro (show (bnot (r51.v w.jl 0 1000)) = true by rw [h6]; try rfl) (And.intro (show (bnot (r51.v w.jl 0 1000)) = true by rw [h6]; try rfl) (And.intro (show (bnot (r51.v w.jl 0 1000)) = true by rw [h6]; try rfl) (And.intro (show (bnot (r51.v w.jl 0 1000)) = true by rw [h6]; try rfl) (And.intro (show (bnot (r51.v w.jl 0 1000)) = true by rw [h6]; try rfl) (And.intro (rfl : true = true) (And.intro (rfl : true = true) (And.intro (rfl : true = true) (And.intro (rfl : true = true) (And.intro (rfl : true = true) (And.intro (show (AV.int IntKind.i64 6) = ((AV.int IntKind.i64 (r24.v w))) by simp only [r24.v, h1, h2, h3, h4, h5, h6, cond_true, cond_false]) trivial))))))))))))))))))))))))))))))))))) h
          | false =>
            exact Ret.of_run1 mix [(AV.int IntKind.i64 (r24.v w))] Try.func24 rfl [.b false, .ret (AV.bool (r48.v w.nm)) (r24.h0 w), .b false, .b false, .b false, .ret (AV.bool (r49a.v w.n w.g)) (r24.h0 w), .b false, .b false, .ret (AV.bool (r51.v w.len 1 1000000)) (r24.h0 w), .b false, .b false, .b false, .ret (AV.bool (r51.v w.lap 0 1000000)) (r24.h0 w), .b false, .b false, .b true, .b true, .b true, .b true, .b true, .b true, .b true, .b true, .b true, .b true, .b true, .b true, .b true, .b true, .b true, .b true, .b true] (by simp) (by simp) (kmp (by kernel_rfl) (And.intro h1 (And.intro (r48 (w.nm) o0 (r24.h0 w)) (And.intro (show (bnot (r48.v w.nm)) = false by rw [h2]; try rfl) (And.intro (show (bnot (r48.v w.nm)) = false by rw [h2]; try rfl) (And.intro (show (bnot (r48.v w.nm)) = false by rw [h2]; try rfl) (And.intro (r49a (w.n) (w.g) o1 o2 (r24.h0 w)) (And.intro (show (bnot (r48.v w.nm)) = false by rw [h2]; try rfl) (And.intro h3 (And.intro (r51 (w.len) (1) (1000000) (r24.h0 w)) (And.intro (show (bnot (r51.v w.len 1 1000000)) = false by rw [h4]; try rfl) (And.intro (show (bnot (r51.v w.len 1 1000000)) = false by rw [h4]; try rfl) (And.intro (show (bnot (r51.v w.len 1 1000000)) = false by rw [h4]; try rfl) (And.intro (r51 (w.lap) (0) (1000000) (r24.h0 w)) (And.intro (show (bnot (r51.v w.len 1 1000000)) = false by rw [h4]; try rfl) (And.intro (show (bnot (r51.v w.len 1 1000000)) = false by rw [h4]; try rfl) (And.intro (show (bnot (r51.v w.lap 0 1000000)) = true by rw [h5]; try rfl) (And.intro (show (bnot (r51.v w.lap 0 1000000)) = true by rw [h5]; try rfl) (And.intro (show (bnot (r51.v w.lap 0 1000000)) = true by rw [h5]; try rfl) (And.intro (show (bnot (r51.v w.lap 0 1000000)) = true by rw [h5]; try rfl) (And.intro (show (bnot (r51.v w.lap 0 1000000)) = true by rw [h5]; try rfl) (And.intro (show (bnot (r51.v w.lap 0 1000000)) = true by rw [h5]; try rfl) (And.intro (rfl : true = true) (And.intro (rfl : true = true) (And.intro (rfl : true = true) (And.intro (rfl : true = true) (And.intro (rfl : true = true) (And.intro (rfl : true = true) (And.intro (rfl : true = true) (And.intro (rfl : true = true) (And.intro (rfl : true = true) (And.intro (rfl : true = true) (And.intro (rfl : true = true) (And.intro (show (AV.int IntKind.i64 6) = ((AV.int IntKind.i64 (r24.v w))) by simp only [r24.v, h1, h2, h3, h4, h5, cond_true, cond_false]) trivial)))))))))))))))))))))))))))))))))) h
        | false =>
          exact Ret.of_run1 mix [(AV.int IntKind.i64 (r24.v w))] Try.func24 rfl [.b false, .ret (AV.bool (r48.v w.nm)) (r24.h0 w), .b false, .b false, .b false, .ret (AV.bool (r49a.v w.n w.g)) (r24.h0 w), .b false, .b false, .ret (AV.bool (r51.v w.len 1 1000000)) (r24.h0 w), .b true, .b true, .b true, .b true, .b true, .b true, .b true, .b true, .b true, .b true, .b true, .b true, .b true, .b true, .b true, .b true, .b true, .b true, .b true, .b true, .b true, .b true] (by simp) (by simp) (kmp (by kernel_rfl) (And.intro h1 (And.intro (r48 (w.nm) o0 (r24.h0 w)) (And.intro (show (bnot (r48.v w.nm)) = false by rw [h2]; try rfl) (And.intro (show (bnot (r48.v w.nm)) = false by rw [h2]; try rfl) (And.intro (show (bnot (r48.v w.nm)) = false by rw [h2]; try rfl) (And.intro (r49a (w.n) (w.g) o1 o2 (r24.h0 w)) (And.intro (show (bnot (r48.v w.nm)) = false by rw [h2]; try rfl) (And.intro h3 (And.intro (r51 (w.len) (1) (1000000) (r24.h0 w)) (And.intro (show (bnot (r51.v w.len 1 1000000)) = true by rw [h4]; try rfl) (And.intro (show (bnot (r51.v w.len 1 1000000)) = true by rw [h4]; try rfl) (And.intro (show (bnot (r51.v w.len 1 1000000)) = true by rw [h4]; try rfl) (And.intro (show (bnot (r51.v w.len 1 1000000)) = true by rw [h4]; try rfl) (And.intro (show (bnot (r51.v w.len 1 1000000)) = true by rw [h4]; try rfl) (And.intro (rfl : true = true) (And.intro (rfl : true = true) (And.intro (rfl : true = true) (And.intro (rfl : true = true) (And.intro (rfl : true = true) (And.intro (rfl : true = true) (And.intro (rfl : true = true) (And.intro (rfl : true = true) (And.intro (rfl : true = true) (And.intro (rfl : true = true) (And.intro (rfl : true = true) (And.intro (rfl : true = true) (And.intro (rfl : true = true) (And.intro (rfl : true = true) (And.intro (rfl : true = true) (And.intro (rfl : true = true) (And.intro (rfl : true = true) (And.intro (show (AV.int IntKind.i64 6) = ((AV.int IntKind.i64 (r24.v w))) by simp only [r24.v, h1, h2, h3, h4, cond_true, cond_false]) trivial))))))))))))))))))))))))))))))))) h
    | false =>
      exact Ret.of_run1 mix [(AV.int IntKind.i64 (r24.v w))] Try.func24 rfl [.b false, .ret (AV.bool (r48.v w.nm)) (r24.h0 w), .b true, .b true, .b true, .b true, .b true] (by simp) (by simp) (kmp (by kernel_rfl) (And.intro h1 (And.intro (r48 (w.nm) o0 (r24.h0 w)) (And.intro (show (bnot (r48.v w.nm)) = true by rw [h2]; try rfl) (And.intro (show (bnot (r48.v w.nm)) = true by rw [h2]; try rfl) (And.intro (show (bnot (r48.v w.nm)) = true by rw [h2]; try rfl) (And.intro (show (bnot (r48.v w.nm)) = true by rw [h2]; try rfl) (And.intro (rfl : true = true) (And.intro (show (AV.int IntKind.i64 4) = ((AV.int IntKind.i64 (r24.v w))) by simp only [r24.v, h1, h2, cond_true, cond_false]) trivial))))))))) h
end Go.Proofs.Ytjdbmmilcihpoaa
open Go
namespace Go.Proofs.Ytjdbmmilcihpoaa
set_option maxHeartbeats 0
set_option maxRecDepth 100000
set_option linter.unusedVariables false
set_option linter.unusedSimpArgs false
theorem r37_51 (n a b : Int) : r37.v n a b = r51.v n a b := rfl
theorem top41_N (w : WD) (hn : w.n ≤ 10000) : ∀ (m i : Nat), i ≤ w.n → w.n - i < m → L41a.N w m (topC w.g i) (i : Int) = .e0 (topC w.g w.n) := by
  intro m
  induction m with
  | zero => intro i _ h; omega
  | succ m ih =>
    intro i hi hm
    simp only [L41a.N, Int.toNat_natCast]
    by_cases h : i < w.n
    · rw [decide_eq_true (show (i : Int) < (w.n : Int) by omega), cond_true, wrap_s hi (by omega)]
      exact ih (i + 1) h (by omega)
    · rw [decide_eq_false (show ¬ (i : Int) < (w.n : Int) by omega), cond_false, show i = w.n by omega]
theorem r41_v (w : WD) (hn : w.n ≤ 10000) : r41.v w = topC w.g w.n := by
  unfold r41.v L41a.run
  have := top41_N w hn (((w.n : Int) - ((0 : Nat) : Int)).toNat + 1) 0 (Nat.zero_le _) (by omega)
  rw [show topC w.g 0 = -1 from rfl] at this
  have e : L41a.N w (((w.n : Int) - 0).toNat + 1) (-1) 0 = .e0 (topC w.g w.n) := by simpa using this
  rw [e]
/-- A stone's numbers are out of range. -/
theorem bad40 (s : SD) (a b : L40a.O) : (bif r37.v s.sx 1 1000000 then (bif r37.v s.sz 1 1000000 then (bif r37.v s.ax 0 1000000 then (bif r37.v s.az 0 1000000 then (bif r37.v s.tl 0 100 then (bif r37.v s.co 0 99 then a else b) else b) else b) else b) else b) else b) = bif r52.v s then b else a := by
  unfold r52.v r53.v
  rw [r37_51, r37_51, r37_51, r37_51, r37_51, r37_51]
  cases r51.v s.sx 1 1000000 <;> cases r51.v s.sz 1 1000000 <;> cases r51.v s.ax 0 1000000 <;> cases r51.v s.az 0 1000000 <;> cases r51.v s.tl 0 100 <;> cases r51.v s.co 0 99 <;> rfl
theorem L40a_run (w : WD) (hn : w.n ≤ 10000) : L40a.run w 0 = bif r49b.v w.n w.g then .e0 else .e1 := by
  have := scan_eq (N := L40a.N w) (n := w.n) (fun i => r52.v (w.g i)) .e0 .e1 0 (fun k i _ h => by
    simp only [L40a.N, Int.toNat_natCast]
    rw [decide_eq_true (show (i : Int) < (w.n : Int) by omega), cond_true, wrap_s (Nat.le_of_lt h) (by omega), bad40]) (fun k i _ h => by
    simp only [L40a.N]
    rw [decide_eq_false (show ¬ (i : Int) < (w.n : Int) by omega), cond_false]) (((w.n : Int) - ((0 : Nat) : Int)).toNat + 1) 0 (Nat.zero_le _) (by omega)
  rw [anyN_all, ← r49b_v (by omega)] at this
  exact this
/-- Some name does not rise. -/
noncomputable def badN (w : WD) : Bool := anyN w.n fun i => decide (1 ≤ i) && !Op.bytesLess (w.g (i - 1)).nm.toList (w.g i).nm.toList
theorem L40b_run (w : WD) (hn : w.n ≤ 10000) : L40b.run w 1 = bif badN w then .e0 else .e1 :=
  scan_eq (N := L40b.N w) (n := w.n) (fun i => !Op.bytesLess (w.g (i - 1)).nm.toList (w.g i).nm.toList) .e0 .e1 1 (fun k i h1 h => by
    simp only [L40b.N, Int.toNat_natCast]
    rw [decide_eq_true (show (i : Int) < (w.n : Int) by omega), cond_true, wrap_s (Nat.le_of_lt h) (by omega), wrap_pn h1 (by omega)]
    cases Op.bytesLess (w.g (i - 1)).nm.toList (w.g i).nm.toList <;> rfl) (fun k i _ h => by
    simp only [L40b.N]
    rw [decide_eq_false (show ¬ (i : Int) < (w.n : Int) by omega), cond_false]) (((w.n : Int) - ((1 : Nat) : Int)).toNat + 1) 1 (Nat.le_refl _) (by omega)
theorem L24a_run (w : WD) (hn : w.n ≤ 10000) : L24a.run w 1 = bif badN w then .e0 else .e1 :=
  scan_eq (N := L24a.N w) (n := w.n) (fun i => !Op.bytesLess (w.g (i - 1)).nm.toList (w.g i).nm.toList) .e0 .e1 1 (fun k i h1 h => by
    simp only [L24a.N, Int.toNat_natCast]
    rw [decide_eq_true (show (i : Int) < (w.n : Int) by omega), cond_true, wrap_s (Nat.le_of_lt h) (by omega), wrap_pn h1 (by omega)]
    cases Op.bytesLess (w.g (i - 1)).nm.toList (w.g i).nm.toList <;> rfl) (fun k i _ h => by
    simp only [L24a.N]
    rw [decide_eq_false (show ¬ (i : Int) < (w.n : Int) by omega), cond_false]) (((w.n : Int) - ((1 : Nat) : Int)).toNat + 1) 1 (Nat.le_refl _) (by omega)
theorem r40_v (w : WD) (hn : w.n ≤ 10000) : r40.v w = (bif r51.v w.len 1 1000000 then (bif r51.v w.lap 0 1000000 then (bif r51.v w.jl 0 1000 then (bif r51.v w.jh 0 1000 then (bif r49b.v w.n w.g then 6 else (bif decide (w.jl > w.jh) then 1 else (bif badN w then 5 else 0))) else 6) else 6) else 6) else 6) := by
  unfold r40.v
  rw [L40a_run w hn, L40b_run w hn]
  simp only [r37_51]
  cases r49b.v w.n w.g <;> cases badN w <;> rfl
theorem ok40 {w : WD} (hn : w.n ≤ 10000) (h : (r40.v w != 0) = false) : r49b.v w.n w.g = false ∧ badN w = false := by
  rw [r40_v w hn] at h
  revert h
  cases r51.v w.len 1 1000000 <;> cases r51.v w.lap 0 1000000 <;> cases r51.v w.jl 0 1000 <;> cases r51.v w.jh 0 1000 <;> cases r49b.v w.n w.g <;> cases decide (w.jl > w.jh) <;> cases badN w <;> simp
theorem top99 {w : WD} (hn : w.n ≤ 10000) (h : (r40.v w != 0) = false) : r41.v w ≤ 99 := by
  rw [r41_v w hn]
  exact (top_le w.g 99 (by decide) w.n fun i hi => (co_of hn (ok40 hn h).1 i hi).2).2
theorem top99' {w : WD} (hn : w.n ≤ 10000) (h : r40.v w = 0) : r41.v w ≤ 99 := top99 hn (by rw [h]; rfl)
theorem L21b_run (w : WD) (t : Int) (ht : t ≤ 99) : L21b.run w t 0 = bif anyN (t + 1).toNat (fun k => ((corR w.g (k : Int) w.n).length : Int) == 0) then .e0 else .e1 := by
  have := scan_eq (N := L21b.N w t) (n := (t + 1).toNat) (fun k => ((corR w.g (k : Int) w.n).length : Int) == 0) .e0 .e1 0 (fun k i _ h => by
    simp only [L21b.N, Int.toNat_natCast]
    rw [decide_eq_true (show (i : Int) ≤ t by omega), cond_true, wrap_s (n := i) (Nat.le_refl _) (by omega)]) (fun k i _ h => by
    simp only [L21b.N]
    rw [decide_eq_false (show ¬ (i : Int) ≤ t by omega), cond_false]) ((t + 1 - ((0 : Nat) : Int)).toNat + 1) 0 (Nat.zero_le _) (by omega)
  rw [anyN_all] at this
  exact this
theorem cor_ne {w : WD} {t : Int} (h : L21b.run w t 0 = .e1) (ht : t ≤ 99) : ∀ k, 0 ≤ k → k ≤ t → 0 < (corR w.g k w.n).length := by
  rw [L21b_run w t ht] at h
  intro k h0 hk
  cases hA : anyN (t + 1).toNat (fun k => ((corR w.g (k : Int) w.n).length : Int) == 0) with
  | true => rw [hA] at h; cases h
  | false =>
    have := anyN_false.1 hA k.toNat (by omega)
    rw [Int.toNat_of_nonneg h0] at this
    have : ((corR w.g k w.n).length : Int) ≠ 0 := by simpa using this
    omega
theorem insR_perm (L : List SD) (s : SD) : (insR L s).Perm (L ++ [s]) := by
  have e : L ++ [s] = L.take (kR s L) ++ (L.drop (kR s L) ++ [s]) := by rw [← List.append_assoc, List.take_append_drop]
  rw [e]
  unfold insR
  rw [List.append_assoc]
  exact List.Perm.append_left _ List.perm_append_comm
theorem corR_perm (g : Nat → SD) (k : Nat) : ∀ i, (corR g (k : Int) i).Perm (crs g k i) := by
  intro i
  induction i with
  | zero => exact .refl _
  | succ i ih =>
    unfold corR crs
    split
    · exact (insR_perm _ _).trans (List.Perm.append_right _ ih)
    · exact ih
theorem take_kR (L : List SD) (s : SD) : L.take (kR s L) = L.takeWhile fun t => decide (t.ax ≤ s.ax) := (List.prefix_iff_eq_take.1 (List.takeWhile_prefix _)).symm
theorem drop_kR (L : List SD) (s : SD) : L.drop (kR s L) = L.dropWhile fun t => decide (t.ax ≤ s.ax) := by
  have h := List.takeWhile_append_dropWhile (p := fun t : SD => decide (t.ax ≤ s.ax)) (l := L)
  have e := List.take_append_drop (kR s L) L
  rw [take_kR] at e
  exact List.append_cancel_left (e.trans h.symm)
theorem mem_tw {p : SD → Bool} : ∀ {L : List SD} {x : SD}, x ∈ L.takeWhile p → p x = true := by
  intro L
  induction L with
  | nil => intro x h; cases h
  | cons a L ih =>
    intro x h
    rw [List.takeWhile_cons] at h
    cases ha : p a with
    | false => rw [ha] at h; cases h
    | true =>
      rw [ha, if_pos rfl] at h
      rcases List.mem_cons.1 h with e | e
      · subst e; exact ha
      · exact ih e
theorem dw_head {p : SD → Bool} : ∀ {L : List SD} {a : SD} {M : List SD}, L.dropWhile p = a :: M → p a = false := by
  intro L
  induction L with
  | nil => intro a M h; cases h
  | cons b L ih =>
    intro a M h
    rw [List.dropWhile_cons] at h
    cases hb : p b with
    | true => rw [hb, if_pos rfl] at h; exact ih h
    | false =>
      rw [hb, if_neg (by decide)] at h
      rw [← (List.cons.inj h).1]; exact hb
theorem corR_mem {g : Nat → SD} {k : Nat} {n : Nat} {x : SD} (h : x ∈ corR g (k : Int) n) : ∃ i, i < n ∧ x = g i := crs_mem ((corR_perm g k n).subset h)
theorem insR_sorted {L : List SD} {s : SD} (hs : L.Pairwise fun a b => ltOf r70.v b a = false) (hn : ∀ x ∈ L, x.nm.toList < s.nm.toList) : (insR L s).Pairwise fun a b => ltOf r70.v b a = false := by
  unfold insR
  rw [take_kR, drop_kR]
  have hL := List.takeWhile_append_dropWhile (p := fun t : SD => decide (t.ax ≤ s.ax)) (l := L)
  rw [← hL] at hs
  obtain ⟨p1, p2, p3⟩ := List.pairwise_append.1 hs
  have big : ∀ d ∈ L.dropWhile (fun t : SD => decide (t.ax ≤ s.ax)), s.ax < d.ax := by
    intro d hd
    cases hw : L.dropWhile (fun t : SD => decide (t.ax ≤ s.ax)) with
    | nil => rw [hw] at hd; cases hd
    | cons a M =>
      have ha : ¬ a.ax ≤ s.ax := of_decide_eq_false (dw_head hw)
      rw [hw] at hd p2
      rcases List.mem_cons.1 hd with e | e
      · subst e; omega
      · have := (List.pairwise_cons.1 p2).1 d e
        rw [lt70, ltS_not] at this
        rcases this with q | ⟨q, _⟩ <;> omega
  refine List.pairwise_append.2 ⟨List.pairwise_append.2 ⟨p1, List.pairwise_singleton _ _, fun a ha b hb => ?_⟩, p2, fun a ha b hb => ?_⟩
  · rw [List.mem_singleton.1 hb, lt70, ltS_not]
    have h1 : a.ax ≤ s.ax := of_decide_eq_true (mem_tw ha)
    rcases Int.lt_or_eq_of_le h1 with q | q
    · exact .inl q
    · refine .inr ⟨q, fun k => ?_⟩
      have := hn a ((List.takeWhile_sublist _).subset ha)
      exact List.lt_irrefl _ (List.lt_trans this k)
  · rcases List.mem_append.1 ha with q | q
    · exact p3 a q b hb
    · rw [List.mem_singleton.1 q, lt70, ltS_not]
      exact .inl (big b hb)
theorem corR_sorted {g : Nat → SD} {n : Nat} (k : Nat) (hr : ∀ i j, i < j → j < n → (g i).nm.toList < (g j).nm.toList) : ∀ i, i ≤ n → (corR g (k : Int) i).Pairwise fun a b => ltOf r70.v b a = false := by
  intro i
  induction i with
  | zero => intro _; exact .nil
  | succ i ih =>
    intro hi
    unfold corR
    split
    · refine insR_sorted (ih (by omega)) fun x hx => ?_
      obtain ⟨j, hj, rfl⟩ := corR_mem hx
      exact hr j i hj (by omega)
    · exact ih (by omega)
theorem rise' {w : WD} (hn : w.n ≤ 10000) (h : badN w = false) : ∀ i j, i < j → j < w.n → (w.g i).nm.toList < (w.g j).nm.toList :=
  rise hn (by rw [L24a_run w hn, h]; rfl)
/-- The courses of the program are those of the reference. -/
theorem cor_eq {w : WD} (hn : w.n ≤ 10000) (h : badN w = false) (k : Nat) : corR w.g (k : Int) w.n = cC w k := by
  have hr := rise' hn h
  refine perm_sorted_eq (lt := ltOf r70.v) _ _ ((corR_perm w.g k w.n).trans (srtS_perm _).symm) (corR_sorted k hr w.n (Nat.le_refl _)) (srtS_sorted _) fun x hx y hy h1 h2 => ?_
  obtain ⟨i, hi, rfl⟩ := corR_mem hx
  obtain ⟨j, hj, rfl⟩ := corR_mem hy
  have e := (eq70 h1 h2).2
  rw [nm_of hn (by rw [L24a_run w hn, h]; rfl) i j hi hj e]
end Go.Proofs.Ytjdbmmilcihpoaa
open Go
namespace Go.Proofs.Ytjdbmmilcihpoaa
set_option linter.unusedSimpArgs false
set_option linter.unusedVariables false
set_option maxHeartbeats 0
set_option maxRecDepth 100000
noncomputable def r21.v (w : WD) : Int := (bif decide ((↑w.n : Int) > 512) then 7 else (bif r39.v w.nm then (match L21a.run w 0 with | .e0 => 4 | .e1 => (bif r40.v w == 0 then (match L21b.run w (r41.v w) 0 with | .e0 => 9 | .e1 => (match L21c.run w (r41.v w) 0 with | .e0 => 10 | .e1 => (match L21e.run w (r41.v w) 0 with | .e0 => 11 | .e1 => (match L21g.run w (r41.v w) 0 with | .e0 => 10 | .e1 => 0 ) ) ) ) else r40.v w) ) else 4))
noncomputable abbrev r21.h0 (w : WD) : AHeap := ([AObj.var (WD.av w)])
theorem r21 (w : WD) (hn : w.n ≤ 10000) (hnm : w.nm.size ≤ 9223372036854775807) (hg : ∀ (i : Nat), (w.g i).nm.size ≤ 9223372036854775807) (h : AHeap) : Ret Try.prog 21 ([w.av]) h (AV.int IntKind.i64 (r21.v w)) h := by
  cases h1 : decide ((↑w.n : Int) > 512) with
  | true =>
    have h1p := of_decide_eq_true h1
    exact Ret.of_run1 mix [(AV.int IntKind.i64 (r21.v w))] Try.func21 rfl [.b true] (by simp) (by simp) (kmp (by kernel_rfl) (And.intro h1 (And.intro (show (AV.int IntKind.i64 7) = ((AV.int IntKind.i64 (r21.v w))) by simp only [r21.v, h1, cond_true, cond_false]) trivial))) h
  | false =>
    have h1p := of_decide_eq_false h1
    have o0 : w.nm.size ≤ (9223372036854775807 : Nat) := by assumption
    cases h2 : r39.v w.nm with
    | true =>
      have o1 : w.n ≤ (10000 : Nat) := by assumption
      have o2 : ∀ (i : Nat), (w.g i).nm.size ≤ (9223372036854775807 : Nat) := by assumption
      have o3 : (0 : Int) ≤ (↑w.n : Int) := by omega
      cases h3 : L21a.run w 0 with
      | e0 =>
        exact Ret.of_run1 mix [(AV.int IntKind.i64 (r21.v w))] Try.func21 rfl [.b false, .ret (AV.bool (r39.v w.nm)) (r21.h0 w), .b false, .loop (others 226 [1, 3]) (Exit.ret) (L21a.X w L21a.O.e0) (L21a.XH w L21a.O.e0)] (by simp) (by simp) (kmp (by kernel_rfl) (And.intro h1 (And.intro (r39 (w.nm) o0 (r21.h0 w)) (And.intro (show (bnot (r39.v w.nm)) = false by rw [h2]; try rfl) (And.intro (L21a.e0 (w) o1 o2 (0) (And.intro (show (0 : Int) ≤ (0 : Int) by decide) o3) h3) (And.intro (show (AV.int IntKind.i64 4) = ((AV.int IntKind.i64 (r21.v w))) by simp only [r21.v, h1, h2, h3, cond_true, cond_false]) trivial)))))) h
      | e1 =>
        cases h4 : r40.v w == 0 with
        | true =>
          have h4p := eq_of_beq h4
          have o4 : r41.v w ≤ (99 : Int) := by first | assumption | omega | (apply top99 <;> first | assumption | omega) | (apply top99' <;> first | assumption | omega) | (exact hg _) | (exact hg _ (by omega)) | (simp_all; done)
          cases h5 : L21b.run w (r41.v w) 0 with
          | e0 =>
            exact Ret.of_run1 mix [(AV.int IntKind.i64 (r21.v w))] Try.func21 rfl [.b false, .ret (AV.bool (r39.v w.nm)) (r21.h0 w), .b false, .loop (others 226 [1, 3]) (Exit.exit 0) (L21a.X w L21a.O.e1) (L21a.XH w L21a.O.e1), .ret (AV.int IntKind.i64 (r40.v w)) (r21.h0 w), .b false, .ret (AV.int IntKind.i64 (r41.v w)) (r21.h0 w), .loop (others 226 [1, 5, 6]) (Exit.ret) (L21b.X w (r41.v w) L21b.O.e0) (L21b.XH w (r41.v w) L21b.O.e0)] (by simp) (by simp) (kmp (by kernel_rfl) (And.intro h1 (And.intro (r39 (w.nm) o0 (r21.h0 w)) (And.intro (show (bnot (r39.v w.nm)) = false by rw [h2]; try rfl) (And.intro (L21a.e1 (w) o1 o2 (0) (And.intro (show (0 : Int) ≤ (0 : Int) by decide) o3) h3) (And.intro (r40 (w) o1 (r21.h0 w)) (And.intro (show (bnot (r40.v w == 0)) = false by rw [h4]; try rfl) (And.intro (r41 (w) o1 (r21.h0 w)) (And.intro (L21b.e0 (w) o1 (r41.v w) o4 (0) (And.intro (show (0 : Int) ≤ (0 : Int) by decide) (show (0 : Int) ≤ (100 : Int) by decide)) h5) (And.intro (show (AV.int IntKind.i64 9) = ((AV.int IntKind.i64 (r21.v w))) by simp only [r21.v, h1, h2, h4, h3, h5, cond_true, cond_false]) trivial)))))))))) h
          | e1 =>
            have o5 : ∀ (k : Int), (0 : Int) ≤ k → k ≤ r41.v w → (0 : Nat) < (corR w.g k w.n).length := by first | assumption | omega | (simp only [List.length_append, List.length_cons, List.length_nil, List.length_map]; omega) | (apply cor_ne <;> first | assumption | omega) | (exact hg _) | (exact hg _ (by omega)) | (simp_all; done)
            cases h6 : L21c.run w (r41.v w) 0 with
            | e0 =>
              exact Ret.of_run1 mix [(AV.int IntKind.i64 (r21.v w))] Try.func21 rfl [.b false, .ret (AV.bool (r39.v w.nm)) (r21.h0 w), .b false, .loop (others 226 [1, 3]) (Exit.exit 0) (L21a.X w L21a.O.e1) (L21a.XH w L21a.O.e1), .ret (AV.int IntKind.i64 (r40.v w)) (r21.h0 w), .b false, .ret (AV.int IntKind.i64 (r41.v w)) (r21.h0 w), .loop (others 226 [1, 5, 6]) (Exit.exit 2) (L21b.X w (r41.v w) L21b.O.e1) (L21b.XH w (r41.v w) L21b.O.e1), .loop (others 226 [1, 5, 7]) (Exit.ret) (L21c.X w (r41.v w) L21c.O.e0) (L21c.XH w (r41.v w) L21c.O.e0)] (by simp) (by simp) (kmp (by kernel_rfl) (And.intro h1 (And.intro (r39 (w.nm) o0 (r21.h0 w)) (And.intro (show (bnot (r39.v w.nm)) = false by rw [h2]; try rfl) (And.intro (L21a.e1 (w) o1 o2 (0) (And.intro (show (0 : Int) ≤ (0 : Int) by decide) o3) h3) (And.intro (r40 (w) o1 (r21.h0 w)) (And.intro (show (bnot (r40.v w == 0)) = false by rw [h4]; try rfl) (And.intro (r41 (w) o1 (r21.h0 w)) (And.intro (L21b.e1 (w) o1 (r41.v w) o4 (0) (And.intro (show (0 : Int) ≤ (0 : Int) by decide) (show (0 : Int) ≤ (100 : Int) by decide)) h5) (And.intro (L21c.e0 (w) o1 (r41.v w) o4 o5 (0) (And.intro (show (0 : Int) ≤ (0 : Int) by decide) (show (0 : Int) ≤ (100 : Int) by decide)) h6) (And.intro (show (AV.int IntKind.i64 10) = ((AV.int IntKind.i64 (r21.v w))) by simp only [r21.v, h1, h2, h4, h3, h5, h6, cond_true, cond_false]) trivial))))))))))) h
            | e1 =>
              cases h7 : L21e.run w (r41.v w) 0 with
              | e0 =>
                exact Ret.of_run1 mix [(AV.int IntKind.i64 (r21.v w))] Try.func21 rfl [.b false, .ret (AV.bool (r39.v w.nm)) (r21.h0 w), .b false, .loop (others 226 [1, 3]) (Exit.exit 0) (L21a.X w L21a.O.e1) (L21a.XH w L21a.O.e1), .ret (AV.int IntKind.i64 (r40.v w)) (r21.h0 w), .b false, .ret (AV.int IntKind.i64 (r41.v w)) (r21.h0 w), .loop (others 226 [1, 5, 6]) (Exit.exit 2) (L21b.X w (r41.v w) L21b.O.e1) (L21b.XH w (r41.v w) L21b.O.e1), .loop (others 226 [1, 5, 7]) (Exit.exit 4) (L21c.X w (r41.v w) L21c.O.e1) (L21c.XH w (r41.v w) L21c.O.e1), .loop (others 226 [1, 5, 11]) (Exit.ret) (L21e.X w (r41.v w) L21e.O.e0) (L21e.XH w (r41.v w) L21e.O.e0)] (by simp) (by simp) (kmp (by kernel_rfl) (And.intro h1 (And.intro (r39 (w.nm) o0 (r21.h0 w)) (And.intro (show (bnot (r39.v w.nm)) = false by rw [h2]; try rfl) (And.intro (L21a.e1 (w) o1 o2 (0) (And.intro (show (0 : Int) ≤ (0 : Int) by decide) o3) h3) (And.intro (r40 (w) o1 (r21.h0 w)) (And.intro (show (bnot (r40.v w == 0)) = false by rw [h4]; try rfl) (And.intro (r41 (w) o1 (r21.h0 w)) (And.intro (L21b.e1 (w) o1 (r41.v w) o4 (0) (And.intro (show (0 : Int) ≤ (0 : Int) by decide) (show (0 : Int) ≤ (100 : Int) by decide)) h5) (And.intro (L21c.e1 (w) o1 (r41.v w) o4 o5 (0) (And.intro (show (0 : Int) ≤ (0 : Int) by decide) (show (0 : Int) ≤ (100 : Int) by decide)) h6) (And.intro (L21e.e0 (w) o1 (r41.v w) o4 o5 (0) (And.intro (show (0 : Int) ≤ (0 : Int) by decide) (show (0 : Int) ≤ (100 : Int) by decide)) h7) (And.intro (show (AV.int IntKind.i64 11) = ((AV.int IntKind.i64 (r21.v w))) by simp only [r21.v, h1, h2, h4, h3, h5, h6, h7, cond_true, cond_false]) trivial)))))))))))) h
              | e1 =>
                cases h8 : L21g.run w (r41.v w) 0 with
                | e0 =>
                  exact Ret.of_run1 mix [(AV.int IntKind.i64 (r21.v w))] Try.func21 rfl [.b false, .ret (AV.bool (r39.v w.nm)) (r21.h0 w), .b false, .loop (others 226 [1, 3]) (Exit.exit 0) (L21a.X w L21a.O.e1) (L21a.XH w L21a.O.e1), .ret (AV.int IntKind.i64 (r40.v w)) (r21.h0 w), .b false, .ret (AV.int IntKind.i64 (r41.v w)) (r21.h0 w), .loop (others 226 [1, 5, 6]) (Exit.exit 2) (L21b.X w (r41.v w) L21b.O.e1) (L21b.XH w (r41.v w) L21b.O.e1), .loop (others 226 [1, 5, 7]) (Exit.exit 4) (L21c.X w (r41.v w) L21c.O.e1) (L21c.XH w (r41.v w) L21c.O.e1), .loop (others 226 [1, 5, 11]) (Exit.exit 8) (L21e.X w (r41.v w) L21e.O.e1) (L21e.XH w (r41.v w) L21e.O.e1), .loop (others 226 [1, 5, 14]) (Exit.ret) (L21g.X w (r41.v w) L21g.O.e0) (L21g.XH w (r41.v w) L21g.O.e0)] (by simp) (by simp) (kmp (by kernel_rfl) (And.intro h1 (And.intro (r39 (w.nm) o0 (r21.h0 w)) (And.intro (show (bnot (r39.v w.nm)) = false by rw [h2]; try rfl) (And.intro (L21a.e1 (w) o1 o2 (0) (And.intro (show (0 : Int) ≤ (0 : Int) by decide) o3) h3) (And.intro (r40 (w) o1 (r21.h0 w)) (And.intro (show (bnot (r40.v w == 0)) = false by rw [h4]; try rfl) (And.intro (r41 (w) o1 (r21.h0 w)) (And.intro (L21b.e1 (w) o1 (r41.v w) o4 (0) (And.intro (show (0 : Int) ≤ (0 : Int) by decide) (show (0 : Int) ≤ (100 : Int) by decide)) h5) (And.intro (L21c.e1 (w) o1 (r41.v w) o4 o5 (0) (And.intro (show (0 : Int) ≤ (0 : Int) by decide) (show (0 : Int) ≤ (100 : Int) by decide)) h6) (And.intro (L21e.e1 (w) o1 (r41.v w) o4 o5 (0) (And.intro (show (0 : Int) ≤ (0 : Int) by decide) (show (0 : Int) ≤ (100 : Int) by decide)) h7) (And.intro (L21g.e0 (w) o1 (r41.v w) o4 o5 (0) (And.intro (show (0 : Int) ≤ (0 : Int) by decide) (show (0 : Int) ≤ (100 : Int) by decide)) h8) (And.intro (show (AV.int IntKind.i64 10) = ((AV.int IntKind.i64 (r21.v w))) by simp only [r21.v, h1, h2, h4, h3, h5, h6, h7, h8, cond_true, cond_false]) trivial))))))))))))) h
                | e1 =>
                  exact Ret.of_run1 mix [(AV.int IntKind.i64 (r21.v w))] Try.func21 rfl [.b false, .ret (AV.bool (r39.v w.nm)) (r21.h0 w), .b false, .loop (others 226 [1, 3]) (Exit.exit 0) (L21a.X w L21a.O.e1) (L21a.XH w L21a.O.e1), .ret (AV.int IntKind.i64 (r40.v w)) (r21.h0 w), .b false, .ret (AV.int IntKind.i64 (r41.v w)) (r21.h0 w), .loop (others 226 [1, 5, 6]) (Exit.exit 2) (L21b.X w (r41.v w) L21b.O.e1) (L21b.XH w (r41.v w) L21b.O.e1), .loop (others 226 [1, 5, 7]) (Exit.exit 4) (L21c.X w (r41.v w) L21c.O.e1) (L21c.XH w (r41.v w) L21c.O.e1), .loop (others 226 [1, 5, 11]) (Exit.exit 8) (L21e.X w (r41.v w) L21e.O.e1) (L21e.XH w (r41.v w) L21e.O.e1), .loop (others 226 [1, 5, 14]) (Exit.exit 12) (L21g.X w (r41.v w) L21g.O.e1) (L21g.XH w (r41.v w) L21g.O.e1)] (by simp) (by simp) (kmp (by kernel_rfl) (And.intro h1 (And.intro (r39 (w.nm) o0 (r21.h0 w)) (And.intro (show (bnot (r39.v w.nm)) = false by rw [h2]; try rfl) (And.intro (L21a.e1 (w) o1 o2 (0) (And.intro (show (0 : Int) ≤ (0 : Int) by decide) o3) h3) (And.intro (r40 (w) o1 (r21.h0 w)) (And.intro (show (bnot (r40.v w == 0)) = false by rw [h4]; try rfl) (And.intro (r41 (w) o1 (r21.h0 w)) (And.intro (L21b.e1 (w) o1 (r41.v w) o4 (0) (And.intro (show (0 : Int) ≤ (0 : Int) by decide) (show (0 : Int) ≤ (100 : Int) by decide)) h5) (And.intro (L21c.e1 (w) o1 (r41.v w) o4 o5 (0) (And.intro (show (0 : Int) ≤ (0 : Int) by decide) (show (0 : Int) ≤ (100 : Int) by decide)) h6) (And.intro (L21e.e1 (w) o1 (r41.v w) o4 o5 (0) (And.intro (show (0 : Int) ≤ (0 : Int) by decide) (show (0 : Int) ≤ (100 : Int) by decide)) h7) (And.intro (L21g.e1 (w) o1 (r41.v w) o4 o5 (0) (And.intro (show (0 : Int) ≤ (0 : Int) by decide) (show (0 : Int) ≤ (100 : Int) by decide)) h8) (And.intro (show (AV.int IntKind.i64 0) = ((AV.int IntKind.i64 (r21.v w))) by simp only [r21.v, h1, h2, h4, h3, h5, h6, h7, h8, cond_true, cond_false]) trivial))))))))))))) h
        | false =>
          have h4p := ne_of_beq_false h4
          exact Ret.of_run1 mix [(AV.int IntKind.i64 (r21.v w))] Try.func21 rfl [.b false, .ret (AV.bool (r39.v w.nm)) (r21.h0 w), .b false, .loop (others 226 [1, 3]) (Exit.exit 0) (L21a.X w L21a.O.e1) (L21a.XH w L21a.O.e1), .ret (AV.int IntKind.i64 (r40.v w)) (r21.h0 w), .b true] (by simp) (by simp) (kmp (by kernel_rfl) (And.intro h1 (And.intro (r39 (w.nm) o0 (r21.h0 w)) (And.intro (show (bnot (r39.v w.nm)) = false by rw [h2]; try rfl) (And.intro (L21a.e1 (w) o1 o2 (0) (And.intro (show (0 : Int) ≤ (0 : Int) by decide) o3) h3) (And.intro (r40 (w) o1 (r21.h0 w)) (And.intro (show (bnot (r40.v w == 0)) = true by rw [h4]; try rfl) (And.intro (show (AV.int IntKind.i64 (r40.v w)) = ((AV.int IntKind.i64 (r21.v w))) by simp only [r21.v, h1, h2, h4, h3, cond_true, cond_false]) trivial)))))))) h
    | false =>
      exact Ret.of_run1 mix [(AV.int IntKind.i64 (r21.v w))] Try.func21 rfl [.b false, .ret (AV.bool (r39.v w.nm)) (r21.h0 w), .b true] (by simp) (by simp) (kmp (by kernel_rfl) (And.intro h1 (And.intro (r39 (w.nm) o0 (r21.h0 w)) (And.intro (show (bnot (r39.v w.nm)) = true by rw [h2]; try rfl) (And.intro (show (AV.int IntKind.i64 4) = ((AV.int IntKind.i64 (r21.v w))) by simp only [r21.v, h1, h2, cond_true, cond_false]) trivial))))) h
end Go.Proofs.Ytjdbmmilcihpoaa
open Go
namespace Go.Proofs.Ytjdbmmilcihpoaa
set_option maxHeartbeats 0
set_option maxRecDepth 100000
set_option linter.unusedVariables false
set_option linter.unusedSimpArgs false
theorem L21a_run (w : WD) (hn : w.n ≤ 10000) (hg : ∀ i, (w.g i).nm.size ≤ 9223372036854775807) : L21a.run w 0 = bif r49a.v w.n w.g then .e0 else .e1 := by
  have := scan_eq (N := L21a.N w) (n := w.n) (fun i => r50.v (w.g i)) .e0 .e1 0 (fun k i _ h => by
    simp only [L21a.N, Int.toNat_natCast]
    rw [decide_eq_true (show (i : Int) < (w.n : Int) by omega), cond_true, wrap_s (Nat.le_of_lt h) (by omega), ← name_eq (hg i)]
    unfold r50.v
    cases r48.v (w.g i).nm <;> rfl) (fun k i _ h => by
    simp only [L21a.N]
    rw [decide_eq_false (show ¬ (i : Int) < (w.n : Int) by omega), cond_false]) (((w.n : Int) - ((0 : Nat) : Int)).toNat + 1) 0 (Nat.zero_le _) (by omega)
  rw [anyN_all, ← r49a_v (by omega)] at this
  exact this
theorem r49c_v {n : Nat} {g : Nat → SD} (hn : n ≤ 10000) : r49c.v n g = anyN n (fun i => r78.v g (g i)) := by
  have := search_eq (n := n) (fun i => r78.v g (g i)) (fun i => L59c.O.e0 i) .e1 (N := L59c.N n g) (fun k i h => by
    simp only [L59c.N, wrap_succ (show n ≤ 9223372036854775807 by omega) h, Int.toNat_natCast]; rw [decide_eq_true (by omega)]; rfl) (fun k => by simp [L59c.N]) (n + 1) 0 (Nat.zero_le _) (by omega)
  have e : L59c.run n g 0 = srch (fun i => r78.v g (g i)) (fun i => L59c.O.e0 i) .e1 0 n := by simpa [L59c.run] using this
  unfold r49c.v r59c.v
  rw [e]
  exact idx_any _ n L59c.O (fun o => match o with | .e0 a => a | .e1 => -1) _ _ (fun i => rfl) rfl
theorem L21d_run (L : List SD) (hl : L.length ≤ 10000) : L21d.run L 0 = bif r49c.v L.length (fun i => L.getD i default) then .e0 else .e1 := by
  have := scan_eq (N := L21d.N L) (n := L.length) (fun i => r78.v (fun i => L.getD i default) (L.getD i default)) .e0 .e1 0 (fun k i _ h => by
    simp only [L21d.N, Int.toNat_natCast]
    rw [decide_eq_true (show (i : Int) < (L.length : Int) by omega), cond_true, wrap_s (Nat.le_of_lt h) (by omega)]
    unfold r78.v
    cases (L.getD i default).az == (L.getD 0 default).az with
    | true =>
      show (bif (L.getD i default).sz == (L.getD 0 default).sz then _ else _) = bif (L.getD i default).sz != (L.getD 0 default).sz then _ else _
      rw [show ((L.getD i default).sz != (L.getD 0 default).sz) = !((L.getD i default).sz == (L.getD 0 default).sz) from rfl]
      cases (L.getD i default).sz == (L.getD 0 default).sz <;> rfl
    | false => rfl) (fun k i _ h => by
    simp only [L21d.N]
    rw [decide_eq_false (show ¬ (i : Int) < (L.length : Int) by omega), cond_false]) (((L.length : Int) - ((0 : Nat) : Int)).toNat + 1) 0 (Nat.zero_le _) (by omega)
  rw [anyN_all, ← r49c_v hl] at this
  exact this
/-- A course that isn't at its height. -/
noncomputable def badH (w : WD) (L : Nat → List SD) (k : Nat) : Bool :=
  r49c.v (L k).length (fun i => (L k).getD i default) || (decide (0 < k) && !r51.v (IntKind.i64.wrap (IntKind.i64.wrap (((L k).getD 0 default).az - ((L (k - 1)).getD 0 default).az) - ((L (k - 1)).getD 0 default).sz)) w.jl w.jh)
theorem dec_pos (i : Nat) : decide ((i : Int) > 0) = decide (0 < i) := by
  by_cases h : 0 < i
  · rw [decide_eq_true h, decide_eq_true (by omega)]
  · rw [decide_eq_false h, decide_eq_false (by omega)]
theorem L56a_run (w : WD) (N : Nat) (L : Nat → List SD) (hN : N ≤ 1000) : L56a.run w N L 0 = bif anyN N (badH w L) then .e0 else .e1 := by
  have := scan_eq (N := L56a.N w N L) (n := N) (badH w L) .e0 .e1 0 (fun k i _ h => by
    simp only [L56a.N, Int.toNat_natCast]
    rw [decide_eq_true (show (i : Int) < (N : Int) by omega), cond_true, wrap_s (Nat.le_of_lt h) (by omega), dec_pos]
    unfold badH
    rcases Nat.eq_zero_or_pos i with q | q
    · subst q
      cases r49c.v (L 0).length (fun i => (L 0).getD i default) <;> rfl
    · rw [decide_eq_true q, wrap_pn q (by omega)]
      cases r49c.v (L i).length (fun j => (L i).getD j default) with
      | true => rfl
      | false =>
        simp only [cond_true, cond_false, Bool.false_or, Bool.true_and]
        cases r51.v (IntKind.i64.wrap (IntKind.i64.wrap (((L i).getD 0 default).az - ((L (i - 1)).getD 0 default).az) - ((L (i - 1)).getD 0 default).sz)) w.jl w.jh <;> rfl) (fun k i _ h => by
    simp only [L56a.N]
    rw [decide_eq_false (show ¬ (i : Int) < (N : Int) by omega), cond_false]) (((N : Int) - ((0 : Nat) : Int)).toNat + 1) 0 (Nat.zero_le _) (by omega)
  rw [anyN_all] at this
  exact this
section
variable {w : WD} (hn : w.n ≤ 10000) (hb : badN w = false) (t : Int) (ht : t ≤ 99)
include hn hb ht
theorem L21c_run : L21c.run w t 0 = bif anyN (t + 1).toNat (badH w (cC w)) then .e0 else .e1 := by
  have := scan_eq (N := L21c.N w t) (n := (t + 1).toNat) (badH w (cC w)) .e0 .e1 0 (fun k i _ h => by
    simp only [L21c.N]
    rw [decide_eq_true (show (i : Int) ≤ t by omega), cond_true, wrap_s (n := i) (Nat.le_refl _) (by omega), dec_pos, cor_eq hn hb i, L21d_run _ (cC_len hn i)]
    unfold badH
    rcases Nat.eq_zero_or_pos i with q | q
    · subst q
      cases r49c.v (cC w 0).length (fun i => (cC w 0).getD i default) <;> rfl
    · rw [decide_eq_true q, wrap_p q (by omega), cor_eq hn hb (i - 1)]
      cases r49c.v (cC w i).length (fun j => (cC w i).getD j default) with
      | true => rfl
      | false =>
        simp only [cond_true, cond_false, Bool.false_or, Bool.true_and]
        show (bif r37.v _ w.jl w.jh then _ else _) = _
        rw [r37_51]
        cases r51.v (IntKind.i64.wrap (IntKind.i64.wrap (((cC w i).getD 0 default).az - ((cC w (i - 1)).getD 0 default).az) - ((cC w (i - 1)).getD 0 default).sz)) w.jl w.jh <;> rfl) (fun k i _ h => by
    simp only [L21c.N]
    rw [decide_eq_false (show ¬ (i : Int) ≤ t by omega), cond_false]) ((t + 1 - ((0 : Nat) : Int)).toNat + 1) 0 (Nat.zero_le _) (by omega)
  rw [anyN_all] at this
  exact this
end
noncomputable def badO (L : List SD) : Bool := anyN L.length fun i => decide (1 ≤ i) && decide ((L.getD i default).ax < r61.v (L.getD (i - 1) default))
theorem L21f_run (L : List SD) (hl : L.length ≤ 10000) : L21f.run L 1 = bif badO L then .e0 else .e1 :=
  scan_eq (N := L21f.N L) (n := L.length) (fun i => decide ((L.getD i default).ax < r61.v (L.getD (i - 1) default))) .e0 .e1 1 (fun k i h1 h => by
    simp only [L21f.N, Int.toNat_natCast]
    rw [decide_eq_true (show (i : Int) < (L.length : Int) by omega), cond_true, wrap_s (Nat.le_of_lt h) (by omega), wrap_pn h1 (by omega)]
    rfl) (fun k i _ h => by
    simp only [L21f.N]
    rw [decide_eq_false (show ¬ (i : Int) < (L.length : Int) by omega), cond_false]) (((L.length : Int) - ((1 : Nat) : Int)).toNat + 1) 1 (Nat.le_refl _) (by omega)
theorem L57ab_run (L : Nat → List SD) (c : Nat) (hl : (L c).length ≤ 10000) : L57ab.run L c 1 = bif badO (L c) then .e0 else .e1 :=
  scan_eq (N := L57ab.N L c) (n := (L c).length) (fun i => decide (((L c).getD i default).ax < r61.v ((L c).getD (i - 1) default))) .e0 .e1 1 (fun k i h1 h => by
    simp only [L57ab.N, Int.toNat_natCast]
    rw [decide_eq_true (show (i : Int) < ((L c).length : Int) by omega), cond_true, wrap_s (Nat.le_of_lt h) (by omega), wrap_pn h1 (by omega)]) (fun k i _ h => by
    simp only [L57ab.N, Int.toNat_natCast]
    rw [decide_eq_false (show ¬ (i : Int) < ((L c).length : Int) by omega), cond_false]) ((((L c).length : Int) - ((1 : Nat) : Int)).toNat + 1) 1 (Nat.le_refl _) (by omega)
theorem L57a_run (N : Nat) (L : Nat → List SD) (hN : N ≤ 1000) (hl : ∀ k, (L k).length ≤ 10000) : L57a.run N L 0 = bif anyN N (fun k => badO (L k)) then .e0 else .e1 := by
  have := scan_eq (N := L57a.N N L) (n := N) (fun k => badO (L k)) .e0 .e1 0 (fun k i _ h => by
    simp only [L57a.N]
    rw [decide_eq_true (show (i : Int) < (N : Int) by omega), cond_true, wrap_s (Nat.le_of_lt h) (by omega), L57ab_run L i (hl i)]
    cases badO (L i) <;> rfl) (fun k i _ h => by
    simp only [L57a.N]
    rw [decide_eq_false (show ¬ (i : Int) < (N : Int) by omega), cond_false]) (((N : Int) - ((0 : Nat) : Int)).toNat + 1) 0 (Nat.zero_le _) (by omega)
  rw [anyN_all] at this
  exact this
section
variable {w : WD} (hn : w.n ≤ 10000) (hb : badN w = false) (t : Int) (ht : t ≤ 99)
include hn hb ht
theorem L21e_run : L21e.run w t 0 = bif anyN (t + 1).toNat (fun k => badO (cC w k)) then .e0 else .e1 := by
  have := scan_eq (N := L21e.N w t) (n := (t + 1).toNat) (fun k => badO (cC w k)) .e0 .e1 0 (fun k i _ h => by
    simp only [L21e.N]
    rw [decide_eq_true (show (i : Int) ≤ t by omega), cond_true, wrap_s (n := i) (Nat.le_refl _) (by omega), cor_eq hn hb i, L21f_run _ (cC_len hn i)]
    cases badO (cC w i) <;> rfl) (fun k i _ h => by
    simp only [L21e.N]
    rw [decide_eq_false (show ¬ (i : Int) ≤ t by omega), cond_false]) ((t + 1 - ((0 : Nat) : Int)).toNat + 1) 0 (Nat.zero_le _) (by omega)
  rw [anyN_all] at this
  exact this
end
noncomputable def badJ (w : WD) (L : List SD) : Bool := anyN L.length fun i => decide (1 ≤ i) && !r51.v (IntKind.i64.wrap ((L.getD i default).ax - r61.v (L.getD (i - 1) default))) w.jl w.jh
noncomputable def badE (w : WD) (L : List SD) : Bool := !((L.getD 0 default).ax == 0) || (!(r61.v (L.getD (IntKind.i64.wrap ((L.length : Int) - 1)).toNat default) == w.len) || badJ w L)
theorem L58ab_run (w : WD) (L : Nat → List SD) (c : Nat) (hl : (L c).length ≤ 10000) : L58ab.run w L c 1 = bif badJ w (L c) then .e0 else .e1 :=
  scan_eq (N := L58ab.N w L c) (n := (L c).length) (fun i => !r51.v (IntKind.i64.wrap (((L c).getD i default).ax - r61.v ((L c).getD (i - 1) default))) w.jl w.jh) .e0 .e1 1 (fun k i h1 h => by
    simp only [L58ab.N, Int.toNat_natCast]
    rw [decide_eq_true (show (i : Int) < ((L c).length : Int) by omega), cond_true, wrap_s (Nat.le_of_lt h) (by omega), wrap_pn h1 (by omega)]
    cases r51.v (IntKind.i64.wrap (((L c).getD i default).ax - r61.v ((L c).getD (i - 1) default))) w.jl w.jh <;> rfl) (fun k i _ h => by
    simp only [L58ab.N, Int.toNat_natCast]
    rw [decide_eq_false (show ¬ (i : Int) < ((L c).length : Int) by omega), cond_false]) ((((L c).length : Int) - ((1 : Nat) : Int)).toNat + 1) 1 (Nat.le_refl _) (by omega)
theorem L58a_run (w : WD) (N : Nat) (L : Nat → List SD) (hN : N ≤ 1000) (hl : ∀ k, (L k).length ≤ 10000) : L58a.run w N L 0 = bif anyN N (fun k => badE w (L k)) then .e0 else .e1 := by
  have := scan_eq (N := L58a.N w N L) (n := N) (fun k => badE w (L k)) .e0 .e1 0 (fun k i _ h => by
    simp only [L58a.N, Int.toNat_natCast]
    rw [decide_eq_true (show (i : Int) < (N : Int) by omega), cond_true, wrap_s (Nat.le_of_lt h) (by omega), L58ab_run w L i (hl i)]
    unfold badE
    cases ((L i).getD 0 default).ax == 0 <;> cases r61.v ((L i).getD (IntKind.i64.wrap (((L i).length : Int) - 1)).toNat default) == w.len <;> cases badJ w (L i) <;> rfl) (fun k i _ h => by
    simp only [L58a.N]
    rw [decide_eq_false (show ¬ (i : Int) < (N : Int) by omega), cond_false]) (((N : Int) - ((0 : Nat) : Int)).toNat + 1) 0 (Nat.zero_le _) (by omega)
  rw [anyN_all] at this
  exact this
theorem cC_mem {w : WD} {k : Nat} {x : SD} (h : x ∈ cC w k) : ∃ i, i < w.n ∧ x = w.g i := crs_mem ((srtS_perm _).subset h)
theorem cC_ok {w : WD} (hs : ∀ i, i < w.n → SOk (w.g i)) {k i : Nat} (hi : i < (cC w k).length) : SOk ((cC w k).getD i default) := by
  rw [getD_lt hi]
  obtain ⟨j, hj, e⟩ := cC_mem (List.getElem_mem hi)
  rw [e]; exact hs j hj
theorem L21h_run (w : WD) (L : List SD) (hl : L.length ≤ 10000) (hs : ∀ i, i < L.length → SOk (L.getD i default)) : L21h.run w L 1 = bif badJ w L then .e0 else .e1 :=
  scan_eq (N := L21h.N w L) (n := L.length) (fun i => !r51.v (IntKind.i64.wrap ((L.getD i default).ax - r61.v (L.getD (i - 1) default))) w.jl w.jh) .e0 .e1 1 (fun k i h1 h => by
    simp only [L21h.N, Int.toNat_natCast]
    rw [decide_eq_true (show (i : Int) < (L.length : Int) by omega), cond_true, wrap_s (Nat.le_of_lt h) (by omega), wrap_pn h1 (by omega)]
    have a := (hs i h).ax
    have b := (hs (i - 1) (by omega)).ax
    have c := (hs (i - 1) (by omega)).sx
    have e : IntKind.i64.wrap (IntKind.i64.wrap ((L.getD i default).ax - (L.getD (i - 1) default).ax) - (L.getD (i - 1) default).sx) = IntKind.i64.wrap ((L.getD i default).ax - r61.v (L.getD (i - 1) default)) := by
      unfold r61.v
      rw [IntWalk.i64_in ((L.getD i default).ax - (L.getD (i - 1) default).ax) (by omega), IntWalk.i64_in ((L.getD (i - 1) default).ax + (L.getD (i - 1) default).sx) (by omega)]
      congr 1; omega
    rw [e]
    show (bif r37.v _ w.jl w.jh then _ else _) = _
    rw [r37_51]
    cases r51.v (IntKind.i64.wrap ((L.getD i default).ax - r61.v (L.getD (i - 1) default))) w.jl w.jh <;> rfl) (fun k i _ h => by
    simp only [L21h.N]
    rw [decide_eq_false (show ¬ (i : Int) < (L.length : Int) by omega), cond_false]) (((L.length : Int) - ((1 : Nat) : Int)).toNat + 1) 1 (Nat.le_refl _) (by omega)
section
variable {w : WD} (hn : w.n ≤ 10000) (hb : badN w = false) (hs : ∀ i, i < w.n → SOk (w.g i)) (t : Int) (ht : t ≤ 99)
include hn hb ht hs
theorem L21g_run : L21g.run w t 0 = bif anyN (t + 1).toNat (fun k => badE w (cC w k)) then .e0 else .e1 := by
  have := scan_eq (N := L21g.N w t) (n := (t + 1).toNat) (fun k => badE w (cC w k)) .e0 .e1 0 (fun k i _ h => by
    simp only [L21g.N]
    rw [decide_eq_true (show (i : Int) ≤ t by omega), cond_true, wrap_s (n := i) (Nat.le_refl _) (by omega), cor_eq hn hb i, L21h_run _ _ (cC_len hn i) fun j hj => cC_ok hs hj]
    unfold badE
    show _ = bif !((cC w i).getD 0 default).ax == 0 || (!(IntKind.i64.wrap (((cC w i).getD (IntKind.i64.wrap (((cC w i).length : Int) - 1)).toNat default).ax + ((cC w i).getD (IntKind.i64.wrap (((cC w i).length : Int) - 1)).toNat default).sx) == w.len) || badJ w (cC w i)) then _ else _
    cases ((cC w i).getD 0 default).ax == 0 <;> cases IntKind.i64.wrap (((cC w i).getD (IntKind.i64.wrap (((cC w i).length : Int) - 1)).toNat default).ax + ((cC w i).getD (IntKind.i64.wrap (((cC w i).length : Int) - 1)).toNat default).sx) == w.len <;> cases badJ w (cC w i) <;> rfl) (fun k i _ h => by
    simp only [L21g.N]
    rw [decide_eq_false (show ¬ (i : Int) ≤ t by omega), cond_false]) ((t + 1 - ((0 : Nat) : Int)).toNat + 1) 0 (Nat.zero_le _) (by omega)
  rw [anyN_all] at this
  exact this
end
/-- Both checks agree. -/
theorem check_eq {w : WD} (hn : w.n ≤ 10000) (hnm : w.nm.size ≤ 9223372036854775807) (hg : ∀ i, (w.g i).nm.size ≤ 9223372036854775807) : r21.v w = r24.v w := by
  unfold r21.v r24.v
  rw [← name_eq hnm, L21a_run w hn hg, L24a_run w hn, r40_v w hn]
  cases decide ((w.n : Int) > 512) with
  | true => rfl
  | false =>
  cases r48.v w.nm with
  | false => rfl
  | true =>
  cases r49a.v w.n w.g with
  | true => rfl
  | false =>
  cases r51.v w.len 1 1000000 with
  | false => rfl
  | true =>
  cases r51.v w.lap 0 1000000 with
  | false => rfl
  | true =>
  cases r51.v w.jl 0 1000 with
  | false => rfl
  | true =>
  cases r51.v w.jh 0 1000 with
  | false => rfl
  | true =>
  cases hR : r49b.v w.n w.g with
  | true => rfl
  | false =>
  cases decide (w.jl > w.jh) with
  | true => rfl
  | false =>
  cases hB : badN w with
  | true => rfl
  | false =>
    obtain ⟨t1, t2⟩ := top_le w.g 99 (by decide) w.n fun i hi => (co_of hn hR i hi).2
    have hs := sok_all hn hR
    have hN : nC w ≤ 1000 := nC_le hn hR
    have et : (topC w.g w.n + 1).toNat = nC w := rfl
    have e54 : r54.v (nC w) (cC w) = anyN (nC w) (fun k => ((corR w.g (k : Int) w.n).length : Int) == 0) := by
      rw [r54_v (by omega)]
      exact anyN_congr fun k _ => by rw [cor_eq hn hB k]; rfl
    simp only [cond_true, cond_false]
    rw [r41_v w hn, L21b_run w _ t2, L21c_run hn hB _ t2, L21e_run hn hB _ t2, L21g_run hn hB hs _ t2, et, e54]
    unfold r56.v r57.v r58.v
    rw [L56a_run w _ _ hN, L57a_run _ _ hN (cC_len hn), L58a_run w _ _ hN (cC_len hn)]
    cases anyN (nC w) (fun k => ((corR w.g (k : Int) w.n).length : Int) == 0) <;> cases anyN (nC w) (badH w (cC w)) <;> cases anyN (nC w) (fun k => badO (cC w k)) <;> cases anyN (nC w) (fun k => badE w (cC w k)) <;> rfl
end Go.Proofs.Ytjdbmmilcihpoaa
open Go
namespace Go.Proofs.Ytjdbmmilcihpoaa
set_option linter.unusedSimpArgs false
set_option linter.unusedVariables false
set_option maxHeartbeats 0
set_option maxRecDepth 100000
inductive L20a.O where
  | e0
  | e1
noncomputable def L20a.T (w : WD) (a3 : Int) : List AV := mkT 41 [(1, AV.ptr 0 1 6 0 0), (3, AV.int IntKind.i64 a3)]
noncomputable def L20a.H (w : WD) (a3 : Int) : AHeap := [AObj.var (WD.av w)]
def L20a.inv (w : WD) (a3 : Int) : Prop := 0 ≤ a3 ∧ (a3 ≤ (↑w.n : Int) ∨ a3 ≤ 0)
noncomputable def L20a.mu (w : WD) (a3 : Int) : Nat := ((↑w.n : Int) - a3).toNat
noncomputable def L20a.E : L20a.O → Exit
  | .e0 => Exit.ret
  | .e1 => Exit.exit 0
noncomputable def L20a.X (w : WD) : L20a.O → List AV
  | .e0 => mkT 41 [(2, (AV.bool false))]
  | .e1 => mkT 41 []
noncomputable def L20a.XH (w : WD) : L20a.O → AHeap
  | .e0 => ([AObj.var (WD.av w)])
  | .e1 => ([AObj.var (WD.av w)])
noncomputable def L20a.N (w : WD) : Nat → Int → L20a.O
  | 0, _ => .e0
  | k_ + 1, a3 => (bif decide (a3 < (↑w.n : Int)) then (bif decide ((↑(w.g a3.toNat).nm.size : Int) > 100) then (.e0) else (L20a.N w k_ (IntKind.i64.wrap (a3 + 1)))) else (.e1))
noncomputable def L20a.run (w : WD) (a3 : Int) : L20a.O := L20a.N w ((((↑w.n : Int) - a3).toNat) + 1) a3
theorem L20a.nx (w : WD) {k_ : Nat} {z_ : Int} {h_ : AHeap} (s_ : Int) (h1 : L20a.inv w s_) (h2 : L20a.mu w s_ < L20a.mu w z_) (h3 : L20a.N w k_ s_ = L20a.N w (k_ + 1) z_) (h4 : PopOk (L20a.H w z_) h_ (L20a.T w s_) (L20a.H w s_)) : LNextP (fun (z_ : Int) => L20a.T w z_) (fun (z_ : Int) => L20a.H w z_) (fun (z_ : Int) => L20a.inv w z_) (fun (z_ : Int) => L20a.mu w z_) (fun (k_ : Nat) (z_ : Int) => L20a.N w k_ z_) k_ z_ (L20a.T w s_) h_ := LNextP.mk (Tm := (fun (z_ : Int) => L20a.T w z_)) (Hp := (fun (z_ : Int) => L20a.H w z_)) (inv := (fun (z_ : Int) => L20a.inv w z_)) (mu := (fun (z_ : Int) => L20a.mu w z_)) (l := (fun (k_ : Nat) (z_ : Int) => L20a.N w k_ z_)) s_ h1 h2 h3 h4
theorem L20a.en (w : WD) {k_ : Nat} {z_ : Int} {h_ : AHeap} (o_ : L20a.O) (h3 : L20a.N w (k_ + 1) z_ = o_) (h4 : PopOk (L20a.H w z_) h_ (L20a.X w o_) (L20a.XH w o_)) : LEndP (fun (z_ : Int) => L20a.H w z_) (fun (k_ : Nat) (z_ : Int) => L20a.N w k_ z_) L20a.E (L20a.X w) (L20a.XH w) k_ z_ (L20a.E o_) (L20a.X w o_) h_ := LEndP.mk (Hp := (fun (z_ : Int) => L20a.H w z_)) (l := (fun (k_ : Nat) (z_ : Int) => L20a.N w k_ z_)) (oE := L20a.E) (oT := L20a.X w) (oH := L20a.XH w) o_ h3 h4
theorem L20a.spec (w : WD) (hw : w.n ≤ 9223372036854775807) (k0_1 : decide ((↑w.n : Int) > 30) = true) (p0_1 : (↑w.n : Int) > 30) (k0_2 : decide ((↑w.n : Int) ≤ 512) = false) (p0_2 : ¬(↑w.n : Int) ≤ 512) (k0_3 : decide ((↑w.n : Int) > 520) = false) (p0_3 : ¬(↑w.n : Int) > 520) (k0_4 : decide ((↑w.nm.size : Int) > 100) = false) (p0_4 : ¬(↑w.nm.size : Int) > 100) (k_ : Nat) (z_ : Int) (hi_ : L20a.inv w z_) (hm_ : L20a.mu w z_ < k_) : LoopTo Try.prog (loopN Try.f20 0) (L20a.T w z_) (L20a.H w z_) (L20a.E (L20a.N w k_ z_)) (L20a.X w (L20a.N w k_ z_)) (L20a.XH w (L20a.N w k_ z_)) := by
  refine LoopTo.fuelP mix (fun (z_ : Int) => L20a.T w z_) (fun (z_ : Int) => L20a.H w z_) (fun (z_ : Int) => L20a.inv w z_) (fun (z_ : Int) => L20a.mu w z_) (fun (k_ : Nat) (z_ : Int) => L20a.N w k_ z_) L20a.E (L20a.X w) (L20a.XH w) (others 41 [1, 3]) (others 41 [2]) (others 41 []) ?_ k_ z_ hi_ hm_
  clear hm_ hi_ z_ k_
  intro k_ z_ hinv hmu
  revert hinv hmu; revert z_; intro a3 hinv hmu
  have hinv : 0 ≤ a3 ∧ (a3 ≤ (↑w.n : Int) ∨ a3 ≤ 0) := hinv
  have hmu : (((↑w.n : Int) - a3).toNat) < k_ + 1 := hmu
  cases h1 : decide (a3 < (↑w.n : Int)) with
  | true =>
    have h1p := of_decide_eq_true h1
    have o0 : (0 : Int) ≤ a3 := by omega
    have o1 : a3 < (↑w.n : Int) := by assumption
    cases h2 : decide ((↑(w.g a3.toNat).nm.size : Int) > 100) with
    | true =>
      have h2p := of_decide_eq_true h2
      exact ⟨[.b true, .b true], kmp (by kernel_rfl) (And.intro h1 (And.intro (And.intro o0 o1) (And.intro h2 (L20a.en w (k_ := k_) (z_ := a3) (.e0 : L20a.O) (by simp only [L20a.N, h1, h2, cond_true, cond_false]) PopOk.same))))⟩
    | false =>
      have h2p := of_decide_eq_false h2
      try have := IntWalk.i64_in (a3 + 1) (by omega)
      have o2 : (0 : Int) ≤ IntKind.i64.wrap (a3 + (1 : Int)) := by omega
      have o3 : IntKind.i64.wrap (a3 + (1 : Int)) ≤ (↑w.n : Int) ∨ IntKind.i64.wrap (a3 + (1 : Int)) ≤ (0 : Int) := by omega
      have o4 : ((↑w.n : Int) - IntKind.i64.wrap (a3 + (1 : Int))).toNat < ((↑w.n : Int) - a3).toNat := by omega
      exact ⟨[.b true, .b false], kmp (by kernel_rfl) (And.intro h1 (And.intro (And.intro o0 o1) (And.intro h2 (L20a.nx w (k_ := k_) (z_ := a3) (IntKind.i64.wrap (a3 + 1)) (And.intro o2 o3) o4 (by simp only [L20a.N, h1, h2, cond_true, cond_false]) PopOk.same))))⟩
  | false =>
    have h1p := of_decide_eq_false h1
    exact ⟨[.b false], kmp (by kernel_rfl) (And.intro h1 (L20a.en w (k_ := k_) (z_ := a3) (.e1 : L20a.O) (by simp only [L20a.N, h1, cond_true, cond_false]) PopOk.same))⟩
theorem L20a.e0 (w : WD) (hw : w.n ≤ 9223372036854775807) (k0_1 : decide ((↑w.n : Int) > 30) = true) (p0_1 : (↑w.n : Int) > 30) (k0_2 : decide ((↑w.n : Int) ≤ 512) = false) (p0_2 : ¬(↑w.n : Int) ≤ 512) (k0_3 : decide ((↑w.n : Int) > 520) = false) (p0_3 : ¬(↑w.n : Int) > 520) (k0_4 : decide ((↑w.nm.size : Int) > 100) = false) (p0_4 : ¬(↑w.nm.size : Int) > 100) (a3 : Int) (hinv : L20a.inv w a3) (hN : L20a.run w a3 = (.e0 : L20a.O)) : LoopTo Try.prog (loopN Try.f20 0) (L20a.T w a3) (L20a.H w a3) (Exit.ret) (L20a.X w (.e0 : L20a.O)) (L20a.XH w (.e0 : L20a.O)) := by
  have h_ := L20a.spec w hw k0_1 p0_1 k0_2 p0_2 k0_3 p0_3 k0_4 p0_4 ((((↑w.n : Int) - a3).toNat) + 1) a3 hinv (Nat.lt_succ_self _)
  unfold L20a.run at hN
  simp only [hN] at h_
  exact h_
theorem L20a.e1 (w : WD) (hw : w.n ≤ 9223372036854775807) (k0_1 : decide ((↑w.n : Int) > 30) = true) (p0_1 : (↑w.n : Int) > 30) (k0_2 : decide ((↑w.n : Int) ≤ 512) = false) (p0_2 : ¬(↑w.n : Int) ≤ 512) (k0_3 : decide ((↑w.n : Int) > 520) = false) (p0_3 : ¬(↑w.n : Int) > 520) (k0_4 : decide ((↑w.nm.size : Int) > 100) = false) (p0_4 : ¬(↑w.nm.size : Int) > 100) (a3 : Int) (hinv : L20a.inv w a3) (hN : L20a.run w a3 = (.e1 : L20a.O)) : LoopTo Try.prog (loopN Try.f20 0) (L20a.T w a3) (L20a.H w a3) (Exit.exit 0) (L20a.X w (.e1 : L20a.O)) (L20a.XH w (.e1 : L20a.O)) := by
  have h_ := L20a.spec w hw k0_1 p0_1 k0_2 p0_2 k0_3 p0_3 k0_4 p0_4 ((((↑w.n : Int) - a3).toNat) + 1) a3 hinv (Nat.lt_succ_self _)
  unfold L20a.run at hN
  simp only [hN] at h_
  exact h_
inductive L20ax.O where
  | e0
  | e1
noncomputable def L20ax.T (w : WD) (a3 : Int) : List AV := mkT 41 [(1, AV.ptr 0 1 6 0 0), (3, AV.int IntKind.i64 a3)]
noncomputable def L20ax.H (w : WD) (a3 : Int) : AHeap := [AObj.var (WD.av w)]
def L20ax.inv (w : WD) (a3 : Int) : Prop := 0 ≤ a3 ∧ (a3 ≤ (↑w.n : Int) ∨ a3 ≤ 0)
noncomputable def L20ax.mu (w : WD) (a3 : Int) : Nat := ((↑w.n : Int) - a3).toNat
noncomputable def L20ax.E : L20ax.O → Exit
  | .e0 => Exit.ret
  | .e1 => Exit.exit 0
noncomputable def L20ax.X (w : WD) : L20ax.O → List AV
  | .e0 => mkT 41 [(2, (AV.bool false))]
  | .e1 => mkT 41 []
noncomputable def L20ax.XH (w : WD) : L20ax.O → AHeap
  | .e0 => ([AObj.var (WD.av w)])
  | .e1 => ([AObj.var (WD.av w)])
noncomputable def L20ax.N (w : WD) : Nat → Int → L20ax.O
  | 0, _ => .e0
  | k_ + 1, a3 => (bif decide (a3 < (↑w.n : Int)) then (bif decide ((↑(w.g a3.toNat).nm.size : Int) > 100) then (.e0) else (L20ax.N w k_ (IntKind.i64.wrap (a3 + 1)))) else (.e1))
noncomputable def L20ax.run (w : WD) (a3 : Int) : L20ax.O := L20ax.N w ((((↑w.n : Int) - a3).toNat) + 1) a3
theorem L20ax.nx (w : WD) {k_ : Nat} {z_ : Int} {h_ : AHeap} (s_ : Int) (h1 : L20ax.inv w s_) (h2 : L20ax.mu w s_ < L20ax.mu w z_) (h3 : L20ax.N w k_ s_ = L20ax.N w (k_ + 1) z_) (h4 : PopOk (L20ax.H w z_) h_ (L20ax.T w s_) (L20ax.H w s_)) : LNextP (fun (z_ : Int) => L20ax.T w z_) (fun (z_ : Int) => L20ax.H w z_) (fun (z_ : Int) => L20ax.inv w z_) (fun (z_ : Int) => L20ax.mu w z_) (fun (k_ : Nat) (z_ : Int) => L20ax.N w k_ z_) k_ z_ (L20ax.T w s_) h_ := LNextP.mk (Tm := (fun (z_ : Int) => L20ax.T w z_)) (Hp := (fun (z_ : Int) => L20ax.H w z_)) (inv := (fun (z_ : Int) => L20ax.inv w z_)) (mu := (fun (z_ : Int) => L20ax.mu w z_)) (l := (fun (k_ : Nat) (z_ : Int) => L20ax.N w k_ z_)) s_ h1 h2 h3 h4
theorem L20ax.en (w : WD) {k_ : Nat} {z_ : Int} {h_ : AHeap} (o_ : L20ax.O) (h3 : L20ax.N w (k_ + 1) z_ = o_) (h4 : PopOk (L20ax.H w z_) h_ (L20ax.X w o_) (L20ax.XH w o_)) : LEndP (fun (z_ : Int) => L20ax.H w z_) (fun (k_ : Nat) (z_ : Int) => L20ax.N w k_ z_) L20ax.E (L20ax.X w) (L20ax.XH w) k_ z_ (L20ax.E o_) (L20ax.X w o_) h_ := LEndP.mk (Hp := (fun (z_ : Int) => L20ax.H w z_)) (l := (fun (k_ : Nat) (z_ : Int) => L20ax.N w k_ z_)) (oE := L20ax.E) (oT := L20ax.X w) (oH := L20ax.XH w) o_ h3 h4
theorem L20ax.spec (w : WD) (hw : w.n ≤ 9223372036854775807) (k0_1 : decide ((↑w.n : Int) > 30) = false) (p0_1 : ¬(↑w.n : Int) > 30) (k0_2 : decide ((↑w.nm.size : Int) > 100) = false) (p0_2 : ¬(↑w.nm.size : Int) > 100) (k_ : Nat) (z_ : Int) (hi_ : L20ax.inv w z_) (hm_ : L20ax.mu w z_ < k_) : LoopTo Try.prog (loopN Try.f20 0) (L20ax.T w z_) (L20ax.H w z_) (L20ax.E (L20ax.N w k_ z_)) (L20ax.X w (L20ax.N w k_ z_)) (L20ax.XH w (L20ax.N w k_ z_)) := by
  refine LoopTo.fuelP mix (fun (z_ : Int) => L20ax.T w z_) (fun (z_ : Int) => L20ax.H w z_) (fun (z_ : Int) => L20ax.inv w z_) (fun (z_ : Int) => L20ax.mu w z_) (fun (k_ : Nat) (z_ : Int) => L20ax.N w k_ z_) L20ax.E (L20ax.X w) (L20ax.XH w) (others 41 [1, 3]) (others 41 [2]) (others 41 []) ?_ k_ z_ hi_ hm_
  clear hm_ hi_ z_ k_
  intro k_ z_ hinv hmu
  revert hinv hmu; revert z_; intro a3 hinv hmu
  have hinv : 0 ≤ a3 ∧ (a3 ≤ (↑w.n : Int) ∨ a3 ≤ 0) := hinv
  have hmu : (((↑w.n : Int) - a3).toNat) < k_ + 1 := hmu
  cases h1 : decide (a3 < (↑w.n : Int)) with
  | true =>
    have h1p := of_decide_eq_true h1
    have o0 : (0 : Int) ≤ a3 := by omega
    have o1 : a3 < (↑w.n : Int) := by assumption
    cases h2 : decide ((↑(w.g a3.toNat).nm.size : Int) > 100) with
    | true =>
      have h2p := of_decide_eq_true h2
      exact ⟨[.b true, .b true], kmp (by kernel_rfl) (And.intro h1 (And.intro (And.intro o0 o1) (And.intro h2 (L20ax.en w (k_ := k_) (z_ := a3) (.e0 : L20ax.O) (by simp only [L20ax.N, h1, h2, cond_true, cond_false]) PopOk.same))))⟩
    | false =>
      have h2p := of_decide_eq_false h2
      try have := IntWalk.i64_in (a3 + 1) (by omega)
      have o2 : (0 : Int) ≤ IntKind.i64.wrap (a3 + (1 : Int)) := by omega
      have o3 : IntKind.i64.wrap (a3 + (1 : Int)) ≤ (↑w.n : Int) ∨ IntKind.i64.wrap (a3 + (1 : Int)) ≤ (0 : Int) := by omega
      have o4 : ((↑w.n : Int) - IntKind.i64.wrap (a3 + (1 : Int))).toNat < ((↑w.n : Int) - a3).toNat := by omega
      exact ⟨[.b true, .b false], kmp (by kernel_rfl) (And.intro h1 (And.intro (And.intro o0 o1) (And.intro h2 (L20ax.nx w (k_ := k_) (z_ := a3) (IntKind.i64.wrap (a3 + 1)) (And.intro o2 o3) o4 (by simp only [L20ax.N, h1, h2, cond_true, cond_false]) PopOk.same))))⟩
  | false =>
    have h1p := of_decide_eq_false h1
    exact ⟨[.b false], kmp (by kernel_rfl) (And.intro h1 (L20ax.en w (k_ := k_) (z_ := a3) (.e1 : L20ax.O) (by simp only [L20ax.N, h1, cond_true, cond_false]) PopOk.same))⟩
theorem L20ax.e0 (w : WD) (hw : w.n ≤ 9223372036854775807) (k0_1 : decide ((↑w.n : Int) > 30) = false) (p0_1 : ¬(↑w.n : Int) > 30) (k0_2 : decide ((↑w.nm.size : Int) > 100) = false) (p0_2 : ¬(↑w.nm.size : Int) > 100) (a3 : Int) (hinv : L20ax.inv w a3) (hN : L20ax.run w a3 = (.e0 : L20ax.O)) : LoopTo Try.prog (loopN Try.f20 0) (L20ax.T w a3) (L20ax.H w a3) (Exit.ret) (L20ax.X w (.e0 : L20ax.O)) (L20ax.XH w (.e0 : L20ax.O)) := by
  have h_ := L20ax.spec w hw k0_1 p0_1 k0_2 p0_2 ((((↑w.n : Int) - a3).toNat) + 1) a3 hinv (Nat.lt_succ_self _)
  unfold L20ax.run at hN
  simp only [hN] at h_
  exact h_
theorem L20ax.e1 (w : WD) (hw : w.n ≤ 9223372036854775807) (k0_1 : decide ((↑w.n : Int) > 30) = false) (p0_1 : ¬(↑w.n : Int) > 30) (k0_2 : decide ((↑w.nm.size : Int) > 100) = false) (p0_2 : ¬(↑w.nm.size : Int) > 100) (a3 : Int) (hinv : L20ax.inv w a3) (hN : L20ax.run w a3 = (.e1 : L20ax.O)) : LoopTo Try.prog (loopN Try.f20 0) (L20ax.T w a3) (L20ax.H w a3) (Exit.exit 0) (L20ax.X w (.e1 : L20ax.O)) (L20ax.XH w (.e1 : L20ax.O)) := by
  have h_ := L20ax.spec w hw k0_1 p0_1 k0_2 p0_2 ((((↑w.n : Int) - a3).toNat) + 1) a3 hinv (Nat.lt_succ_self _)
  unfold L20ax.run at hN
  simp only [hN] at h_
  exact h_
noncomputable def r20.v (w : WD) : Bool := (bif decide ((↑w.n : Int) > 30) then (bif decide ((↑w.n : Int) ≤ 512) then false else (bif decide ((↑w.n : Int) > 520) then false else (bif decide ((↑w.nm.size : Int) > 100) then false else (match L20a.run w 0 with | .e0 => false | .e1 => true )))) else (bif decide ((↑w.nm.size : Int) > 100) then false else (match L20ax.run w 0 with | .e0 => false | .e1 => true )))
theorem r20 (w : WD) (hw : w.n ≤ 9223372036854775807) (h : AHeap) : Ret Try.prog 20 ([w.av]) h (AV.bool (r20.v w)) h := by
  cases h1 : decide ((↑w.n : Int) > 30) with
  | true =>
    have h1p := of_decide_eq_true h1
    cases h2 : decide ((↑w.n : Int) ≤ 512) with
    | true =>
      have h2p := of_decide_eq_true h2
      exact Ret.of_run1 mix [(AV.bool (r20.v w))] Try.func20 rfl [.b true, .b true, .b true, .b true, .b true, .b true, .b true, .b true, .b true, .b true, .b true, .b true, .b true, .b true, .b true, .b true, .b true, .b true] (by simp) (by simp) (kmp (by kernel_rfl) (And.intro h1 (And.intro h1 (And.intro h1 (And.intro h1 (And.intro h1 (And.intro h2 (And.intro h2 (And.intro h2 (And.intro h2 (And.intro h1 (And.intro h2 (And.intro h1 (And.intro (rfl : true = true) (And.intro (rfl : true = true) (And.intro (rfl : true = true) (And.intro (rfl : true = true) (And.intro (rfl : true = true) (And.intro (rfl : true = true) (And.intro (show (AV.bool false) = ((AV.bool (r20.v w))) by simp only [r20.v, h1, h2, cond_true, cond_false]) trivial)))))))))))))))))))) h
    | false =>
      have h2p := of_decide_eq_false h2
      cases h3 : decide ((↑w.n : Int) > 520) with
      | true =>
        have h3p := of_decide_eq_true h3
        exact Ret.of_run1 mix [(AV.bool (r20.v w))] Try.func20 rfl [.b true, .b true, .b true, .b true, .b true, .b false, .b false, .b false, .b false, .b true, .b false, .b true, .b true, .b true, .b true, .b true, .b true, .b true] (by simp) (by simp) (kmp (by kernel_rfl) (And.intro h1 (And.intro h1 (And.intro h1 (And.intro h1 (And.intro h1 (And.intro h2 (And.intro h2 (And.intro h2 (And.intro h2 (And.intro h1 (And.intro h2 (And.intro h1 (And.intro h3 (And.intro h3 (And.intro h3 (And.intro h3 (And.intro h3 (And.intro (rfl : true = true) (And.intro (show (AV.bool false) = ((AV.bool (r20.v w))) by simp only [r20.v, h1, h2, h3, cond_true, cond_false]) trivial)))))))))))))))))))) h
      | false =>
        have h3p := of_decide_eq_false h3
        cases h4 : decide ((↑w.nm.size : Int) > 100) with
        | true =>
          have h4p := of_decide_eq_true h4
          exact Ret.of_run1 mix [(AV.bool (r20.v w))] Try.func20 rfl [.b true, .b true, .b true, .b true, .b true, .b false, .b false, .b false, .b false, .b true, .b false, .b true, .b false, .b false, .b false, .b false, .b false, .b true] (by simp) (by simp) (kmp (by kernel_rfl) (And.intro h1 (And.intro h1 (And.intro h1 (And.intro h1 (And.intro h1 (And.intro h2 (And.intro h2 (And.intro h2 (And.intro h2 (And.intro h1 (And.intro h2 (And.intro h1 (And.intro h3 (And.intro h3 (And.intro h3 (And.intro h3 (And.intro h3 (And.intro h4 (And.intro (show (AV.bool false) = ((AV.bool (r20.v w))) by simp only [r20.v, h1, h2, h3, h4, cond_true, cond_false]) trivial)))))))))))))))))))) h
        | false =>
          have h4p := of_decide_eq_false h4
          have o0 : w.n ≤ (9223372036854775807 : Nat) := by assumption
          have o1 : decide ((↑w.n : Int) > (30 : Int)) = true := by assumption
          have o2 : (↑w.n : Int) > (30 : Int) := by assumption
          have o3 : decide ((↑w.n : Int) ≤ (512 : Int)) = false := by assumption
          have o4 : ¬(↑w.n : Int) ≤ (512 : Int) := by assumption
          have o5 : decide ((↑w.n : Int) > (520 : Int)) = false := by assumption
          have o6 : ¬(↑w.n : Int) > (520 : Int) := by assumption
          have o7 : decide ((↑w.nm.size : Int) > (100 : Int)) = false := by assumption
          have o8 : ¬(↑w.nm.size : Int) > (100 : Int) := by assumption
          have o9 : (0 : Int) ≤ (↑w.n : Int) ∨ (0 : Int) ≤ (0 : Int) := by omega
          cases h5 : L20a.run w 0 with
          | e0 =>
            exact Ret.of_run1 mix [(AV.bool (r20.v w))] Try.func20 rfl [.b true, .b true, .b true, .b true, .b true, .b false, .b false, .b false, .b false, .b true, .b false, .b true, .b false, .b false, .b false, .b false, .b false, .b false, .loop (others 41 [1, 3]) (Exit.ret) (L20a.X w L20a.O.e0) (L20a.XH w L20a.O.e0)] (by simp) (by simp) (kmp (by kernel_rfl) (And.intro h1 (And.intro h1 (And.intro h1 (And.intro h1 (And.intro h1 (And.intro h2 (And.intro h2 (And.intro h2 (And.intro h2 (And.intro h1 (And.intro h2 (And.intro h1 (And.intro h3 (And.intro h3 (And.intro h3 (And.intro h3 (And.intro h3 (And.intro h4 (And.intro (L20a.e0 (w) o0 o1 o2 o3 o4 o5 o6 o7 o8 (0) (And.intro (show (0 : Int) ≤ (0 : Int) by decide) o9) h5) (And.intro (show (AV.bool false) = ((AV.bool (r20.v w))) by simp only [r20.v, h1, h2, h3, h4, h5, cond_true, cond_false]) trivial))))))))))))))))))))) h
          | e1 =>
            exact Ret.of_run1 mix [(AV.bool (r20.v w))] Try.func20 rfl [.b true, .b true, .b true, .b true, .b true, .b false, .b false, .b false, .b false, .b true, .b false, .b true, .b false, .b false, .b false, .b false, .b false, .b false, .loop (others 41 [1, 3]) (Exit.exit 0) (L20a.X w L20a.O.e1) (L20a.XH w L20a.O.e1)] (by simp) (by simp) (kmp (by kernel_rfl) (And.intro h1 (And.intro h1 (And.intro h1 (And.intro h1 (And.intro h1 (And.intro h2 (And.intro h2 (And.intro h2 (And.intro h2 (And.intro h1 (And.intro h2 (And.intro h1 (And.intro h3 (And.intro h3 (And.intro h3 (And.intro h3 (And.intro h3 (And.intro h4 (And.intro (L20a.e1 (w) o0 o1 o2 o3 o4 o5 o6 o7 o8 (0) (And.intro (show (0 : Int) ≤ (0 : Int) by decide) o9) h5) (And.intro (show (AV.bool true) = ((AV.bool (r20.v w))) by simp only [r20.v, h1, h2, h3, h4, h5, cond_true, cond_false]) trivial))))))))))))))))))))) h
  | false =>
    have h1p := of_decide_eq_false h1
    cases h2 : decide ((↑w.nm.size : Int) > 100) with
    | true =>
      have h2p := of_decide_eq_true h2
      exact Ret.of_run1 mix [(AV.bool (r20.v w))] Try.func20 rfl [.b false, .b false, .b false, .b false, .b false, .b false, .b false, .b false, .b false, .b false, .b false, .b false, .b true] (by simp) (by simp) (kmp (by kernel_rfl) (And.intro h1 (And.intro h1 (And.intro h1 (And.intro h1 (And.intro h1 (And.intro h1 (And.intro h1 (And.intro (rfl : false = false) (And.intro (rfl : false = false) (And.intro (rfl : false = false) (And.intro (rfl : false = false) (And.intro (rfl : false = false) (And.intro h2 (And.intro (show (AV.bool false) = ((AV.bool (r20.v w))) by simp only [r20.v, h1, h2, cond_true, cond_false]) trivial))))))))))))))) h
    | false =>
      have h2p := of_decide_eq_false h2
      have o0 : w.n ≤ (9223372036854775807 : Nat) := by assumption
      have o10 : decide ((↑w.n : Int) > (30 : Int)) = false := by assumption
      have o11 : ¬(↑w.n : Int) > (30 : Int) := by assumption
      have o7 : decide ((↑w.nm.size : Int) > (100 : Int)) = false := by assumption
      have o8 : ¬(↑w.nm.size : Int) > (100 : Int) := by assumption
      have o9 : (0 : Int) ≤ (↑w.n : Int) ∨ (0 : Int) ≤ (0 : Int) := by omega
      cases h3 : L20ax.run w 0 with
      | e0 =>
        exact Ret.of_run1 mix [(AV.bool (r20.v w))] Try.func20 rfl [.b false, .b false, .b false, .b false, .b false, .b false, .b false, .b false, .b false, .b false, .b false, .b false, .b false, .loop (others 41 [1, 3]) (Exit.ret) (L20ax.X w L20ax.O.e0) (L20ax.XH w L20ax.O.e0)] (by simp) (by simp) (kmp (by kernel_rfl) (And.intro h1 (And.intro h1 (And.intro h1 (And.intro h1 (And.intro h1 (And.intro h1 (And.intro h1 (And.intro (rfl : false = false) (And.intro (rfl : false = false) (And.intro (rfl : false = false) (And.intro (rfl : false = false) (And.intro (rfl : false = false) (And.intro h2 (And.intro (L20ax.e0 (w) o0 o10 o11 o7 o8 (0) (And.intro (show (0 : Int) ≤ (0 : Int) by decide) o9) h3) (And.intro (show (AV.bool false) = ((AV.bool (r20.v w))) by simp only [r20.v, h1, h2, h3, cond_true, cond_false]) trivial)))))))))))))))) h
      | e1 =>
        exact Ret.of_run1 mix [(AV.bool (r20.v w))] Try.func20 rfl [.b false, .b false, .b false, .b false, .b false, .b false, .b false, .b false, .b false, .b false, .b false, .b false, .b false, .loop (others 41 [1, 3]) (Exit.exit 0) (L20ax.X w L20ax.O.e1) (L20ax.XH w L20ax.O.e1)] (by simp) (by simp) (kmp (by kernel_rfl) (And.intro h1 (And.intro h1 (And.intro h1 (And.intro h1 (And.intro h1 (And.intro h1 (And.intro h1 (And.intro (rfl : false = false) (And.intro (rfl : false = false) (And.intro (rfl : false = false) (And.intro (rfl : false = false) (And.intro (rfl : false = false) (And.intro h2 (And.intro (L20ax.e1 (w) o0 o10 o11 o7 o8 (0) (And.intro (show (0 : Int) ≤ (0 : Int) by decide) o9) h3) (And.intro (show (AV.bool true) = ((AV.bool (r20.v w))) by simp only [r20.v, h1, h2, h3, cond_true, cond_false]) trivial)))))))))))))))) h
noncomputable def e26.v (w : WD) : Int := r24.v w
theorem e26 (w : WD) (hn : w.n ≤ 10000) (hnm : w.nm.size ≤ 9223372036854775807) (hg : ∀ (i : Nat), (w.g i).nm.size ≤ 9223372036854775807) (he : (r24.v w == 0) = false) (h : AHeap) : Ret Try.prog 26 ([w.av]) h (AV.tup [AV.snil, (AV.int IntKind.i64 (e26.v w))]) h := by
  have o0 : w.n ≤ (10000 : Nat) := by assumption
  have o1 : w.nm.size ≤ (9223372036854775807 : Nat) := by assumption
  have o2 : ∀ (i : Nat), (w.g i).nm.size ≤ (9223372036854775807 : Nat) := by assumption
  exact Ret.of_run1 mix [AV.snil, (AV.int IntKind.i64 (e26.v w))] Try.func26 rfl [.ret (AV.int IntKind.i64 (r24.v w)) ([AObj.var (WD.av w)]), .b true] (by simp) (by simp) (kmp (by kernel_rfl) (And.intro (r24 (w) o0 o1 o2 ([AObj.var (WD.av w)])) (And.intro (show (bnot (r24.v w == 0)) = true by rw [he]; try rfl) (And.intro (show (AV.snil) = (AV.snil) by simp only [e26.v, he, cond_true, cond_false]) (And.intro (show (AV.int IntKind.i64 (r24.v w)) = ((AV.int IntKind.i64 (e26.v w))) by simp only [e26.v, he, cond_true, cond_false]) trivial))))) h
noncomputable def e29.v (w : WD) : Int := r24.v w
theorem e29 (w : WD) (hn : w.n ≤ 10000) (hnm : w.nm.size ≤ 9223372036854775807) (hg : ∀ (i : Nat), (w.g i).nm.size ≤ 9223372036854775807) (he : (r24.v w == 0) = false) (c : Int) (h : AHeap) : Ret Try.prog 29 ([w.av, AV.int IntKind.i64 c]) h (AV.tup [AV.snil, (AV.int IntKind.i64 (e29.v w))]) h := by
  have o0 : w.n ≤ (10000 : Nat) := by assumption
  have o1 : w.nm.size ≤ (9223372036854775807 : Nat) := by assumption
  have o2 : ∀ (i : Nat), (w.g i).nm.size ≤ (9223372036854775807 : Nat) := by assumption
  exact Ret.of_run1 mix [AV.snil, (AV.int IntKind.i64 (e29.v w))] Try.func29 rfl [.ret (AV.int IntKind.i64 (r24.v w)) ([AObj.var (WD.av w)]), .b true] (by simp) (by simp) (kmp (by kernel_rfl) (And.intro (r24 (w) o0 o1 o2 ([AObj.var (WD.av w)])) (And.intro (show (bnot (r24.v w == 0)) = true by rw [he]; try rfl) (And.intro (show (AV.snil) = (AV.snil) by simp only [e29.v, he, cond_true, cond_false]) (And.intro (show (AV.int IntKind.i64 (r24.v w)) = ((AV.int IntKind.i64 (e29.v w))) by simp only [e29.v, he, cond_true, cond_false]) trivial))))) h
noncomputable def e22.v3 (w : WD) : Int := r24.v w
theorem e22 (w : WD) (hn : w.n ≤ 10000) (hnm : w.nm.size ≤ 9223372036854775807) (hg : ∀ (i : Nat), (w.g i).nm.size ≤ 9223372036854775807) (he : (r24.v w == 0) = false) (h : AHeap) : Ret Try.prog 22 ([w.av]) h (AV.tup [(AV.agg ((AV.int IntKind.i64 0) :: ((AV.int IntKind.i64 0) :: ((AV.int IntKind.i64 0) :: [])))), (AV.int IntKind.i64 (e22.v3 w))]) h := by
  have o0 : w.n ≤ (10000 : Nat) := by assumption
  have o1 : w.nm.size ≤ (9223372036854775807 : Nat) := by assumption
  have o2 : ∀ (i : Nat), (w.g i).nm.size ≤ (9223372036854775807 : Nat) := by assumption
  exact Ret.of_run1 mix [(AV.agg ((AV.int IntKind.i64 0) :: ((AV.int IntKind.i64 0) :: ((AV.int IntKind.i64 0) :: [])))), (AV.int IntKind.i64 (e22.v3 w))] Try.func22 rfl [.ret (AV.int IntKind.i64 (r24.v w)) ([AObj.var (WD.av w), AObj.var (AV.agg [AV.int IntKind.i64 0, AV.int IntKind.i64 0, AV.int IntKind.i64 0])]), .b true] (by simp) (by simp) (kmp (by kernel_rfl) (And.intro (r24 (w) o0 o1 o2 ([AObj.var (WD.av w), AObj.var (AV.agg [AV.int IntKind.i64 0, AV.int IntKind.i64 0, AV.int IntKind.i64 0])])) (And.intro (show (bnot (r24.v w == 0)) = true by rw [he]; try rfl) (And.intro (And.intro trivial (show (AV.agg [AV.int IntKind.i64 0, AV.int IntKind.i64 0, AV.int IntKind.i64 0]) = ((AV.agg ((AV.int IntKind.i64 0) :: ((AV.int IntKind.i64 0) :: ((AV.int IntKind.i64 0) :: []))))) by simp only [e22.v3, he, cond_true, cond_false])) (And.intro (show (AV.int IntKind.i64 (r24.v w)) = ((AV.int IntKind.i64 (e22.v3 w))) by simp only [e22.v3, he, cond_true, cond_false]) trivial))))) h
noncomputable def e25.v (w : WD) : Int := r24.v w
theorem e25 (w : WD) (hn : w.n ≤ 10000) (hnm : w.nm.size ≤ 9223372036854775807) (hg : ∀ (i : Nat), (w.g i).nm.size ≤ 9223372036854775807) (he : (r24.v w == 0) = false) (s : ByteArray) (h : AHeap) : Ret Try.prog 25 ([w.av, AV.str s]) h (AV.tup [AV.snil, (AV.int IntKind.i64 (e25.v w))]) h := by
  have o0 : w.n ≤ (10000 : Nat) := by assumption
  have o1 : w.nm.size ≤ (9223372036854775807 : Nat) := by assumption
  have o2 : ∀ (i : Nat), (w.g i).nm.size ≤ (9223372036854775807 : Nat) := by assumption
  exact Ret.of_run1 mix [AV.snil, (AV.int IntKind.i64 (e25.v w))] Try.func25 rfl [.ret (AV.int IntKind.i64 (r24.v w)) ([AObj.var (WD.av w), AObj.var (AV.str s)]), .b true] (by simp) (by simp) (kmp (by kernel_rfl) (And.intro (r24 (w) o0 o1 o2 ([AObj.var (WD.av w), AObj.var (AV.str s)])) (And.intro (show (bnot (r24.v w == 0)) = true by rw [he]; try rfl) (And.intro (show (AV.snil) = (AV.snil) by simp only [e25.v, he, cond_true, cond_false]) (And.intro (show (AV.int IntKind.i64 (r24.v w)) = ((AV.int IntKind.i64 (e25.v w))) by simp only [e25.v, he, cond_true, cond_false]) trivial))))) h
end Go.Proofs.Ytjdbmmilcihpoaa
open Go
namespace Go.Proofs.Ytjdbmmilcihpoaa
set_option linter.unusedVariables false
set_option linter.unusedSimpArgs false
variable {L j l : Int} {n m k : Nat} {f g s : Nat → Int} {xs : List Int}
/-- A stone of a size may begin at a position. -/
noncomputable def goX (L j l : Int) (m : Nat) (g : Nat → Int) (xs : List Int) (t : Nat) (s : Int) : Bool :=
  decide ((t : Int) + s = L) || (decide ((t : Int) + s + j < L) && (decide (xs.getD ((t : Int) + s + j).toNat 0 > 0) && r34.v ((t : Int) + s) j l m g))
theorem r33_eq (hj0 : 0 ≤ j) (hj : j ≤ 1000) {t : Nat} (ht : t ≤ 20000) {s : Int} (h1 : 1 ≤ s) (h2 : s ≤ 20000) : r33.v L j l m g xs t s = goX L j l m g xs t s := by
  unfold r33.v goX
  simp only [i64_small (x := (t : Int) + s) (by omega), i64_small (x := (t : Int) + s + j) (by omega), Nat.zero_add]
  have e : ((t : Int) + s == L) = decide ((t : Int) + s = L) := rfl
  rw [e]
  cases decide ((t : Int) + s = L) <;> cases decide ((t : Int) + s + j < L) <;> cases decide (xs.getD ((t : Int) + s + j).toNat 0 > 0) <;> rfl
theorem goX_set {c t : Nat} {v s : Int} (hc : c ≤ t) (h1 : 1 ≤ s) (hj : 0 ≤ j) : goX L j l m g (xs.set c v) t s = goX L j l m g xs t s := by
  unfold goX
  have e : (xs.set c v).getD ((t : Int) + s + j).toNat 0 = xs.getD ((t : Int) + s + j).toNat 0 := by
    rw [List.getD_eq_getElem?_getD, List.getD_eq_getElem?_getD, List.getElem?_set, if_neg (by omega)]
  rw [e]
/-- The first size that will do. -/
def fs (P : Int → Bool) (f : Nat → Int) (b : Nat) : Nat → Int
  | 0 => 0
  | c + 1 => bif P (f b) then f b else fs P f (b + 1) c
theorem fs_cases (P : Int → Bool) (f : Nat → Int) : ∀ c b, (fs P f b c = 0 ∧ ∀ i, b ≤ i → i < b + c → P (f i) = false) ∨ ∃ i, b ≤ i ∧ i < b + c ∧ fs P f b c = f i ∧ P (f i) = true ∧ ∀ i', b ≤ i' → i' < i → P (f i') = false := by
  intro c
  induction c with
  | zero => intro b; exact .inl ⟨rfl, fun i h1 h2 => by omega⟩
  | succ c ih =>
    intro b
    cases hp : P (f b) with
    | true => exact .inr ⟨b, Nat.le_refl _, by omega, by simp [fs, hp], hp, fun i' h1 h2 => by omega⟩
    | false =>
      have e : fs P f b (c + 1) = fs P f (b + 1) c := by simp [fs, hp]
      rcases ih (b + 1) with ⟨a1, a2⟩ | ⟨i, a1, a2, a3, a4, a5⟩
      · refine .inl ⟨e.trans a1, fun i h1 h2 => ?_⟩
        by_cases e2 : i = b
        · rw [e2]; exact hp
        · exact a2 i (by omega) (by omega)
      · refine .inr ⟨i, by omega, by omega, e.trans a3, a4, fun i' h1 h2 => ?_⟩
        by_cases e2 : i' = b
        · rw [e2]; exact hp
        · exact a5 i' (by omega) h2
theorem fs_congr {P Q : Int → Bool} {f : Nat → Int} : ∀ c b, (∀ i, b ≤ i → i < b + c → P (f i) = Q (f i)) → fs P f b c = fs Q f b c := by
  intro c
  induction c with
  | zero => intro b _; rfl
  | succ c ih =>
    intro b h
    simp only [fs, h b (Nat.le_refl _) (by omega), ih (b + 1) fun i h1 h2 => h i (by omega) (by omega)]
theorem set_zero {c : Nat} (h : xs.getD c 0 = 0) : xs.set c 0 = xs := by
  apply List.ext_getElem?
  intro t
  rw [List.getElem?_set]
  split
  · next e =>
    subst e
    rw [List.getD_eq_getElem?_getD] at h
    cases q : xs[c]? with
    | none =>
      rw [if_neg]
      intro hc
      rw [List.getElem?_eq_getElem hc] at q; cases q
    | some b =>
      rw [q] at h
      have hi := (List.getElem?_eq_some_iff.1 q).1
      rw [if_pos hi]
      simp only [Option.getD_some] at h
      rw [h]
  · rfl
theorem getD_set {c t : Nat} {v : Int} (hc : c < xs.length) : (xs.set c v).getD t 0 = if t = c then v else xs.getD t 0 := by
  rw [List.getD_eq_getElem?_getD, List.getD_eq_getElem?_getD, List.getElem?_set]
  by_cases e : c = t
  · subst e; rw [if_pos rfl, if_pos hc, if_pos rfl]; rfl
  · rw [if_neg e, if_neg fun h => e h.symm]
theorem L11b_run (h : LOk L j l n f m g) {t : Nat} (ht : t ≤ 20000) (hz : xs.getD t 0 = 0) : ∀ q b, b ≤ n → n - b < q →
    L11ab.N L j l n f m g t q (b : Int) xs = .e0 (xs.set t (fs (goX L j l m g xs t) f b (n - b))) := by
  have hn := h.n2
  intro q
  induction q with
  | zero => intro b _ h; omega
  | succ q ih =>
    intro b hb hq
    simp only [L11ab.N, Int.toNat_natCast, Nat.zero_add]
    by_cases hlt : b < n
    · rw [decide_eq_true (show (b : Int) < n by omega), wrap_succ (n := n) (by omega) hlt, r33_eq h.j1 h.j2 ht (h.f1 b hlt) (h.f2 b hlt), show n - b = (n - (b + 1)) + 1 by omega]
      simp only [cond_true, fs]
      cases goX L j l m g xs t (f b) with
      | true => rfl
      | false => simp only [cond_false]; exact ih (b + 1) hlt (by omega)
    · rw [decide_eq_false (by omega), show n - b = 0 by omega]
      show L11ab.O.e0 xs = .e0 (xs.set t 0)
      rw [set_zero hz]
/-- What the table of first sizes holds. -/
structure FOk (L j l : Int) (n : Nat) (f : Nat → Int) (m : Nat) (g : Nat → Int) (xs : List Int) : Prop where
  len : xs.length = (L + 1).toNat
  val : ∀ t : Nat, (t : Int) < L → xs.getD t 0 = fs (goX L j l m g xs t) f 0 n
theorem L11_run (h : LOk L j l n f m g) : ∀ (q c : Nat) (xs : List Int), (c : Int) ≤ L → c < q → xs.length = (L + 1).toNat → (∀ t, t < c → xs.getD t 0 = 0) → (∀ t : Nat, c ≤ t → (t : Int) < L → xs.getD t 0 = fs (goX L j l m g xs t) f 0 n) →
    ∃ xs', L11a.N L j l n f m g q ((c : Int) - 1) xs = .e0 xs' ∧ FOk L j l n f m g xs' := by
  have hl1 := h.l1
  have hl2 := h.l2
  intro q
  induction q with
  | zero => intro c xs _ h; omega
  | succ q ih =>
    intro c xs hc hq hl hz hv
    simp only [L11a.N]
    cases c with
    | zero =>
      rw [decide_eq_false (by omega)]
      exact ⟨xs, rfl, hl, fun t ht => hv t (Nat.zero_le _) ht⟩
    | succ c =>
      rw [show ((c + 1 : Nat) : Int) - 1 = (c : Int) by omega, decide_eq_true (show (c : Int) ≥ 0 by omega)]
      have e : L11ab.run L j l n f m g (c : Int) 0 xs = .e0 (xs.set c (fs (goX L j l m g xs c) f 0 n)) := by
        have := L11b_run (xs := xs) h (t := c) (by omega) (hz c (by omega)) (((n : Int) - 0).toNat + 1) 0 (Nat.zero_le _) (by omega)
        exact this
      rw [e, i64_small (x := (c : Int) - 1) (by omega)]
      simp only [cond_true]
      have hlen : c < xs.length := by omega
      have gs : ∀ t, c ≤ t → fs (goX L j l m g (xs.set c (fs (goX L j l m g xs c) f 0 n)) t) f 0 n = fs (goX L j l m g xs t) f 0 n := fun t ht =>
        fs_congr n 0 fun i _ hi => goX_set ht (h.f1 i (by omega)) h.j1
      refine ih c _ (by omega) (by omega) (by rw [List.length_set]; exact hl) (fun t ht => ?_) (fun t h1 h2 => ?_)
      · rw [getD_set hlen, if_neg (by omega)]; exact hz t (by omega)
      · rw [getD_set hlen, gs t h1]
        by_cases e2 : t = c
        · rw [if_pos e2, e2]
        · rw [if_neg e2]; exact hv t (by omega) h2
theorem fok (h : LOk L j l n f m g) : ∃ xs, L11a.run L j l n f m g (L - 1) (List.replicate (L + 1).toNat 0) = .e0 xs ∧ FOk L j l n f m g xs := by
  have hl1 := h.l1
  have hl2 := h.l2
  obtain ⟨xs, e, hf⟩ := L11_run h ((L - 1 + 1).toNat + 1) L.toNat (List.replicate (L + 1).toNat 0) (by omega) (by omega) (by simp) (fun t _ => by simp [List.getD_eq_getElem?_getD, List.getElem?_replicate]; split <;> rfl) (fun t h1 h2 => by omega)
  refine ⟨xs, ?_, hf⟩
  have e1 : L11a.run L j l n f m g (L - 1) (List.replicate (L + 1).toNat 0) = L11a.N L j l n f m g ((L - 1 + 1).toNat + 1) (L - 1) (List.replicate (L + 1).toNat 0) := rfl
  rw [e1]
  rw [show ((L.toNat : Nat) : Int) - 1 = L - 1 by omega] at e
  exact e
theorem bd_fok (h : LOk L j l n f m g) (e : L11a.run L j l n f m g (IntKind.i64.wrap (L - 1)) (List.replicate (IntKind.i64.wrap (L + 1)).toNat 0) = .e0 xs) : FOk L j l n f m g xs ∧ xs.length = (L + 1).toNat := by
  obtain ⟨xs', e', hf⟩ := fok h
  have hl1 := h.l1
  have hl2 := h.l2
  rw [i64_small (by omega), i64_small (by omega), e'] at e
  cases e
  exact ⟨hf, hf.len⟩
/-- Where a stone may begin, one goes on. -/
theorem FOk.step (h : LOk L j l n f m g) (hf : FOk L j l n f m g xs) {t : Nat} (ht : (t : Int) < L) :
    xs.getD t 0 = 0 ∨ (1 ≤ xs.getD t 0 ∧ xs.getD t 0 ≤ 20000 ∧ goX L j l m g xs t (xs.getD t 0) = true) := by
  rcases fs_cases (goX L j l m g xs t) f n 0 with ⟨a1, _⟩ | ⟨i, a1, a2, a3, a4, _⟩
  · exact .inl ((hf.val t ht).trans a1)
  · right
    rw [hf.val t ht, a3]
    exact ⟨h.f1 i (by omega), h.f2 i (by omega), a4⟩
theorem bd_go (hf : FOk L j l n f m g xs) (h : LOk L j l n f m g) {a : Int} (h1 : a < L) (h0 : 0 ≤ a) (hx : a ≥ L ∨ xs.getD (0 + a.toNat) 0 > 0) :
    (1 ≤ xs.getD (0 + a.toNat) 0 ∧ xs.getD (0 + a.toNat) 0 ≤ 20000) ∧ (IntKind.i64.wrap (a + IntKind.i64.wrap (xs.getD (0 + a.toNat) 0 + j)) = a + (xs.getD (0 + a.toNat) 0 + j)) ∧
    (a + (xs.getD (0 + a.toNat) 0 + j) ≥ L ∨ xs.getD (0 + (a + (xs.getD (0 + a.toNat) 0 + j)).toNat) 0 > 0) := by
  simp only [Nat.zero_add] at *
  obtain ⟨t, rfl⟩ := Int.eq_ofNat_of_zero_le h0
  simp only [Int.toNat_natCast] at *
  have hl2 := h.l2
  have hj1 := h.j1
  have hj2 := h.j2
  rcases hf.step h h1 with e | ⟨b1, b2, b3⟩
  · omega
  · refine ⟨⟨b1, b2⟩, by rw [i64_small (x := xs.getD t 0 + j) (by omega), i64_small (by omega)], ?_⟩
    unfold goX at b3
    simp only [Bool.or_eq_true, Bool.and_eq_true, decide_eq_true_eq] at b3
    rcases b3 with q | ⟨q1, q2, _⟩
    · exact .inl (by omega)
    · right
      rw [show (t : Int) + (xs.getD t 0 + j) = (t : Int) + xs.getD t 0 + j by omega]
      exact q2
end Go.Proofs.Ytjdbmmilcihpoaa
open Go
namespace Go.Proofs.Ytjdbmmilcihpoaa
set_option linter.unusedSimpArgs false
set_option linter.unusedVariables false
set_option maxHeartbeats 0
set_option maxRecDepth 100000
inductive L11c.O where
  | e0 (a0 : Nat) (a1 : List Int)
noncomputable def L11c.T (L : Int) (j : Int) (l : Int) (n : Nat) (f : Nat → Int) (m : Nat) (g : Nat → Int) (V : Nat) (xs : List Int) (a19 : Int) (v18 : Nat) (al : List Int) : List AV := mkT 77 [(5, AV.ptr 0 1 1 0 0), (6, AV.ptr 1 1 1 0 0), (13, AV.ptr 5 1 1 0 0), (18, AV.ms 6 v18 1 0 al.length), (19, AV.int IntKind.i64 a19)]
noncomputable def L11c.H (L : Int) (j : Int) (l : Int) (n : Nat) (f : Nat → Int) (m : Nat) (g : Nat → Int) (V : Nat) (xs : List Int) (a19 : Int) (v18 : Nat) (al : List Int) : AHeap := [AObj.var (AV.int IntKind.i64 L), AObj.var (AV.int IntKind.i64 j), AObj.var (AV.int IntKind.i64 l), AObj.var (ivs m g), AObj.row 1 V (Col.ints IntKind.i64 xs), AObj.var (AV.ms 4 V 1 0 V), AObj.row 1 v18 (Col.ints IntKind.i64 al)]
def L11c.inv (L : Int) (j : Int) (l : Int) (n : Nat) (f : Nat → Int) (m : Nat) (g : Nat → Int) (V : Nat) (xs : List Int) (a19 : Int) (v18 : Nat) (al : List Int) : Prop := (0 ≤ a19 ∧ a19 ≤ 41000) ∧ (a19 ≥ L ∨ xs.getD (0 + a19.toNat) 0 > 0) ∧ (↑al.length : Int) ≤ a19
noncomputable def L11c.mu (L : Int) (j : Int) (l : Int) (n : Nat) (f : Nat → Int) (m : Nat) (g : Nat → Int) (V : Nat) (xs : List Int) (a19 : Int) (v18 : Nat) (al : List Int) : Nat := (L - a19).toNat
noncomputable def L11c.E : L11c.O → Exit
  | .e0 a0 a1 => Exit.exit 4
noncomputable def L11c.X (L : Int) (j : Int) (l : Int) (n : Nat) (f : Nat → Int) (m : Nat) (g : Nat → Int) (V : Nat) (xs : List Int) : L11c.O → List AV
  | .e0 a0 a1 => mkT 77 [(18, (AV.ms 6 a0 1 0 (List.length a1)))]
noncomputable def L11c.XH (L : Int) (j : Int) (l : Int) (n : Nat) (f : Nat → Int) (m : Nat) (g : Nat → Int) (V : Nat) (xs : List Int) : L11c.O → AHeap
  | .e0 a0 a1 => ((AObj.var (AV.int IntKind.i64 L)) :: ((AObj.var (AV.int IntKind.i64 j)) :: ((AObj.var (AV.int IntKind.i64 l)) :: ((AObj.var (AV.sl 1 m fun (i : Nat) => AV.int IntKind.i64 (g i))) :: ((AObj.row 1 V (Col.ints IntKind.i64 xs)) :: ((AObj.var (AV.ms 4 V 1 0 V)) :: ((AObj.row 1 a0 (Col.ints IntKind.i64 a1)) :: ([]))))))))
noncomputable def L11c.N (L : Int) (j : Int) (xs : List Int) : Nat → Int → Nat → (List Int) → L11c.O
  | 0, _, v18, al => .e0 v18 al
  | k_ + 1, a19, v18, al => (bif decide (a19 < L) then (L11c.N L j xs k_ (IntKind.i64.wrap (a19 + IntKind.i64.wrap (xs.getD (0 + a19.toNat) 0 + j))) (v18 + 1) (al ++ [xs.getD (0 + a19.toNat) 0])) else (.e0 (v18) (al)))
noncomputable def L11c.run (L : Int) (j : Int) (xs : List Int) (a19 : Int) (v18 : Nat) (al : List Int) : L11c.O := L11c.N L j xs (((L - a19).toNat) + 1) a19 v18 al
theorem L11c.nx (L : Int) (j : Int) (l : Int) (n : Nat) (f : Nat → Int) (m : Nat) (g : Nat → Int) (V : Nat) (xs : List Int) {k_ : Nat} {z_ : Int × Nat × (List Int)} {h_ : AHeap} (s_ : Int × Nat × (List Int)) (h1 : L11c.inv L j l n f m g V xs s_.1 s_.2.1 s_.2.2) (h2 : L11c.mu L j l n f m g V xs s_.1 s_.2.1 s_.2.2 < L11c.mu L j l n f m g V xs z_.1 z_.2.1 z_.2.2) (h3 : L11c.N L j xs k_ s_.1 s_.2.1 s_.2.2 = L11c.N L j xs (k_ + 1) z_.1 z_.2.1 z_.2.2) (h4 : PopOk (L11c.H L j l n f m g V xs z_.1 z_.2.1 z_.2.2) h_ (L11c.T L j l n f m g V xs s_.1 s_.2.1 s_.2.2) (L11c.H L j l n f m g V xs s_.1 s_.2.1 s_.2.2)) : LNextP (fun (z_ : Int × Nat × (List Int)) => L11c.T L j l n f m g V xs z_.1 z_.2.1 z_.2.2) (fun (z_ : Int × Nat × (List Int)) => L11c.H L j l n f m g V xs z_.1 z_.2.1 z_.2.2) (fun (z_ : Int × Nat × (List Int)) => L11c.inv L j l n f m g V xs z_.1 z_.2.1 z_.2.2) (fun (z_ : Int × Nat × (List Int)) => L11c.mu L j l n f m g V xs z_.1 z_.2.1 z_.2.2) (fun (k_ : Nat) (z_ : Int × Nat × (List Int)) => L11c.N L j xs k_ z_.1 z_.2.1 z_.2.2) k_ z_ (L11c.T L j l n f m g V xs s_.1 s_.2.1 s_.2.2) h_ := LNextP.mk (Tm := (fun (z_ : Int × Nat × (List Int)) => L11c.T L j l n f m g V xs z_.1 z_.2.1 z_.2.2)) (Hp := (fun (z_ : Int × Nat × (List Int)) => L11c.H L j l n f m g V xs z_.1 z_.2.1 z_.2.2)) (inv := (fun (z_ : Int × Nat × (List Int)) => L11c.inv L j l n f m g V xs z_.1 z_.2.1 z_.2.2)) (mu := (fun (z_ : Int × Nat × (List Int)) => L11c.mu L j l n f m g V xs z_.1 z_.2.1 z_.2.2)) (l := (fun (k_ : Nat) (z_ : Int × Nat × (List Int)) => L11c.N L j xs k_ z_.1 z_.2.1 z_.2.2)) s_ h1 h2 h3 h4
theorem L11c.en (L : Int) (j : Int) (l : Int) (n : Nat) (f : Nat → Int) (m : Nat) (g : Nat → Int) (V : Nat) (xs : List Int) {k_ : Nat} {z_ : Int × Nat × (List Int)} {h_ : AHeap} (o_ : L11c.O) (h3 : L11c.N L j xs (k_ + 1) z_.1 z_.2.1 z_.2.2 = o_) (h4 : PopOk (L11c.H L j l n f m g V xs z_.1 z_.2.1 z_.2.2) h_ (L11c.X L j l n f m g V xs o_) (L11c.XH L j l n f m g V xs o_)) : LEndP (fun (z_ : Int × Nat × (List Int)) => L11c.H L j l n f m g V xs z_.1 z_.2.1 z_.2.2) (fun (k_ : Nat) (z_ : Int × Nat × (List Int)) => L11c.N L j xs k_ z_.1 z_.2.1 z_.2.2) L11c.E (L11c.X L j l n f m g V xs) (L11c.XH L j l n f m g V xs) k_ z_ (L11c.E o_) (L11c.X L j l n f m g V xs o_) h_ := LEndP.mk (Hp := (fun (z_ : Int × Nat × (List Int)) => L11c.H L j l n f m g V xs z_.1 z_.2.1 z_.2.2)) (l := (fun (k_ : Nat) (z_ : Int × Nat × (List Int)) => L11c.N L j xs k_ z_.1 z_.2.1 z_.2.2)) (oE := L11c.E) (oT := L11c.X L j l n f m g V xs) (oH := L11c.XH L j l n f m g V xs) o_ h3 h4
theorem L11c.spec (L : Int) (j : Int) (l : Int) (n : Nat) (f : Nat → Int) (hn : n ≤ 9223372036854775807) (m : Nat) (g : Nat → Int) (hm : m ≤ 9223372036854775807) (hk : LOk L j l n f m g) (V : Nat) (xs : List Int) (hf : FOk L j l n f m g xs) (hV : V = (L + 1).toNat) (hV2 : xs.length = (L + 1).toNat) (k_ : Nat) (z_ : Int × Nat × (List Int)) (hi_ : L11c.inv L j l n f m g V xs z_.1 z_.2.1 z_.2.2) (hm_ : L11c.mu L j l n f m g V xs z_.1 z_.2.1 z_.2.2 < k_) : LoopTo Try.prog (loopN Try.f11 2) (L11c.T L j l n f m g V xs z_.1 z_.2.1 z_.2.2) (L11c.H L j l n f m g V xs z_.1 z_.2.1 z_.2.2) (L11c.E (L11c.N L j xs k_ z_.1 z_.2.1 z_.2.2)) (L11c.X L j l n f m g V xs (L11c.N L j xs k_ z_.1 z_.2.1 z_.2.2)) (L11c.XH L j l n f m g V xs (L11c.N L j xs k_ z_.1 z_.2.1 z_.2.2)) := by
  refine LoopTo.fuelP mix (fun (z_ : Int × Nat × (List Int)) => L11c.T L j l n f m g V xs z_.1 z_.2.1 z_.2.2) (fun (z_ : Int × Nat × (List Int)) => L11c.H L j l n f m g V xs z_.1 z_.2.1 z_.2.2) (fun (z_ : Int × Nat × (List Int)) => L11c.inv L j l n f m g V xs z_.1 z_.2.1 z_.2.2) (fun (z_ : Int × Nat × (List Int)) => L11c.mu L j l n f m g V xs z_.1 z_.2.1 z_.2.2) (fun (k_ : Nat) (z_ : Int × Nat × (List Int)) => L11c.N L j xs k_ z_.1 z_.2.1 z_.2.2) L11c.E (L11c.X L j l n f m g V xs) (L11c.XH L j l n f m g V xs) (others 77 [5, 6, 13, 18, 19]) (others 77 [10, 11]) (others 77 [18]) ?_ k_ z_ hi_ hm_
  clear hm_ hi_ z_ k_
  intro k_ z_ hinv hmu
  obtain ⟨a19, v18, al⟩ := z_
  have hinv : (0 ≤ a19 ∧ a19 ≤ 41000) ∧ (a19 ≥ L ∨ xs.getD (0 + a19.toNat) 0 > 0) ∧ (↑al.length : Int) ≤ a19 := hinv
  have hmu : ((L - a19).toNat) < k_ + 1 := hmu
  cases h1 : decide (a19 < L) with
  | true =>
    have h1p := of_decide_eq_true h1
    try have := bd_len (by assumption)
    try have := bd_go (by assumption) (by assumption) (by assumption) (by omega) (by omega)
    have o0 : (0 : Int) ≤ a19 := by omega
    have o1 : a19 < (↑V : Int) := by omega
    have o2 : (0 : Nat) + a19.toNat < (Col.ints IntKind.i64 xs).len := by simp only [Col.len, zero_bool, zero_int, List.length_replicate, List.length_set] at *; omega
    have o3 : (al.length + (1 : Nat)) * (8 : Nat) ≤ (140737488355328 : Nat) := by omega
    have o4 : al.length = (Col.ints IntKind.i64 al).len := by rfl
    try have := IntWalk.i64_in (xs.getD (0 + a19.toNat) 0 + j) (by omega)
    try have := IntWalk.i64_in (a19 + IntKind.i64.wrap (xs.getD (0 + a19.toNat) 0 + j)) (by omega)
    have o5 : (0 : Int) ≤ IntKind.i64.wrap (a19 + IntKind.i64.wrap (xs.getD ((0 : Nat) + a19.toNat) (0 : Int) + j)) := by omega
    have o6 : IntKind.i64.wrap (a19 + IntKind.i64.wrap (xs.getD ((0 : Nat) + a19.toNat) (0 : Int) + j)) ≤ (41000 : Int) := by omega
    have o7 : IntKind.i64.wrap (a19 + IntKind.i64.wrap (xs.getD ((0 : Nat) + a19.toNat) (0 : Int) + j)) ≥ L ∨ xs.getD ((0 : Nat) + (IntKind.i64.wrap (a19 + IntKind.i64.wrap (xs.getD ((0 : Nat) + a19.toNat) (0 : Int) + j))).toNat) (0 : Int) > (0 : Int) := by simp_all
    have o8 : (↑(al ++ [xs.getD ((0 : Nat) + a19.toNat) (0 : Int)]).length : Int) ≤ IntKind.i64.wrap (a19 + IntKind.i64.wrap (xs.getD ((0 : Nat) + a19.toNat) (0 : Int) + j)) := by simp only [List.length_append, List.length_cons, List.length_nil, List.length_map]; omega
    have o9 : (L - IntKind.i64.wrap (a19 + IntKind.i64.wrap (xs.getD ((0 : Nat) + a19.toNat) (0 : Int) + j))).toNat < (L - a19).toNat := by omega
    exact ⟨[.b true, .app .one false], kmp (by kernel_rfl) (And.intro h1 (And.intro (And.intro o0 o1) (And.intro (And.intro (rfl : V = V) (And.intro (show (1 : Nat) = (1 : Nat) by decide) o2)) (And.intro (And.intro (show (1 : Nat) = (1 : Nat) by decide) (And.intro (show AppMode.one.needs 1 fun (a : Nat) => (Col.ofList [AV.int IntKind.i64 (xs.getD (0 + a19.toNat) 0)]).get a by exact ⟨rfl, rfl⟩) (And.intro o3 (And.intro (rfl : v18 = v18) (And.intro (show (0 : Nat) = (0 : Nat) by decide) o4))))) (And.intro (And.intro o0 o1) (And.intro (And.intro (rfl : V = V) (And.intro (show (1 : Nat) = (1 : Nat) by decide) o2)) (L11c.nx L j l n f m g V xs (k_ := k_) (z_ := (a19, v18, al)) ((IntKind.i64.wrap (a19 + IntKind.i64.wrap (xs.getD (0 + a19.toNat) 0 + j)), v18 + 1, al ++ [xs.getD (0 + a19.toNat) 0])) (And.intro (And.intro o5 o6) (And.intro o7 o8)) o9 (by simp only [L11c.N, h1, cond_true, cond_false]) PopOk.same)))))))⟩
  | false =>
    have h1p := of_decide_eq_false h1
    exact ⟨[.b false], kmp (by kernel_rfl) (And.intro h1 (L11c.en L j l n f m g V xs (k_ := k_) (z_ := (a19, v18, al)) (.e0 (v18) (al) : L11c.O) (by simp only [L11c.N, h1, cond_true, cond_false]) PopOk.same))⟩
theorem L11c.e0 (L : Int) (j : Int) (l : Int) (n : Nat) (f : Nat → Int) (hn : n ≤ 9223372036854775807) (m : Nat) (g : Nat → Int) (hm : m ≤ 9223372036854775807) (hk : LOk L j l n f m g) (V : Nat) (xs : List Int) (hf : FOk L j l n f m g xs) (hV : V = (L + 1).toNat) (hV2 : xs.length = (L + 1).toNat) (a19 : Int) (v18 : Nat) (al : List Int) (hinv : L11c.inv L j l n f m g V xs a19 v18 al) (a0 : Nat) (a1 : List Int) (hN : L11c.run L j xs a19 v18 al = (.e0 a0 a1 : L11c.O)) : LoopTo Try.prog (loopN Try.f11 2) (L11c.T L j l n f m g V xs a19 v18 al) (L11c.H L j l n f m g V xs a19 v18 al) (Exit.exit 4) (L11c.X L j l n f m g V xs (.e0 a0 a1 : L11c.O)) (L11c.XH L j l n f m g V xs (.e0 a0 a1 : L11c.O)) := by
  have h_ := L11c.spec L j l n f hn m g hm hk V xs hf hV hV2 (((L - a19).toNat) + 1) (a19, v18, al) hinv (Nat.lt_succ_self _)
  unfold L11c.run at hN
  simp only [hN] at h_
  exact h_
theorem L11c.len0_1 {L : Int} {j : Int} {xs : List Int} : ∀ (m_ : Nat) (a19 : Int) (v18 : Nat) (al : List Int) (a0_ : Nat) (a1_ : List Int), L11c.N L j xs m_ a19 v18 al = (.e0 a0_ a1_ : L11c.O) → (a1_).length ≤ (al).length + m_ := by
  intro m_
  induction m_ with
  | zero =>
    intro a19 v18 al a0_ a1_ h_
    simp only [L11c.N] at h_
    cases h_
    first | exact Nat.zero_le _ | omega
  | succ m_ ih_ =>
    intro a19 v18 al a0_ a1_ h_
    cases h1 : decide (a19 < L) with
    | true =>
      have h1p := of_decide_eq_true h1
      (simp only [L11c.N, h1, cond_true, cond_false] at h_; first | (have := ih_ _ _ _ _ _ h_; (try simp only [List.length_append, List.length_cons, List.length_nil, List.length_set] at this); omega) | (cases h_; done) | (cases h_; omega))
    | false =>
      have h1p := of_decide_eq_false h1
      (simp only [L11c.N, h1, cond_true, cond_false] at h_; first | (have := ih_ _ _ _ _ _ h_; (try simp only [List.length_append, List.length_cons, List.length_nil, List.length_set] at this); omega) | (cases h_; done) | (cases h_; omega))
theorem L11c.lenR0_1 {L : Int} {j : Int} {xs : List Int} {a19 : Int} {v18 : Nat} {al : List Int} {a0_ : Nat} {a1_ : List Int} (h_ : L11c.run L j xs a19 v18 al = (.e0 a0_ a1_ : L11c.O)) : (a1_).length ≤ (al).length + (((L - a19).toNat) + 1) := L11c.len0_1 _ a19 v18 al a0_ a1_ h_
theorem first_pos {L j l : Int} {n m : Nat} {f g : Nat → Int} {xs : List Int} (hf : FOk L j l n f m g xs) (h : LOk L j l n f m g) (hne : ¬ (xs.getD 0 0 = 0)) : (0 : Int) ≥ L ∨ xs.getD 0 0 > 0 := by
  rcases hf.step h (t := 0) (by have := h.l1; omega) with e | ⟨b1, b2, b3⟩
  · exact (hne e).elim
  · right; omega
noncomputable def r11.v0 (L : Int) (j : Int) (l : Int) (n : Nat) (f : Nat → Int) (m : Nat) (g : Nat → Int) : List Int := (bif r32.v L j l n f m g == 0 then (match L11a.run L j l n f m g (IntKind.i64.wrap (L - 1)) (List.replicate (IntKind.i64.wrap (L + 1)).toNat 0) with | .e0 h2d0 => (bif h2d0.getD 0 0 == 0 then ([] : List Int) else (match L11c.run L j h2d0 0 0 [] with | .e0 h4d0 h4d1 => h4d1 )) ) else ([] : List Int))
noncomputable def r11.v1 (L : Int) (j : Int) (l : Int) (n : Nat) (f : Nat → Int) (m : Nat) (g : Nat → Int) : Int := (bif r32.v L j l n f m g == 0 then (match L11a.run L j l n f m g (IntKind.i64.wrap (L - 1)) (List.replicate (IntKind.i64.wrap (L + 1)).toNat 0) with | .e0 h2d0 => (bif h2d0.getD 0 0 == 0 then 9 else (match L11c.run L j h2d0 0 0 [] with | .e0 h4d0 h4d1 => 0 )) ) else r32.v L j l n f m g)
noncomputable abbrev r11.h0 (L : Int) (j : Int) (l : Int) (n : Nat) (f : Nat → Int) (m : Nat) (g : Nat → Int) : AHeap := ([AObj.var (AV.int IntKind.i64 L), AObj.var (AV.int IntKind.i64 j), AObj.var (AV.int IntKind.i64 l), AObj.var (AV.sl 1 m fun (i : Nat) => AV.int IntKind.i64 (g i))])
theorem r11 (L : Int) (j : Int) (l : Int) (n : Nat) (f : Nat → Int) (hn : n ≤ 9223372036854775807) (m : Nat) (g : Nat → Int) (hm : m ≤ 9223372036854775807) (h : AHeap) : Ret Try.prog 11 ([AV.int IntKind.i64 L, AV.int IntKind.i64 j, AV.int IntKind.i64 l, ivs n f, ivs m g]) h (AV.tup [(avInts IntKind.i64 (r11.v0 L j l n f m g)), (AV.int IntKind.i64 (r11.v1 L j l n f m g))]) h := by
  try have := bd_ok (by first | assumption | omega) (by first | assumption | omega) (by first | assumption | omega)
  try have := bd_len (by first | assumption | omega)
  try have := bd_fok (by first | assumption | omega) (by first | assumption | omega)
  have o0 : n ≤ (9223372036854775807 : Nat) := by assumption
  have o1 : m ≤ (9223372036854775807 : Nat) := by assumption
  cases h1 : r32.v L j l n f m g == 0 with
  | true =>
    have h1p := eq_of_beq h1
    try have := bd_ok (by assumption) (by assumption) (by assumption)
    try have := bd_len (by assumption)
    try have := bd_fok (by assumption) (by first | assumption | omega)
    try have := L11a.leqR0_0 _ _ _ _ _ _ _ (by assumption); (try simp only [List.length_replicate] at this)
    try have := L11c.lenR0_1 (by assumption); (try simp only [List.length_nil] at this)
    try have := IntWalk.i64_in (L + 1) (by omega)
    have o2 : (0 : Int) ≤ IntKind.i64.wrap (L + (1 : Int)) := by omega
    have o3 : (8 : Int) * IntKind.i64.wrap (L + (1 : Int)) ≤ (281474976710656 : Int) := by omega
    have o4 : IntKind.i64.wrap (L + (1 : Int)) ≤ (9223372036854775807 : Int) := by omega
    have o5 : LOk L j l n f m g := by assumption
    have o6 : (IntKind.i64.wrap (L + (1 : Int))).toNat = (L + (1 : Int)).toNat := by omega
    try have := IntWalk.i64_in (L - 1) (by omega)
    have o7 : (-1 : Int) ≤ IntKind.i64.wrap (L - (1 : Int)) := by omega
    have o8 : IntKind.i64.wrap (L - (1 : Int)) ≤ L - (1 : Int) := by omega
    have o9 : (List.replicate (IntKind.i64.wrap (L + (1 : Int))).toNat (0 : Int)).length = (IntKind.i64.wrap (L + (1 : Int))).toNat := by simp_all
    cases h2 : L11a.run L j l n f m g (IntKind.i64.wrap (L - 1)) (List.replicate (IntKind.i64.wrap (L + 1)).toNat 0) with
    | e0 h2d0 =>
      try have := bd_ok (by assumption) (by assumption) (by assumption)
      try have := bd_len (by assumption)
      try have := bd_fok (by assumption) (by assumption)
      try have := L11a.leqR0_0 _ _ _ _ _ _ _ (by assumption); (try simp only [List.length_replicate] at this)
      try have := L11c.lenR0_1 (by assumption); (try simp only [List.length_nil] at this)
      try have := IntWalk.i64_in (L + 1) (by omega)
      have o10 : (0 : Int) < (↑(IntKind.i64.wrap (L + (1 : Int))).toNat : Int) := by omega
      have o11 : (0 : Nat) < (Col.ints IntKind.i64 h2d0).len := by simp only [Col.len, zero_bool, zero_int, List.length_replicate, List.length_set] at *; omega
      cases h3 : h2d0.getD 0 0 == 0 with
      | true =>
        have h3p := eq_of_beq h3
        exact Ret.val (show (AV.tup [(avInts IntKind.i64 ([] : List Int)), AV.int IntKind.i64 9]) = (AV.tup [(avInts IntKind.i64 (r11.v0 L j l n f m g)), (AV.int IntKind.i64 (r11.v1 L j l n f m g))]) by simp only [r11.v0, r11.v1, h1, h3, h2, cond_true, cond_false]) (Ret.of_run1 mix [(avInts IntKind.i64 ([] : List Int)), AV.int IntKind.i64 9] Try.func11 rfl [.ret (AV.int IntKind.i64 (r32.v L j l n f m g)) (r11.h0 L j l n f m g), .b false, .loop (others 77 [3, 5, 6, 13, 14, 15]) (Exit.exit 0) (L11a.X L j l n f m g (IntKind.i64.wrap (L + 1)).toNat (L11a.O.e0 h2d0)) (L11a.XH L j l n f m g (IntKind.i64.wrap (L + 1)).toNat (L11a.O.e0 h2d0)), .b true] (by simp) (by simp) (kmp (by kernel_rfl) (And.intro (r32 (L) (j) (l) (n) (f) o0 (m) (g) o1 (r11.h0 L j l n f m g)) (And.intro (show (bnot (r32.v L j l n f m g == 0)) = false by rw [h1]; try rfl) (And.intro (And.intro (rfl : IntKind.i64.wrap (L + (1 : Int)) = IntKind.i64.wrap (L + (1 : Int))) (And.intro o2 (And.intro o3 o4))) (And.intro (L11a.e0 (L) (j) (l) (n) (f) o0 (m) (g) o1 o5 ((IntKind.i64.wrap (L + 1)).toNat) o6 (IntKind.i64.wrap (L - 1)) (List.replicate (IntKind.i64.wrap (L + 1)).toNat 0) (And.intro (And.intro o7 o8) o9) h2d0 h2) (And.intro (And.intro (show (0 : Int) ≤ (0 : Int) by decide) o10) (And.intro (And.intro (rfl : (IntKind.i64.wrap (L + (1 : Int))).toNat = (IntKind.i64.wrap (L + (1 : Int))).toNat) (And.intro (show (1 : Nat) = (1 : Nat) by decide) o11)) (And.intro h3 (And.intro (rfl : ((avInts IntKind.i64 ([] : List Int))) = ((avInts IntKind.i64 ([] : List Int)))) (And.intro (rfl : (AV.int IntKind.i64 9) = (AV.int IntKind.i64 9)) trivial)))))))))) h)
      | false =>
        have h3p := ne_of_beq_false h3
        try have := bd_ok (by assumption) (by assumption) (by assumption)
        try have := bd_len (by assumption)
        try have := bd_fok (by assumption) (by assumption)
        try have := L11a.leqR0_0 _ _ _ _ _ _ _ (by assumption); (try simp only [List.length_replicate] at this)
        try have := L11c.lenR0_1 (by assumption); (try simp only [List.length_nil] at this)
        have o12 : FOk L j l n f m g h2d0 := by simp_all
        have o13 : h2d0.length = (L + (1 : Int)).toNat := by omega
        have o14 : (0 : Int) ≥ L ∨ h2d0.getD (0 : Nat) (0 : Int) > (0 : Int) := by first | assumption | omega | (apply first_pos <;> first | assumption | omega) | (simp_all; done)
        cases h4 : L11c.run L j h2d0 0 0 [] with
        | e0 h4d0 h4d1 =>
          try have := bd_ok (by assumption) (by assumption) (by assumption)
          try have := bd_len (by assumption)
          try have := bd_fok (by assumption) (by assumption)
          try have := L11a.leqR0_0 _ _ _ _ _ _ _ (by assumption); (try simp only [List.length_replicate] at this)
          try have := L11c.lenR0_1 (by assumption); (try simp only [List.length_nil] at this)
          have o15 : (0 : Nat) + h4d1.length ≤ (Col.ints IntKind.i64 h4d1).len := by simp [Col.len]
          exact Ret.of_run1 mix [(avInts IntKind.i64 (r11.v0 L j l n f m g)), (AV.int IntKind.i64 (r11.v1 L j l n f m g))] Try.func11 rfl [.ret (AV.int IntKind.i64 (r32.v L j l n f m g)) (r11.h0 L j l n f m g), .b false, .loop (others 77 [3, 5, 6, 13, 14, 15]) (Exit.exit 0) (L11a.X L j l n f m g (IntKind.i64.wrap (L + 1)).toNat (L11a.O.e0 h2d0)) (L11a.XH L j l n f m g (IntKind.i64.wrap (L + 1)).toNat (L11a.O.e0 h2d0)), .b false, .virt [] [(none, 18, 1, Col.ints IntKind.i64 [])], .loop (others 77 [5, 6, 13, 18, 19]) (Exit.exit 4) (L11c.X L j l n f m g (IntKind.i64.wrap (L + 1)).toNat h2d0 (L11c.O.e0 h4d0 h4d1)) (L11c.XH L j l n f m g (IntKind.i64.wrap (L + 1)).toNat h2d0 (L11c.O.e0 h4d0 h4d1))] (by simp) (by simp) (kmp (by kernel_rfl) (And.intro (r32 (L) (j) (l) (n) (f) o0 (m) (g) o1 (r11.h0 L j l n f m g)) (And.intro (show (bnot (r32.v L j l n f m g == 0)) = false by rw [h1]; try rfl) (And.intro (And.intro (rfl : IntKind.i64.wrap (L + (1 : Int)) = IntKind.i64.wrap (L + (1 : Int))) (And.intro o2 (And.intro o3 o4))) (And.intro (L11a.e0 (L) (j) (l) (n) (f) o0 (m) (g) o1 o5 ((IntKind.i64.wrap (L + 1)).toNat) o6 (IntKind.i64.wrap (L - 1)) (List.replicate (IntKind.i64.wrap (L + 1)).toNat 0) (And.intro (And.intro o7 o8) o9) h2d0 h2) (And.intro (And.intro (show (0 : Int) ≤ (0 : Int) by decide) o10) (And.intro (And.intro (rfl : (IntKind.i64.wrap (L + (1 : Int))).toNat = (IntKind.i64.wrap (L + (1 : Int))).toNat) (And.intro (show (1 : Nat) = (1 : Nat) by decide) o11)) (And.intro h3 (And.intro (And.intro (rfl : AV.snil = AV.snil) (And.intro (rfl : (0 : Nat) = 0) trivial)) (And.intro (L11c.e0 (L) (j) (l) (n) (f) o0 (m) (g) o1 o5 ((IntKind.i64.wrap (L + 1)).toNat) (h2d0) o12 o6 o13 (0) (0) ([]) (And.intro (And.intro (show (0 : Int) ≤ (0 : Int) by decide) (show (0 : Int) ≤ (41000 : Int) by decide)) (And.intro o14 (show (0 : Int) ≤ (0 : Int) by decide))) h4d0 h4d1 h4) (And.intro (And.intro (rfl : h4d0 = h4d0) (And.intro (show (1 : Nat) = (1 : Nat) by decide) (And.intro o15 (show ((avInts IntKind.i64 h4d1)) = ((avInts IntKind.i64 (r11.v0 L j l n f m g))) by simp only [r11.v0, r11.v1, h1, h3, h2, h4, cond_true, cond_false])))) (And.intro (show (AV.int IntKind.i64 0) = ((AV.int IntKind.i64 (r11.v1 L j l n f m g))) by simp only [r11.v0, r11.v1, h1, h3, h2, h4, cond_true, cond_false]) trivial)))))))))))) h
  | false =>
    have h1p := ne_of_beq_false h1
    exact Ret.val (show (AV.tup [(avInts IntKind.i64 ([] : List Int)), AV.int IntKind.i64 (r32.v L j l n f m g)]) = (AV.tup [(avInts IntKind.i64 (r11.v0 L j l n f m g)), (AV.int IntKind.i64 (r11.v1 L j l n f m g))]) by simp only [r11.v0, r11.v1, h1, cond_true, cond_false]) (Ret.of_run1 mix [(avInts IntKind.i64 ([] : List Int)), AV.int IntKind.i64 (r32.v L j l n f m g)] Try.func11 rfl [.ret (AV.int IntKind.i64 (r32.v L j l n f m g)) (r11.h0 L j l n f m g), .b true] (by simp) (by simp) (kmp (by kernel_rfl) (And.intro (r32 (L) (j) (l) (n) (f) o0 (m) (g) o1 (r11.h0 L j l n f m g)) (And.intro (show (bnot (r32.v L j l n f m g == 0)) = true by rw [h1]; try rfl) (And.intro (rfl : ((avInts IntKind.i64 ([] : List Int))) = ((avInts IntKind.i64 ([] : List Int)))) (And.intro (rfl : (AV.int IntKind.i64 (r32.v L j l n f m g)) = (AV.int IntKind.i64 (r32.v L j l n f m g))) trivial))))) h)
end Go.Proofs.Ytjdbmmilcihpoaa
