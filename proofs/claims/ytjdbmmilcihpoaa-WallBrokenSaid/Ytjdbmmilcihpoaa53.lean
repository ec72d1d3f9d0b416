/- Contracts of the functions and plain laws, part 3. Conditions: none. -/
import Derived.Test.Ytjdbmmilcihpoaa52

open Go
namespace Go.Proofs.Ytjdbmmilcihpoaa
set_option linter.unusedSimpArgs false
set_option linter.unusedVariables false
set_option maxHeartbeats 0
set_option maxRecDepth 100000
theorem bd_crs {L : Nat → List SD} {b : Int} {k : Nat} (h : b < ((L k).length : Int)) (hl : ∀ k, (L k).length ≤ 10000) : b < 10000 := by have := hl k; omega
theorem last_lo {L : Nat → List SD} {k : Nat} (hl : ∀ k, (L k).length ≤ 10000) {N : Nat} (hne : ∀ k, k < N → 0 < (L k).length) (hk : k < N) : 0 ≤ IntKind.i64.wrap (((L k).length : Int) - 1) := by
  have := hl k; have := hne k hk
  rw [IntWalk.i64_in _ (by omega)]; omega
theorem last_hi {L : Nat → List SD} {k : Nat} (hl : ∀ k, (L k).length ≤ 10000) {N : Nat} (hne : ∀ k, k < N → 0 < (L k).length) (hk : k < N) : IntKind.i64.wrap (((L k).length : Int) - 1) < ((L k).length : Int) := by
  have := hl k; have := hne k hk
  rw [IntWalk.i64_in _ (by omega)]; omega
theorem len_pos {L : Nat → List SD} {k : Nat} {N : Nat} (hne : ∀ k, k < N → 0 < (L k).length) (hk : k < N) : (0 : Int) < ((L k).length : Int) := by have := hne k hk; omega
inductive L57ab.O where
  | e0
  | e1
noncomputable def L57ab.T (N : Nat) (L : Nat → List SD) (a8 : Int) (b5 : Int) : List AV := mkT 32 [(4, AV.sl 14 (L a8.toNat).length fun (q : Nat) => (SD.av ((L a8.toNat).getD q default))), (5, AV.int IntKind.i64 b5), (6, AV.sl 1 N fun (j : Nat) => AV.sl 14 (L j).length fun (q : Nat) => (SD.av ((L j).getD q default))), (7, AV.int IntKind.i64 (↑N : Int)), (8, AV.int IntKind.i64 a8)]
noncomputable def L57ab.H (N : Nat) (L : Nat → List SD) (a8 : Int) (b5 : Int) : AHeap := []
def L57ab.inv (N : Nat) (L : Nat → List SD) (a8 : Int) (b5 : Int) : Prop := 1 ≤ b5 ∧ (b5 ≤ (↑(L a8.toNat).length : Int) ∨ b5 ≤ 1)
noncomputable def L57ab.mu (N : Nat) (L : Nat → List SD) (a8 : Int) (b5 : Int) : Nat := ((↑(L a8.toNat).length : Int) - b5).toNat
noncomputable def L57ab.E : L57ab.O → Exit
  | .e0 => Exit.ret
  | .e1 => Exit.exit 2
noncomputable def L57ab.X (N : Nat) (L : Nat → List SD) (a8 : Int) : L57ab.O → List AV
  | .e0 => mkT 32 [(2, (AV.bool true))]
  | .e1 => mkT 32 [(6, (AV.sl 1 N fun (j : Nat) => AV.sl 14 (L j).length fun (q : Nat) => (SD.av ((L j).getD q default)))), (7, (AV.int IntKind.i64 (↑N : Int))), (8, (AV.int IntKind.i64 a8))]
noncomputable def L57ab.XH (N : Nat) (L : Nat → List SD) (a8 : Int) : L57ab.O → AHeap
  | .e0 => ([])
  | .e1 => ([])
noncomputable def L57ab.N (L : Nat → List SD) (a8 : Int) : Nat → Int → L57ab.O
  | 0, _ => .e0
  | k_ + 1, b5 => (bif decide (b5 < (↑(L a8.toNat).length : Int)) then (bif decide (((L a8.toNat).getD b5.toNat default).ax < r61.v ((L a8.toNat).getD (IntKind.i64.wrap (b5 - 1)).toNat default)) then (.e0) else (L57ab.N L a8 k_ (IntKind.i64.wrap (b5 + 1)))) else (.e1))
noncomputable def L57ab.run (L : Nat → List SD) (a8 : Int) (b5 : Int) : L57ab.O := L57ab.N L a8 ((((↑(L a8.toNat).length : Int) - b5).toNat) + 1) b5
theorem L57ab.nx (N : Nat) (L : Nat → List SD) (a8 : Int) {k_ : Nat} {z_ : Int} {h_ : AHeap} (s_ : Int) (h1 : L57ab.inv N L a8 s_) (h2 : L57ab.mu N L a8 s_ < L57ab.mu N L a8 z_) (h3 : L57ab.N L a8 k_ s_ = L57ab.N L a8 (k_ + 1) z_) (h4 : PopOk (L57ab.H N L a8 z_) h_ (L57ab.T N L a8 s_) (L57ab.H N L a8 s_)) : LNextP (fun (z_ : Int) => L57ab.T N L a8 z_) (fun (z_ : Int) => L57ab.H N L a8 z_) (fun (z_ : Int) => L57ab.inv N L a8 z_) (fun (z_ : Int) => L57ab.mu N L a8 z_) (fun (k_ : Nat) (z_ : Int) => L57ab.N L a8 k_ z_) k_ z_ (L57ab.T N L a8 s_) h_ := LNextP.mk (Tm := (fun (z_ : Int) => L57ab.T N L a8 z_)) (Hp := (fun (z_ : Int) => L57ab.H N L a8 z_)) (inv := (fun (z_ : Int) => L57ab.inv N L a8 z_)) (mu := (fun (z_ : Int) => L57ab.mu N L a8 z_)) (l := (fun (k_ : Nat) (z_ : Int) => L57ab.N L a8 k_ z_)) s_ h1 h2 h3 h4
theorem L57ab.en (N : Nat) (L : Nat → List SD) (a8 : Int) {k_ : Nat} {z_ : Int} {h_ : AHeap} (o_ : L57ab.O) (h3 : L57ab.N L a8 (k_ + 1) z_ = o_) (h4 : PopOk (L57ab.H N L a8 z_) h_ (L57ab.X N L a8 o_) (L57ab.XH N L a8 o_)) : LEndP (fun (z_ : Int) => L57ab.H N L a8 z_) (fun (k_ : Nat) (z_ : Int) => L57ab.N L a8 k_ z_) L57ab.E (L57ab.X N L a8) (L57ab.XH N L a8) k_ z_ (L57ab.E o_) (L57ab.X N L a8 o_) h_ := LEndP.mk (Hp := (fun (z_ : Int) => L57ab.H N L a8 z_)) (l := (fun (k_ : Nat) (z_ : Int) => L57ab.N L a8 k_ z_)) (oE := L57ab.E) (oT := L57ab.X N L a8) (oH := L57ab.XH N L a8) o_ h3 h4
theorem L57ab.spec (N : Nat) (hb : N ≤ 1000) (L : Nat → List SD) (hl : ∀ (k : Nat), (L k).length ≤ 10000) (a8 : Int) (i57a_0 : 0 ≤ a8) (i57a_1 : a8 ≤ (↑N : Int) ∨ a8 ≤ 0) (k1_1 : decide (a8 < (↑N : Int)) = true) (p1_1 : a8 < (↑N : Int)) (k_ : Nat) (z_ : Int) (hi_ : L57ab.inv N L a8 z_) (hm_ : L57ab.mu N L a8 z_ < k_) : LoopTo Try.prog (loopN Try.f57 1) (L57ab.T N L a8 z_) (L57ab.H N L a8 z_) (L57ab.E (L57ab.N L a8 k_ z_)) (L57ab.X N L a8 (L57ab.N L a8 k_ z_)) (L57ab.XH N L a8 (L57ab.N L a8 k_ z_)) := by
  refine LoopTo.fuelP mix (fun (z_ : Int) => L57ab.T N L a8 z_) (fun (z_ : Int) => L57ab.H N L a8 z_) (fun (z_ : Int) => L57ab.inv N L a8 z_) (fun (z_ : Int) => L57ab.mu N L a8 z_) (fun (k_ : Nat) (z_ : Int) => L57ab.N L a8 k_ z_) L57ab.E (L57ab.X N L a8) (L57ab.XH N L a8) (others 32 [4, 5, 6, 7, 8]) (others 32 [2]) (others 32 [6, 7, 8]) ?_ k_ z_ hi_ hm_
  clear hm_ hi_ z_ k_
  intro k_ z_ hinv hmu
  revert hinv hmu; revert z_; intro b5 hinv hmu
  have hinv : 1 ≤ b5 ∧ (b5 ≤ (↑(L a8.toNat).length : Int) ∨ b5 ≤ 1) := hinv
  have hmu : (((↑(L a8.toNat).length : Int) - b5).toNat) < k_ + 1 := hmu
  cases h1 : decide (b5 < (↑(L a8.toNat).length : Int)) with
  | true =>
    have h1p := of_decide_eq_true h1
    try have := bd_crs (by assumption) (by assumption)
    have o0 : (0 : Int) ≤ b5 := by omega
    have o1 : b5 < (↑(L a8.toNat).length : Int) := by assumption
    try have := IntWalk.i64_in (b5 - 1) (by omega)
    have o2 : (0 : Int) ≤ IntKind.i64.wrap (b5 - (1 : Int)) := by omega
    have o3 : IntKind.i64.wrap (b5 - (1 : Int)) < (↑(L a8.toNat).length : Int) := by omega
    cases h2 : decide (((L a8.toNat).getD b5.toNat default).ax < r61.v ((L a8.toNat).getD (IntKind.i64.wrap (b5 - 1)).toNat default)) with
    | true =>
      have h2p := of_decide_eq_true h2
      exact ⟨[.b true, .ret (AV.int IntKind.i64 (r61.v ((L a8.toNat).getD (IntKind.i64.wrap (b5 - 1)).toNat default))) ([]), .b true], kmp (by kernel_rfl) (Ai h1 (Ai (Ai o0 o1) (Ai (Ai o2 o3) (Ai (r61 ((L a8.toNat).getD (IntKind.i64.wrap (b5 - 1)).toNat default) ([])) (Ai h2 (L57ab.en N L a8 (k_ := k_) (z_ := b5) (.e0 : L57ab.O) (by simp only [L57ab.N, h1, h2, cond_true, cond_false]) PopOk.same))))))⟩
    | false =>
      have h2p := of_decide_eq_false h2
      try have := bd_crs (by assumption) (by assumption)
      try have := IntWalk.i64_in (b5 + 1) (by omega)
      have o4 : (1 : Int) ≤ IntKind.i64.wrap (b5 + (1 : Int)) := by omega
      have o5 : IntKind.i64.wrap (b5 + (1 : Int)) ≤ (↑(L a8.toNat).length : Int) ∨ IntKind.i64.wrap (b5 + (1 : Int)) ≤ (1 : Int) := by omega
      have o6 : ((↑(L a8.toNat).length : Int) - IntKind.i64.wrap (b5 + (1 : Int))).toNat < ((↑(L a8.toNat).length : Int) - b5).toNat := by omega
      exact ⟨[.b true, .ret (AV.int IntKind.i64 (r61.v ((L a8.toNat).getD (IntKind.i64.wrap (b5 - 1)).toNat default))) ([]), .b false], kmp (by kernel_rfl) (Ai h1 (Ai (Ai o0 o1) (Ai (Ai o2 o3) (Ai (r61 ((L a8.toNat).getD (IntKind.i64.wrap (b5 - 1)).toNat default) ([])) (Ai h2 (L57ab.nx N L a8 (k_ := k_) (z_ := b5) (IntKind.i64.wrap (b5 + 1)) (Ai o4 o5) o6 (by simp only [L57ab.N, h1, h2, cond_true, cond_false]) PopOk.same))))))⟩
  | false =>
    have h1p := of_decide_eq_false h1
    exact ⟨[.b false], kmp (by kernel_rfl) (Ai h1 (L57ab.en N L a8 (k_ := k_) (z_ := b5) (.e1 : L57ab.O) (by simp only [L57ab.N, h1, cond_true, cond_false]) PopOk.same))⟩
theorem L57ab.e0 (N : Nat) (hb : N ≤ 1000) (L : Nat → List SD) (hl : ∀ (k : Nat), (L k).length ≤ 10000) (a8 : Int) (i57a_0 : 0 ≤ a8) (i57a_1 : a8 ≤ (↑N : Int) ∨ a8 ≤ 0) (k1_1 : decide (a8 < (↑N : Int)) = true) (p1_1 : a8 < (↑N : Int)) (b5 : Int) (hinv : L57ab.inv N L a8 b5) (hN : L57ab.run L a8 b5 = (.e0 : L57ab.O)) : LoopTo Try.prog (loopN Try.f57 1) (L57ab.T N L a8 b5) (L57ab.H N L a8 b5) (Exit.ret) (L57ab.X N L a8 (.e0 : L57ab.O)) (L57ab.XH N L a8 (.e0 : L57ab.O)) := by
  have h_ := L57ab.spec N hb L hl a8 i57a_0 i57a_1 k1_1 p1_1 ((((↑(L a8.toNat).length : Int) - b5).toNat) + 1) b5 hinv (Nat.lt_succ_self _)
  unfold L57ab.run at hN
  simp only [hN] at h_
  exact h_
theorem L57ab.e1 (N : Nat) (hb : N ≤ 1000) (L : Nat → List SD) (hl : ∀ (k : Nat), (L k).length ≤ 10000) (a8 : Int) (i57a_0 : 0 ≤ a8) (i57a_1 : a8 ≤ (↑N : Int) ∨ a8 ≤ 0) (k1_1 : decide (a8 < (↑N : Int)) = true) (p1_1 : a8 < (↑N : Int)) (b5 : Int) (hinv : L57ab.inv N L a8 b5) (hN : L57ab.run L a8 b5 = (.e1 : L57ab.O)) : LoopTo Try.prog (loopN Try.f57 1) (L57ab.T N L a8 b5) (L57ab.H N L a8 b5) (Exit.exit 2) (L57ab.X N L a8 (.e1 : L57ab.O)) (L57ab.XH N L a8 (.e1 : L57ab.O)) := by
  have h_ := L57ab.spec N hb L hl a8 i57a_0 i57a_1 k1_1 p1_1 ((((↑(L a8.toNat).length : Int) - b5).toNat) + 1) b5 hinv (Nat.lt_succ_self _)
  unfold L57ab.run at hN
  simp only [hN] at h_
  exact h_
inductive L57a.O where
  | e0
  | e1
noncomputable def L57a.T (N : Nat) (L : Nat → List SD) (a8 : Int) : List AV := mkT 32 [(6, AV.sl 1 N fun (j : Nat) => AV.sl 14 (L j).length fun (q : Nat) => (SD.av ((L j).getD q default))), (7, AV.int IntKind.i64 (↑N : Int)), (8, AV.int IntKind.i64 a8)]
noncomputable def L57a.H (N : Nat) (L : Nat → List SD) (a8 : Int) : AHeap := []
def L57a.inv (N : Nat) (L : Nat → List SD) (a8 : Int) : Prop := 0 ≤ a8 ∧ (a8 ≤ (↑N : Int) ∨ a8 ≤ 0)
noncomputable def L57a.mu (N : Nat) (L : Nat → List SD) (a8 : Int) : Nat := ((↑N : Int) - a8).toNat
noncomputable def L57a.E : L57a.O → Exit
  | .e0 => Exit.ret
  | .e1 => Exit.exit 0
noncomputable def L57a.X (N : Nat) (L : Nat → List SD) : L57a.O → List AV
  | .e0 => mkT 32 [(2, (AV.bool true))]
  | .e1 => mkT 32 []
noncomputable def L57a.XH (N : Nat) (L : Nat → List SD) : L57a.O → AHeap
  | .e0 => ([])
  | .e1 => ([])
noncomputable def L57a.N (N : Nat) (L : Nat → List SD) : Nat → Int → L57a.O
  | 0, _ => .e0
  | k_ + 1, a8 => (bif decide (a8 < (↑N : Int)) then (match L57ab.run L a8 1 with | .e0 => (.e0) | .e1 => (L57a.N N L k_ (IntKind.i64.wrap (a8 + 1))) ) else (.e1))
noncomputable def L57a.run (N : Nat) (L : Nat → List SD) (a8 : Int) : L57a.O := L57a.N N L ((((↑N : Int) - a8).toNat) + 1) a8
theorem L57a.nx (N : Nat) (L : Nat → List SD) {k_ : Nat} {z_ : Int} {h_ : AHeap} (s_ : Int) (h1 : L57a.inv N L s_) (h2 : L57a.mu N L s_ < L57a.mu N L z_) (h3 : L57a.N N L k_ s_ = L57a.N N L (k_ + 1) z_) (h4 : PopOk (L57a.H N L z_) h_ (L57a.T N L s_) (L57a.H N L s_)) : LNextP (fun (z_ : Int) => L57a.T N L z_) (fun (z_ : Int) => L57a.H N L z_) (fun (z_ : Int) => L57a.inv N L z_) (fun (z_ : Int) => L57a.mu N L z_) (fun (k_ : Nat) (z_ : Int) => L57a.N N L k_ z_) k_ z_ (L57a.T N L s_) h_ := LNextP.mk (Tm := (fun (z_ : Int) => L57a.T N L z_)) (Hp := (fun (z_ : Int) => L57a.H N L z_)) (inv := (fun (z_ : Int) => L57a.inv N L z_)) (mu := (fun (z_ : Int) => L57a.mu N L z_)) (l := (fun (k_ : Nat) (z_ : Int) => L57a.N N L k_ z_)) s_ h1 h2 h3 h4
theorem L57a.en (N : Nat) (L : Nat → List SD) {k_ : Nat} {z_ : Int} {h_ : AHeap} (o_ : L57a.O) (h3 : L57a.N N L (k_ + 1) z_ = o_) (h4 : PopOk (L57a.H N L z_) h_ (L57a.X N L o_) (L57a.XH N L o_)) : LEndP (fun (z_ : Int) => L57a.H N L z_) (fun (k_ : Nat) (z_ : Int) => L57a.N N L k_ z_) L57a.E (L57a.X N L) (L57a.XH N L) k_ z_ (L57a.E o_) (L57a.X N L o_) h_ := LEndP.mk (Hp := (fun (z_ : Int) => L57a.H N L z_)) (l := (fun (k_ : Nat) (z_ : Int) => L57a.N N L k_ z_)) (oE := L57a.E) (oT := L57a.X N L) (oH := L57a.XH N L) o_ h3 h4
theorem L57a.spec (N : Nat) (hb : N ≤ 1000) (L : Nat → List SD) (hl : ∀ (k : Nat), (L k).length ≤ 10000) (k_ : Nat) (z_ : Int) (hi_ : L57a.inv N L z_) (hm_ : L57a.mu N L z_ < k_) : LoopTo Try.prog (loopN Try.f57 0) (L57a.T N L z_) (L57a.H N L z_) (L57a.E (L57a.N N L k_ z_)) (L57a.X N L (L57a.N N L k_ z_)) (L57a.XH N L (L57a.N N L k_ z_)) := by
  refine LoopTo.fuelP mix (fun (z_ : Int) => L57a.T N L z_) (fun (z_ : Int) => L57a.H N L z_) (fun (z_ : Int) => L57a.inv N L z_) (fun (z_ : Int) => L57a.mu N L z_) (fun (k_ : Nat) (z_ : Int) => L57a.N N L k_ z_) L57a.E (L57a.X N L) (L57a.XH N L) (others 32 [6, 7, 8]) (others 32 [2]) (others 32 []) ?_ k_ z_ hi_ hm_
  clear hm_ hi_ z_ k_
  intro k_ z_ hinv hmu
  revert hinv hmu; revert z_; intro a8 hinv hmu
  have hinv : 0 ≤ a8 ∧ (a8 ≤ (↑N : Int) ∨ a8 ≤ 0) := hinv
  have hmu : (((↑N : Int) - a8).toNat) < k_ + 1 := hmu
  cases h1 : decide (a8 < (↑N : Int)) with
  | true =>
    have h1p := of_decide_eq_true h1
    try have := bd_crs (by first | assumption | omega) (by first | assumption | omega)
    have o0 : (0 : Int) ≤ a8 := by omega
    have o1 : a8 < (↑N : Int) := by assumption
    have o2 : N ≤ (1000 : Nat) := by assumption
    have o3 : ∀ (k : Nat), (L k).length ≤ (10000 : Nat) := by assumption
    have o4 : a8 ≤ (↑N : Int) ∨ a8 ≤ (0 : Int) := by omega
    have o5 : decide (a8 < (↑N : Int)) = true := by assumption
    have o6 : (1 : Int) ≤ (↑(L a8.toNat).length : Int) ∨ (1 : Int) ≤ (1 : Int) := by omega
    cases h2 : L57ab.run L a8 1 with
    | e0 =>
      exact ⟨[.b true, .loop (others 32 [4, 5, 6, 7, 8]) (Exit.ret) (L57ab.X N L a8 L57ab.O.e0) (L57ab.XH N L a8 L57ab.O.e0)], kmp (by kernel_rfl) (Ai h1 (Ai (Ai o0 o1) (Ai (L57ab.e0 (N) o2 (L) o3 (a8) o0 o4 o5 o1 (1) (Ai (show (1 : Int) ≤ (1 : Int) by decide) o6) h2) (L57a.en N L (k_ := k_) (z_ := a8) (.e0 : L57a.O) (by simp only [L57a.N, h1, h2, cond_true, cond_false]) PopOk.same))))⟩
    | e1 =>
      try have := bd_crs (by first | assumption | omega) (by first | assumption | omega)
      try have := IntWalk.i64_in (a8 + 1) (by omega)
      have o7 : (0 : Int) ≤ IntKind.i64.wrap (a8 + (1 : Int)) := by omega
      have o8 : IntKind.i64.wrap (a8 + (1 : Int)) ≤ (↑N : Int) ∨ IntKind.i64.wrap (a8 + (1 : Int)) ≤ (0 : Int) := by omega
      have o9 : ((↑N : Int) - IntKind.i64.wrap (a8 + (1 : Int))).toNat < ((↑N : Int) - a8).toNat := by omega
      exact ⟨[.b true, .loop (others 32 [4, 5, 6, 7, 8]) (Exit.exit 2) (L57ab.X N L a8 L57ab.O.e1) (L57ab.XH N L a8 L57ab.O.e1)], kmp (by kernel_rfl) (Ai h1 (Ai (Ai o0 o1) (Ai (L57ab.e1 (N) o2 (L) o3 (a8) o0 o4 o5 o1 (1) (Ai (show (1 : Int) ≤ (1 : Int) by decide) o6) h2) (L57a.nx N L (k_ := k_) (z_ := a8) (IntKind.i64.wrap (a8 + 1)) (Ai o7 o8) o9 (by simp only [L57a.N, h1, h2, cond_true, cond_false]) PopOk.same))))⟩
  | false =>
    have h1p := of_decide_eq_false h1
    exact ⟨[.b false], kmp (by kernel_rfl) (Ai h1 (L57a.en N L (k_ := k_) (z_ := a8) (.e1 : L57a.O) (by simp only [L57a.N, h1, cond_true, cond_false]) PopOk.same))⟩
theorem L57a.e0 (N : Nat) (hb : N ≤ 1000) (L : Nat → List SD) (hl : ∀ (k : Nat), (L k).length ≤ 10000) (a8 : Int) (hinv : L57a.inv N L a8) (hN : L57a.run N L a8 = (.e0 : L57a.O)) : LoopTo Try.prog (loopN Try.f57 0) (L57a.T N L a8) (L57a.H N L a8) (Exit.ret) (L57a.X N L (.e0 : L57a.O)) (L57a.XH N L (.e0 : L57a.O)) := by
  have h_ := L57a.spec N hb L hl ((((↑N : Int) - a8).toNat) + 1) a8 hinv (Nat.lt_succ_self _)
  unfold L57a.run at hN
  simp only [hN] at h_
  exact h_
theorem L57a.e1 (N : Nat) (hb : N ≤ 1000) (L : Nat → List SD) (hl : ∀ (k : Nat), (L k).length ≤ 10000) (a8 : Int) (hinv : L57a.inv N L a8) (hN : L57a.run N L a8 = (.e1 : L57a.O)) : LoopTo Try.prog (loopN Try.f57 0) (L57a.T N L a8) (L57a.H N L a8) (Exit.exit 0) (L57a.X N L (.e1 : L57a.O)) (L57a.XH N L (.e1 : L57a.O)) := by
  have h_ := L57a.spec N hb L hl ((((↑N : Int) - a8).toNat) + 1) a8 hinv (Nat.lt_succ_self _)
  unfold L57a.run at hN
  simp only [hN] at h_
  exact h_
noncomputable def r57.v (N : Nat) (L : Nat → List SD) : Bool := (match L57a.run N L 0 with | .e0 => true | .e1 => false )
theorem r57 (N : Nat) (hb : N ≤ 1000) (L : Nat → List SD) (hl : ∀ (k : Nat), (L k).length ≤ 10000) (h : AHeap) : Ret Try.prog 57 ([nsts N L]) h (AV.bool (r57.v N L)) h := by
  try have := bd_crs (by first | assumption | omega) (by first | assumption | omega)
  have o0 : N ≤ (1000 : Nat) := by assumption
  have o1 : ∀ (k : Nat), (L k).length ≤ (10000 : Nat) := by assumption
  have o2 : (0 : Int) ≤ (↑N : Int) ∨ (0 : Int) ≤ (0 : Int) := by omega
  cases h1 : L57a.run N L 0 with
  | e0 =>
    exact Ret.of_run1 mix [(AV.bool (r57.v N L))] Try.func57 rfl [.loop (others 32 [6, 7, 8]) (Exit.ret) (L57a.X N L L57a.O.e0) (L57a.XH N L L57a.O.e0)] (by simp) (by simp) (kmp (by kernel_rfl) (Ai (L57a.e0 (N) o0 (L) o1 (0) (Ai (show (0 : Int) ≤ (0 : Int) by decide) o2) h1) (Ai (show (AV.bool true) = ((AV.bool (r57.v N L))) by simp only [r57.v, h1, cond_true, cond_false]) trivial))) h
  | e1 =>
    exact Ret.of_run1 mix [(AV.bool (r57.v N L))] Try.func57 rfl [.loop (others 32 [6, 7, 8]) (Exit.exit 0) (L57a.X N L L57a.O.e1) (L57a.XH N L L57a.O.e1)] (by simp) (by simp) (kmp (by kernel_rfl) (Ai (L57a.e1 (N) o0 (L) o1 (0) (Ai (show (0 : Int) ≤ (0 : Int) by decide) o2) h1) (Ai (show (AV.bool false) = ((AV.bool (r57.v N L))) by simp only [r57.v, h1, cond_true, cond_false]) trivial))) h
inductive L58ab.O where
  | e0
  | e1
noncomputable def L58ab.T (w : WD) (N : Nat) (L : Nat → List SD) (a10 : Int) (b7 : Int) : List AV := mkT 60 [(2, AV.ptr 0 1 6 0 0), (6, AV.sl 14 (L a10.toNat).length fun (q : Nat) => (SD.av ((L a10.toNat).getD q default))), (7, AV.int IntKind.i64 b7), (8, AV.sl 1 N fun (j : Nat) => AV.sl 14 (L j).length fun (q : Nat) => (SD.av ((L j).getD q default))), (9, AV.int IntKind.i64 (↑N : Int)), (10, AV.int IntKind.i64 a10)]
noncomputable def L58ab.H (w : WD) (N : Nat) (L : Nat → List SD) (a10 : Int) (b7 : Int) : AHeap := [AObj.var (WD.av w)]
def L58ab.inv (w : WD) (N : Nat) (L : Nat → List SD) (a10 : Int) (b7 : Int) : Prop := 1 ≤ b7 ∧ (b7 ≤ (↑(L a10.toNat).length : Int) ∨ b7 ≤ 1)
noncomputable def L58ab.mu (w : WD) (N : Nat) (L : Nat → List SD) (a10 : Int) (b7 : Int) : Nat := ((↑(L a10.toNat).length : Int) - b7).toNat
noncomputable def L58ab.E : L58ab.O → Exit
  | .e0 => Exit.ret
  | .e1 => Exit.exit 2
noncomputable def L58ab.X (w : WD) (N : Nat) (L : Nat → List SD) (a10 : Int) : L58ab.O → List AV
  | .e0 => mkT 60 [(4, (AV.bool false))]
  | .e1 => mkT 60 [(2, (AV.ptr 0 1 6 0 0)), (8, (AV.sl 1 N fun (j : Nat) => AV.sl 14 (L j).length fun (q : Nat) => (SD.av ((L j).getD q default)))), (9, (AV.int IntKind.i64 (↑N : Int))), (10, (AV.int IntKind.i64 a10))]
noncomputable def L58ab.XH (w : WD) (N : Nat) (L : Nat → List SD) (a10 : Int) : L58ab.O → AHeap
  | .e0 => ([AObj.var (WD.av w)])
  | .e1 => ([AObj.var (WD.av w)])
noncomputable def L58ab.N (w : WD) (L : Nat → List SD) (a10 : Int) : Nat → Int → L58ab.O
  | 0, _ => .e0
  | k_ + 1, b7 => (bif decide (b7 < (↑(L a10.toNat).length : Int)) then (bif r51.v (IntKind.i64.wrap (((L a10.toNat).getD b7.toNat default).ax - r61.v ((L a10.toNat).getD (IntKind.i64.wrap (b7 - 1)).toNat default))) w.jl w.jh then (L58ab.N w L a10 k_ (IntKind.i64.wrap (b7 + 1))) else (.e0)) else (.e1))
noncomputable def L58ab.run (w : WD) (L : Nat → List SD) (a10 : Int) (b7 : Int) : L58ab.O := L58ab.N w L a10 ((((↑(L a10.toNat).length : Int) - b7).toNat) + 1) b7
theorem L58ab.nx (w : WD) (N : Nat) (L : Nat → List SD) (a10 : Int) {k_ : Nat} {z_ : Int} {h_ : AHeap} (s_ : Int) (h1 : L58ab.inv w N L a10 s_) (h2 : L58ab.mu w N L a10 s_ < L58ab.mu w N L a10 z_) (h3 : L58ab.N w L a10 k_ s_ = L58ab.N w L a10 (k_ + 1) z_) (h4 : PopOk (L58ab.H w N L a10 z_) h_ (L58ab.T w N L a10 s_) (L58ab.H w N L a10 s_)) : LNextP (fun (z_ : Int) => L58ab.T w N L a10 z_) (fun (z_ : Int) => L58ab.H w N L a10 z_) (fun (z_ : Int) => L58ab.inv w N L a10 z_) (fun (z_ : Int) => L58ab.mu w N L a10 z_) (fun (k_ : Nat) (z_ : Int) => L58ab.N w L a10 k_ z_) k_ z_ (L58ab.T w N L a10 s_) h_ := LNextP.mk (Tm := (fun (z_ : Int) => L58ab.T w N L a10 z_)) (Hp := (fun (z_ : Int) => L58ab.H w N L a10 z_)) (inv := (fun (z_ : Int) => L58ab.inv w N L a10 z_)) (mu := (fun (z_ : Int) => L58ab.mu w N L a10 z_)) (l := (fun (k_ : Nat) (z_ : Int) => L58ab.N w L a10 k_ z_)) s_ h1 h2 h3 h4
theorem L58ab.en (w : WD) (N : Nat) (L : Nat → List SD) (a10 : Int) {k_ : Nat} {z_ : Int} {h_ : AHeap} (o_ : L58ab.O) (h3 : L58ab.N w L a10 (k_ + 1) z_ = o_) (h4 : PopOk (L58ab.H w N L a10 z_) h_ (L58ab.X w N L a10 o_) (L58ab.XH w N L a10 o_)) : LEndP (fun (z_ : Int) => L58ab.H w N L a10 z_) (fun (k_ : Nat) (z_ : Int) => L58ab.N w L a10 k_ z_) L58ab.E (L58ab.X w N L a10) (L58ab.XH w N L a10) k_ z_ (L58ab.E o_) (L58ab.X w N L a10 o_) h_ := LEndP.mk (Hp := (fun (z_ : Int) => L58ab.H w N L a10 z_)) (l := (fun (k_ : Nat) (z_ : Int) => L58ab.N w L a10 k_ z_)) (oE := L58ab.E) (oT := L58ab.X w N L a10) (oH := L58ab.XH w N L a10) o_ h3 h4
noncomputable abbrev L58ab.h0 (w : WD) (N : Nat) (L : Nat → List SD) (a10 : Int) (b7 : Int) : AHeap := ([AObj.var (WD.av w)])
theorem L58ab.spec (w : WD) (N : Nat) (hb : N ≤ 1000) (L : Nat → List SD) (hl : ∀ (k : Nat), (L k).length ≤ 10000) (hne : ∀ (k : Nat), k < N → 0 < (L k).length) (a10 : Int) (i58a_0 : 0 ≤ a10) (i58a_1 : a10 ≤ (↑N : Int) ∨ a10 ≤ 0) (k1_1 : decide (a10 < (↑N : Int)) = true) (p1_1 : a10 < (↑N : Int)) (k1_2 : (((L a10.toNat).getD 0 default).ax == 0) = true) (p1_2 : ((L a10.toNat).getD 0 default).ax = 0) (k1_3 : (r61.v ((L a10.toNat).getD (IntKind.i64.wrap ((↑(L a10.toNat).length : Int) - 1)).toNat default) == w.len) = true) (p1_3 : r61.v ((L a10.toNat).getD (IntKind.i64.wrap ((↑(L a10.toNat).length : Int) - 1)).toNat default) = w.len) (k_ : Nat) (z_ : Int) (hi_ : L58ab.inv w N L a10 z_) (hm_ : L58ab.mu w N L a10 z_ < k_) : LoopTo Try.prog (loopN Try.f58 1) (L58ab.T w N L a10 z_) (L58ab.H w N L a10 z_) (L58ab.E (L58ab.N w L a10 k_ z_)) (L58ab.X w N L a10 (L58ab.N w L a10 k_ z_)) (L58ab.XH w N L a10 (L58ab.N w L a10 k_ z_)) := by
  refine LoopTo.fuelP mix (fun (z_ : Int) => L58ab.T w N L a10 z_) (fun (z_ : Int) => L58ab.H w N L a10 z_) (fun (z_ : Int) => L58ab.inv w N L a10 z_) (fun (z_ : Int) => L58ab.mu w N L a10 z_) (fun (k_ : Nat) (z_ : Int) => L58ab.N w L a10 k_ z_) L58ab.E (L58ab.X w N L a10) (L58ab.XH w N L a10) (others 60 [2, 6, 7, 8, 9, 10]) (others 60 [4]) (others 60 [2, 8, 9, 10]) ?_ k_ z_ hi_ hm_
  clear hm_ hi_ z_ k_
  intro k_ z_ hinv hmu
  revert hinv hmu; revert z_; intro b7 hinv hmu
  have hinv : 1 ≤ b7 ∧ (b7 ≤ (↑(L a10.toNat).length : Int) ∨ b7 ≤ 1) := hinv
  have hmu : (((↑(L a10.toNat).length : Int) - b7).toNat) < k_ + 1 := hmu
  cases h1 : decide (b7 < (↑(L a10.toNat).length : Int)) with
  | true =>
    have h1p := of_decide_eq_true h1
    try have := bd_crs (by assumption) (by assumption)
    have o0 : (0 : Int) ≤ b7 := by omega
    have o1 : b7 < (↑(L a10.toNat).length : Int) := by assumption
    try have := IntWalk.i64_in (b7 - 1) (by omega)
    have o2 : (0 : Int) ≤ IntKind.i64.wrap (b7 - (1 : Int)) := by omega
    have o3 : IntKind.i64.wrap (b7 - (1 : Int)) < (↑(L a10.toNat).length : Int) := by omega
    cases h2 : r51.v (IntKind.i64.wrap (((L a10.toNat).getD b7.toNat default).ax - r61.v ((L a10.toNat).getD (IntKind.i64.wrap (b7 - 1)).toNat default))) w.jl w.jh with
    | true =>
      try have := bd_crs (by assumption) (by assumption)
      try have := IntWalk.i64_in (b7 + 1) (by omega)
      have o4 : (1 : Int) ≤ IntKind.i64.wrap (b7 + (1 : Int)) := by omega
      have o5 : IntKind.i64.wrap (b7 + (1 : Int)) ≤ (↑(L a10.toNat).length : Int) ∨ IntKind.i64.wrap (b7 + (1 : Int)) ≤ (1 : Int) := by omega
      have o6 : ((↑(L a10.toNat).length : Int) - IntKind.i64.wrap (b7 + (1 : Int))).toNat < ((↑(L a10.toNat).length : Int) - b7).toNat := by omega
      exact ⟨[.b true, .ret (AV.int IntKind.i64 (r61.v ((L a10.toNat).getD (IntKind.i64.wrap (b7 - 1)).toNat default))) (L58ab.h0 w N L a10 b7), .ret (AV.bool (r51.v (IntKind.i64.wrap (((L a10.toNat).getD b7.toNat default).ax - r61.v ((L a10.toNat).getD (IntKind.i64.wrap (b7 - 1)).toNat default))) w.jl w.jh)) (L58ab.h0 w N L a10 b7), .b false], kmp (by kernel_rfl) (Ai h1 (Ai (Ai o0 o1) (Ai (Ai o2 o3) (Ai (r61 ((L a10.toNat).getD (IntKind.i64.wrap (b7 - 1)).toNat default) (L58ab.h0 w N L a10 b7)) (Ai (r51 (IntKind.i64.wrap (((L a10.toNat).getD b7.toNat default).ax - r61.v ((L a10.toNat).getD (IntKind.i64.wrap (b7 - 1)).toNat default))) (w.jl) (w.jh) (L58ab.h0 w N L a10 b7)) (Ai (show (bnot (r51.v (IntKind.i64.wrap (((L a10.toNat).getD b7.toNat default).ax - r61.v ((L a10.toNat).getD (IntKind.i64.wrap (b7 - 1)).toNat default))) w.jl w.jh)) = false by rw [h2]; try rfl) (L58ab.nx w N L a10 (k_ := k_) (z_ := b7) (IntKind.i64.wrap (b7 + 1)) (Ai o4 o5) o6 (by simp only [L58ab.N, h1, h2, cond_true, cond_false]) PopOk.same)))))))⟩
    | false =>
      exact ⟨[.b true, .ret (AV.int IntKind.i64 (r61.v ((L a10.toNat).getD (IntKind.i64.wrap (b7 - 1)).toNat default))) (L58ab.h0 w N L a10 b7), .ret (AV.bool (r51.v (IntKind.i64.wrap (((L a10.toNat).getD b7.toNat default).ax - r61.v ((L a10.toNat).getD (IntKind.i64.wrap (b7 - 1)).toNat default))) w.jl w.jh)) (L58ab.h0 w N L a10 b7), .b true], kmp (by kernel_rfl) (Ai h1 (Ai (Ai o0 o1) (Ai (Ai o2 o3) (Ai (r61 ((L a10.toNat).getD (IntKind.i64.wrap (b7 - 1)).toNat default) (L58ab.h0 w N L a10 b7)) (Ai (r51 (IntKind.i64.wrap (((L a10.toNat).getD b7.toNat default).ax - r61.v ((L a10.toNat).getD (IntKind.i64.wrap (b7 - 1)).toNat default))) (w.jl) (w.jh) (L58ab.h0 w N L a10 b7)) (Ai (show (bnot (r51.v (IntKind.i64.wrap (((L a10.toNat).getD b7.toNat default).ax - r61.v ((L a10.toNat).getD (IntKind.i64.wrap (b7 - 1)).toNat default))) w.jl w.jh)) = true by rw [h2]; try rfl) (L58ab.en w N L a10 (k_ := k_) (z_ := b7) (.e0 : L58ab.O) (by simp only [L58ab.N, h1, h2, cond_true, cond_false]) PopOk.same)))))))⟩
  | false =>
    have h1p := of_decide_eq_false h1
    exact ⟨[.b false], kmp (by kernel_rfl) (Ai h1 (L58ab.en w N L a10 (k_ := k_) (z_ := b7) (.e1 : L58ab.O) (by simp only [L58ab.N, h1, cond_true, cond_false]) PopOk.same))⟩
theorem L58ab.e0 (w : WD) (N : Nat) (hb : N ≤ 1000) (L : Nat → List SD) (hl : ∀ (k : Nat), (L k).length ≤ 10000) (hne : ∀ (k : Nat), k < N → 0 < (L k).length) (a10 : Int) (i58a_0 : 0 ≤ a10) (i58a_1 : a10 ≤ (↑N : Int) ∨ a10 ≤ 0) (k1_1 : decide (a10 < (↑N : Int)) = true) (p1_1 : a10 < (↑N : Int)) (k1_2 : (((L a10.toNat).getD 0 default).ax == 0) = true) (p1_2 : ((L a10.toNat).getD 0 default).ax = 0) (k1_3 : (r61.v ((L a10.toNat).getD (IntKind.i64.wrap ((↑(L a10.toNat).length : Int) - 1)).toNat default) == w.len) = true) (p1_3 : r61.v ((L a10.toNat).getD (IntKind.i64.wrap ((↑(L a10.toNat).length : Int) - 1)).toNat default) = w.len) (b7 : Int) (hinv : L58ab.inv w N L a10 b7) (hN : L58ab.run w L a10 b7 = (.e0 : L58ab.O)) : LoopTo Try.prog (loopN Try.f58 1) (L58ab.T w N L a10 b7) (L58ab.H w N L a10 b7) (Exit.ret) (L58ab.X w N L a10 (.e0 : L58ab.O)) (L58ab.XH w N L a10 (.e0 : L58ab.O)) := by
  have h_ := L58ab.spec w N hb L hl hne a10 i58a_0 i58a_1 k1_1 p1_1 k1_2 p1_2 k1_3 p1_3 ((((↑(L a10.toNat).length : Int) - b7).toNat) + 1) b7 hinv (Nat.lt_succ_self _)
  unfold L58ab.run at hN
  simp only [hN] at h_
  exact h_
theorem L58ab.e1 (w : WD) (N : Nat) (hb : N ≤ 1000) (L : Nat → List SD) (hl : ∀ (k : Nat), (L k).length ≤ 10000) (hne : ∀ (k : Nat), k < N → 0 < (L k).length) (a10 : Int) (i58a_0 : 0 ≤ a10) (i58a_1 : a10 ≤ (↑N : Int) ∨ a10 ≤ 0) (k1_1 : decide (a10 < (↑N : Int)) = true) (p1_1 : a10 < (↑N : Int)) (k1_2 : (((L a10.toNat).getD 0 default).ax == 0) = true) (p1_2 : ((L a10.toNat).getD 0 default).ax = 0) (k1_3 : (r61.v ((L a10.toNat).getD (IntKind.i64.wrap ((↑(L a10.toNat).length : Int) - 1)).toNat default) == w.len) = true) (p1_3 : r61.v ((L a10.toNat).getD (IntKind.i64.wrap ((↑(L a10.toNat).length : Int) - 1)).toNat default) = w.len) (b7 : Int) (hinv : L58ab.inv w N L a10 b7) (hN : L58ab.run w L a10 b7 = (.e1 : L58ab.O)) : LoopTo Try.prog (loopN Try.f58 1) (L58ab.T w N L a10 b7) (L58ab.H w N L a10 b7) (Exit.exit 2) (L58ab.X w N L a10 (.e1 : L58ab.O)) (L58ab.XH w N L a10 (.e1 : L58ab.O)) := by
  have h_ := L58ab.spec w N hb L hl hne a10 i58a_0 i58a_1 k1_1 p1_1 k1_2 p1_2 k1_3 p1_3 ((((↑(L a10.toNat).length : Int) - b7).toNat) + 1) b7 hinv (Nat.lt_succ_self _)
  unfold L58ab.run at hN
  simp only [hN] at h_
  exact h_
inductive L58a.O where
  | e0
  | e1
noncomputable def L58a.T (w : WD) (N : Nat) (L : Nat → List SD) (a10 : Int) : List AV := mkT 60 [(2, AV.ptr 0 1 6 0 0), (8, AV.sl 1 N fun (j : Nat) => AV.sl 14 (L j).length fun (q : Nat) => (SD.av ((L j).getD q default))), (9, AV.int IntKind.i64 (↑N : Int)), (10, AV.int IntKind.i64 a10)]
noncomputable def L58a.H (w : WD) (N : Nat) (L : Nat → List SD) (a10 : Int) : AHeap := [AObj.var (WD.av w)]
def L58a.inv (w : WD) (N : Nat) (L : Nat → List SD) (a10 : Int) : Prop := 0 ≤ a10 ∧ (a10 ≤ (↑N : Int) ∨ a10 ≤ 0)
noncomputable def L58a.mu (w : WD) (N : Nat) (L : Nat → List SD) (a10 : Int) : Nat := ((↑N : Int) - a10).toNat
noncomputable def L58a.E : L58a.O → Exit
  | .e0 => Exit.ret
  | .e1 => Exit.exit 0
noncomputable def L58a.X (w : WD) (N : Nat) (L : Nat → List SD) : L58a.O → List AV
  | .e0 => mkT 60 [(4, (AV.bool false))]
  | .e1 => mkT 60 []
noncomputable def L58a.XH (w : WD) (N : Nat) (L : Nat → List SD) : L58a.O → AHeap
  | .e0 => ([AObj.var (WD.av w)])
  | .e1 => ([AObj.var (WD.av w)])
noncomputable def L58a.N (w : WD) (N : Nat) (L : Nat → List SD) : Nat → Int → L58a.O
  | 0, _ => .e0
  | k_ + 1, a10 => (bif decide (a10 < (↑N : Int)) then (bif ((L a10.toNat).getD 0 default).ax == 0 then (bif r61.v ((L a10.toNat).getD (IntKind.i64.wrap ((↑(L a10.toNat).length : Int) - 1)).toNat default) == w.len then (match L58ab.run w L a10 1 with | .e0 => (.e0) | .e1 => (L58a.N w N L k_ (IntKind.i64.wrap (a10 + 1))) ) else (.e0)) else (.e0)) else (.e1))
noncomputable def L58a.run (w : WD) (N : Nat) (L : Nat → List SD) (a10 : Int) : L58a.O := L58a.N w N L ((((↑N : Int) - a10).toNat) + 1) a10
theorem L58a.nx (w : WD) (N : Nat) (L : Nat → List SD) {k_ : Nat} {z_ : Int} {h_ : AHeap} (s_ : Int) (h1 : L58a.inv w N L s_) (h2 : L58a.mu w N L s_ < L58a.mu w N L z_) (h3 : L58a.N w N L k_ s_ = L58a.N w N L (k_ + 1) z_) (h4 : PopOk (L58a.H w N L z_) h_ (L58a.T w N L s_) (L58a.H w N L s_)) : LNextP (fun (z_ : Int) => L58a.T w N L z_) (fun (z_ : Int) => L58a.H w N L z_) (fun (z_ : Int) => L58a.inv w N L z_) (fun (z_ : Int) => L58a.mu w N L z_) (fun (k_ : Nat) (z_ : Int) => L58a.N w N L k_ z_) k_ z_ (L58a.T w N L s_) h_ := LNextP.mk (Tm := (fun (z_ : Int) => L58a.T w N L z_)) (Hp := (fun (z_ : Int) => L58a.H w N L z_)) (inv := (fun (z_ : Int) => L58a.inv w N L z_)) (mu := (fun (z_ : Int) => L58a.mu w N L z_)) (l := (fun (k_ : Nat) (z_ : Int) => L58a.N w N L k_ z_)) s_ h1 h2 h3 h4
theorem L58a.en (w : WD) (N : Nat) (L : Nat → List SD) {k_ : Nat} {z_ : Int} {h_ : AHeap} (o_ : L58a.O) (h3 : L58a.N w N L (k_ + 1) z_ = o_) (h4 : PopOk (L58a.H w N L z_) h_ (L58a.X w N L o_) (L58a.XH w N L o_)) : LEndP (fun (z_ : Int) => L58a.H w N L z_) (fun (k_ : Nat) (z_ : Int) => L58a.N w N L k_ z_) L58a.E (L58a.X w N L) (L58a.XH w N L) k_ z_ (L58a.E o_) (L58a.X w N L o_) h_ := LEndP.mk (Hp := (fun (z_ : Int) => L58a.H w N L z_)) (l := (fun (k_ : Nat) (z_ : Int) => L58a.N w N L k_ z_)) (oE := L58a.E) (oT := L58a.X w N L) (oH := L58a.XH w N L) o_ h3 h4
noncomputable abbrev L58a.h0 (w : WD) (N : Nat) (L : Nat → List SD) (a10 : Int) : AHeap := ([AObj.var (WD.av w)])
theorem L58a.spec (w : WD) (N : Nat) (hb : N ≤ 1000) (L : Nat → List SD) (hl : ∀ (k : Nat), (L k).length ≤ 10000) (hne : ∀ (k : Nat), k < N → 0 < (L k).length) (k_ : Nat) (z_ : Int) (hi_ : L58a.inv w N L z_) (hm_ : L58a.mu w N L z_ < k_) : LoopTo Try.prog (loopN Try.f58 0) (L58a.T w N L z_) (L58a.H w N L z_) (L58a.E (L58a.N w N L k_ z_)) (L58a.X w N L (L58a.N w N L k_ z_)) (L58a.XH w N L (L58a.N w N L k_ z_)) := by
  refine LoopTo.fuelP mix (fun (z_ : Int) => L58a.T w N L z_) (fun (z_ : Int) => L58a.H w N L z_) (fun (z_ : Int) => L58a.inv w N L z_) (fun (z_ : Int) => L58a.mu w N L z_) (fun (k_ : Nat) (z_ : Int) => L58a.N w N L k_ z_) L58a.E (L58a.X w N L) (L58a.XH w N L) (others 60 [2, 8, 9, 10]) (others 60 [4]) (others 60 []) ?_ k_ z_ hi_ hm_
  clear hm_ hi_ z_ k_
  intro k_ z_ hinv hmu
  revert hinv hmu; revert z_; intro a10 hinv hmu
  have hinv : 0 ≤ a10 ∧ (a10 ≤ (↑N : Int) ∨ a10 ≤ 0) := hinv
  have hmu : (((↑N : Int) - a10).toNat) < k_ + 1 := hmu
  cases h1 : decide (a10 < (↑N : Int)) with
  | true =>
    have h1p := of_decide_eq_true h1
    try have := bd_crs (by first | assumption | omega) (by first | assumption | omega)
    have o0 : (0 : Int) ≤ a10 := by omega
    have o1 : a10 < (↑N : Int) := by assumption
    have o2 : (0 : Int) < (↑(L a10.toNat).length : Int) := by first | assumption | omega | (simp only [List.length_append, List.length_cons, List.length_nil, List.length_map]; omega) | (apply len_pos <;> first | assumption | omega) | (exact hl _) | (exact hl _ (by omega)) | (exact hne _) | (exact hne _ (by omega)) | (simp_all; done)
    cases h2 : ((L a10.toNat).getD 0 default).ax == 0 with
    | true =>
      have h2p := eq_of_beq h2
      try have := bd_crs (by assumption) (by assumption)
      try have := IntWalk.i64_in ((↑(L a10.toNat).length : Int) - 1) (by omega)
      have o3 : (0 : Int) ≤ IntKind.i64.wrap ((↑(L a10.toNat).length : Int) - (1 : Int)) := by first | assumption | omega | (simp only [List.length_append, List.length_cons, List.length_nil, List.length_map]; omega) | (apply last_lo <;> first | assumption | omega) | (exact hl _) | (exact hl _ (by omega)) | (exact hne _) | (exact hne _ (by omega)) | (simp_all; done)
      have o4 : IntKind.i64.wrap ((↑(L a10.toNat).length : Int) - (1 : Int)) < (↑(L a10.toNat).length : Int) := by first | assumption | omega | (simp only [List.length_append, List.length_cons, List.length_nil, List.length_map]; omega) | (apply last_hi <;> first | assumption | omega) | (exact hl _) | (exact hl _ (by omega)) | (exact hne _) | (exact hne _ (by omega)) | (simp_all; done)
      cases h3 : r61.v ((L a10.toNat).getD (IntKind.i64.wrap ((↑(L a10.toNat).length : Int) - 1)).toNat default) == w.len with
      | true =>
        have h3p := eq_of_beq h3
        try have := bd_crs (by assumption) (by assumption)
        have o5 : N ≤ (1000 : Nat) := by assumption
        have o6 : ∀ (k : Nat), (L k).length ≤ (10000 : Nat) := by assumption
        have o7 : ∀ (k : Nat), k < N → (0 : Nat) < (L k).length := by assumption
        have o8 : a10 ≤ (↑N : Int) ∨ a10 ≤ (0 : Int) := by omega
        have o9 : decide (a10 < (↑N : Int)) = true := by assumption
        have o10 : (((L a10.toNat).getD (0 : Nat) default).ax == (0 : Int)) = true := by assumption
        have o11 : ((L a10.toNat).getD (0 : Nat) default).ax = (0 : Int) := by assumption
        try have := IntWalk.i64_in ((↑(L a10.toNat).length : Int) - 1) (by omega)
        have o12 : (r61.v ((L a10.toNat).getD (IntKind.i64.wrap ((↑(L a10.toNat).length : Int) - (1 : Int))).toNat default) == w.len) = true := by assumption
        have o13 : r61.v ((L a10.toNat).getD (IntKind.i64.wrap ((↑(L a10.toNat).length : Int) - (1 : Int))).toNat default) = w.len := by assumption
        have o14 : (1 : Int) ≤ (↑(L a10.toNat).length : Int) ∨ (1 : Int) ≤ (1 : Int) := by omega
        cases h4 : L58ab.run w L a10 1 with
        | e0 =>
          exact ⟨[.b true, .b false, .b false, .b false, .b false, .b false, .b false, .b false, .ret (AV.int IntKind.i64 (r61.v ((L a10.toNat).getD (IntKind.i64.wrap ((↑(L a10.toNat).length : Int) - 1)).toNat default))) (L58a.h0 w N L a10), .b false, .b false, .b false, .b false, .b false, .loop (others 60 [2, 6, 7, 8, 9, 10]) (Exit.ret) (L58ab.X w N L a10 L58ab.O.e0) (L58ab.XH w N L a10 L58ab.O.e0)], kmp (by kernel_rfl) (Ai h1 (Ai (Ai o0 o1) (Ai (Ai (show (0 : Int) ≤ (0 : Int) by decide) o2) (Ai (show (bnot (((L a10.toNat).getD 0 default).ax == 0)) = false by rw [h2]; try rfl) (Ai (show (bnot (((L a10.toNat).getD 0 default).ax == 0)) = false by rw [h2]; try rfl) (Ai (show (bnot (((L a10.toNat).getD 0 default).ax == 0)) = false by rw [h2]; try rfl) (Ai (show (bnot (((L a10.toNat).getD 0 default).ax == 0)) = false by rw [h2]; try rfl) (Ai (show (bnot (((L a10.toNat).getD 0 default).ax == 0)) = false by rw [h2]; try rfl) (Ai (Ai o3 o4) (Ai (show (bnot (((L a10.toNat).getD 0 default).ax == 0)) = false by rw [h2]; try rfl) (Ai (show (bnot (((L a10.toNat).getD 0 default).ax == 0)) = false by rw [h2]; try rfl) (Ai (r61 ((L a10.toNat).getD (IntKind.i64.wrap ((↑(L a10.toNat).length : Int) - 1)).toNat default) (L58a.h0 w N L a10)) (Ai (show (bnot (((L a10.toNat).getD 0 default).ax == 0)) = false by rw [h2]; try rfl) (Ai (show (bnot (((L a10.toNat).getD 0 default).ax == 0)) = false by rw [h2]; try rfl) (Ai (show (bnot (((L a10.toNat).getD 0 default).ax == 0)) = false by rw [h2]; try rfl) (Ai (show (bnot (((L a10.toNat).getD 0 default).ax == 0)) = false by rw [h2]; try rfl) (Ai (show (bnot (r61.v ((L a10.toNat).getD (IntKind.i64.wrap ((↑(L a10.toNat).length : Int) - 1)).toNat default) == w.len)) = false by rw [h3]; try rfl) (Ai (L58ab.e0 (w) (N) o5 (L) o6 o7 (a10) o0 o8 o9 o1 o10 o11 o12 o13 (1) (Ai (show (1 : Int) ≤ (1 : Int) by decide) o14) h4) (L58a.en w N L (k_ := k_) (z_ := a10) (.e0 : L58a.O) (by simp only [L58a.N, h1, h2, h3, h4, cond_true, cond_false]) PopOk.same)))))))))))))))))))⟩
        | e1 =>
          try have := bd_crs (by assumption) (by assumption)
          try have := IntWalk.i64_in (a10 + 1) (by omega)
          have o15 : (0 : Int) ≤ IntKind.i64.wrap (a10 + (1 : Int)) := by omega
          have o16 : IntKind.i64.wrap (a10 + (1 : Int)) ≤ (↑N : Int) ∨ IntKind.i64.wrap (a10 + (1 : Int)) ≤ (0 : Int) := by omega
          have o17 : ((↑N : Int) - IntKind.i64.wrap (a10 + (1 : Int))).toNat < ((↑N : Int) - a10).toNat := by omega
          exact ⟨[.b true, .b false, .b false, .b false, .b false, .b false, .b false, .b false, .ret (AV.int IntKind.i64 (r61.v ((L a10.toNat).getD (IntKind.i64.wrap ((↑(L a10.toNat).length : Int) - 1)).toNat default))) (L58a.h0 w N L a10), .b false, .b false, .b false, .b false, .b false, .loop (others 60 [2, 6, 7, 8, 9, 10]) (Exit.exit 2) (L58ab.X w N L a10 L58ab.O.e1) (L58ab.XH w N L a10 L58ab.O.e1)], kmp (by kernel_rfl) (Ai h1 (Ai (Ai o0 o1) (Ai (Ai (show (0 : Int) ≤ (0 : Int) by decide) o2) (Ai (show (bnot (((L a10.toNat).getD 0 default).ax == 0)) = false by rw [h2]; try rfl) (Ai (show (bnot (((L a10.toNat).getD 0 default).ax == 0)) = false by rw [h2]; try rfl) (Ai (show (bnot (((L a10.toNat).getD 0 default).ax == 0)) = false by rw [h2]; try rfl) (Ai (show (bnot (((L a10.toNat).getD 0 default).ax == 0)) = false by rw [h2]; try rfl) (Ai (show (bnot (((L a10.toNat).getD 0 default).ax == 0)) = false by rw [h2]; try rfl) (Ai (Ai o3 o4) (Ai (show (bnot (((L a10.toNat).getD 0 default).ax == 0)) = false by rw [h2]; try rfl) (Ai (show (bnot (((L a10.toNat).getD 0 default).ax == 0)) = false by rw [h2]; try rfl) (Ai (r61 ((L a10.toNat).getD (IntKind.i64.wrap ((↑(L a10.toNat).length : Int) - 1)).toNat default) (L58a.h0 w N L a10)) (Ai (show (bnot (((L a10.toNat).getD 0 default).ax == 0)) = false by rw [h2]; try rfl) (Ai (show (bnot (((L a10.toNat).getD 0 default).ax == 0)) = false by rw [h2]; try rfl) (Ai (show (bnot (((L a10.toNat).getD 0 default).ax == 0)) = false by rw [h2]; try rfl) (Ai (show (bnot (((L a10.toNat).getD 0 default).ax == 0)) = false by rw [h2]; try rfl) (Ai (show (bnot (r61.v ((L a10.toNat).getD (IntKind.i64.wrap ((↑(L a10.toNat).length : Int) - 1)).toNat default) == w.len)) = false by rw [h3]; try rfl) (Ai (L58ab.e1 (w) (N) o5 (L) o6 o7 (a10) o0 o8 o9 o1 o10 o11 o12 o13 (1) (Ai (show (1 : Int) ≤ (1 : Int) by decide) o14) h4) (L58a.nx w N L (k_ := k_) (z_ := a10) (IntKind.i64.wrap (a10 + 1)) (Ai o15 o16) o17 (by simp only [L58a.N, h1, h2, h3, h4, cond_true, cond_false]) PopOk.same)))))))))))))))))))⟩
      | false =>
        have h3p := ne_of_beq_false h3
        exact ⟨[.b true, .b false, .b false, .b false, .b false, .b false, .b false, .b false, .ret (AV.int IntKind.i64 (r61.v ((L a10.toNat).getD (IntKind.i64.wrap ((↑(L a10.toNat).length : Int) - 1)).toNat default))) (L58a.h0 w N L a10), .b false, .b false, .b false, .b false, .b true], kmp (by kernel_rfl) (Ai h1 (Ai (Ai o0 o1) (Ai (Ai (show (0 : Int) ≤ (0 : Int) by decide) o2) (Ai (show (bnot (((L a10.toNat).getD 0 default).ax == 0)) = false by rw [h2]; try rfl) (Ai (show (bnot (((L a10.toNat).getD 0 default).ax == 0)) = false by rw [h2]; try rfl) (Ai (show (bnot (((L a10.toNat).getD 0 default).ax == 0)) = false by rw [h2]; try rfl) (Ai (show (bnot (((L a10.toNat).getD 0 default).ax == 0)) = false by rw [h2]; try rfl) (Ai (show (bnot (((L a10.toNat).getD 0 default).ax == 0)) = false by rw [h2]; try rfl) (Ai (Ai o3 o4) (Ai (show (bnot (((L a10.toNat).getD 0 default).ax == 0)) = false by rw [h2]; try rfl) (Ai (show (bnot (((L a10.toNat).getD 0 default).ax == 0)) = false by rw [h2]; try rfl) (Ai (r61 ((L a10.toNat).getD (IntKind.i64.wrap ((↑(L a10.toNat).length : Int) - 1)).toNat default) (L58a.h0 w N L a10)) (Ai (show (bnot (((L a10.toNat).getD 0 default).ax == 0)) = false by rw [h2]; try rfl) (Ai (show (bnot (((L a10.toNat).getD 0 default).ax == 0)) = false by rw [h2]; try rfl) (Ai (show (bnot (((L a10.toNat).getD 0 default).ax == 0)) = false by rw [h2]; try rfl) (Ai (show (bnot (((L a10.toNat).getD 0 default).ax == 0)) = false by rw [h2]; try rfl) (Ai (show (bnot (r61.v ((L a10.toNat).getD (IntKind.i64.wrap ((↑(L a10.toNat).length : Int) - 1)).toNat default) == w.len)) = true by rw [h3]; try rfl) (L58a.en w N L (k_ := k_) (z_ := a10) (.e0 : L58a.O) (by simp only [L58a.N, h1, h2, h3, cond_true, cond_false]) PopOk.same))))))))))))))))))⟩
    | false =>
      have h2p := ne_of_beq_false h2
      exact ⟨[.b true, .b true, .b true, .b true, .b true, .b true, .b true, .b true, .b true, .b true, .b true, .b true, .b true], kmp (by kernel_rfl) (Ai h1 (Ai (Ai o0 o1) (Ai (Ai (show (0 : Int) ≤ (0 : Int) by decide) o2) (Ai (show (bnot (((L a10.toNat).getD 0 default).ax == 0)) = true by rw [h2]; try rfl) (Ai (show (bnot (((L a10.toNat).getD 0 default).ax == 0)) = true by rw [h2]; try rfl) (Ai (show (bnot (((L a10.toNat).getD 0 default).ax == 0)) = true by rw [h2]; try rfl) (Ai (show (bnot (((L a10.toNat).getD 0 default).ax == 0)) = true by rw [h2]; try rfl) (Ai (show (bnot (((L a10.toNat).getD 0 default).ax == 0)) = true by rw [h2]; try rfl) (Ai (show (bnot (((L a10.toNat).getD 0 default).ax == 0)) = true by rw [h2]; try rfl) (Ai (show (bnot (((L a10.toNat).getD 0 default).ax == 0)) = true by rw [h2]; try rfl) (Ai (show (bnot (((L a10.toNat).getD 0 default).ax == 0)) = true by rw [h2]; try rfl) (Ai (show (bnot (((L a10.toNat).getD 0 default).ax == 0)) = true by rw [h2]; try rfl) (Ai (show (bnot (((L a10.toNat).getD 0 default).ax == 0)) = true by rw [h2]; try rfl) (Ai (show (bnot (((L a10.toNat).getD 0 default).ax == 0)) = true by rw [h2]; try rfl) (Ai (rfl : true = true) (L58a.en w N L (k_ := k_) (z_ := a10) (.e0 : L58a.O) (by simp only [L58a.N, h1, h2, cond_true, cond_false]) PopOk.same))))))))))))))))⟩
  | false =>
    have h1p := of_decide_eq_false h1
    exact ⟨[.b false], kmp (by kernel_rfl) (Ai h1 (L58a.en w N L (k_ := k_) (z_ := a10) (.e1 : L58a.O) (by simp only [L58a.N, h1, cond_true, cond_false]) PopOk.same))⟩
theorem L58a.e0 (w : WD) (N : Nat) (hb : N ≤ 1000) (L : Nat → List SD) (hl : ∀ (k : Nat), (L k).length ≤ 10000) (hne : ∀ (k : Nat), k < N → 0 < (L k).length) (a10 : Int) (hinv : L58a.inv w N L a10) (hN : L58a.run w N L a10 = (.e0 : L58a.O)) : LoopTo Try.prog (loopN Try.f58 0) (L58a.T w N L a10) (L58a.H w N L a10) (Exit.ret) (L58a.X w N L (.e0 : L58a.O)) (L58a.XH w N L (.e0 : L58a.O)) := by
  have h_ := L58a.spec w N hb L hl hne ((((↑N : Int) - a10).toNat) + 1) a10 hinv (Nat.lt_succ_self _)
  unfold L58a.run at hN
  simp only [hN] at h_
  exact h_
theorem L58a.e1 (w : WD) (N : Nat) (hb : N ≤ 1000) (L : Nat → List SD) (hl : ∀ (k : Nat), (L k).length ≤ 10000) (hne : ∀ (k : Nat), k < N → 0 < (L k).length) (a10 : Int) (hinv : L58a.inv w N L a10) (hN : L58a.run w N L a10 = (.e1 : L58a.O)) : LoopTo Try.prog (loopN Try.f58 0) (L58a.T w N L a10) (L58a.H w N L a10) (Exit.exit 0) (L58a.X w N L (.e1 : L58a.O)) (L58a.XH w N L (.e1 : L58a.O)) := by
  have h_ := L58a.spec w N hb L hl hne ((((↑N : Int) - a10).toNat) + 1) a10 hinv (Nat.lt_succ_self _)
  unfold L58a.run at hN
  simp only [hN] at h_
  exact h_
noncomputable def r58.v (w : WD) (N : Nat) (L : Nat → List SD) : Bool := (match L58a.run w N L 0 with | .e0 => false | .e1 => true )
theorem r58 (w : WD) (N : Nat) (hb : N ≤ 1000) (L : Nat → List SD) (hl : ∀ (k : Nat), (L k).length ≤ 10000) (hne : ∀ (k : Nat), k < N → 0 < (L k).length) (h : AHeap) : Ret Try.prog 58 ([w.av, nsts N L]) h (AV.bool (r58.v w N L)) h := by
  try have := bd_crs (by first | assumption | omega) (by first | assumption | omega)
  have o0 : N ≤ (1000 : Nat) := by assumption
  have o1 : ∀ (k : Nat), (L k).length ≤ (10000 : Nat) := by assumption
  have o2 : ∀ (k : Nat), k < N → (0 : Nat) < (L k).length := by assumption
  have o3 : (0 : Int) ≤ (↑N : Int) ∨ (0 : Int) ≤ (0 : Int) := by omega
  cases h1 : L58a.run w N L 0 with
  | e0 =>
    exact Ret.of_run1 mix [(AV.bool (r58.v w N L))] Try.func58 rfl [.loop (others 60 [2, 8, 9, 10]) (Exit.ret) (L58a.X w N L L58a.O.e0) (L58a.XH w N L L58a.O.e0)] (by simp) (by simp) (kmp (by kernel_rfl) (Ai (L58a.e0 (w) (N) o0 (L) o1 o2 (0) (Ai (show (0 : Int) ≤ (0 : Int) by decide) o3) h1) (Ai (show (AV.bool false) = ((AV.bool (r58.v w N L))) by simp only [r58.v, h1, cond_true, cond_false]) trivial))) h
  | e1 =>
    exact Ret.of_run1 mix [(AV.bool (r58.v w N L))] Try.func58 rfl [.loop (others 60 [2, 8, 9, 10]) (Exit.exit 0) (L58a.X w N L L58a.O.e1) (L58a.XH w N L L58a.O.e1)] (by simp) (by simp) (kmp (by kernel_rfl) (Ai (L58a.e1 (w) (N) o0 (L) o1 o2 (0) (Ai (show (0 : Int) ≤ (0 : Int) by decide) o3) h1) (Ai (show (AV.bool true) = ((AV.bool (r58.v w N L))) by simp only [r58.v, h1, cond_true, cond_false]) trivial))) h
inductive L45a.O where
  | e0 (a0 : Nat) (a1 : List Int)
noncomputable def L45a.T (n : Nat) (g : Nat → SD) (av3 : Nat) (al3 : List Int) (a4 : Int) : List AV := mkT 28 [(0, AV.sl 14 n fun (i : Nat) => (SD.av (g i))), (3, AV.ms 0 av3 1 0 al3.length), (4, AV.int IntKind.i64 a4)]
noncomputable def L45a.H (n : Nat) (g : Nat → SD) (av3 : Nat) (al3 : List Int) (a4 : Int) : AHeap := [AObj.row 1 av3 (Col.ints IntKind.i64 al3)]
def L45a.inv (n : Nat) (g : Nat → SD) (av3 : Nat) (al3 : List Int) (a4 : Int) : Prop := 1 ≤ a4 ∧ (a4 ≤ (↑n : Int) ∨ a4 ≤ 1) ∧ (↑al3.length : Int) ≤ a4 - 1
noncomputable def L45a.mu (n : Nat) (g : Nat → SD) (av3 : Nat) (al3 : List Int) (a4 : Int) : Nat := ((↑n : Int) - a4).toNat
noncomputable def L45a.E : L45a.O → Exit
  | .e0 a0 a1 => Exit.exit 0
noncomputable def L45a.X (n : Nat) (g : Nat → SD) : L45a.O → List AV
  | .e0 a0 a1 => mkT 28 [(3, (AV.ms 0 a0 1 0 (List.length a1)))]
noncomputable def L45a.XH (n : Nat) (g : Nat → SD) : L45a.O → AHeap
  | .e0 a0 a1 => ((AObj.row 1 a0 (Col.ints IntKind.i64 a1)) :: ([]))
noncomputable def L45a.N (n : Nat) (g : Nat → SD) : Nat → Nat → (List Int) → Int → L45a.O
  | 0, av3, al3, _ => .e0 av3 al3
  | k_ + 1, av3, al3, a4 => (bif decide (a4 < (↑n : Int)) then (L45a.N n g k_ (av3 + 1) (al3 ++ [IntKind.i64.wrap (r61.v (g (IntKind.i64.wrap (a4 - 1)).toNat) + (g a4.toNat).ax)]) (IntKind.i64.wrap (a4 + 1))) else (.e0 (av3) (al3)))
noncomputable def L45a.run (n : Nat) (g : Nat → SD) (av3 : Nat) (al3 : List Int) (a4 : Int) : L45a.O := L45a.N n g ((((↑n : Int) - a4).toNat) + 1) av3 al3 a4
theorem L45a.nx (n : Nat) (g : Nat → SD) {k_ : Nat} {z_ : Nat × (List Int) × Int} {h_ : AHeap} (s_ : Nat × (List Int) × Int) (h1 : L45a.inv n g s_.1 s_.2.1 s_.2.2) (h2 : L45a.mu n g s_.1 s_.2.1 s_.2.2 < L45a.mu n g z_.1 z_.2.1 z_.2.2) (h3 : L45a.N n g k_ s_.1 s_.2.1 s_.2.2 = L45a.N n g (k_ + 1) z_.1 z_.2.1 z_.2.2) (h4 : PopOk (L45a.H n g z_.1 z_.2.1 z_.2.2) h_ (L45a.T n g s_.1 s_.2.1 s_.2.2) (L45a.H n g s_.1 s_.2.1 s_.2.2)) : LNextP (fun (z_ : Nat × (List Int) × Int) => L45a.T n g z_.1 z_.2.1 z_.2.2) (fun (z_ : Nat × (List Int) × Int) => L45a.H n g z_.1 z_.2.1 z_.2.2) (fun (z_ : Nat × (List Int) × Int) => L45a.inv n g z_.1 z_.2.1 z_.2.2) (fun (z_ : Nat × (List Int) × Int) => L45a.mu n g z_.1 z_.2.1 z_.2.2) (fun (k_ : Nat) (z_ : Nat × (List Int) × Int) => L45a.N n g k_ z_.1 z_.2.1 z_.2.2) k_ z_ (L45a.T n g s_.1 s_.2.1 s_.2.2) h_ := LNextP.mk (Tm := (fun (z_ : Nat × (List Int) × Int) => L45a.T n g z_.1 z_.2.1 z_.2.2)) (Hp := (fun (z_ : Nat × (List Int) × Int) => L45a.H n g z_.1 z_.2.1 z_.2.2)) (inv := (fun (z_ : Nat × (List Int) × Int) => L45a.inv n g z_.1 z_.2.1 z_.2.2)) (mu := (fun (z_ : Nat × (List Int) × Int) => L45a.mu n g z_.1 z_.2.1 z_.2.2)) (l := (fun (k_ : Nat) (z_ : Nat × (List Int) × Int) => L45a.N n g k_ z_.1 z_.2.1 z_.2.2)) s_ h1 h2 h3 h4
theorem L45a.en (n : Nat) (g : Nat → SD) {k_ : Nat} {z_ : Nat × (List Int) × Int} {h_ : AHeap} (o_ : L45a.O) (h3 : L45a.N n g (k_ + 1) z_.1 z_.2.1 z_.2.2 = o_) (h4 : PopOk (L45a.H n g z_.1 z_.2.1 z_.2.2) h_ (L45a.X n g o_) (L45a.XH n g o_)) : LEndP (fun (z_ : Nat × (List Int) × Int) => L45a.H n g z_.1 z_.2.1 z_.2.2) (fun (k_ : Nat) (z_ : Nat × (List Int) × Int) => L45a.N n g k_ z_.1 z_.2.1 z_.2.2) L45a.E (L45a.X n g) (L45a.XH n g) k_ z_ (L45a.E o_) (L45a.X n g o_) h_ := LEndP.mk (Hp := (fun (z_ : Nat × (List Int) × Int) => L45a.H n g z_.1 z_.2.1 z_.2.2)) (l := (fun (k_ : Nat) (z_ : Nat × (List Int) × Int) => L45a.N n g k_ z_.1 z_.2.1 z_.2.2)) (oE := L45a.E) (oT := L45a.X n g) (oH := L45a.XH n g) o_ h3 h4
theorem L45a.spec (n : Nat) (hn : n ≤ 10000) (g : Nat → SD) (k_ : Nat) (z_ : Nat × (List Int) × Int) (hi_ : L45a.inv n g z_.1 z_.2.1 z_.2.2) (hm_ : L45a.mu n g z_.1 z_.2.1 z_.2.2 < k_) : LoopTo Try.prog (loopN Try.f45 0) (L45a.T n g z_.1 z_.2.1 z_.2.2) (L45a.H n g z_.1 z_.2.1 z_.2.2) (L45a.E (L45a.N n g k_ z_.1 z_.2.1 z_.2.2)) (L45a.X n g (L45a.N n g k_ z_.1 z_.2.1 z_.2.2)) (L45a.XH n g (L45a.N n g k_ z_.1 z_.2.1 z_.2.2)) := by
  refine LoopTo.fuelP mix (fun (z_ : Nat × (List Int) × Int) => L45a.T n g z_.1 z_.2.1 z_.2.2) (fun (z_ : Nat × (List Int) × Int) => L45a.H n g z_.1 z_.2.1 z_.2.2) (fun (z_ : Nat × (List Int) × Int) => L45a.inv n g z_.1 z_.2.1 z_.2.2) (fun (z_ : Nat × (List Int) × Int) => L45a.mu n g z_.1 z_.2.1 z_.2.2) (fun (k_ : Nat) (z_ : Nat × (List Int) × Int) => L45a.N n g k_ z_.1 z_.2.1 z_.2.2) L45a.E (L45a.X n g) (L45a.XH n g) (others 28 [0, 3, 4]) (others 28 [2]) (others 28 [3]) ?_ k_ z_ hi_ hm_
  clear hm_ hi_ z_ k_
  intro k_ z_ hinv hmu
  obtain ⟨av3, al3, a4⟩ := z_
  have hinv : 1 ≤ a4 ∧ (a4 ≤ (↑n : Int) ∨ a4 ≤ 1) ∧ (↑al3.length : Int) ≤ a4 - 1 := hinv
  have hmu : (((↑n : Int) - a4).toNat) < k_ + 1 := hmu
  cases h1 : decide (a4 < (↑n : Int)) with
  | true =>
    have h1p := of_decide_eq_true h1
    try have := IntWalk.i64_in (a4 - 1) (by omega)
    have o0 : (0 : Int) ≤ IntKind.i64.wrap (a4 - (1 : Int)) := by omega
    have o1 : IntKind.i64.wrap (a4 - (1 : Int)) < (↑n : Int) := by omega
    have o2 : (0 : Int) ≤ a4 := by omega
    have o3 : a4 < (↑n : Int) := by assumption
    have o4 : (al3.length + (1 : Nat)) * (8 : Nat) ≤ (140737488355328 : Nat) := by omega
    have o5 : al3.length = (Col.ints IntKind.i64 al3).len := by rfl
    try have := IntWalk.i64_in (a4 + 1) (by omega)
    have o6 : (1 : Int) ≤ IntKind.i64.wrap (a4 + (1 : Int)) := by omega
    have o7 : IntKind.i64.wrap (a4 + (1 : Int)) ≤ (↑n : Int) ∨ IntKind.i64.wrap (a4 + (1 : Int)) ≤ (1 : Int) := by omega
    try have := IntWalk.i64_in (r61.v (g (IntKind.i64.wrap (a4 - 1)).toNat) + (g a4.toNat).ax) (by omega)
    have o8 : (↑(al3 ++ [IntKind.i64.wrap (r61.v (g (IntKind.i64.wrap (a4 - (1 : Int))).toNat) + (g a4.toNat).ax)]).length : Int) ≤ IntKind.i64.wrap (a4 + (1 : Int)) - (1 : Int) := by simp only [List.length_append, List.length_cons, List.length_nil, List.length_map]; omega
    have o9 : ((↑n : Int) - IntKind.i64.wrap (a4 + (1 : Int))).toNat < ((↑n : Int) - a4).toNat := by omega
    exact ⟨[.b true, .ret (AV.int IntKind.i64 (r61.v (g (IntKind.i64.wrap (a4 - 1)).toNat))) ([AObj.row 1 av3 (Col.ints IntKind.i64 al3)]), .app .one false], kmp (by kernel_rfl) (Ai h1 (Ai (Ai o0 o1) (Ai (r61 (g (IntKind.i64.wrap (a4 - 1)).toNat) ([AObj.row 1 av3 (Col.ints IntKind.i64 al3)])) (Ai (Ai o2 o3) (Ai (Ai (show (1 : Nat) = (1 : Nat) by decide) (Ai (show AppMode.one.needs 1 fun (a : Nat) => (Col.ofList [AV.int IntKind.i64 (IntKind.i64.wrap (r61.v (g (IntKind.i64.wrap (a4 - 1)).toNat) + (g a4.toNat).ax))]).get a by exact ⟨rfl, rfl⟩) (Ai o4 (Ai (rfl : av3 = av3) (Ai (show (0 : Nat) = (0 : Nat) by decide) o5))))) (L45a.nx n g (k_ := k_) (z_ := (av3, al3, a4)) ((av3 + 1, al3 ++ [IntKind.i64.wrap (r61.v (g (IntKind.i64.wrap (a4 - 1)).toNat) + (g a4.toNat).ax)], IntKind.i64.wrap (a4 + 1))) (Ai o6 (Ai o7 o8)) o9 (by simp only [L45a.N, h1, cond_true, cond_false]) PopOk.same))))))⟩
  | false =>
    have h1p := of_decide_eq_false h1
    exact ⟨[.b false], kmp (by kernel_rfl) (Ai h1 (L45a.en n g (k_ := k_) (z_ := (av3, al3, a4)) (.e0 (av3) (al3) : L45a.O) (by simp only [L45a.N, h1, cond_true, cond_false]) PopOk.same))⟩
theorem L45a.e0 (n : Nat) (hn : n ≤ 10000) (g : Nat → SD) (av3 : Nat) (al3 : List Int) (a4 : Int) (hinv : L45a.inv n g av3 al3 a4) (a0 : Nat) (a1 : List Int) (hN : L45a.run n g av3 al3 a4 = (.e0 a0 a1 : L45a.O)) : LoopTo Try.prog (loopN Try.f45 0) (L45a.T n g av3 al3 a4) (L45a.H n g av3 al3 a4) (Exit.exit 0) (L45a.X n g (.e0 a0 a1 : L45a.O)) (L45a.XH n g (.e0 a0 a1 : L45a.O)) := by
  have h_ := L45a.spec n hn g ((((↑n : Int) - a4).toNat) + 1) (av3, al3, a4) hinv (Nat.lt_succ_self _)
  unfold L45a.run at hN
  simp only [hN] at h_
  exact h_
theorem L45a.len0_1 (n : Nat) (g : Nat → SD) : ∀ (m_ : Nat) (av3 : Nat) (al3 : List Int) (a4 : Int) (a0_ : Nat) (a1_ : List Int), L45a.N n g m_ av3 al3 a4 = (.e0 a0_ a1_ : L45a.O) → (a1_).length ≤ (al3).length + m_ := by
  intro m_
  induction m_ with
  | zero =>
    intro av3 al3 a4 a0_ a1_ h_
    simp only [L45a.N] at h_
    first | (cases h_; done) | (cases h_; first | exact Nat.zero_le _ | omega)
  | succ m_ ih_ =>
    intro av3 al3 a4 a0_ a1_ h_
    cases h1 : decide (a4 < (↑n : Int)) with
    | true =>
      have h1p := of_decide_eq_true h1
      (simp only [L45a.N, h1, cond_true, cond_false] at h_; first | (have := ih_ _ _ _ _ _ h_; (try simp only [List.length_append, List.length_cons, List.length_nil, List.length_set] at this); omega) | (cases h_; done) | (cases h_; omega))
    | false =>
      have h1p := of_decide_eq_false h1
      (simp only [L45a.N, h1, cond_true, cond_false] at h_; first | (have := ih_ _ _ _ _ _ h_; (try simp only [List.length_append, List.length_cons, List.length_nil, List.length_set] at this); omega) | (cases h_; done) | (cases h_; omega))
theorem L45a.lenR0_1 (n : Nat) (g : Nat → SD) {av3 : Nat} {al3 : List Int} {a4 : Int} {a0_ : Nat} {a1_ : List Int} (h_ : L45a.run n g av3 al3 a4 = (.e0 a0_ a1_ : L45a.O)) : (a1_).length ≤ (al3).length + ((((↑n : Int) - a4).toNat) + 1) := L45a.len0_1 n g _ av3 al3 a4 a0_ a1_ h_
noncomputable def r45.v (n : Nat) (g : Nat → SD) : List Int := (match L45a.run n g 0 [] 1 with | .e0 h1d0 h1d1 => h1d1 )
theorem r45 (n : Nat) (hn : n ≤ 10000) (g : Nat → SD) (h : AHeap) : Ret Try.prog 45 ([sds n g]) h (avInts IntKind.i64 (r45.v n g)) h := by
  have o0 : n ≤ (10000 : Nat) := by assumption
  have o1 : (1 : Int) ≤ (↑n : Int) ∨ (1 : Int) ≤ (1 : Int) := by omega
  cases h1 : L45a.run n g 0 [] 1 with
  | e0 h1d0 h1d1 =>
    try have := L45a.lenR0_1 _ _ (by assumption); (try simp only [List.length_nil] at this)
    have o2 : (0 : Nat) + h1d1.length ≤ (Col.ints IntKind.i64 h1d1).len := by simp [Col.len]
    exact Ret.of_run1 mix [(avInts IntKind.i64 (r45.v n g))] Try.func45 rfl [.virt [] [(none, 3, 1, Col.ints IntKind.i64 [])], .loop (others 28 [0, 3, 4]) (Exit.exit 0) (L45a.X n g (L45a.O.e0 h1d0 h1d1)) (L45a.XH n g (L45a.O.e0 h1d0 h1d1))] (by simp) (by simp) (kmp (by kernel_rfl) (Ai (Ai (rfl : AV.snil = AV.snil) (Ai (rfl : (0 : Nat) = 0) trivial)) (Ai (L45a.e0 (n) o0 (g) (0) ([]) (1) (Ai (show (1 : Int) ≤ (1 : Int) by decide) (Ai o1 (show (0 : Int) ≤ (0 : Int) by decide))) h1d0 h1d1 h1) (Ai (Ai (rfl : h1d0 = h1d0) (Ai (show (1 : Nat) = (1 : Nat) by decide) (Ai o2 (show ((avInts IntKind.i64 h1d1)) = ((avInts IntKind.i64 (r45.v n g))) by simp only [r45.v, h1, cond_true, cond_false])))) trivial)))) h
end Go.Proofs.Ytjdbmmilcihpoaa
open Go
namespace Go.Proofs.Ytjdbmmilcihpoaa
set_option linter.unusedSimpArgs false
set_option linter.unusedVariables false
set_option maxHeartbeats 0
set_option maxRecDepth 100000
noncomputable def r78.v (g : Nat → SD) (s : SD) : Bool := (bif s.az == (g 0).az then s.sz != (g 0).sz else true)
theorem r78 (w : WD) (n : Nat) (hp : 0 < n) (g : Nat → SD) (s : SD) : Ret Try.prog 78 ([s.av, AV.ptr 1 1 1 0 0]) ([AObj.var w.av, AObj.var (sds n g)]) (AV.bool (r78.v g s)) ( [AObj.var w.av, AObj.var (sds n g)]) := by
  have o0 : (0 : Int) < (↑n : Int) := by omega
  cases h1 : s.az == (g 0).az with
  | true =>
    have h1p := eq_of_beq h1
    exact Ret.of_runH mix [(AV.bool (r78.v g s))] ([AObj.var w.av, AObj.var (sds n g)]) Try.func78 rfl [.b false, .b false, .b false, .b false, .b false, .b false, .b false, .b false, .b false, .b false] (by simp) (kmp (by kernel_rfl) (Ai (Ai (show (0 : Int) ≤ (0 : Int) by decide) o0) (Ai (show (bnot (s.az == (g 0).az)) = false by rw [h1]; try rfl) (Ai (show (bnot (s.az == (g 0).az)) = false by rw [h1]; try rfl) (Ai (show (bnot (s.az == (g 0).az)) = false by rw [h1]; try rfl) (Ai (show (bnot (s.az == (g 0).az)) = false by rw [h1]; try rfl) (Ai (show (bnot (s.az == (g 0).az)) = false by rw [h1]; try rfl) (Ai (Ai (show (0 : Int) ≤ (0 : Int) by decide) o0) (Ai (show (bnot (s.az == (g 0).az)) = false by rw [h1]; try rfl) (Ai (show (bnot (s.az == (g 0).az)) = false by rw [h1]; try rfl) (Ai (show (bnot (s.az == (g 0).az)) = false by rw [h1]; try rfl) (Ai (show (bnot (s.az == (g 0).az)) = false by rw [h1]; try rfl) (Ai (show (bnot (s.az == (g 0).az)) = false by rw [h1]; try rfl) (Ai (Ai (show (AV.bool (s.sz != (g 0).sz)) = ((AV.bool (r78.v g s))) by simp only [r78.v, h1, cond_true, cond_false]) trivial) (rfl : ([AObj.var w.av, AObj.var (sds n g)] : AHeap) = [AObj.var w.av, AObj.var (sds n g)])))))))))))))))
  | false =>
    have h1p := ne_of_beq_false h1
    exact Ret.of_runH mix [(AV.bool (r78.v g s))] ([AObj.var w.av, AObj.var (sds n g)]) Try.func78 rfl [.b true, .b true, .b true, .b true, .b true, .b true, .b true, .b true, .b true, .b true] (by simp) (kmp (by kernel_rfl) (Ai (Ai (show (0 : Int) ≤ (0 : Int) by decide) o0) (Ai (show (bnot (s.az == (g 0).az)) = true by rw [h1]; try rfl) (Ai (show (bnot (s.az == (g 0).az)) = true by rw [h1]; try rfl) (Ai (show (bnot (s.az == (g 0).az)) = true by rw [h1]; try rfl) (Ai (show (bnot (s.az == (g 0).az)) = true by rw [h1]; try rfl) (Ai (show (bnot (s.az == (g 0).az)) = true by rw [h1]; try rfl) (Ai (show (bnot (s.az == (g 0).az)) = true by rw [h1]; try rfl) (Ai (show (bnot (s.az == (g 0).az)) = true by rw [h1]; try rfl) (Ai (show (bnot (s.az == (g 0).az)) = true by rw [h1]; try rfl) (Ai (show (bnot (s.az == (g 0).az)) = true by rw [h1]; try rfl) (Ai (show (bnot (s.az == (g 0).az)) = true by rw [h1]; try rfl) (Ai (Ai (show (AV.bool true) = ((AV.bool (r78.v g s))) by simp only [r78.v, h1, cond_true, cond_false]) trivial) (rfl : ([AObj.var w.av, AObj.var (sds n g)] : AHeap) = [AObj.var w.av, AObj.var (sds n g)]))))))))))))))
inductive L59c.O where
  | e0 (a0 : Int)
  | e1
noncomputable def L59c.T (w : WD) (n : Nat) (g : Nat → SD) (i : Int) : List AV := mkT 19 [(0, sds n g), (1, AV.fn 78 [AV.ptr 1 1 1 0 0]), (7, AV.int IntKind.i64 (↑n : Int)), (8, AV.int IntKind.i64 i)]
noncomputable def L59c.H (w : WD) (n : Nat) (g : Nat → SD) (i : Int) : AHeap := [AObj.var w.av, AObj.var (sds n g)]
def L59c.inv (w : WD) (n : Nat) (g : Nat → SD) (i : Int) : Prop := 0 ≤ i ∧ i ≤ (↑n : Int)
noncomputable def L59c.mu (w : WD) (n : Nat) (g : Nat → SD) (i : Int) : Nat := ((↑n : Int) - i).toNat
noncomputable def L59c.E : L59c.O → Exit
  | .e0 a0 => Exit.ret
  | .e1 => Exit.exit 0
noncomputable def L59c.X (w : WD) (n : Nat) (g : Nat → SD) : L59c.O → List AV
  | .e0 a0 => mkT 19 [(4, (AV.int IntKind.i64 a0))]
  | .e1 => mkT 19 []
noncomputable def L59c.XH (w : WD) (n : Nat) (g : Nat → SD) : L59c.O → AHeap
  | .e0 a0 => ([AObj.var (WD.av w), AObj.var (AV.sl 14 n fun (i : Nat) => (SD.av (g i)))])
  | .e1 => ([AObj.var (WD.av w), AObj.var (AV.sl 14 n fun (i : Nat) => (SD.av (g i)))])
noncomputable def L59c.N (n : Nat) (g : Nat → SD) : Nat → Int → L59c.O
  | 0, i => .e0 i
  | k_ + 1, i => (bif decide (i < (↑n : Int)) then (bif r78.v g (g i.toNat) then (.e0 (i)) else (L59c.N n g k_ (IntKind.i64.wrap (i + 1)))) else (.e1))
noncomputable def L59c.run (n : Nat) (g : Nat → SD) (i : Int) : L59c.O := L59c.N n g ((((↑n : Int) - i).toNat) + 1) i
theorem L59c.nx (w : WD) (n : Nat) (g : Nat → SD) {k_ : Nat} {z_ : Int} {h_ : AHeap} (s_ : Int) (h1 : L59c.inv w n g s_) (h2 : L59c.mu w n g s_ < L59c.mu w n g z_) (h3 : L59c.N n g k_ s_ = L59c.N n g (k_ + 1) z_) (h4 : PopOk (L59c.H w n g z_) h_ (L59c.T w n g s_) (L59c.H w n g s_)) : LNextP (fun (z_ : Int) => L59c.T w n g z_) (fun (z_ : Int) => L59c.H w n g z_) (fun (z_ : Int) => L59c.inv w n g z_) (fun (z_ : Int) => L59c.mu w n g z_) (fun (k_ : Nat) (z_ : Int) => L59c.N n g k_ z_) k_ z_ (L59c.T w n g s_) h_ := LNextP.mk (Tm := (fun (z_ : Int) => L59c.T w n g z_)) (Hp := (fun (z_ : Int) => L59c.H w n g z_)) (inv := (fun (z_ : Int) => L59c.inv w n g z_)) (mu := (fun (z_ : Int) => L59c.mu w n g z_)) (l := (fun (k_ : Nat) (z_ : Int) => L59c.N n g k_ z_)) s_ h1 h2 h3 h4
theorem L59c.en (w : WD) (n : Nat) (g : Nat → SD) {k_ : Nat} {z_ : Int} {h_ : AHeap} (o_ : L59c.O) (h3 : L59c.N n g (k_ + 1) z_ = o_) (h4 : PopOk (L59c.H w n g z_) h_ (L59c.X w n g o_) (L59c.XH w n g o_)) : LEndP (fun (z_ : Int) => L59c.H w n g z_) (fun (k_ : Nat) (z_ : Int) => L59c.N n g k_ z_) L59c.E (L59c.X w n g) (L59c.XH w n g) k_ z_ (L59c.E o_) (L59c.X w n g o_) h_ := LEndP.mk (Hp := (fun (z_ : Int) => L59c.H w n g z_)) (l := (fun (k_ : Nat) (z_ : Int) => L59c.N n g k_ z_)) (oE := L59c.E) (oT := L59c.X w n g) (oH := L59c.XH w n g) o_ h3 h4
theorem L59c.spec (w : WD) (n : Nat) (hp : 0 < n) (hn : n ≤ 10000) (g : Nat → SD) (k_ : Nat) (z_ : Int) (hi_ : L59c.inv w n g z_) (hm_ : L59c.mu w n g z_ < k_) : LoopTo Try.prog (loopN Try.f59 0) (L59c.T w n g z_) (L59c.H w n g z_) (L59c.E (L59c.N n g k_ z_)) (L59c.X w n g (L59c.N n g k_ z_)) (L59c.XH w n g (L59c.N n g k_ z_)) := by
  refine LoopTo.fuelP mix (fun (z_ : Int) => L59c.T w n g z_) (fun (z_ : Int) => L59c.H w n g z_) (fun (z_ : Int) => L59c.inv w n g z_) (fun (z_ : Int) => L59c.mu w n g z_) (fun (k_ : Nat) (z_ : Int) => L59c.N n g k_ z_) L59c.E (L59c.X w n g) (L59c.XH w n g) (others 19 [0, 1, 7, 8]) (others 19 [4]) (others 19 []) ?_ k_ z_ hi_ hm_
  clear hm_ hi_ z_ k_
  intro k_ z_ hinv hmu
  revert hinv hmu; revert z_; intro i hinv hmu
  have hinv : 0 ≤ i ∧ i ≤ (↑n : Int) := hinv
  have hmu : (((↑n : Int) - i).toNat) < k_ + 1 := hmu
  cases h1 : decide (i < (↑n : Int)) with
  | true =>
    have h1p := of_decide_eq_true h1
    have o0 : (0 : Int) ≤ i := by omega
    have o1 : i < (↑n : Int) := by assumption
    have o2 : (0 : Nat) < n := by assumption
    cases h2 : r78.v g (g i.toNat) with
    | true =>
      exact ⟨[.b true, .ret (AV.bool (r78.v g (g i.toNat))) ([AObj.var (WD.av w), AObj.var (AV.sl 14 n fun (i : Nat) => (SD.av (g i)))]), .b true], kmp (by kernel_rfl) (Ai h1 (Ai (Ai o0 o1) (Ai (r78 (w) (n) o2 (g) (g i.toNat)) (Ai h2 (L59c.en w n g (k_ := k_) (z_ := i) (.e0 (i) : L59c.O) (by simp only [L59c.N, h1, h2, cond_true, cond_false]) PopOk.same)))))⟩
    | false =>
      try have := IntWalk.i64_in (i + 1) (by omega)
      have o3 : (0 : Int) ≤ IntKind.i64.wrap (i + (1 : Int)) := by omega
      have o4 : IntKind.i64.wrap (i + (1 : Int)) ≤ (↑n : Int) := by omega
      have o5 : ((↑n : Int) - IntKind.i64.wrap (i + (1 : Int))).toNat < ((↑n : Int) - i).toNat := by omega
      exact ⟨[.b true, .ret (AV.bool (r78.v g (g i.toNat))) ([AObj.var (WD.av w), AObj.var (AV.sl 14 n fun (i : Nat) => (SD.av (g i)))]), .b false], kmp (by kernel_rfl) (Ai h1 (Ai (Ai o0 o1) (Ai (r78 (w) (n) o2 (g) (g i.toNat)) (Ai h2 (L59c.nx w n g (k_ := k_) (z_ := i) (IntKind.i64.wrap (i + 1)) (Ai o3 o4) o5 (by simp only [L59c.N, h1, h2, cond_true, cond_false]) PopOk.same)))))⟩
  | false =>
    have h1p := of_decide_eq_false h1
    exact ⟨[.b false], kmp (by kernel_rfl) (Ai h1 (L59c.en w n g (k_ := k_) (z_ := i) (.e1 : L59c.O) (by simp only [L59c.N, h1, cond_true, cond_false]) PopOk.same))⟩
theorem L59c.e0 (w : WD) (n : Nat) (hp : 0 < n) (hn : n ≤ 10000) (g : Nat → SD) (i : Int) (hinv : L59c.inv w n g i) (a0 : Int) (hN : L59c.run n g i = (.e0 a0 : L59c.O)) : LoopTo Try.prog (loopN Try.f59 0) (L59c.T w n g i) (L59c.H w n g i) (Exit.ret) (L59c.X w n g (.e0 a0 : L59c.O)) (L59c.XH w n g (.e0 a0 : L59c.O)) := by
  have h_ := L59c.spec w n hp hn g ((((↑n : Int) - i).toNat) + 1) i hinv (Nat.lt_succ_self _)
  unfold L59c.run at hN
  simp only [hN] at h_
  exact h_
theorem L59c.e1 (w : WD) (n : Nat) (hp : 0 < n) (hn : n ≤ 10000) (g : Nat → SD) (i : Int) (hinv : L59c.inv w n g i) (hN : L59c.run n g i = (.e1 : L59c.O)) : LoopTo Try.prog (loopN Try.f59 0) (L59c.T w n g i) (L59c.H w n g i) (Exit.exit 0) (L59c.X w n g (.e1 : L59c.O)) (L59c.XH w n g (.e1 : L59c.O)) := by
  have h_ := L59c.spec w n hp hn g ((((↑n : Int) - i).toNat) + 1) i hinv (Nat.lt_succ_self _)
  unfold L59c.run at hN
  simp only [hN] at h_
  exact h_
noncomputable def r59c.v (n : Nat) (g : Nat → SD) : Int := (match L59c.run n g 0 with | .e0 h1d0 => h1d0 | .e1 => -1 )
theorem r59c (w : WD) (n : Nat) (hp : 0 < n) (hn : n ≤ 10000) (g : Nat → SD) : Ret Try.prog 59 ([sds n g, AV.fn 78 [AV.ptr 1 1 1 0 0]]) ([AObj.var w.av, AObj.var (sds n g)]) (AV.int IntKind.i64 (r59c.v n g)) ( [AObj.var w.av, AObj.var (sds n g)]) := by
  have o0 : (0 : Nat) < n := by assumption
  have o1 : n ≤ (10000 : Nat) := by assumption
  have o2 : (0 : Int) ≤ (↑n : Int) := by omega
  cases h1 : L59c.run n g 0 with
  | e0 h1d0 =>
    exact Ret.of_runH mix [(AV.int IntKind.i64 (r59c.v n g))] ([AObj.var w.av, AObj.var (sds n g)]) Try.func59 rfl [.loop (others 19 [0, 1, 7, 8]) (Exit.ret) (L59c.X w n g (L59c.O.e0 h1d0)) (L59c.XH w n g (L59c.O.e0 h1d0))] (by simp) (kmp (by kernel_rfl) (Ai (L59c.e0 (w) (n) o0 o1 (g) (0) (Ai (show (0 : Int) ≤ (0 : Int) by decide) o2) h1d0 h1) (Ai (Ai (show (AV.int IntKind.i64 h1d0) = ((AV.int IntKind.i64 (r59c.v n g))) by simp only [r59c.v, h1, cond_true, cond_false]) trivial) (rfl : ([AObj.var w.av, AObj.var (sds n g)] : AHeap) = [AObj.var w.av, AObj.var (sds n g)]))))
  | e1 =>
    exact Ret.of_runH mix [(AV.int IntKind.i64 (r59c.v n g))] ([AObj.var w.av, AObj.var (sds n g)]) Try.func59 rfl [.loop (others 19 [0, 1, 7, 8]) (Exit.exit 0) (L59c.X w n g L59c.O.e1) (L59c.XH w n g L59c.O.e1)] (by simp) (kmp (by kernel_rfl) (Ai (L59c.e1 (w) (n) o0 o1 (g) (0) (Ai (show (0 : Int) ≤ (0 : Int) by decide) o2) h1) (Ai (Ai (show (AV.int IntKind.i64 (-1)) = ((AV.int IntKind.i64 (r59c.v n g))) by simp only [r59c.v, h1, cond_true, cond_false]) trivial) (rfl : ([AObj.var w.av, AObj.var (sds n g)] : AHeap) = [AObj.var w.av, AObj.var (sds n g)]))))
noncomputable def r49c.v (n : Nat) (g : Nat → SD) : Bool := decide (r59c.v n g ≥ 0)
theorem r49c (w : WD) (n : Nat) (hp : 0 < n) (hn : n ≤ 10000) (g : Nat → SD) : Ret Try.prog 49 ([sds n g, AV.fn 78 [AV.ptr 1 1 1 0 0]]) ([AObj.var w.av, AObj.var (sds n g)]) (AV.bool (r49c.v n g)) ( [AObj.var w.av, AObj.var (sds n g)]) := by
  have o0 : (0 : Nat) < n := by assumption
  have o1 : n ≤ (10000 : Nat) := by assumption
  exact Ret.of_runH mix [(AV.bool (r49c.v n g))] ([AObj.var w.av, AObj.var (sds n g)]) Try.func49 rfl [.ret (AV.int IntKind.i64 (r59c.v n g)) ([AObj.var (WD.av w), AObj.var (AV.sl 14 n fun (i : Nat) => (SD.av (g i)))])] (by simp) (kmp (by kernel_rfl) (Ai (r59c (w) (n) o0 o1 (g)) (Ai (Ai (show (AV.bool (decide (r59c.v n g ≥ 0))) = ((AV.bool (r49c.v n g))) by simp only [r49c.v, cond_true, cond_false]) trivial) (rfl : ([AObj.var w.av, AObj.var (sds n g)] : AHeap) = [AObj.var w.av, AObj.var (sds n g)]))))
theorem len_ps {L : Nat → List SD} {k : Nat} {N : Nat} (hne : ∀ k, k < N → 0 < (L k).length) (hk : k < N) : 0 < (L k).length := hne k hk
inductive L56a.O where
  | e0
  | e1
noncomputable def L56a.T (w : WD) (N : Nat) (L : Nat → List SD) (a9 : Int) : List AV := mkT 55 [(1, AV.sl 1 N fun (j : Nat) => AV.sl 14 (L j).length fun (q : Nat) => (SD.av ((L j).getD q default))), (2, AV.ptr 0 1 6 0 0), (7, AV.sl 1 N fun (j : Nat) => AV.sl 14 (L j).length fun (q : Nat) => (SD.av ((L j).getD q default))), (8, AV.int IntKind.i64 (↑N : Int)), (9, AV.int IntKind.i64 a9)]
noncomputable def L56a.H (w : WD) (N : Nat) (L : Nat → List SD) (a9 : Int) : AHeap := [AObj.var (WD.av w)]
def L56a.inv (w : WD) (N : Nat) (L : Nat → List SD) (a9 : Int) : Prop := 0 ≤ a9 ∧ (a9 ≤ (↑N : Int) ∨ a9 ≤ 0)
noncomputable def L56a.mu (w : WD) (N : Nat) (L : Nat → List SD) (a9 : Int) : Nat := ((↑N : Int) - a9).toNat
noncomputable def L56a.E : L56a.O → Exit
  | .e0 => Exit.ret
  | .e1 => Exit.exit 0
noncomputable def L56a.X (w : WD) (N : Nat) (L : Nat → List SD) : L56a.O → List AV
  | .e0 => mkT 55 [(4, (AV.bool false))]
  | .e1 => mkT 55 []
noncomputable def L56a.XH (w : WD) (N : Nat) (L : Nat → List SD) : L56a.O → AHeap
  | .e0 => ([AObj.var (WD.av w)])
  | .e1 => ([AObj.var (WD.av w)])
noncomputable def L56a.N (w : WD) (N : Nat) (L : Nat → List SD) : Nat → Int → L56a.O
  | 0, _ => .e0
  | k_ + 1, a9 => (bif decide (a9 < (↑N : Int)) then (bif r49c.v (L a9.toNat).length fun (i : Nat) => (L a9.toNat).getD i default then (.e0) else (bif decide (a9 > 0) then (bif r51.v (IntKind.i64.wrap (IntKind.i64.wrap (((L a9.toNat).getD 0 default).az - ((L (IntKind.i64.wrap (a9 - 1)).toNat).getD 0 default).az) - ((L (IntKind.i64.wrap (a9 - 1)).toNat).getD 0 default).sz)) w.jl w.jh then (L56a.N w N L k_ (IntKind.i64.wrap (a9 + 1))) else (.e0)) else (L56a.N w N L k_ (IntKind.i64.wrap (a9 + 1))))) else (.e1))
noncomputable def L56a.run (w : WD) (N : Nat) (L : Nat → List SD) (a9 : Int) : L56a.O := L56a.N w N L ((((↑N : Int) - a9).toNat) + 1) a9
theorem L56a.nx (w : WD) (N : Nat) (L : Nat → List SD) {k_ : Nat} {z_ : Int} {h_ : AHeap} (s_ : Int) (h1 : L56a.inv w N L s_) (h2 : L56a.mu w N L s_ < L56a.mu w N L z_) (h3 : L56a.N w N L k_ s_ = L56a.N w N L (k_ + 1) z_) (h4 : PopOk (L56a.H w N L z_) h_ (L56a.T w N L s_) (L56a.H w N L s_)) : LNextP (fun (z_ : Int) => L56a.T w N L z_) (fun (z_ : Int) => L56a.H w N L z_) (fun (z_ : Int) => L56a.inv w N L z_) (fun (z_ : Int) => L56a.mu w N L z_) (fun (k_ : Nat) (z_ : Int) => L56a.N w N L k_ z_) k_ z_ (L56a.T w N L s_) h_ := LNextP.mk (Tm := (fun (z_ : Int) => L56a.T w N L z_)) (Hp := (fun (z_ : Int) => L56a.H w N L z_)) (inv := (fun (z_ : Int) => L56a.inv w N L z_)) (mu := (fun (z_ : Int) => L56a.mu w N L z_)) (l := (fun (k_ : Nat) (z_ : Int) => L56a.N w N L k_ z_)) s_ h1 h2 h3 h4
theorem L56a.en (w : WD) (N : Nat) (L : Nat → List SD) {k_ : Nat} {z_ : Int} {h_ : AHeap} (o_ : L56a.O) (h3 : L56a.N w N L (k_ + 1) z_ = o_) (h4 : PopOk (L56a.H w N L z_) h_ (L56a.X w N L o_) (L56a.XH w N L o_)) : LEndP (fun (z_ : Int) => L56a.H w N L z_) (fun (k_ : Nat) (z_ : Int) => L56a.N w N L k_ z_) L56a.E (L56a.X w N L) (L56a.XH w N L) k_ z_ (L56a.E o_) (L56a.X w N L o_) h_ := LEndP.mk (Hp := (fun (z_ : Int) => L56a.H w N L z_)) (l := (fun (k_ : Nat) (z_ : Int) => L56a.N w N L k_ z_)) (oE := L56a.E) (oT := L56a.X w N L) (oH := L56a.XH w N L) o_ h3 h4
noncomputable abbrev L56a.h0 (w : WD) (N : Nat) (L : Nat → List SD) (a9 : Int) : AHeap := ([AObj.var (WD.av w), AObj.var (AV.sl 14 (L a9.toNat).length fun (i : Nat) => (SD.av ((fun (i : Nat) => (L a9.toNat).getD i default) i)))])
theorem L56a.spec (w : WD) (N : Nat) (hb : N ≤ 1000) (L : Nat → List SD) (hl : ∀ (k : Nat), (L k).length ≤ 10000) (hne : ∀ (k : Nat), k < N → 0 < (L k).length) (k_ : Nat) (z_ : Int) (hi_ : L56a.inv w N L z_) (hm_ : L56a.mu w N L z_ < k_) : LoopTo Try.prog (loopN Try.f56 0) (L56a.T w N L z_) (L56a.H w N L z_) (L56a.E (L56a.N w N L k_ z_)) (L56a.X w N L (L56a.N w N L k_ z_)) (L56a.XH w N L (L56a.N w N L k_ z_)) := by
  refine LoopTo.fuelP mix (fun (z_ : Int) => L56a.T w N L z_) (fun (z_ : Int) => L56a.H w N L z_) (fun (z_ : Int) => L56a.inv w N L z_) (fun (z_ : Int) => L56a.mu w N L z_) (fun (k_ : Nat) (z_ : Int) => L56a.N w N L k_ z_) L56a.E (L56a.X w N L) (L56a.XH w N L) (others 55 [1, 2, 7, 8, 9]) (others 55 [4]) (others 55 []) ?_ k_ z_ hi_ hm_
  clear hm_ hi_ z_ k_
  intro k_ z_ hinv hmu
  revert hinv hmu; revert z_; intro a9 hinv hmu
  have hinv : 0 ≤ a9 ∧ (a9 ≤ (↑N : Int) ∨ a9 ≤ 0) := hinv
  have hmu : (((↑N : Int) - a9).toNat) < k_ + 1 := hmu
  cases h1 : decide (a9 < (↑N : Int)) with
  | true =>
    have h1p := of_decide_eq_true h1
    have o0 : (0 : Int) ≤ a9 := by omega
    have o1 : a9 < (↑N : Int) := by assumption
    have o2 : (0 : Nat) < (L a9.toNat).length := by first | assumption | omega | (simp only [List.length_append, List.length_cons, List.length_nil, List.length_map]; omega) | (apply len_ps <;> first | assumption | omega) | (exact hl _) | (exact hl _ (by omega)) | (exact hne _) | (exact hne _ (by omega)) | (simp_all; done)
    have o3 : (L a9.toNat).length ≤ (10000 : Nat) := by exact hl _
    cases h2 : r49c.v (L a9.toNat).length fun (i : Nat) => (L a9.toNat).getD i default with
    | true =>
      exact ⟨[.b true, .ret (AV.bool (r49c.v (L a9.toNat).length fun (i : Nat) => (L a9.toNat).getD i default)) (L56a.h0 w N L a9), .b true], kmp (by kernel_rfl) (Ai h1 (Ai (Ai o0 o1) (Ai (r49c (w) ((L a9.toNat).length) o2 o3 (fun (i : Nat) => (L a9.toNat).getD i default)) (Ai h2 (L56a.en w N L (k_ := k_) (z_ := a9) (h_ := [AObj.var (WD.av w), AObj.var (AV.sl 14 (L a9.toNat).length fun (i : Nat) => (SD.av ((fun (i : Nat) => (L a9.toNat).getD i default) i)))]) (.e0 : L56a.O) (by simp only [L56a.N, h1, h2, cond_true, cond_false]) (PopOk.pop rfl (by simp [L56a.T, L56a.X, L56a.H, L56a.XH])))))))⟩
    | false =>
      cases h3 : decide (a9 > 0) with
      | true =>
        have h3p := of_decide_eq_true h3
        have o4 : (0 : Int) < (↑(L a9.toNat).length : Int) := by first | assumption | omega | (simp only [List.length_append, List.length_cons, List.length_nil, List.length_map]; omega) | (apply len_pos <;> first | assumption | omega) | (exact hl _) | (exact hl _ (by omega)) | (exact hne _) | (exact hne _ (by omega)) | (simp_all; done)
        try have := IntWalk.i64_in (a9 - 1) (by omega)
        have o5 : (0 : Int) ≤ IntKind.i64.wrap (a9 - (1 : Int)) := by omega
        have o6 : IntKind.i64.wrap (a9 - (1 : Int)) < (↑N : Int) := by omega
        have o7 : (0 : Int) < (↑(L (IntKind.i64.wrap (a9 - (1 : Int))).toNat).length : Int) := by first | assumption | omega | (simp only [List.length_append, List.length_cons, List.length_nil, List.length_map]; omega) | (apply len_pos <;> first | assumption | omega) | (exact hl _) | (exact hl _ (by omega)) | (exact hne _) | (exact hne _ (by omega)) | (simp_all; done)
        cases h4 : r51.v (IntKind.i64.wrap (IntKind.i64.wrap (((L a9.toNat).getD 0 default).az - ((L (IntKind.i64.wrap (a9 - 1)).toNat).getD 0 default).az) - ((L (IntKind.i64.wrap (a9 - 1)).toNat).getD 0 default).sz)) w.jl w.jh with
        | true =>
          try have := IntWalk.i64_in (a9 + 1) (by omega)
          have o8 : (0 : Int) ≤ IntKind.i64.wrap (a9 + (1 : Int)) := by omega
          have o9 : IntKind.i64.wrap (a9 + (1 : Int)) ≤ (↑N : Int) ∨ IntKind.i64.wrap (a9 + (1 : Int)) ≤ (0 : Int) := by omega
          have o10 : ((↑N : Int) - IntKind.i64.wrap (a9 + (1 : Int))).toNat < ((↑N : Int) - a9).toNat := by omega
          exact ⟨[.b true, .ret (AV.bool (r49c.v (L a9.toNat).length fun (i : Nat) => (L a9.toNat).getD i default)) (L56a.h0 w N L a9), .b false, .b true, .b true, .b true, .b true, .b true, .b true, .b true, .b true, .b true, .b true, .b true, .b true, .b true, .b true, .b true, .b true, .b true, .b true, .b true, .b true, .b true, .b true, .b true, .b true, .b true, .b true, .b true, .b true, .b true, .b true, .b true, .b true, .ret (AV.bool (r51.v (IntKind.i64.wrap (IntKind.i64.wrap (((fun (i : Nat) => (L a9.toNat).getD i default) 0).az - ((L (IntKind.i64.wrap (a9 - 1)).toNat).getD 0 default).az) - ((L (IntKind.i64.wrap (a9 - 1)).toNat).getD 0 default).sz)) w.jl w.jh)) (L56a.h0 w N L a9), .b true, .b true, .b false], kmp (by kernel_rfl) (Ai h1 (Ai (Ai o0 o1) (Ai (r49c (w) ((L a9.toNat).length) o2 o3 (fun (i : Nat) => (L a9.toNat).getD i default)) (Ai h2 (Ai h3 (Ai h3 (Ai (Ai (show (0 : Int) ≤ (0 : Int) by decide) o4) (Ai h3 (Ai h3 (Ai h3 (Ai h3 (Ai h3 (Ai h3 (Ai h3 (Ai (Ai o5 o6) (Ai h3 (Ai h3 (Ai (Ai (show (0 : Int) ≤ (0 : Int) by decide) o7) (Ai h3 (Ai h3 (Ai h3 (Ai h3 (Ai h3 (Ai h3 (Ai h3 (Ai h3 (Ai (Ai o5 o6) (Ai h3 (Ai h3 (Ai (Ai (show (0 : Int) ≤ (0 : Int) by decide) o7) (Ai h3 (Ai h3 (Ai h3 (Ai h3 (Ai h3 (Ai h3 (Ai h3 (Ai h3 (Ai h3 (Ai h3 (Ai h3 (Ai (r51 (IntKind.i64.wrap (IntKind.i64.wrap (((fun (i : Nat) => (L a9.toNat).getD i default) 0).az - ((L (IntKind.i64.wrap (a9 - 1)).toNat).getD 0 default).az) - ((L (IntKind.i64.wrap (a9 - 1)).toNat).getD 0 default).sz)) (w.jl) (w.jh) (L56a.h0 w N L a9)) (Ai h3 (Ai h3 (Ai (show (bnot (r51.v (IntKind.i64.wrap (IntKind.i64.wrap (((L a9.toNat).getD 0 default).az - ((L (IntKind.i64.wrap (a9 - 1)).toNat).getD 0 default).az) - ((L (IntKind.i64.wrap (a9 - 1)).toNat).getD 0 default).sz)) w.jl w.jh)) = false by rw [h4]; try rfl) (L56a.nx w N L (k_ := k_) (z_ := a9) (h_ := [AObj.var (WD.av w), AObj.var (AV.sl 14 (L a9.toNat).length fun (i : Nat) => (SD.av ((fun (i : Nat) => (L a9.toNat).getD i default) i)))]) (IntKind.i64.wrap (a9 + 1)) (Ai o8 o9) o10 (by simp only [L56a.N, h1, h2, h3, h4, cond_true, cond_false]) (PopOk.pop rfl (by simp [L56a.T, L56a.X, L56a.H, L56a.XH]))))))))))))))))))))))))))))))))))))))))))))))))⟩
        | false =>
          exact ⟨[.b true, .ret (AV.bool (r49c.v (L a9.toNat).length fun (i : Nat) => (L a9.toNat).getD i default)) (L56a.h0 w N L a9), .b false, .b true, .b true, .b true, .b true, .b true, .b true, .b true, .b true, .b true, .b true, .b true, .b true, .b true, .b true, .b true, .b true, .b true, .b true, .b true, .b true, .b true, .b true, .b true, .b true, .b true, .b true, .b true, .b true, .b true, .b true, .b true, .b true, .ret (AV.bool (r51.v (IntKind.i64.wrap (IntKind.i64.wrap (((fun (i : Nat) => (L a9.toNat).getD i default) 0).az - ((L (IntKind.i64.wrap (a9 - 1)).toNat).getD 0 default).az) - ((L (IntKind.i64.wrap (a9 - 1)).toNat).getD 0 default).sz)) w.jl w.jh)) (L56a.h0 w N L a9), .b true, .b true, .b true], kmp (by kernel_rfl) (Ai h1 (Ai (Ai o0 o1) (Ai (r49c (w) ((L a9.toNat).length) o2 o3 (fun (i : Nat) => (L a9.toNat).getD i default)) (Ai h2 (Ai h3 (Ai h3 (Ai (Ai (show (0 : Int) ≤ (0 : Int) by decide) o4) (Ai h3 (Ai h3 (Ai h3 (Ai h3 (Ai h3 (Ai h3 (Ai h3 (Ai (Ai o5 o6) (Ai h3 (Ai h3 (Ai (Ai (show (0 : Int) ≤ (0 : Int) by decide) o7) (Ai h3 (Ai h3 (Ai h3 (Ai h3 (Ai h3 (Ai h3 (Ai h3 (Ai h3 (Ai (Ai o5 o6) (Ai h3 (Ai h3 (Ai (Ai (show (0 : Int) ≤ (0 : Int) by decide) o7) (Ai h3 (Ai h3 (Ai h3 (Ai h3 (Ai h3 (Ai h3 (Ai h3 (Ai h3 (Ai h3 (Ai h3 (Ai h3 (Ai (r51 (IntKind.i64.wrap (IntKind.i64.wrap (((fun (i : Nat) => (L a9.toNat).getD i default) 0).az - ((L (IntKind.i64.wrap (a9 - 1)).toNat).getD 0 default).az) - ((L (IntKind.i64.wrap (a9 - 1)).toNat).getD 0 default).sz)) (w.jl) (w.jh) (L56a.h0 w N L a9)) (Ai h3 (Ai h3 (Ai (show (bnot (r51.v (IntKind.i64.wrap (IntKind.i64.wrap (((L a9.toNat).getD 0 default).az - ((L (IntKind.i64.wrap (a9 - 1)).toNat).getD 0 default).az) - ((L (IntKind.i64.wrap (a9 - 1)).toNat).getD 0 default).sz)) w.jl w.jh)) = true by rw [h4]; try rfl) (L56a.en w N L (k_ := k_) (z_ := a9) (h_ := [AObj.var (WD.av w), AObj.var (AV.sl 14 (L a9.toNat).length fun (i : Nat) => (SD.av ((fun (i : Nat) => (L a9.toNat).getD i default) i)))]) (.e0 : L56a.O) (by simp only [L56a.N, h1, h2, h3, h4, cond_true, cond_false]) (PopOk.pop rfl (by simp [L56a.T, L56a.X, L56a.H, L56a.XH]))))))))))))))))))))))))))))))))))))))))))))))))⟩
      | false =>
        have h3p := of_decide_eq_false h3
        try have := IntWalk.i64_in (a9 + 1) (by omega)
        have o8 : (0 : Int) ≤ IntKind.i64.wrap (a9 + (1 : Int)) := by omega
        have o9 : IntKind.i64.wrap (a9 + (1 : Int)) ≤ (↑N : Int) ∨ IntKind.i64.wrap (a9 + (1 : Int)) ≤ (0 : Int) := by omega
        have o10 : ((↑N : Int) - IntKind.i64.wrap (a9 + (1 : Int))).toNat < ((↑N : Int) - a9).toNat := by omega
        exact ⟨[.b true, .ret (AV.bool (r49c.v (L a9.toNat).length fun (i : Nat) => (L a9.toNat).getD i default)) (L56a.h0 w N L a9), .b false, .b false, .b false, .b false, .b false, .b false, .b false, .b false, .b false, .b false, .b false, .b false, .b false, .b false, .b false, .b false, .b false, .b false, .b false, .b false, .b false, .b false, .b false, .b false, .b false, .b false, .b false, .b false, .b false, .b false, .b false, .b false, .b false, .b false, .b false, .b false], kmp (by kernel_rfl) (Ai h1 (Ai (Ai o0 o1) (Ai (r49c (w) ((L a9.toNat).length) o2 o3 (fun (i : Nat) => (L a9.toNat).getD i default)) (Ai h2 (Ai h3 (Ai h3 (Ai h3 (Ai h3 (Ai h3 (Ai h3 (Ai h3 (Ai h3 (Ai h3 (Ai h3 (Ai h3 (Ai h3 (Ai h3 (Ai h3 (Ai h3 (Ai h3 (Ai h3 (Ai h3 (Ai h3 (Ai h3 (Ai h3 (Ai h3 (Ai h3 (Ai h3 (Ai h3 (Ai h3 (Ai h3 (Ai h3 (Ai h3 (Ai h3 (Ai h3 (Ai h3 (Ai h3 (Ai h3 (Ai (rfl : false = false) (L56a.nx w N L (k_ := k_) (z_ := a9) (h_ := [AObj.var (WD.av w), AObj.var (AV.sl 14 (L a9.toNat).length fun (i : Nat) => (SD.av ((fun (i : Nat) => (L a9.toNat).getD i default) i)))]) (IntKind.i64.wrap (a9 + 1)) (Ai o8 o9) o10 (by simp only [L56a.N, h1, h2, h3, cond_true, cond_false]) (PopOk.pop rfl (by simp [L56a.T, L56a.X, L56a.H, L56a.XH]))))))))))))))))))))))))))))))))))))))))))⟩
  | false =>
    have h1p := of_decide_eq_false h1
    exact ⟨[.b false], kmp (by kernel_rfl) (Ai h1 (L56a.en w N L (k_ := k_) (z_ := a9) (.e1 : L56a.O) (by simp only [L56a.N, h1, cond_true, cond_false]) PopOk.same))⟩
theorem L56a.e0 (w : WD) (N : Nat) (hb : N ≤ 1000) (L : Nat → List SD) (hl : ∀ (k : Nat), (L k).length ≤ 10000) (hne : ∀ (k : Nat), k < N → 0 < (L k).length) (a9 : Int) (hinv : L56a.inv w N L a9) (hN : L56a.run w N L a9 = (.e0 : L56a.O)) : LoopTo Try.prog (loopN Try.f56 0) (L56a.T w N L a9) (L56a.H w N L a9) (Exit.ret) (L56a.X w N L (.e0 : L56a.O)) (L56a.XH w N L (.e0 : L56a.O)) := by
  have h_ := L56a.spec w N hb L hl hne ((((↑N : Int) - a9).toNat) + 1) a9 hinv (Nat.lt_succ_self _)
  unfold L56a.run at hN
  simp only [hN] at h_
  exact h_
theorem L56a.e1 (w : WD) (N : Nat) (hb : N ≤ 1000) (L : Nat → List SD) (hl : ∀ (k : Nat), (L k).length ≤ 10000) (hne : ∀ (k : Nat), k < N → 0 < (L k).length) (a9 : Int) (hinv : L56a.inv w N L a9) (hN : L56a.run w N L a9 = (.e1 : L56a.O)) : LoopTo Try.prog (loopN Try.f56 0) (L56a.T w N L a9) (L56a.H w N L a9) (Exit.exit 0) (L56a.X w N L (.e1 : L56a.O)) (L56a.XH w N L (.e1 : L56a.O)) := by
  have h_ := L56a.spec w N hb L hl hne ((((↑N : Int) - a9).toNat) + 1) a9 hinv (Nat.lt_succ_self _)
  unfold L56a.run at hN
  simp only [hN] at h_
  exact h_
noncomputable def r56.v (w : WD) (N : Nat) (L : Nat → List SD) : Bool := (match L56a.run w N L 0 with | .e0 => false | .e1 => true )
theorem r56 (w : WD) (N : Nat) (hb : N ≤ 1000) (L : Nat → List SD) (hl : ∀ (k : Nat), (L k).length ≤ 10000) (hne : ∀ (k : Nat), k < N → 0 < (L k).length) (h : AHeap) : Ret Try.prog 56 ([w.av, nsts N L]) h (AV.bool (r56.v w N L)) h := by
  have o0 : N ≤ (1000 : Nat) := by assumption
  have o1 : ∀ (k : Nat), (L k).length ≤ (10000 : Nat) := by assumption
  have o2 : ∀ (k : Nat), k < N → (0 : Nat) < (L k).length := by first | assumption | omega | (simp only [List.length_append, List.length_cons, List.length_nil, List.length_map]; omega) | (apply len_ps <;> first | assumption | omega) | (exact hl _) | (exact hl _ (by omega)) | (exact hne _) | (exact hne _ (by omega)) | (simp_all; done)
  have o3 : (0 : Int) ≤ (↑N : Int) ∨ (0 : Int) ≤ (0 : Int) := by omega
  cases h1 : L56a.run w N L 0 with
  | e0 =>
    exact Ret.of_run1 mix [(AV.bool (r56.v w N L))] Try.func56 rfl [.loop (others 55 [1, 2, 7, 8, 9]) (Exit.ret) (L56a.X w N L L56a.O.e0) (L56a.XH w N L L56a.O.e0)] (by simp) (by simp) (kmp (by kernel_rfl) (Ai (L56a.e0 (w) (N) o0 (L) o1 o2 (0) (Ai (show (0 : Int) ≤ (0 : Int) by decide) o3) h1) (Ai (show (AV.bool false) = ((AV.bool (r56.v w N L))) by simp only [r56.v, h1, cond_true, cond_false]) trivial))) h
  | e1 =>
    exact Ret.of_run1 mix [(AV.bool (r56.v w N L))] Try.func56 rfl [.loop (others 55 [1, 2, 7, 8, 9]) (Exit.exit 0) (L56a.X w N L L56a.O.e1) (L56a.XH w N L L56a.O.e1)] (by simp) (by simp) (kmp (by kernel_rfl) (Ai (L56a.e1 (w) (N) o0 (L) o1 o2 (0) (Ai (show (0 : Int) ≤ (0 : Int) by decide) o3) h1) (Ai (show (AV.bool true) = ((AV.bool (r56.v w N L))) by simp only [r56.v, h1, cond_true, cond_false]) trivial))) h
end Go.Proofs.Ytjdbmmilcihpoaa
open Go
namespace Go.Proofs.Ytjdbmmilcihpoaa
set_option linter.unusedSimpArgs false
set_option linter.unusedVariables false
set_option maxHeartbeats 0
set_option maxRecDepth 100000
inductive L24a.O where
  | e0
  | e1
noncomputable def L24a.T (w : WD) (a3 : Int) : List AV := mkT 97 [(1, AV.ptr 0 1 6 0 0), (3, AV.int IntKind.i64 a3)]
noncomputable def L24a.H (w : WD) (a3 : Int) : AHeap := [AObj.var w.av]
def L24a.inv (w : WD) (a3 : Int) : Prop := 1 ≤ a3 ∧ (a3 ≤ (↑w.n : Int) ∨ a3 ≤ 1)
noncomputable def L24a.mu (w : WD) (a3 : Int) : Nat := ((↑w.n : Int) - a3).toNat
noncomputable def L24a.E : L24a.O → Exit
  | .e0 => Exit.ret
  | .e1 => Exit.exit 1
noncomputable def L24a.X (w : WD) : L24a.O → List AV
  | .e0 => mkT 97 [(2, (AV.int IntKind.i64 5))]
  | .e1 => mkT 97 [(1, (AV.ptr 0 1 6 0 0))]
noncomputable def L24a.XH (w : WD) : L24a.O → AHeap
  | .e0 => ([AObj.var (WD.av w)])
  | .e1 => ([AObj.var (WD.av w)])
noncomputable def L24a.N (w : WD) : Nat → Int → L24a.O
  | 0, _ => .e0
  | k_ + 1, a3 => (bif decide (a3 < (↑w.n : Int)) then (bif Op.bytesLess (w.g (IntKind.i64.wrap (a3 - 1)).toNat).nm.toList (w.g a3.toNat).nm.toList then (L24a.N w k_ (IntKind.i64.wrap (a3 + 1))) else (.e0)) else (.e1))
noncomputable def L24a.run (w : WD) (a3 : Int) : L24a.O := L24a.N w ((((↑w.n : Int) - a3).toNat) + 1) a3
theorem L24a.nx (w : WD) {k_ : Nat} {z_ : Int} {h_ : AHeap} (s_ : Int) (h1 : L24a.inv w s_) (h2 : L24a.mu w s_ < L24a.mu w z_) (h3 : L24a.N w k_ s_ = L24a.N w (k_ + 1) z_) (h4 : PopOk (L24a.H w z_) h_ (L24a.T w s_) (L24a.H w s_)) : LNextP (fun (z_ : Int) => L24a.T w z_) (fun (z_ : Int) => L24a.H w z_) (fun (z_ : Int) => L24a.inv w z_) (fun (z_ : Int) => L24a.mu w z_) (fun (k_ : Nat) (z_ : Int) => L24a.N w k_ z_) k_ z_ (L24a.T w s_) h_ := LNextP.mk (Tm := (fun (z_ : Int) => L24a.T w z_)) (Hp := (fun (z_ : Int) => L24a.H w z_)) (inv := (fun (z_ : Int) => L24a.inv w z_)) (mu := (fun (z_ : Int) => L24a.mu w z_)) (l := (fun (k_ : Nat) (z_ : Int) => L24a.N w k_ z_)) s_ h1 h2 h3 h4
theorem L24a.en (w : WD) {k_ : Nat} {z_ : Int} {h_ : AHeap} (o_ : L24a.O) (h3 : L24a.N w (k_ + 1) z_ = o_) (h4 : PopOk (L24a.H w z_) h_ (L24a.X w o_) (L24a.XH w o_)) : LEndP (fun (z_ : Int) => L24a.H w z_) (fun (k_ : Nat) (z_ : Int) => L24a.N w k_ z_) L24a.E (L24a.X w) (L24a.XH w) k_ z_ (L24a.E o_) (L24a.X w o_) h_ := LEndP.mk (Hp := (fun (z_ : Int) => L24a.H w z_)) (l := (fun (k_ : Nat) (z_ : Int) => L24a.N w k_ z_)) (oE := L24a.E) (oT := L24a.X w) (oH := L24a.XH w) o_ h3 h4
theorem L24a.spec (w : WD) (hn : w.n ≤ 10000) (k_ : Nat) (z_ : Int) (hi_ : L24a.inv w z_) (hm_ : L24a.mu w z_ < k_) : LoopTo Try.prog (loopN Try.f24 0) (L24a.T w z_) (L24a.H w z_) (L24a.E (L24a.N w k_ z_)) (L24a.X w (L24a.N w k_ z_)) (L24a.XH w (L24a.N w k_ z_)) := by
  refine LoopTo.fuelP mix (fun (z_ : Int) => L24a.T w z_) (fun (z_ : Int) => L24a.H w z_) (fun (z_ : Int) => L24a.inv w z_) (fun (z_ : Int) => L24a.mu w z_) (fun (k_ : Nat) (z_ : Int) => L24a.N w k_ z_) L24a.E (L24a.X w) (L24a.XH w) (others 97 [1, 3]) (others 97 [2]) (others 97 [1]) ?_ k_ z_ hi_ hm_
  clear hm_ hi_ z_ k_
  intro k_ z_ hinv hmu
  revert hinv hmu; revert z_; intro a3 hinv hmu
  have hinv : 1 ≤ a3 ∧ (a3 ≤ (↑w.n : Int) ∨ a3 ≤ 1) := hinv
  have hmu : (((↑w.n : Int) - a3).toNat) < k_ + 1 := hmu
  cases h1 : decide (a3 < (↑w.n : Int)) with
  | true =>
    have h1p := of_decide_eq_true h1
    try have := IntWalk.i64_in (a3 - 1) (by omega)
    have o0 : (0 : Int) ≤ IntKind.i64.wrap (a3 - (1 : Int)) := by omega
    have o1 : IntKind.i64.wrap (a3 - (1 : Int)) < (↑w.n : Int) := by omega
    have o2 : (0 : Int) ≤ a3 := by omega
    have o3 : a3 < (↑w.n : Int) := by assumption
    cases h2 : Op.bytesLess (w.g (IntKind.i64.wrap (a3 - 1)).toNat).nm.toList (w.g a3.toNat).nm.toList with
    | true =>
      try have := IntWalk.i64_in (a3 + 1) (by omega)
      have o4 : (1 : Int) ≤ IntKind.i64.wrap (a3 + (1 : Int)) := by omega
      have o5 : IntKind.i64.wrap (a3 + (1 : Int)) ≤ (↑w.n : Int) ∨ IntKind.i64.wrap (a3 + (1 : Int)) ≤ (1 : Int) := by omega
      have o6 : ((↑w.n : Int) - IntKind.i64.wrap (a3 + (1 : Int))).toNat < ((↑w.n : Int) - a3).toNat := by omega
      exact ⟨[.b true, .b false], kmp (by kernel_rfl) (Ai h1 (Ai (Ai o0 o1) (Ai (Ai o2 o3) (Ai (show (bnot (Op.bytesLess (w.g (IntKind.i64.wrap (a3 - 1)).toNat).nm.toList (w.g a3.toNat).nm.toList)) = false by rw [h2]; try rfl) (L24a.nx w (k_ := k_) (z_ := a3) (IntKind.i64.wrap (a3 + 1)) (Ai o4 o5) o6 (by simp only [L24a.N, h1, h2, cond_true, cond_false]) PopOk.same)))))⟩
    | false =>
      exact ⟨[.b true, .b true], kmp (by kernel_rfl) (Ai h1 (Ai (Ai o0 o1) (Ai (Ai o2 o3) (Ai (show (bnot (Op.bytesLess (w.g (IntKind.i64.wrap (a3 - 1)).toNat).nm.toList (w.g a3.toNat).nm.toList)) = true by rw [h2]; try rfl) (L24a.en w (k_ := k_) (z_ := a3) (.e0 : L24a.O) (by simp only [L24a.N, h1, h2, cond_true, cond_false]) PopOk.same)))))⟩
  | false =>
    have h1p := of_decide_eq_false h1
    exact ⟨[.b false], kmp (by kernel_rfl) (Ai h1 (L24a.en w (k_ := k_) (z_ := a3) (.e1 : L24a.O) (by simp only [L24a.N, h1, cond_true, cond_false]) PopOk.same))⟩
theorem L24a.e0 (w : WD) (hn : w.n ≤ 10000) (a3 : Int) (hinv : L24a.inv w a3) (hN : L24a.run w a3 = (.e0 : L24a.O)) : LoopTo Try.prog (loopN Try.f24 0) (L24a.T w a3) (L24a.H w a3) (Exit.ret) (L24a.X w (.e0 : L24a.O)) (L24a.XH w (.e0 : L24a.O)) := by
  have h_ := L24a.spec w hn ((((↑w.n : Int) - a3).toNat) + 1) a3 hinv (Nat.lt_succ_self _)
  unfold L24a.run at hN
  simp only [hN] at h_
  exact h_
theorem L24a.e1 (w : WD) (hn : w.n ≤ 10000) (a3 : Int) (hinv : L24a.inv w a3) (hN : L24a.run w a3 = (.e1 : L24a.O)) : LoopTo Try.prog (loopN Try.f24 0) (L24a.T w a3) (L24a.H w a3) (Exit.exit 1) (L24a.X w (.e1 : L24a.O)) (L24a.XH w (.e1 : L24a.O)) := by
  have h_ := L24a.spec w hn ((((↑w.n : Int) - a3).toNat) + 1) a3 hinv (Nat.lt_succ_self _)
  unfold L24a.run at hN
  simp only [hN] at h_
  exact h_
end Go.Proofs.Ytjdbmmilcihpoaa
open Go
namespace Go.Proofs.Ytjdbmmilcihpoaa
set_option maxHeartbeats 0
set_option maxRecDepth 100000
set_option linter.unusedVariables false
set_option linter.unusedSimpArgs false
theorem idx_any (p : Nat → Bool) (n : Nat) (O : Type) (f : O → Int) (hit : Nat → O) (miss : O) (h1 : ∀ i : Nat, f (hit i) = i) (h2 : f miss = -1) :
    decide (f (srch p hit miss 0 n) ≥ 0) = anyN n p := by
  rcases srch_cases p hit miss n 0 with ⟨a1, a2⟩ | ⟨j, a1, a2, a3, a4, a5⟩
  · rw [a2, h2, anyN_false.2 fun i hi => a1 i (Nat.zero_le _) (by omega)]; rfl
  · rw [a5, h1, anyN_true.2 ⟨j, by omega, a3⟩, decide_eq_true (by omega)]
theorem r49a_v {n : Nat} {g : Nat → SD} (hn : n ≤ 9223372036854775807) : r49a.v n g = anyN n (fun i => r50.v (g i)) := by
  have := search_eq (n := n) (fun i => r50.v (g i)) (fun i => L59aa.O.e0 i) .e1 (N := L59aa.N n g) (fun k i h => by
    simp only [L59aa.N, wrap_succ hn h, Int.toNat_natCast]; rw [decide_eq_true (by omega)]; rfl) (fun k => by simp [L59aa.N]) (n + 1) 0 (Nat.zero_le _) (by omega)
  have e : L59aa.run n g 0 = srch (fun i => r50.v (g i)) (fun i => L59aa.O.e0 i) .e1 0 n := by simpa [L59aa.run] using this
  unfold r49a.v r59a.v
  rw [e]
  exact idx_any _ n L59aa.O (fun o => match o with | .e0 a => a | .e1 => -1) _ _ (fun i => rfl) rfl
theorem r49b_v {n : Nat} {g : Nat → SD} (hn : n ≤ 9223372036854775807) : r49b.v n g = anyN n (fun i => r52.v (g i)) := by
  have := search_eq (n := n) (fun i => r52.v (g i)) (fun i => L59ba.O.e0 i) .e1 (N := L59ba.N n g) (fun k i h => by
    simp only [L59ba.N, wrap_succ hn h, Int.toNat_natCast]; rw [decide_eq_true (by omega)]; rfl) (fun k => by simp [L59ba.N]) (n + 1) 0 (Nat.zero_le _) (by omega)
  have e : L59ba.run n g 0 = srch (fun i => r52.v (g i)) (fun i => L59ba.O.e0 i) .e1 0 n := by simpa [L59ba.run] using this
  unfold r49b.v r59b.v
  rw [e]
  exact idx_any _ n L59ba.O (fun o => match o with | .e0 a => a | .e1 => -1) _ _ (fun i => rfl) rfl
theorem r54_v {n : Nat} {L : Nat → List SD} (hn : n ≤ 9223372036854775807) : r54.v n L = anyN n (fun i => r55.v (L i).length) := by
  have := search_eq (n := n) (fun i => r55.v (L i).length) (fun i => L77a.O.e0 i) .e1 (N := L77a.N n L) (fun k i h => by
    simp only [L77a.N, wrap_succ hn h, Int.toNat_natCast]; rw [decide_eq_true (by omega)]; rfl) (fun k => by simp [L77a.N]) (n + 1) 0 (Nat.zero_le _) (by omega)
  have e : L77a.run n L 0 = srch (fun i => r55.v (L i).length) (fun i => L77a.O.e0 i) .e1 0 n := by simpa [L77a.run] using this
  unfold r54.v r77.v
  rw [e]
  exact idx_any _ n L77a.O (fun o => match o with | .e0 a => a | .e1 => -1) _ _ (fun i => rfl) rfl
theorem in51 {x a b : Int} (h : r51.v x a b = true) : a ≤ x ∧ x ≤ b := by
  unfold r51.v at h
  by_cases q : x ≥ a
  · rw [decide_eq_true q, cond_true] at h; exact ⟨q, of_decide_eq_true h⟩
  · rw [decide_eq_false q] at h; cases h
/-- The numbers of a stone. -/
structure SOk (s : SD) : Prop where
  sx : 1 ≤ s.sx ∧ s.sx ≤ 1000000
  sz : 1 ≤ s.sz ∧ s.sz ≤ 1000000
  ax : 0 ≤ s.ax ∧ s.ax ≤ 1000000
  az : 0 ≤ s.az ∧ s.az ≤ 1000000
  tl : 0 ≤ s.tl ∧ s.tl ≤ 100
  co : 0 ≤ s.co ∧ s.co ≤ 99
theorem sok {s : SD} (h : r52.v s = false) : SOk s := by
  unfold r52.v at h
  have h : r53.v s = true := by cases q : r53.v s with | true => rfl | false => rw [q] at h; cases h
  unfold r53.v at h
  have st : ∀ {b x : Bool}, (bif b then x else false) = true → b = true ∧ x = true := by
    intro b x h; cases b
    · cases h
    · exact ⟨rfl, h⟩
  obtain ⟨h1, h⟩ := st h
  obtain ⟨h2, h⟩ := st h
  obtain ⟨h3, h⟩ := st h
  obtain ⟨h4, h⟩ := st h
  obtain ⟨h5, h6⟩ := st h
  exact ⟨in51 h1, in51 h2, in51 h3, in51 h4, in51 h5, in51 h6⟩
theorem sok_all {n : Nat} {g : Nat → SD} (hn : n ≤ 10000) (h : r49b.v n g = false) : ∀ i, i < n → SOk (g i) := by
  rw [r49b_v (by omega)] at h
  exact fun i hi => sok (anyN_false.1 h i hi)
theorem co_of {w : WD} (hn : w.n ≤ 10000) (h : r49b.v w.n w.g = false) : ∀ i, i < w.n → 0 ≤ (w.g i).co ∧ (w.g i).co ≤ 99 := fun i hi => (sok_all hn h i hi).co
/-- Names rise. -/
theorem rise_N {w : WD} (hn : w.n ≤ 10000) : ∀ (m i : Nat), 1 ≤ i → L24a.N w m (i : Int) = .e1 → ∀ j, i ≤ j → j < w.n → (w.g (j - 1)).nm.toList < (w.g j).nm.toList := by
  intro m
  induction m with
  | zero => intro i h1 h; cases h
  | succ m ih =>
    intro i h1 h j hj hjn
    simp only [L24a.N, Int.toNat_natCast] at h
    have hi : i < w.n := by omega
    rw [decide_eq_true (show (i : Int) < (w.n : Int) by omega), cond_true, show IntKind.i64.wrap ((i : Int) - 1) = ((i - 1 : Nat) : Int) by rw [IntWalk.i64_in _ (by omega)]; omega, show IntKind.i64.wrap ((i : Int) + 1) = ((i + 1 : Nat) : Int) by rw [IntWalk.i64_in _ (by omega)]; omega, Int.toNat_natCast] at h
    rw [Go.Proofs.bytesLess_eq] at h
    by_cases q : (w.g (i - 1)).nm.toList < (w.g i).nm.toList
    · rw [decide_eq_true q, cond_true] at h
      by_cases e : j = i
      · subst e; exact q
      · exact ih (i + 1) (by omega) h j (by omega) hjn
    · rw [decide_eq_false q] at h; cases h
theorem rise_lt {g : Nat → SD} {n : Nat} (h : ∀ j, 1 ≤ j → j < n → (g (j - 1)).nm.toList < (g j).nm.toList) : ∀ (d i : Nat), i + d + 1 < n → (g i).nm.toList < (g (i + d + 1)).nm.toList := by
  intro d
  induction d with
  | zero => intro i hi; have := h (i + 1) (by omega) hi; rwa [Nat.add_sub_cancel] at this
  | succ d ih =>
    intro i hi
    have h1 := ih i (by omega)
    have h2 := h (i + d + 1 + 1) (by omega) (by omega)
    rw [Nat.add_sub_cancel] at h2
    exact List.lt_trans h1 h2
theorem rise {w : WD} (hn : w.n ≤ 10000) (h : L24a.run w 1 = .e1) : ∀ i j, i < j → j < w.n → (w.g i).nm.toList < (w.g j).nm.toList := by
  have hr := rise_N hn _ 1 (Nat.le_refl _) h
  intro i j hij hj
  have := rise_lt (g := w.g) (n := w.n) (fun j h1 h2 => hr j h1 h2) (j - i - 1) i (by omega)
  rwa [show i + (j - i - 1) + 1 = j by omega] at this
theorem nm_of {w : WD} (hn : w.n ≤ 10000) (h : L24a.run w 1 = .e1) : ∀ i j, i < w.n → j < w.n → (w.g i).nm.toList = (w.g j).nm.toList → i = j := by
  intro i j hi hj e
  rcases Nat.lt_trichotomy i j with q | q | q
  · have := rise hn h i j q hj; rw [e] at this; exact absurd this (List.lt_irrefl _)
  · exact q
  · have := rise hn h j i q hi; rw [e] at this; exact absurd this (List.lt_irrefl _)
theorem cC_len {w : WD} (hn : w.n ≤ 10000) : ∀ k, (cC w k).length ≤ 10000 := fun k => by
  unfold cC
  rw [srtS_len]
  have := crs_lt w.g k w.n
  omega
theorem nC_le {w : WD} (hn : w.n ≤ 10000) (h : r49b.v w.n w.g = false) : nC w ≤ 1000 := by
  obtain ⟨_, t2⟩ := top_le w.g 99 (by decide) w.n fun i hi => (co_of hn h i hi).2
  unfold nC; omega
theorem cC_pos {w : WD} (hn : w.n ≤ 10000) (hN : nC w ≤ 1000) (h : r54.v (nC w) (cC w) = false) : ∀ k, k < nC w → 0 < (cC w k).length := by
  rw [r54_v (by omega)] at h
  intro k hk
  have := anyN_false.1 h k hk
  unfold r55.v at this
  have h0 : ((cC w k).length : Int) ≠ 0 := by simpa using this
  omega
end Go.Proofs.Ytjdbmmilcihpoaa
open Go
namespace Go.Proofs.Ytjdbmmilcihpoaa
set_option linter.unusedSimpArgs false
set_option linter.unusedVariables false
set_option maxHeartbeats 0
set_option maxRecDepth 100000
noncomputable def r24.v (w : WD) : Int := (bif decide ((↑w.n : Int) > 512) then 7 else (bif r48.v w.nm then (bif r49a.v w.n w.g then 4 else (bif r51.v w.len 1 1000000 then (bif r51.v w.lap 0 1000000 then (bif r51.v w.jl 0 1000 then (bif r51.v w.jh 0 1000 then (bif r49b.v w.n w.g then 6 else (bif decide (w.jl > w.jh) then 1 else (match L24a.run w 1 with | .e0 => 5 | .e1 => (bif r54.v (nC w) (cC w) then 9 else (bif r56.v w (nC w) (cC w) then (bif r57.v (nC w) (cC w) then 11 else (bif r58.v w (nC w) (cC w) then 0 else 10)) else 10)) ))) else 6) else 6) else 6) else 6)) else 4))
noncomputable abbrev r24.h0 (w : WD) : AHeap := ([AObj.var (WD.av w)])
theorem r24 (w : WD) (hn : w.n ≤ 10000) (hnm : w.nm.size ≤ 9223372036854775807) (hg : ∀ (i : Nat), (w.g i).nm.size ≤ 9223372036854775807) (h : AHeap) : Ret Try.prog 24 ([w.av]) h (AV.int IntKind.i64 (r24.v w)) h := by
  cases h1 : decide ((↑w.n : Int) > 512) with
  | true =>
    have h1p := of_decide_eq_true h1
    exact Ret.of_run1 mix [(AV.int IntKind.i64 (r24.v w))] Try.func24 rfl [.b true] (by simp) (by simp) (kmp (by kernel_rfl) (Ai h1 (Ai (show (AV.int IntKind.i64 7) = ((AV.int IntKind.i64 (r24.v w))) by simp only [r24.v, h1, cond_true, cond_false]) trivial))) h
  | false =>
    have h1p := of_decide_eq_false h1
    have o0 : w.nm.size ≤ (9223372036854775807 : Nat) := by assumption
    cases h2 : r48.v w.nm with
    | true =>
      have o1 : w.n ≤ (9223372036854775807 : Nat) := by omega
      have o2 : ∀ (i : Nat), (w.g i).nm.size ≤ (9223372036854775807 : Nat) := by assumption
      cases h3 : r49a.v w.n w.g with
      | true =>
        exact Ret.of_run1 mix [(AV.int IntKind.i64 (r24.v w))] Try.func24 rfl [.b false, .ret (AV.bool (r48.v w.nm)) (r24.h0 w), .b false, .b false, .b false, .ret (AV.bool (r49a.v w.n w.g)) (r24.h0 w), .b false, .b true] (by simp) (by simp) (kmp (by kernel_rfl) (Ai h1 (Ai (r48 (w.nm) o0 (r24.h0 w)) (Ai (show (bnot (r48.v w.nm)) = false by rw [h2]; try rfl) (Ai (show (bnot (r48.v w.nm)) = false by rw [h2]; try rfl) (Ai (show (bnot (r48.v w.nm)) = false by rw [h2]; try rfl) (Ai (r49a (w.n) (w.g) o1 o2 (r24.h0 w)) (Ai (show (bnot (r48.v w.nm)) = false by rw [h2]; try rfl) (Ai h3 (Ai (show (AV.int IntKind.i64 4) = ((AV.int IntKind.i64 (r24.v w))) by simp only [r24.v, h1, h2, h3, cond_true, cond_false]) trivial)))))))))) h
      | false =>
        cases h4 : r51.v w.len 1 1000000 with
        | true =>
          cases h5 : r51.v w.lap 0 1000000 with
          | true =>
            cases h6 : r51.v w.jl 0 1000 with
            | true =>
              cases h7 : r51.v w.jh 0 1000 with
              | true =>
                cases h8 : r49b.v w.n w.g with
                | true =>
                  exact Ret.of_run1 mix [(AV.int IntKind.i64 (r24.v w))] Try.func24 rfl [.b false, .ret (AV.bool (r48.v w.nm)) (r24.h0 w), .b false, .b false, .b false, .ret (AV.bool (r49a.v w.n w.g)) (r24.h0 w), .b false, .b false, .ret (AV.bool (r51.v w.len 1 1000000)) (r24.h0 w), .b false, .b false, .b false, .ret (AV.bool (r51.v w.lap 0 1000000)) (r24.h0 w), .b false, .b false, .b false, .b false, .b false, .b false, .ret (AV.bool (r51.v w.jl 0 1000)) (r24.h0 w), .b false, .b false, .b false, .b false, .b false, .b false, .ret (AV.bool (r51.v w.jh 0 1000)) (r24.h0 w), .b false, .b false, .b false, .b false, .b false, .ret (AV.bool (r49b.v w.n w.g)) (r24.h0 w), .b false, .b true] (by simp) (by simp) (kmp (by kernel_rfl) (Ai h1 (Ai (r48 (w.nm) o0 (r24.h0 w)) (Ai (show (bnot (r48.v w.nm)) = false by rw [h2]; try rfl) (Ai (show (bnot (r48.v w.nm)) = false by rw [h2]; try rfl) (Ai (show (bnot (r48.v w.nm)) = false by rw [h2]; try rfl) (Ai (r49a (w.n) (w.g) o1 o2 (r24.h0 w)) (Ai (show (bnot (r48.v w.nm)) = false by rw [h2]; try rfl) (Ai h3 (Ai (r51 (w.len) (1) (1000000) (r24.h0 w)) (Ai (show (bnot (r51.v w.len 1 1000000)) = false by rw [h4]; try rfl) (Ai (show (bnot (r51.v w.len 1 1000000)) = false by rw [h4]; try rfl) (Ai (show (bnot (r51.v w.len 1 1000000)) = false by rw [h4]; try rfl) (Ai (r51 (w.lap) (0) (1000000) (r24.h0 w)) (Ai (show (bnot (r51.v w.len 1 1000000)) = false by rw [h4]; try rfl) (Ai (show (bnot (r51.v w.len 1 1000000)) = false by rw [h4]; try rfl) (Ai (show (bnot (r51.v w.lap 0 1000000)) = false by rw [h5]; try rfl) (Ai (show (bnot (r51.v w.lap 0 1000000)) = false by rw [h5]; try rfl) (Ai (show (bnot (r51.v w.lap 0 1000000)) = false by rw [h5]; try rfl) (Ai (show (bnot (r51.v w.lap 0 1000000)) = false by rw [h5]; try rfl) (Ai (r51 (w.jl) (0) (1000) (r24.h0 w)) (Ai (show (bnot (r51.v w.lap 0 1000000)) = false by rw [h5]; try rfl) (Ai (show (bnot (r51.v w.lap 0 1000000)) = false by rw [h5]; try rfl) (Ai (show (bnot (r51.v w.jl 0 1000)) = false by rw [h6]; try rfl) (Ai (show (bnot (r51.v w.jl 0 1000)) = false by rw [h6]; try rfl) (Ai (show (bnot (r51.v w.jl 0 1000)) = false by rw [h6]; try rfl) (Ai (show (bnot (r51.v w.jl 0 1000)) = false by rw [h6]; try rfl) (Ai (r51 (w.jh) (0) (1000) (r24.h0 w)) (Ai (show (bnot (r51.v w.jl 0 1000)) = false by rw [h6]; try rfl) (Ai (show (bnot (r51.v w.jl 0 1000)) = false by rw [h6]; try rfl) (Ai (show (bnot (r51.v w.jh 0 1000)) = false by rw [h7]; try rfl) (Ai (show (bnot (r51.v w.jh 0 1000)) = false by rw [h7]; try rfl) (Ai (show (bnot (r51.v w.jh 0 1000)) = false by rw [h7]; try rfl) (Ai (r49b (w.n) (w.g) o1 (r24.h0 w)) (Ai (show (bnot (r51.v w.jh 0 1000)) = false by rw [h7]; try rfl) (Ai h8 (Ai (show (AV.int IntKind.i64 6) = ((AV.int IntKind.i64 (r24.v w))) by simp only [r24.v, h1, h2, h3, h4, h5, h6, h7, h8, cond_true, cond_false]) trivial))))))))))))))))))))))))))))))))))))) h
                | false =>
                  cases h9 : decide (w.jl > w.jh) with
                  | true =>
                    have h9p := of_decide_eq_true h9
                    exact Ret.of_run1 mix [(AV.int IntKind.i64 (r24.v w))] Try.func24 rfl [.b false, .ret (AV.bool (r48.v w.nm)) (r24.h0 w), .b false, .b false, .b false, .ret (AV.bool (r49a.v w.n w.g)) (r24.h0 w), .b false, .b false, .ret (AV.bool (r51.v w.len 1 1000000)) (r24.h0 w), .b false, .b false, .b false, .ret (AV.bool (r51.v w.lap 0 1000000)) (r24.h0 w), .b false, .b false, .b false, .b false, .b false, .b false, .ret (AV.bool (r51.v w.jl 0 1000)) (r24.h0 w), .b false, .b false, .b false, .b false, .b false, .b false, .ret (AV.bool (r51.v w.jh 0 1000)) (r24.h0 w), .b false, .b false, .b false, .b false, .b false, .ret (AV.bool (r49b.v w.n w.g)) (r24.h0 w), .b false, .b false, .b true] (by simp) (by simp) (kmp (by kernel_rfl) (Ai h1 (Ai (r48 (w.nm) o0 (r24.h0 w)) (Ai (show (bnot (r48.v w.nm)) = false by rw [h2]; try rfl) (Ai (show (bnot (r48.v w.nm)) = false by rw [h2]; try rfl) (Ai (show (bnot (r48.v w.nm)) = false by rw [h2]; try rfl) (Ai (r49a (w.n) (w.g) o1 o2 (r24.h0 w)) (Ai (show (bnot (r48.v w.nm)) = false by rw [h2]; try rfl) (Ai h3 (Ai (r51 (w.len) (1) (1000000) (r24.h0 w)) (Ai (show (bnot (r51.v w.len 1 1000000)) = false by rw [h4]; try rfl) (Ai (show (bnot (r51.v w.len 1 1000000)) = false by rw [h4]; try rfl) (Ai (show (bnot (r51.v w.len 1 1000000)) = false by rw [h4]; try rfl) (Ai (r51 (w.lap) (0) (1000000) (r24.h0 w)) (Ai (show (bnot (r51.v w.len 1 1000000)) = false by rw [h4]; try rfl) (Ai (show (bnot (r51.v w.len 1 1000000)) = false by rw [h4]; try rfl) (Ai (show (bnot (r51.v w.lap 0 1000000)) = false by rw [h5]; try rfl) (Ai (show (bnot (r51.v w.lap 0 1000000)) = false by rw [h5]; try rfl) (Ai (show (bnot (r51.v w.lap 0 1000000)) = false by rw [h5]; try rfl) (Ai (show (bnot (r51.v w.lap 0 1000000)) = false by rw [h5]; try rfl) (Ai (r51 (w.jl) (0) (1000) (r24.h0 w)) (Ai (show (bnot (r51.v w.lap 0 1000000)) = false by rw [h5]; try rfl) (Ai (show (bnot (r51.v w.lap 0 1000000)) = false by rw [h5]; try rfl) (Ai (show (bnot (r51.v w.jl 0 1000)) = false by rw [h6]; try rfl) (Ai (show (bnot (r51.v w.jl 0 1000)) = false by rw [h6]; try rfl) (Ai (show (bnot (r51.v w.jl 0 1000)) = false by rw [h6]; try rfl) (Ai (show (bnot (r51.v w.jl 0 1000)) = false by rw [h6]; try rfl) (Ai (r51 (w.jh) (0) (1000) (r24.h0 w)) (Ai (show (bnot (r51.v w.jl 0 1000)) = false by rw [h6]; try rfl) (Ai (show (bnot (r51.v w.jl 0 1000)) = false by rw [h6]; try rfl) (Ai (show (bnot (r51.v w.jh 0 1000)) = false by rw [h7]; try rfl) (Ai (show (bnot (r51.v w.jh 0 1000)) = false by rw [h7]; try rfl) (Ai (show (bnot (r51.v w.jh 0 1000)) = false by rw [h7]; try rfl) (Ai (r49b (w.n) (w.g) o1 (r24.h0 w)) (Ai (show (bnot (r51.v w.jh 0 1000)) = false by rw [h7]; try rfl) (Ai h8 (Ai h9 (Ai (show (AV.int IntKind.i64 1) = ((AV.int IntKind.i64 (r24.v w))) by simp only [r24.v, h1, h2, h3, h4, h5, h6, h7, h8, h9, cond_true, cond_false]) trivial)))))))))))))))))))))))))))))))))))))) h
                  | false =>
                    have h9p := of_decide_eq_false h9
                    have o3 : w.n ≤ (10000 : Nat) := by assumption
                    have o4 : (1 : Int) ≤ (↑w.n : Int) ∨ (1 : Int) ≤ (1 : Int) := by omega
                    cases h10 : L24a.run w 1 with
                    | e0 =>
                      exact Ret.of_run1 mix [(AV.int IntKind.i64 (r24.v w))] Try.func24 rfl [.b false, .ret (AV.bool (r48.v w.nm)) (r24.h0 w), .b false, .b false, .b false, .ret (AV.bool (r49a.v w.n w.g)) (r24.h0 w), .b false, .b false, .ret (AV.bool (r51.v w.len 1 1000000)) (r24.h0 w), .b false, .b false, .b false, .ret (AV.bool (r51.v w.lap 0 1000000)) (r24.h0 w), .b false, .b false, .b false, .b false, .b false, .b false, .ret (AV.bool (r51.v w.jl 0 1000)) (r24.h0 w), .b false, .b false, .b false, .b false, .b false, .b false, .ret (AV.bool (r51.v w.jh 0 1000)) (r24.h0 w), .b false, .b false, .b false, .b false, .b false, .ret (AV.bool (r49b.v w.n w.g)) (r24.h0 w), .b false, .b false, .b false, .loop (others 97 [1, 3]) (Exit.ret) (L24a.X w L24a.O.e0) (L24a.XH w L24a.O.e0)] (by simp) (by simp) (kmp (by kernel_rfl) (Ai h1 (Ai (r48 (w.nm) o0 (r24.h0 w)) (Ai (show (bnot (r48.v w.nm)) = false by rw [h2]; try rfl) (Ai (show (bnot (r48.v w.nm)) = false by rw [h2]; try rfl) (Ai (show (bnot (r48.v w.nm)) = false by rw [h2]; try rfl) (Ai (r49a (w.n) (w.g) o1 o2 (r24.h0 w)) (Ai (show (bnot (r48.v w.nm)) = false by rw [h2]; try rfl) (Ai h3 (Ai (r51 (w.len) (1) (1000000) (r24.h0 w)) (Ai (show (bnot (r51.v w.len 1 1000000)) = false by rw [h4]; try rfl) (Ai (show (bnot (r51.v w.len 1 1000000)) = false by rw [h4]; try rfl) (Ai (show (bnot (r51.v w.len 1 1000000)) = false by rw [h4]; try rfl) (Ai (r51 (w.lap) (0) (1000000) (r24.h0 w)) (Ai (show (bnot (r51.v w.len 1 1000000)) = false by rw [h4]; try rfl) (Ai (show (bnot (r51.v w.len 1 1000000)) = false by rw [h4]; try rfl) (Ai (show (bnot (r51.v w.lap 0 1000000)) = false by rw [h5]; try rfl) (Ai (show (bnot (r51.v w.lap 0 1000000)) = false by rw [h5]; try rfl) (Ai (show (bnot (r51.v w.lap 0 1000000)) = false by rw [h5]; try rfl) (Ai (show (bnot (r51.v w.lap 0 1000000)) = false by rw [h5]; try rfl) (Ai (r51 (w.jl) (0) (1000) (r24.h0 w)) (Ai (show (bnot (r51.v w.lap 0 1000000)) = false by rw [h5]; try rfl) (Ai (show (bnot (r51.v w.lap 0 1000000)) = false by rw [h5]; try rfl) (Ai (show (bnot (r51.v w.jl 0 1000)) = false by rw [h6]; try rfl) (Ai (show (bnot (r51.v w.jl 0 1000)) = false by rw [h6]; try rfl) (Ai (show (bnot (r51.v w.jl 0 1000)) = false by rw [h6]; try rfl) (Ai (show (bnot (r51.v w.jl 0 1000)) = false by rw [h6]; try rfl) (Ai (r51 (w.jh) (0) (1000) (r24.h0 w)) (Ai (show (bnot (r51.v w.jl 0 1000)) = false by rw [h6]; try rfl) (Ai (show (bnot (r51.v w.jl 0 1000)) = false by rw [h6]; try rfl) (Ai (show (bnot (r51.v w.jh 0 1000)) = false by rw [h7]; try rfl) (Ai (show (bnot (r51.v w.jh 0 1000)) = false by rw [h7]; try rfl) (Ai (show (bnot (r51.v w.jh 0 1000)) = false by rw [h7]; try rfl) (Ai (r49b (w.n) (w.g) o1 (r24.h0 w)) (Ai (show (bnot (r51.v w.jh 0 1000)) = false by rw [h7]; try rfl) (Ai h8 (Ai h9 (Ai (L24a.e0 (w) o3 (1) (Ai (show (1 : Int) ≤ (1 : Int) by decide) o4) h10) (Ai (show (AV.int IntKind.i64 5) = ((AV.int IntKind.i64 (r24.v w))) by simp only [r24.v, h1, h2, h3, h4, h5, h6, h7, h8, h9, h10, cond_true, cond_false]) trivial))))))))))))))))))))))))))))))))))))))) h
                    | e1 =>
                      have o5 : ∀ (i : Nat), i < w.n → (0 : Int) ≤ (w.g i).co ∧ (w.g i).co ≤ (99 : Int) := by first | assumption | omega | (apply co_of <;> first | assumption | omega) | (exact hg _) | (exact hg _ (by omega)) | (simp_all; done)
                      have o6 : ∀ (i j : Nat), i < w.n → j < w.n → (w.g i).nm.toList = (w.g j).nm.toList → i = j := by first | assumption | omega | (apply nm_of <;> first | assumption | omega) | (exact hg _) | (exact hg _ (by omega)) | (simp_all; done)
                      have o7 : nC w ≤ (1000 : Nat) := by first | assumption | omega | (apply nC_le <;> first | assumption | omega) | (exact hg _) | (exact hg _ (by omega)) | (simp_all; done)
                      cases h11 : r54.v (nC w) (cC w) with
                      | true =>
                        exact Ret.of_run1 mix [(AV.int IntKind.i64 (r24.v w))] Try.func24 rfl [.b false, .ret (AV.bool (r48.v w.nm)) (r24.h0 w), .b false, .b false, .b false, .ret (AV.bool (r49a.v w.n w.g)) (r24.h0 w), .b false, .b false, .ret (AV.bool (r51.v w.len 1 1000000)) (r24.h0 w), .b false, .b false, .b false, .ret (AV.bool (r51.v w.lap 0 1000000)) (r24.h0 w), .b false, .b false, .b false, .b false, .b false, .b false, .ret (AV.bool (r51.v w.jl 0 1000)) (r24.h0 w), .b false, .b false, .b false, .b false, .b false, .b false, .ret (AV.bool (r51.v w.jh 0 1000)) (r24.h0 w), .b false, .b false, .b false, .b false, .b false, .ret (AV.bool (r49b.v w.n w.g)) (r24.h0 w), .b false, .b false, .b false, .loop (others 97 [1, 3]) (Exit.exit 1) (L24a.X w L24a.O.e1) (L24a.XH w L24a.O.e1), .ret (AV.sl 1 (nC w) fun (j : Nat) => AV.sl 14 (cC w j).length fun (q : Nat) => (SD.av ((cC w j).getD q default))) (r24.h0 w), .ret (AV.bool (r54.v (nC w) (cC w))) (r24.h0 w), .b true] (by simp) (by simp) (kmp (by kernel_rfl) (Ai h1 (Ai (r48 (w.nm) o0 (r24.h0 w)) (Ai (show (bnot (r48.v w.nm)) = false by rw [h2]; try rfl) (Ai (show (bnot (r48.v w.nm)) = false by rw [h2]; try rfl) (Ai (show (bnot (r48.v w.nm)) = false by rw [h2]; try rfl) (Ai (r49a (w.n) (w.g) o1 o2 (r24.h0 w)) (Ai (show (bnot (r48.v w.nm)) = false by rw [h2]; try rfl) (Ai h3 (Ai (r51 (w.len) (1) (1000000) (r24.h0 w)) (Ai (show (bnot (r51.v w.len 1 1000000)) = false by rw [h4]; try rfl) (Ai (show (bnot (r51.v w.len 1 1000000)) = false by rw [h4]; try rfl) (Ai (show (bnot (r51.v w.len 1 1000000)) = false by rw [h4]; try rfl) (Ai (r51 (w.lap) (0) (1000000) (r24.h0 w)) (Ai (show (bnot (r51.v w.len 1 1000000)) = false by rw [h4]; try rfl) (Ai (show (bnot (r51.v w.len 1 1000000)) = false by rw [h4]; try rfl) (Ai (show (bnot (r51.v w.lap 0 1000000)) = false by rw [h5]; try rfl) (Ai (show (bnot (r51.v w.lap 0 1000000)) = false by rw [h5]; try rfl) (Ai (show (bnot (r51.v w.lap 0 1000000)) = false by rw [h5]; try rfl) (Ai (show (bnot (r51.v w.lap 0 1000000)) = false by rw [h5]; try rfl) (Ai (r51 (w.jl) (0) (1000) (r24.h0 w)) (Ai (show (bnot (r51.v w.lap 0 1000000)) = false by rw [h5]; try rfl) (Ai (show (bnot (r51.v w.lap 0 1000000)) = false by rw [h5]; try rfl) (Ai (show (bnot (r51.v w.jl 0 1000)) = false by rw [h6]; try rfl) (Ai (show (bnot (r51.v w.jl 0 1000)) = false by rw [h6]; try rfl) (Ai (show (bnot (r51.v w.jl 0 1000)) = false by rw [h6]; try rfl) (Ai (show (bnot (r51.v w.jl 0 1000)) = false by rw [h6]; try rfl) (Ai (r51 (w.jh) (0) (1000) (r24.h0 w)) (Ai (show (bnot (r51.v w.jl 0 1000)) = false by rw [h6]; try rfl) (Ai (show (bnot (r51.v w.jl 0 1000)) = false by rw [h6]; try rfl) (Ai (show (bnot (r51.v w.jh 0 1000)) = false by rw [h7]; try rfl) (Ai (show (bnot (r51.v w.jh 0 1000)) = false by rw [h7]; try rfl) (Ai (show (bnot (r51.v w.jh 0 1000)) = false by rw [h7]; try rfl) (Ai (r49b (w.n) (w.g) o1 (r24.h0 w)) (Ai (show (bnot (r51.v w.jh 0 1000)) = false by rw [h7]; try rfl) (Ai h8 (Ai h9 (Ai (L24a.e1 (w) o3 (1) (Ai (show (1 : Int) ≤ (1 : Int) by decide) o4) h10) (Ai (r44 (w) o3 o5 o6 (r24.h0 w)) (Ai (r54 (nC w) o7 (cC w) (r24.h0 w)) (Ai h11 (Ai (show (AV.int IntKind.i64 9) = ((AV.int IntKind.i64 (r24.v w))) by simp only [r24.v, h1, h2, h3, h4, h5, h6, h7, h8, h9, h11, h10, cond_true, cond_false]) trivial)))))))))))))))))))))))))))))))))))))))))) h
                      | false =>
                        have o8 : ∀ (k : Nat), (cC w k).length ≤ (10000 : Nat) := by first | assumption | omega | (simp only [List.length_append, List.length_cons, List.length_nil, List.length_map]; omega) | (apply cC_len <;> first | assumption | omega) | (exact hg _) | (exact hg _ (by omega)) | (simp_all; done)
                        have o9 : ∀ (k : Nat), k < nC w → (0 : Nat) < (cC w k).length := by first | assumption | omega | (simp only [List.length_append, List.length_cons, List.length_nil, List.length_map]; omega) | (apply cC_pos <;> first | assumption | omega) | (exact hg _) | (exact hg _ (by omega)) | (simp_all; done)
                        cases h12 : r56.v w (nC w) (cC w) with
                        | true =>
                          cases h13 : r57.v (nC w) (cC w) with
                          | true =>
                            exact Ret.of_run1 mix [(AV.int IntKind.i64 (r24.v w))] Try.func24 rfl [.b false, .ret (AV.bool (r48.v w.nm)) (r24.h0 w), .b false, .b false, .b false, .ret (AV.bool (r49a.v w.n w.g)) (r24.h0 w), .b false, .b false, .ret (AV.bool (r51.v w.len 1 1000000)) (r24.h0 w), .b false, .b false, .b false, .ret (AV.bool (r51.v w.lap 0 1000000)) (r24.h0 w), .b false, .b false, .b false, .b false, .b false, .b false, .ret (AV.bool (r51.v w.jl 0 1000)) (r24.h0 w), .b false, .b false, .b false, .b false, .b false, .b false, .ret (AV.bool (r51.v w.jh 0 1000)) (r24.h0 w), .b false, .b false, .b false, .b false, .b false, .ret (AV.bool (r49b.v w.n w.g)) (r24.h0 w), .b false, .b false, .b false, .loop (others 97 [1, 3]) (Exit.exit 1) (L24a.X w L24a.O.e1) (L24a.XH w L24a.O.e1), .ret (AV.sl 1 (nC w) fun (j : Nat) => AV.sl 14 (cC w j).length fun (q : Nat) => (SD.av ((cC w j).getD q default))) (r24.h0 w), .ret (AV.bool (r54.v (nC w) (cC w))) (r24.h0 w), .b false, .ret (AV.bool (r56.v w (nC w) (cC w))) (r24.h0 w), .b false, .ret (AV.bool (r57.v (nC w) (cC w))) (r24.h0 w), .b true] (by simp) (by simp) (kmp (by kernel_rfl) (Ai h1 (Ai (r48 (w.nm) o0 (r24.h0 w)) (Ai (show (bnot (r48.v w.nm)) = false by rw [h2]; try rfl) (Ai (show (bnot (r48.v w.nm)) = false by rw [h2]; try rfl) (Ai (show (bnot (r48.v w.nm)) = false by rw [h2]; try rfl) (Ai (r49a (w.n) (w.g) o1 o2 (r24.h0 w)) (Ai (show (bnot (r48.v w.nm)) = false by rw [h2]; try rfl) (Ai h3 (Ai (r51 (w.len) (1) (1000000) (r24.h0 w)) (Ai (show (bnot (r51.v w.len 1 1000000)) = false by rw [h4]; try rfl) (Ai (show (bnot (r51.v w.len 1 1000000)) = false by rw [h4]; try rfl) (Ai (show (bnot (r51.v w.len 1 1000000)) = false by rw [h4]; try rfl) (Ai (r51 (w.lap) (0) (1000000) (r24.h0 w)) (Ai (show (bnot (r51.v w.len 1 1000000)) = false by rw [h4]; try rfl) (Ai (show (bnot (r51.v w.len 1 1000000)) = false by rw [h4]; try rfl) (Ai (show (bnot (r51.v w.lap 0 1000000)) = false by rw [h5]; try rfl) (Ai (show (bnot (r51.v w.lap 0 1000000)) = false by rw [h5]; try rfl) (Ai (show (bnot (r51.v w.lap 0 1000000)) = false by rw [h5]; try rfl) (Ai (show (bnot (r51.v w.lap 0 1000000)) = false by rw [h5]; try rfl) (Ai (r51 (w.jl) (0) (1000) (r24.h0 w)) (Ai (show (bnot (r51.v w.lap 0 1000000)) = false by rw [h5]; try rfl) (Ai (show (bnot (r51.v w.lap 0 1000000)) = false by rw [h5]; try rfl) (Ai (show (bnot (r51.v w.jl 0 1000)) = false by rw [h6]; try rfl) (Ai (show (bnot (r51.v w.jl 0 1000)) = false by rw [h6]; try rfl) (Ai (show (bnot (r51.v w.jl 0 1000)) = false by rw [h6]; try rfl) (Ai (show (bnot (r51.v w.jl 0 1000)) = false by rw [h6]; try rfl) (Ai (r51 (w.jh) (0) (1000) (r24.h0 w)) (Ai (show (bnot (r51.v w.jl 0 1000)) = false by rw [h6]; try rfl) (Ai (show (bnot (r51.v w.jl 0 1000)) = false by rw [h6]; try rfl) (Ai (show (bnot (r51.v w.jh 0 1000)) = false by rw [h7]; try rfl) (Ai (show (bnot (r51.v w.jh 0 1000)) = false by rw [h7]; try rfl) (Ai (show (bnot (r51.v w.jh 0 1000)) = false by rw [h7]; try rfl) (Ai (r49b (w.n) (w.g) o1 (r24.h0 w)) (Ai (show (bnot (r51.v w.jh 0 1000)) = false by rw [h7]; try rfl) (Ai h8 (Ai h9 (Ai (L24a.e1 (w) o3 (1) (Ai (show (1 : Int) ≤ (1 : Int) by decide) o4) h10) (Ai (r44 (w) o3 o5 o6 (r24.h0 w)) (Ai (r54 (nC w) o7 (cC w) (r24.h0 w)) (Ai h11 (Ai (r56 (w) (nC w) o7 (cC w) o8 o9 (r24.h0 w)) (Ai (show (bnot (r56.v w (nC w) (cC w))) = false by rw [h12]; try rfl) (Ai (r57 (nC w) o7 (cC w) o8 (r24.h0 w)) (Ai h13 (Ai (show (AV.int IntKind.i64 11) = ((AV.int IntKind.i64 (r24.v w))) by simp only [r24.v, h1, h2, h3, h4, h5, h6, h7, h8, h9, h11, h12, h13, h10, cond_true, cond_false]) trivial)))))))))))))))))))))))))))))))))))))))))))))) h
                          | false =>
                            cases h14 : r58.v w (nC w) (cC w) with
                            | true =>
                              exact Ret.of_run1 mix [(AV.int IntKind.i64 (r24.v w))] Try.func24 rfl [.b false, .ret (AV.bool (r48.v w.nm)) (r24.h0 w), .b false, .b false, .b false, .ret (AV.bool (r49a.v w.n w.g)) (r24.h0 w), .b false, .b false, .ret (AV.bool (r51.v w.len 1 1000000)) (r24.h0 w), .b false, .b false, .b false, .ret (AV.bool (r51.v w.lap 0 1000000)) (r24.h0 w), .b false, .b false, .b false, .b false, .b false, .b false, .ret (AV.bool (r51.v w.jl 0 1000)) (r24.h0 w), .b false, .b false, .b false, .b false, .b false, .b false, .ret (AV.bool (r51.v w.jh 0 1000)) (r24.h0 w), .b false, .b false, .b false, .b false, .b false, .ret (AV.bool (r49b.v w.n w.g)) (r24.h0 w), .b false, .b false, .b false, .loop (others 97 [1, 3]) (Exit.exit 1) (L24a.X w L24a.O.e1) (L24a.XH w L24a.O.e1), .ret (AV.sl 1 (nC w) fun (j : Nat) => AV.sl 14 (cC w j).length fun (q : Nat) => (SD.av ((cC w j).getD q default))) (r24.h0 w), .ret (AV.bool (r54.v (nC w) (cC w))) (r24.h0 w), .b false, .ret (AV.bool (r56.v w (nC w) (cC w))) (r24.h0 w), .b false, .ret (AV.bool (r57.v (nC w) (cC w))) (r24.h0 w), .b false, .ret (AV.bool (r58.v w (nC w) (cC w))) (r24.h0 w), .b false] (by simp) (by simp) (kmp (by kernel_rfl) (Ai h1 (Ai (r48 (w.nm) o0 (r24.h0 w)) (Ai (show (bnot (r48.v w.nm)) = false by rw [h2]; try rfl) (Ai (show (bnot (r48.v w.nm)) = false by rw [h2]; try rfl) (Ai (show (bnot (r48.v w.nm)) = false by rw [h2]; try rfl) (Ai (r49a (w.n) (w.g) o1 o2 (r24.h0 w)) (Ai (show (bnot (r48.v w.nm)) = false by rw [h2]; try rfl) (Ai h3 (Ai (r51 (w.len) (1) (1000000) (r24.h0 w)) (Ai (show (bnot (r51.v w.len 1 1000000)) = false by rw [h4]; try rfl) (Ai (show (bnot (r51.v w.len 1 1000000)) = false by rw [h4]; try rfl) (Ai (show (bnot (r51.v w.len 1 1000000)) = false by rw [h4]; try rfl) (Ai (r51 (w.lap) (0) (1000000) (r24.h0 w)) (Ai (show (bnot (r51.v w.len 1 1000000)) = false by rw [h4]; try rfl) (Ai (show (bnot (r51.v w.len 1 1000000)) = false by rw [h4]; try rfl) (Ai (show (bnot (r51.v w.lap 0 1000000)) = false by rw [h5]; try rfl) (Ai (show (bnot (r51.v w.lap 0 1000000)) = false by rw [h5]; try rfl) (Ai (show (bnot (r51.v w.lap 0 1000000)) = false by rw [h5]; try rfl) (Ai (show (bnot (r51.v w.lap 0 1000000)) = false by rw [h5]; try rfl) (Ai (r51 (w.jl) (0) (1000) (r24.h0 w)) (Ai (show (bnot (r51.v w.lap 0 1000000)) = false by rw [h5]; try rfl) (Ai (show (bnot (r51.v w.lap 0 1000000)) = false by rw [h5]; try rfl) (Ai (show (bnot (r51.v w.jl 0 1000)) = false by rw [h6]; try rfl) (Ai (show (bnot (r51.v w.jl 0 1000)) = false by rw [h6]; try rfl) (Ai (show (bnot (r51.v w.jl 0 1000)) = false by rw [h6]; try rfl) (Ai (show (bnot (r51.v w.jl 0 1000)) = false by rw [h6]; try rfl) (Ai (r51 (w.jh) (0) (1000) (r24.h0 w)) (Ai (show (bnot (r51.v w.jl 0 1000)) = false by rw [h6]; try rfl) (Ai (show (bnot (r51.v w.jl 0 1000)) = false by rw [h6]; try rfl) (Ai (show (bnot (r51.v w.jh 0 1000)) = false by rw [h7]; try rfl) (Ai (show (bnot (r51.v w.jh 0 1000)) = false by rw [h7]; try rfl) (Ai (show (bnot (r51.v w.jh 0 1000)) = false by rw [h7]; try rfl) (Ai (r49b (w.n) (w.g) o1 (r24.h0 w)) (Ai (show (bnot (r51.v w.jh 0 1000)) = false by rw [h7]; try rfl) (Ai h8 (Ai h9 (Ai (L24a.e1 (w) o3 (1) (Ai (show (1 : Int) ≤ (1 : Int) by decide) o4) h10) (Ai (r44 (w) o3 o5 o6 (r24.h0 w)) (Ai (r54 (nC w) o7 (cC w) (r24.h0 w)) (Ai h11 (Ai (r56 (w) (nC w) o7 (cC w) o8 o9 (r24.h0 w)) (Ai (show (bnot (r56.v w (nC w) (cC w))) = false by rw [h12]; try rfl) (Ai (r57 (nC w) o7 (cC w) o8 (r24.h0 w)) (Ai h13 (Ai (r58 (w) (nC w) o7 (cC w) o8 o9 (r24.h0 w)) (Ai (show (bnot (r58.v w (nC w) (cC w))) = false by rw [h14]; try rfl) (Ai (show (AV.int IntKind.i64 0) = ((AV.int IntKind.i64 (r24.v w))) by simp only [r24.v, h1, h2, h3, h4, h5, h6, h7, h8, h9, h11, h12, h13, h14, h10, cond_true, cond_false]) trivial)))))))))))))))))))))))))))))))))))))))))))))))) h
                            | false =>
                              exact Ret.of_run1 mix [(AV.int IntKind.i64 (r24.v w))] Try.func24 rfl [.b false, .ret (AV.bool (r48.v w.nm)) (r24.h0 w), .b false, .b false, .b false, .ret (AV.bool (r49a.v w.n w.g)) (r24.h0 w), .b false, .b false, .ret (AV.bool (r51.v w.len 1 1000000)) (r24.h0 w), .b false, .b false, .b false, .ret (AV.bool (r51.v w.lap 0 1000000)) (r24.h0 w), .b false, .b false, .b false, .b false, .b false, .b false, .ret (AV.bool (r51.v w.jl 0 1000)) (r24.h0 w), .b false, .b false, .b false, .b false, .b false, .b false, .ret (AV.bool (r51.v w.jh 0 1000)) (r24.h0 w), .b false, .b false, .b false, .b false, .b false, .ret (AV.bool (r49b.v w.n w.g)) (r24.h0 w), .b false, .b false, .b false, .loop (others 97 [1, 3]) (Exit.exit 1) (L24a.X w L24a.O.e1) (L24a.XH w L24a.O.e1), .ret (AV.sl 1 (nC w) fun (j : Nat) => AV.sl 14 (cC w j).length fun (q : Nat) => (SD.av ((cC w j).getD q default))) (r24.h0 w), .ret (AV.bool (r54.v (nC w) (cC w))) (r24.h0 w), .b false, .ret (AV.bool (r56.v w (nC w) (cC w))) (r24.h0 w), .b false, .ret (AV.bool (r57.v (nC w) (cC w))) (r24.h0 w), .b false, .ret (AV.bool (r58.v w (nC w) (cC w))) (r24.h0 w), .b true] (by simp) (by simp) (kmp (by kernel_rfl) (Ai h1 (Ai (r48 (w.nm) o0 (r24.h0 w)) (Ai (show (bnot (r48.v w.nm)) = false by rw [h2]; try rfl) (Ai (show (bnot (r48.v w.nm)) = false by rw [h2]; try rfl) (Ai (show (bnot (r48.v w.nm)) = false by rw [h2]; try rfl) (Ai (r49a (w.n) (w.g) o1 o2 (r24.h0 w)) (Ai (show (bnot (r48.v w.nm)) = false by rw [h2]; try rfl) (Ai h3 (Ai (r51 (w.len) (1) (1000000) (r24.h0 w)) (Ai (show (bnot (r51.v w.len 1 1000000)) = false by rw [h4]; try rfl) (Ai (show (bnot (r51.v w.len 1 1000000)) = false by rw [h4]; try rfl) (Ai (show (bnot (r51.v w.len 1 1000000)) = false by rw [h4]; try rfl) (Ai (r51 (w.lap) (0) (1000000) (r24.h0 w)) (Ai (show (bnot (r51.v w.len 1 1000000)) = false by rw [h4]; try rfl) (Ai (show (bnot (r51.v w.len 1 1000000)) = false by rw [h4]; try rfl) (Ai (show (bnot (r51.v w.lap 0 1000000)) = false by rw [h5]; try rfl) (Ai (show (bnot (r51.v w.lap 0 1000000)) = false by rw [h5]; try rfl) (Ai (show (bnot (r51.v w.lap 0 1000000)) = false by rw [h5]; try rfl) (Ai (show (bnot (r51.v w.lap 0 1000000)) = false by rw [h5]; try rfl) (Ai (r51 (w.jl) (0) (1000) (r24.h0 w)) (Ai (show (bnot (r51.v w.lap 0 1000000)) = false by rw [h5]; try rfl) (Ai (show (bnot (r51.v w.lap 0 1000000)) = false by rw [h5]; try rfl) (Ai (show (bnot (r51.v w.jl 0 1000)) = false by rw [h6]; try rfl) (Ai (show (bnot (r51.v w.jl 0 1000)) = false by rw [h6]; try rfl) (Ai (show (bnot (r51.v w.jl 0 1000)) = false by rw [h6]; try rfl) (Ai (show (bnot (r51.v w.jl 0 1000)) = false by rw [h6]; try rfl) (Ai (r51 (w.jh) (0) (1000) (r24.h0 w)) (Ai (show (bnot (r51.v w.jl 0 1000)) = false by rw [h6]; try rfl) (Ai (show (bnot (r51.v w.jl 0 1000)) = false by rw [h6]; try rfl) (Ai (show (bnot (r51.v w.jh 0 1000)) = false by rw [h7]; try rfl) (Ai (show (bnot (r51.v w.jh 0 1000)) = false by rw [h7]; try rfl) (Ai (show (bnot (r51.v w.jh 0 1000)) = false by rw [h7]; try rfl) (Ai (r49b (w.n) (w.g) o1 (r24.h0 w)) (Ai (show (bnot (r51.v w.jh 0 1000)) = false by rw [h7]; try rfl) (Ai h8 (Ai h9 (Ai (L24a.e1 (w) o3 (1) (Ai (show (1 : Int) ≤ (1 : Int) by decide) o4) h10) (Ai (r44 (w) o3 o5 o6 (r24.h0 w)) (Ai (r54 (nC w) o7 (cC w) (r24.h0 w)) (Ai h11 (Ai (r56 (w) (nC w) o7 (cC w) o8 o9 (r24.h0 w)) (Ai (show (bnot (r56.v w (nC w) (cC w))) = false by rw [h12]; try rfl) (Ai (r57 (nC w) o7 (cC w) o8 (r24.h0 w)) (Ai h13 (Ai (r58 (w) (nC w) o7 (cC w) o8 o9 (r24.h0 w)) (Ai (show (bnot (r58.v w (nC w) (cC w))) = true by rw [h14]; try rfl) (Ai (show (AV.int IntKind.i64 10) = ((AV.int IntKind.i64 (r24.v w))) by simp only [r24.v, h1, h2, h3, h4, h5, h6, h7, h8, h9, h11, h12, h13, h14, h10, cond_true, cond_false]) trivial)))))))))))))))))))))))))))))))))))))))))))))))) h
                        | false =>
                          exact Ret.of_run1 mix [(AV.int IntKind.i64 (r24.v w))] Try.func24 rfl [.b false, .ret (AV.bool (r48.v w.nm)) (r24.h0 w), .b false, .b false, .b false, .ret (AV.bool (r49a.v w.n w.g)) (r24.h0 w), .b false, .b false, .ret (AV.bool (r51.v w.len 1 1000000)) (r24.h0 w), .b false, .b false, .b false, .ret (AV.bool (r51.v w.lap 0 1000000)) (r24.h0 w), .b false, .b false, .b false, .b false, .b false, .b false, .ret (AV.bool (r51.v w.jl 0 1000)) (r24.h0 w), .b false, .b false, .b false, .b false, .b false, .b false, .ret (AV.bool (r51.v w.jh 0 1000)) (r24.h0 w), .b false, .b false, .b false, .b false, .b false, .ret (AV.bool (r49b.v w.n w.g)) (r24.h0 w), .b false, .b false, .b false, .loop (others 97 [1, 3]) (Exit.exit 1) (L24a.X w L24a.O.e1) (L24a.XH w L24a.O.e1), .ret (AV.sl 1 (nC w) fun (j : Nat) => AV.sl 14 (cC w j).length fun (q : Nat) => (SD.av ((cC w j).getD q default))) (r24.h0 w), .ret (AV.bool (r54.v (nC w) (cC w))) (r24.h0 w), .b false, .ret (AV.bool (r56.v w (nC w) (cC w))) (r24.h0 w), .b true] (by simp) (by simp) (kmp (by kernel_rfl) (Ai h1 (Ai (r48 (w.nm) o0 (r24.h0 w)) (Ai (show (bnot (r48.v w.nm)) = false by rw [h2]; try rfl) (Ai (show (bnot (r48.v w.nm)) = false by rw [h2]; try rfl) (Ai (show (bnot (r48.v w.nm)) = false by rw [h2]; try rfl) (Ai (r49a (w.n) (w.g) o1 o2 (r24.h0 w)) (Ai (show (bnot (r48.v w.nm)) = false by rw [h2]; try rfl) (Ai h3 (Ai (r51 (w.len) (1) (1000000) (r24.h0 w)) (Ai (show (bnot (r51.v w.len 1 1000000)) = false by rw [h4]; try rfl) (Ai (show (bnot (r51.v w.len 1 1000000)) = false by rw [h4]; try rfl) (Ai (show (bnot (r51.v w.len 1 1000000)) = false by rw [h4]; try rfl) (Ai (r51 (w.lap) (0) (1000000) (r24.h0 w)) (Ai (show (bnot (r51.v w.len 1 1000000)) = false by rw [h4]; try rfl) (Ai (show (bnot (r51.v w.len 1 1000000)) = false by rw [h4]; try rfl) (Ai (show (bnot (r51.v w.lap 0 1000000)) = false by rw [h5]; try rfl) (Ai (show (bnot (r51.v w.lap 0 1000000)) = false by rw [h5]; try rfl) (Ai (show (bnot (r51.v w.lap 0 1000000)) = false by rw [h5]; try rfl) (Ai (show (bnot (r51.v w.lap 0 1000000)) = false by rw [h5]; try rfl) (Ai (r51 (w.jl) (0) (1000) (r24.h0 w)) (Ai (show (bnot (r51.v w.lap 0 1000000)) = false by rw [h5]; try rfl) (Ai (show (bnot (r51.v w.lap 0 1000000)) = false by rw [h5]; try rfl) (Ai (show (bnot (r51.v w.jl 0 1000)) = false by rw [h6]; try rfl) (Ai (show (bnot (r51.v w.jl 0 1000)) = false by rw [h6]; try rfl) (Ai (show (bnot (r51.v w.jl 0 1000)) = false by rw [h6]; try rfl) (Ai (show (bnot (r51.v w.jl 0 1000)) = false by rw [h6]; try rfl) (Ai (r51 (w.jh) (0) (1000) (r24.h0 w)) (Ai (show (bnot (r51.v w.jl 0 1000)) = false by rw [h6]; try rfl) (Ai (show (bnot (r51.v w.jl 0 1000)) = false by rw [h6]; try rfl) (Ai (show (bnot (r51.v w.jh 0 1000)) = false by rw [h7]; try rfl) (Ai (show (bnot (r51.v w.jh 0 1000)) = false by rw [h7]; try rfl) (Ai (show (bnot (r51.v w.jh 0 1000)) = false by rw [h7]; try rfl) (Ai (r49b (w.n) (w.g) o1 (r24.h0 w)) (Ai (show (bnot (r51.v w.jh 0 1000)) = false by rw [h7]; try rfl) (Ai h8 (Ai h9 (Ai (L24a.e1 (w) o3 (1) (Ai (show (1 : Int) ≤ (1 : Int) by decide) o4) h10) (Ai (r44 (w) o3 o5 o6 (r24.h0 w)) (Ai (r54 (nC w) o7 (cC w) (r24.h0 w)) (Ai h11 (Ai (r56 (w) (nC w) o7 (cC w) o8 o9 (r24.h0 w)) (Ai (show (bnot (r56.v w (nC w) (cC w))) = true by rw [h12]; try rfl) (Ai (show (AV.int IntKind.i64 10) = ((AV.int IntKind.i64 (r24.v w))) by simp only [r24.v, h1, h2, h3, h4, h5, h6, h7, h8, h9, h11, h12, h10, cond_true, cond_false]) trivial)))))))))))))))))))))))))))))))))))))))))))) h
              | false =>
                exact Ret.of_run1 mix [(AV.int IntKind.i64 (r24.v w))] Try.func24 rfl [.b false, .ret (AV.bool (r48.v w.nm)) (r24.h0 w), .b false, .b false, .b false, .ret (AV.bool (r49a.v w.n w.g)) (r24.h0 w), .b false, .b false, .ret (AV.bool (r51.v w.len 1 1000000)) (r24.h0 w), .b false, .b false, .b false, .ret (AV.bool (r51.v w.lap 0 1000000)) (r24.h0 w), .b false, .b false, .b false, .b false, .b false, .b false, .ret (AV.bool (r51.v w.jl 0 1000)) (r24.h0 w), .b false, .b false, .b false, .b false, .b false, .b false, .ret (AV.bool (r51.v w.jh 0 1000)) (r24.h0 w), .b false, .b false, .b true, .b true, .b true, .b true, .b true] (by simp) (by simp) (kmp (by kernel_rfl) (Ai h1 (Ai (r48 (w.nm) o0 (r24.h0 w)) (Ai (show (bnot (r48.v w.nm)) = false by rw [h2]; try rfl) (Ai (show (bnot (r48.v w.nm)) = false by rw [h2]; try rfl) (Ai (show (bnot (r48.v w.nm)) = false by rw [h2]; try rfl) (Ai (r49a (w.n) (w.g) o1 o2 (r24.h0 w)) (Ai (show (bnot (r48.v w.nm)) = false by rw [h2]; try rfl) (Ai h3 (Ai (r51 (w.len) (1) (1000000) (r24.h0 w)) (Ai (show (bnot (r51.v w.len 1 1000000)) = false by rw [h4]; try rfl) (Ai (show (bnot (r51.v w.len 1 1000000)) = false by rw [h4]; try rfl) (Ai (show (bnot (r51.v w.len 1 1000000)) = false by rw [h4]; try rfl) (Ai (r51 (w.lap) (0) (1000000) (r24.h0 w)) (Ai (show (bnot (r51.v w.len 1 1000000)) = false by rw [h4]; try rfl) (Ai (show (bnot (r51.v w.len 1 1000000)) = false by rw [h4]; try rfl) (Ai (show (bnot (r51.v w.lap 0 1000000)) = false by rw [h5]; try rfl) (Ai (show (bnot (r51.v w.lap 0 1000000)) = false by rw [h5]; try rfl) (Ai (show (bnot (r51.v w.lap 0 1000000)) = false by rw [h5]; try rfl) (Ai (show (bnot (r51.v w.lap 0 1000000)) = false by rw [h5]; try rfl) (Ai (r51 (w.jl) (0) (1000) (r24.h0 w)) (Ai (show (bnot (r51.v w.lap 0 1000000)) = false by rw [h5]; try rfl) (Ai (show (bnot (r51.v w.lap 0 1000000)) = false by rw [h5]; try rfl) (Ai (show (bnot (r51.v w.jl 0 1000)) = false by rw [h6]; try rfl) (Ai (show (bnot (r51.v w.jl 0 1000)) = false by rw [h6]; try rfl) (Ai (show (bnot (r51.v w.jl 0 1000)) = false by rw [h6]; try rfl) (Ai (show (bnot (r51.v w.jl 0 1000)) = false by rw [h6]; try rfl) (Ai (r51 (w.jh) (0) (1000) (r24.h0 w)) (Ai (show (bnot (r51.v w.jl 0 1000)) = false by rw [h6]; try rfl) (Ai (show (bnot (r51.v w.jl 0 1000)) = false by rw [h6]; try rfl) (Ai (show (bnot (r51.v w.jh 0 1000)) = true by rw [h7]; try rfl) (Ai (show (bnot (r51.v w.jh 0 1000)) = true by rw [h7]; try rfl) (Ai (show (bnot (r51.v w.jh 0 1000)) = true by rw [h7]; try rfl) (Ai (show (bnot (r51.v w.jh 0 1000)) = true by rw [h7]; try rfl) (Ai (rfl : true = true) (Ai (show (AV.int IntKind.i64 6) = ((AV.int IntKind.i64 (r24.v w))) by simp only [r24.v, h1, h2, h3, h4, h5, h6, h7, cond_true, cond_false]) trivial)))))))))))))))))))))))))))))))))))) h
            | false =>
              exact Ret.of_run1 mix [(AV.int IntKind.i64 (r24.v w))] Try.func24 rfl [.b false, .ret (AV.bool (r48.v w.nm)) (r24.h0 w), .b false, .b false, .b false, .ret (AV.bool (r49a.v w.n w.g)) (r24.h0 w), .b false, .b false, .ret (AV.bool (r51.v w.len 1 1000000)) (r24.h0 w), .b false, .b false, .b false, .ret (AV.bool (r51.v w.lap 0 1000000)) (r24.h0 w), .b false, .b false, .b false, .b false, .b false, .b false, .ret (AV.bool (r51.v w.jl 0 1000)) (r24.h0 w), .b false, .b false, .b true, .b true, .b true, .b true, .b true, .b true, .b true, .b true, .b true, .b true, .b true] (by simp) (by simp) (kmp (by kernel_rfl) (Ai h1 (Ai (r48 (w.nm) o0 (r24.h0 w)) (Ai (show (bnot (r48.v w.nm)) = false by rw [h2]; try rfl) (Ai (show (bnot (r48.v w.nm)) = false by rw [h2]; try rfl) (Ai (show (bnot (r48.v w.nm)) = false by rw [h2]; try rfl) (Ai (r49a (w.n) (w.g) o1 o2 (r24.h0 w)) (Ai (show (bnot (r48.v w.nm)) = false by rw [h2]; try rfl) (Ai h3 (Ai (r51 (w.len) (1) (1000000) (r24.h0 w)) (Ai (show (bnot (r51.v w.len 1 1000000)) = false by rw [h4]; try rfl) (Ai (show (bnot (r51.v w.len 1 1000000)) = false by rw [h4]; try rfl) (Ai (show (bnot (r51.v w.len 1 1000000)) = false by rw [h4]; try rfl) (Ai (r51 (w.lap) (0) (1000000) (r24.h0 w)) (Ai (show (bnot (r51.v w.len 1 1000000)) = false by rw [h4]; try rfl) (Ai (show (bnot (r51.v w.len 1 1000000)) = false by rw [h4]; try rfl) (Ai (show (bnot (r51.v w.lap 0 1000000)) = false by rw [h5]; try rfl) (Ai (show (bnot (r51.v w.lap 0 1000000)) = false by rw [h5]; try rfl) (Ai (show (bnot (r51.v w.lap 0 1000000)) = false by rw [h5]; try rfl) (Ai (show (bnot (r51.v w.lap 0 1000000)) = false by rw [h5]; try rfl) (Ai (r51 (w.jl) (0) (1000) (r24.h0 w)) (Ai (show (bnot (r51.v w.lap 0 1000000)) = false by rw [h5]; try rfl) (Ai (show (bnot (r51.v w.lap 0 1000000)) = false by rw [h5]; try rfl) (Ai (show (bnot (r51.v w.jl 0 1000)) = true by rw [h6]; try rfl) (Ai (show (bnot (r51.v w.jl 0 1000)) = true by rw [h6]; try rfl) (Ai (show (bnot (r51.v w.jl 0 1000)) = true by rw [h6]; try rfl) (Ai (show (bnot (r51.v w.jl 0 1000)) = true by rw [h6]; try rfl) (Ai (show (bnot (r51.v w.jl 0 1000)) = true by rw [h6]; try rfl) (Ai (show (bnot (r51.v w.jl 0 1000)) = true by rw [h6]; try rfl) (Ai (rfl : true = true) (Ai (rfl : true = true) (Ai (rfl : true = true) (Ai (rfl : true = true) (Ai (rfl : true = true) (Ai (show (AV.int IntKind.i64 6) = ((AV.int IntKind.i64 (r24.v w))) by simp only [r24.v, h1, h2, h3, h4, h5, h6, cond_true, cond_false]) trivial))))))))))))))))))))))))))))))))))) h
          | false =>
            exact Ret.of_run1 mix [(AV.int IntKind.i64 (r24.v w))] Try.func24 rfl [.b false, .ret (AV.bool (r48.v w.nm)) (r24.h0 w), .b false, .b false, .b false, .ret (AV.bool (r49a.v w.n w.g)) (r24.h0 w), .b false, .b false, .ret (AV.bool (r51.v w.len 1 1000000)) (r24.h0 w), .b false, .b false, .b false, .ret (AV.bool (r51.v w.lap 0 1000000)) (r24.h0 w), .b false, .b false, .b true, .b true, .b true, .b true, .b true, .b true, .b true, .b true, .b true, .b true, .b true, .b true, .b true, .b true, .b true, .b true, .b true] (by simp) (by simp) (kmp (by kernel_rfl) (Ai h1 (Ai (r48 (w.nm) o0 (r24.h0 w)) (Ai (show (bnot (r48.v w.nm)) = false by rw [h2]; try rfl) (Ai (show (bnot (r48.v w.nm)) = false by rw [h2]; try rfl) (Ai (show (bnot (r48.v w.nm)) = false by rw [h2]; try rfl) (Ai (r49a (w.n) (w.g) o1 o2 (r24.h0 w)) (Ai (show (bnot (r48.v w.nm)) = false by rw [h2]; try rfl) (Ai h3 (Ai (r51 (w.len) (1) (1000000) (r24.h0 w)) (Ai (show (bnot (r51.v w.len 1 1000000)) = false by rw [h4]; try rfl) (Ai (show (bnot (r51.v w.len 1 1000000)) = false by rw [h4]; try rfl) (Ai (show (bnot (r51.v w.len 1 1000000)) = false by rw [h4]; try rfl) (Ai (r51 (w.lap) (0) (1000000) (r24.h0 w)) (Ai (show (bnot (r51.v w.len 1 1000000)) = false by rw [h4]; try rfl) (Ai (show (bnot (r51.v w.len 1 1000000)) = false by rw [h4]; try rfl) (Ai (show (bnot (r51.v w.lap 0 1000000)) = true by rw [h5]; try rfl) (Ai (show (bnot (r51.v w.lap 0 1000000)) = true by rw [h5]; try rfl) (Ai (show (bnot (r51.v w.lap 0 1000000)) = true by rw [h5]; try rfl) (Ai (show (bnot (r51.v w.lap 0 1000000)) = true by rw [h5]; try rfl) (Ai (show (bnot (r51.v w.lap 0 1000000)) = true by rw [h5]; try rfl) (Ai (show (bnot (r51.v w.lap 0 1000000)) = true by rw [h5]; try rfl) (Ai (rfl : true = true) (Ai (rfl : true = true) (Ai (rfl : true = true) (Ai (rfl : true = true) (Ai (rfl : true = true) (Ai (rfl : true = true) (Ai (rfl : true = true) (Ai (rfl : true = true) (Ai (rfl : true = true) (Ai (rfl : true = true) (Ai (rfl : true = true) (Ai (show (AV.int IntKind.i64 6) = ((AV.int IntKind.i64 (r24.v w))) by simp only [r24.v, h1, h2, h3, h4, h5, cond_true, cond_false]) trivial)))))))))))))))))))))))))))))))))) h
        | false =>
          exact Ret.of_run1 mix [(AV.int IntKind.i64 (r24.v w))] Try.func24 rfl [.b false, .ret (AV.bool (r48.v w.nm)) (r24.h0 w), .b false, .b false, .b false, .ret (AV.bool (r49a.v w.n w.g)) (r24.h0 w), .b false, .b false, .ret (AV.bool (r51.v w.len 1 1000000)) (r24.h0 w), .b true, .b true, .b true, .b true, .b true, .b true, .b true, .b true, .b true, .b true, .b true, .b true, .b true, .b true, .b true, .b true, .b true, .b true, .b true, .b true, .b true, .b true] (by simp) (by simp) (kmp (by kernel_rfl) (Ai h1 (Ai (r48 (w.nm) o0 (r24.h0 w)) (Ai (show (bnot (r48.v w.nm)) = false by rw [h2]; try rfl) (Ai (show (bnot (r48.v w.nm)) = false by rw [h2]; try rfl) (Ai (show (bnot (r48.v w.nm)) = false by rw [h2]; try rfl) (Ai (r49a (w.n) (w.g) o1 o2 (r24.h0 w)) (Ai (show (bnot (r48.v w.nm)) = false by rw [h2]; try rfl) (Ai h3 (Ai (r51 (w.len) (1) (1000000) (r24.h0 w)) (Ai (show (bnot (r51.v w.len 1 1000000)) = true by rw [h4]; try rfl) (Ai (show (bnot (r51.v w.len 1 1000000)) = true by rw [h4]; try rfl) (Ai (show (bnot (r51.v w.len 1 1000000)) = true by rw [h4]; try rfl) (Ai (show (bnot (r51.v w.len 1 1000000)) = true by rw [h4]; try rfl) (Ai (show (bnot (r51.v w.len 1 1000000)) = true by rw [h4]; try rfl) (Ai (rfl : true = true) (Ai (rfl : true = true) (Ai (rfl : true = true) (Ai (rfl : true = true) (Ai (rfl : true = true) (Ai (rfl : true = true) (Ai (rfl : true = true) (Ai (rfl : true = true) (Ai (rfl : true = true) (Ai (rfl : true = true) (Ai (rfl : true = true) (Ai (rfl : true = true) (Ai (rfl : true = true) (Ai (rfl : true = true) (Ai (rfl : true = true) (Ai (rfl : true = true) (Ai (rfl : true = true) (Ai (show (AV.int IntKind.i64 6) = ((AV.int IntKind.i64 (r24.v w))) by simp only [r24.v, h1, h2, h3, h4, cond_true, cond_false]) trivial))))))))))))))))))))))))))))))))) h
    | false =>
      exact Ret.of_run1 mix [(AV.int IntKind.i64 (r24.v w))] Try.func24 rfl [.b false, .ret (AV.bool (r48.v w.nm)) (r24.h0 w), .b true, .b true, .b true, .b true, .b true] (by simp) (by simp) (kmp (by kernel_rfl) (Ai h1 (Ai (r48 (w.nm) o0 (r24.h0 w)) (Ai (show (bnot (r48.v w.nm)) = true by rw [h2]; try rfl) (Ai (show (bnot (r48.v w.nm)) = true by rw [h2]; try rfl) (Ai (show (bnot (r48.v w.nm)) = true by rw [h2]; try rfl) (Ai (show (bnot (r48.v w.nm)) = true by rw [h2]; try rfl) (Ai (rfl : true = true) (Ai (show (AV.int IntKind.i64 4) = ((AV.int IntKind.i64 (r24.v w))) by simp only [r24.v, h1, h2, cond_true, cond_false]) trivial))))))))) h
end Go.Proofs.Ytjdbmmilcihpoaa
open Go
namespace Go.Proofs.Ytjdbmmilcihpoaa
set_option maxHeartbeats 0
set_option maxRecDepth 100000
set_option linter.unusedVariables false
set_option linter.unusedSimpArgs false
theorem r37_51 (n a b : Int) : r37.v n a b = r51.v n a b := rfl
theorem top41_N (w : WD) (hn : w.n ≤ 10000) : ∀ (m i : Nat), i ≤ w.n → w.n - i < m → L41a.N w m (topC w.g i) (i : Int) = .e0 (topC w.g w.n) := by
  intro m
  induction m with
  | zero => intro i _ h; omega
  | succ m ih =>
    intro i hi hm
    simp only [L41a.N, Int.toNat_natCast]
    by_cases h : i < w.n
    · rw [decide_eq_true (show (i : Int) < (w.n : Int) by omega), cond_true, wrap_s hi (by omega)]
      exact ih (i + 1) h (by omega)
    · rw [decide_eq_false (show ¬ (i : Int) < (w.n : Int) by omega), cond_false, show i = w.n by omega]
theorem r41_v (w : WD) (hn : w.n ≤ 10000) : r41.v w = topC w.g w.n := by
  unfold r41.v L41a.run
  have := top41_N w hn (((w.n : Int) - ((0 : Nat) : Int)).toNat + 1) 0 (Nat.zero_le _) (by omega)
  rw [show topC w.g 0 = -1 from rfl] at this
  have e : L41a.N w (((w.n : Int) - 0).toNat + 1) (-1) 0 = .e0 (topC w.g w.n) := by simpa using this
  rw [e]
/-- A stone's numbers are out of range. -/
theorem bad40 (s : SD) (a b : L40a.O) : (bif r37.v s.sx 1 1000000 then (bif r37.v s.sz 1 1000000 then (bif r37.v s.ax 0 1000000 then (bif r37.v s.az 0 1000000 then (bif r37.v s.tl 0 100 then (bif r37.v s.co 0 99 then a else b) else b) else b) else b) else b) else b) = bif r52.v s then b else a := by
  unfold r52.v r53.v
  rw [r37_51, r37_51, r37_51, r37_51, r37_51, r37_51]
  cases r51.v s.sx 1 1000000 <;> cases r51.v s.sz 1 1000000 <;> cases r51.v s.ax 0 1000000 <;> cases r51.v s.az 0 1000000 <;> cases r51.v s.tl 0 100 <;> cases r51.v s.co 0 99 <;> rfl
theorem L40a_run (w : WD) (hn : w.n ≤ 10000) : L40a.run w 0 = bif r49b.v w.n w.g then .e0 else .e1 := by
  have := scan_eq (N := L40a.N w) (n := w.n) (fun i => r52.v (w.g i)) .e0 .e1 0 (fun k i _ h => by
    simp only [L40a.N, Int.toNat_natCast]
    rw [decide_eq_true (show (i : Int) < (w.n : Int) by omega), cond_true, wrap_s (Nat.le_of_lt h) (by omega), bad40]) (fun k i _ h => by
    simp only [L40a.N]
    rw [decide_eq_false (show ¬ (i : Int) < (w.n : Int) by omega), cond_false]) (((w.n : Int) - ((0 : Nat) : Int)).toNat + 1) 0 (Nat.zero_le _) (by omega)
  rw [anyN_all, ← r49b_v (by omega)] at this
  exact this
/-- Some name does not rise. -/
noncomputable def badN (w : WD) : Bool := anyN w.n fun i => decide (1 ≤ i) && !Op.bytesLess (w.g (i - 1)).nm.toList (w.g i).nm.toList
theorem L40b_run (w : WD) (hn : w.n ≤ 10000) : L40b.run w 1 = bif badN w then .e0 else .e1 :=
  scan_eq (N := L40b.N w) (n := w.n) (fun i => !Op.bytesLess (w.g (i - 1)).nm.toList (w.g i).nm.toList) .e0 .e1 1 (fun k i h1 h => by
    simp only [L40b.N, Int.toNat_natCast]
    rw [decide_eq_true (show (i : Int) < (w.n : Int) by omega), cond_true, wrap_s (Nat.le_of_lt h) (by omega), wrap_pn h1 (by omega)]
    cases Op.bytesLess (w.g (i - 1)).nm.toList (w.g i).nm.toList <;> rfl) (fun k i _ h => by
    simp only [L40b.N]
    rw [decide_eq_false (show ¬ (i : Int) < (w.n : Int) by omega), cond_false]) (((w.n : Int) - ((1 : Nat) : Int)).toNat + 1) 1 (Nat.le_refl _) (by omega)
theorem L24a_run (w : WD) (hn : w.n ≤ 10000) : L24a.run w 1 = bif badN w then .e0 else .e1 :=
  scan_eq (N := L24a.N w) (n := w.n) (fun i => !Op.bytesLess (w.g (i - 1)).nm.toList (w.g i).nm.toList) .e0 .e1 1 (fun k i h1 h => by
    simp only [L24a.N, Int.toNat_natCast]
    rw [decide_eq_true (show (i : Int) < (w.n : Int) by omega), cond_true, wrap_s (Nat.le_of_lt h) (by omega), wrap_pn h1 (by omega)]
    cases Op.bytesLess (w.g (i - 1)).nm.toList (w.g i).nm.toList <;> rfl) (fun k i _ h => by
    simp only [L24a.N]
    rw [decide_eq_false (show ¬ (i : Int) < (w.n : Int) by omega), cond_false]) (((w.n : Int) - ((1 : Nat) : Int)).toNat + 1) 1 (Nat.le_refl _) (by omega)
theorem r40_v (w : WD) (hn : w.n ≤ 10000) : r40.v w = (bif r51.v w.len 1 1000000 then (bif r51.v w.lap 0 1000000 then (bif r51.v w.jl 0 1000 then (bif r51.v w.jh 0 1000 then (bif r49b.v w.n w.g then 6 else (bif decide (w.jl > w.jh) then 1 else (bif badN w then 5 else 0))) else 6) else 6) else 6) else 6) := by
  unfold r40.v
  rw [L40a_run w hn, L40b_run w hn]
  simp only [r37_51]
  cases r49b.v w.n w.g <;> cases badN w <;> rfl
theorem ok40 {w : WD} (hn : w.n ≤ 10000) (h : (r40.v w != 0) = false) : r49b.v w.n w.g = false ∧ badN w = false := by
  rw [r40_v w hn] at h
  revert h
  cases r51.v w.len 1 1000000 <;> cases r51.v w.lap 0 1000000 <;> cases r51.v w.jl 0 1000 <;> cases r51.v w.jh 0 1000 <;> cases r49b.v w.n w.g <;> cases decide (w.jl > w.jh) <;> cases badN w <;> simp
theorem top99 {w : WD} (hn : w.n ≤ 10000) (h : (r40.v w != 0) = false) : r41.v w ≤ 99 := by
  rw [r41_v w hn]
  exact (top_le w.g 99 (by decide) w.n fun i hi => (co_of hn (ok40 hn h).1 i hi).2).2
theorem top99' {w : WD} (hn : w.n ≤ 10000) (h : r40.v w = 0) : r41.v w ≤ 99 := top99 hn (by rw [h]; rfl)
theorem L21b_run (w : WD) (t : Int) (ht : t ≤ 99) : L21b.run w t 0 = bif anyN (t + 1).toNat (fun k => ((corR w.g (k : Int) w.n).length : Int) == 0) then .e0 else .e1 := by
  have := scan_eq (N := L21b.N w t) (n := (t + 1).toNat) (fun k => ((corR w.g (k : Int) w.n).length : Int) == 0) .e0 .e1 0 (fun k i _ h => by
    simp only [L21b.N, Int.toNat_natCast]
    rw [decide_eq_true (show (i : Int) ≤ t by omega), cond_true, wrap_s (n := i) (Nat.le_refl _) (by omega)]) (fun k i _ h => by
    simp only [L21b.N]
    rw [decide_eq_false (show ¬ (i : Int) ≤ t by omega), cond_false]) ((t + 1 - ((0 : Nat) : Int)).toNat + 1) 0 (Nat.zero_le _) (by omega)
  rw [anyN_all] at this
  exact this
theorem cor_ne {w : WD} {t : Int} (h : L21b.run w t 0 = .e1) (ht : t ≤ 99) : ∀ k, 0 ≤ k → k ≤ t → 0 < (corR w.g k w.n).length := by
  rw [L21b_run w t ht] at h
  intro k h0 hk
  cases hA : anyN (t + 1).toNat (fun k => ((corR w.g (k : Int) w.n).length : Int) == 0) with
  | true => rw [hA] at h; cases h
  | false =>
    have := anyN_false.1 hA k.toNat (by omega)
    rw [Int.toNat_of_nonneg h0] at this
    have : ((corR w.g k w.n).length : Int) ≠ 0 := by simpa using this
    omega
theorem insR_perm (L : List SD) (s : SD) : (insR L s).Perm (L ++ [s]) := by
  have e : L ++ [s] = L.take (kR s L) ++ (L.drop (kR s L) ++ [s]) := by rw [← List.append_assoc, List.take_append_drop]
  rw [e]
  unfold insR
  rw [List.append_assoc]
  exact List.Perm.append_left _ List.perm_append_comm
theorem corR_perm (g : Nat → SD) (k : Nat) : ∀ i, (corR g (k : Int) i).Perm (crs g k i) := by
  intro i
  induction i with
  | zero => exact .refl _
  | succ i ih =>
    unfold corR crs
    split
    · exact (insR_perm _ _).trans (List.Perm.append_right _ ih)
    · exact ih
theorem take_kR (L : List SD) (s : SD) : L.take (kR s L) = L.takeWhile fun t => decide (t.ax ≤ s.ax) := (List.prefix_iff_eq_take.1 (List.takeWhile_prefix _)).symm
theorem drop_kR (L : List SD) (s : SD) : L.drop (kR s L) = L.dropWhile fun t => decide (t.ax ≤ s.ax) := by
  have h := List.takeWhile_append_dropWhile (p := fun t : SD => decide (t.ax ≤ s.ax)) (l := L)
  have e := List.take_append_drop (kR s L) L
  rw [take_kR] at e
  exact List.append_cancel_left (e.trans h.symm)
theorem mem_tw {p : SD → Bool} : ∀ {L : List SD} {x : SD}, x ∈ L.takeWhile p → p x = true := by
  intro L
  induction L with
  | nil => intro x h; cases h
  | cons a L ih =>
    intro x h
    rw [List.takeWhile_cons] at h
    cases ha : p a with
    | false => rw [ha] at h; cases h
    | true =>
      rw [ha, if_pos rfl] at h
      rcases List.mem_cons.1 h with e | e
      · subst e; exact ha
      · exact ih e
theorem dw_head {p : SD → Bool} : ∀ {L : List SD} {a : SD} {M : List SD}, L.dropWhile p = a :: M → p a = false := by
  intro L
  induction L with
  | nil => intro a M h; cases h
  | cons b L ih =>
    intro a M h
    rw [List.dropWhile_cons] at h
    cases hb : p b with
    | true => rw [hb, if_pos rfl] at h; exact ih h
    | false =>
      rw [hb, if_neg (by decide)] at h
      rw [← (List.cons.inj h).1]; exact hb
theorem corR_mem {g : Nat → SD} {k : Nat} {n : Nat} {x : SD} (h : x ∈ corR g (k : Int) n) : ∃ i, i < n ∧ x = g i := crs_mem ((corR_perm g k n).subset h)
theorem insR_sorted {L : List SD} {s : SD} (hs : L.Pairwise fun a b => ltOf r70.v b a = false) (hn : ∀ x ∈ L, x.nm.toList < s.nm.toList) : (insR L s).Pairwise fun a b => ltOf r70.v b a = false := by
  unfold insR
  rw [take_kR, drop_kR]
  have hL := List.takeWhile_append_dropWhile (p := fun t : SD => decide (t.ax ≤ s.ax)) (l := L)
  rw [← hL] at hs
  obtain ⟨p1, p2, p3⟩ := List.pairwise_append.1 hs
  have big : ∀ d ∈ L.dropWhile (fun t : SD => decide (t.ax ≤ s.ax)), s.ax < d.ax := by
    intro d hd
    cases hw : L.dropWhile (fun t : SD => decide (t.ax ≤ s.ax)) with
    | nil => rw [hw] at hd; cases hd
    | cons a M =>
      have ha : ¬ a.ax ≤ s.ax := of_decide_eq_false (dw_head hw)
      rw [hw] at hd p2
      rcases List.mem_cons.1 hd with e | e
      · subst e; omega
      · have := (List.pairwise_cons.1 p2).1 d e
        rw [lt70, ltS_not] at this
        rcases this with q | ⟨q, _⟩ <;> omega
  refine List.pairwise_append.2 ⟨List.pairwise_append.2 ⟨p1, List.pairwise_singleton _ _, fun a ha b hb => ?_⟩, p2, fun a ha b hb => ?_⟩
  · rw [List.mem_singleton.1 hb, lt70, ltS_not]
    have h1 : a.ax ≤ s.ax := of_decide_eq_true (mem_tw ha)
    rcases Int.lt_or_eq_of_le h1 with q | q
    · exact .inl q
    · refine .inr ⟨q, fun k => ?_⟩
      have := hn a ((List.takeWhile_sublist _).subset ha)
      exact List.lt_irrefl _ (List.lt_trans this k)
  · rcases List.mem_append.1 ha with q | q
    · exact p3 a q b hb
    · rw [List.mem_singleton.1 q, lt70, ltS_not]
      exact .inl (big b hb)
theorem corR_sorted {g : Nat → SD} {n : Nat} (k : Nat) (hr : ∀ i j, i < j → j < n → (g i).nm.toList < (g j).nm.toList) : ∀ i, i ≤ n → (corR g (k : Int) i).Pairwise fun a b => ltOf r70.v b a = false := by
  intro i
  induction i with
  | zero => intro _; exact .nil
  | succ i ih =>
    intro hi
    unfold corR
    split
    · refine insR_sorted (ih (by omega)) fun x hx => ?_
      obtain ⟨j, hj, rfl⟩ := corR_mem hx
      exact hr j i hj (by omega)
    · exact ih (by omega)
theorem rise' {w : WD} (hn : w.n ≤ 10000) (h : badN w = false) : ∀ i j, i < j → j < w.n → (w.g i).nm.toList < (w.g j).nm.toList :=
  rise hn (by rw [L24a_run w hn, h]; rfl)
/-- The courses of the program are those of the reference. -/
theorem cor_eq {w : WD} (hn : w.n ≤ 10000) (h : badN w = false) (k : Nat) : corR w.g (k : Int) w.n = cC w k := by
  have hr := rise' hn h
  refine perm_sorted_eq (lt := ltOf r70.v) _ _ ((corR_perm w.g k w.n).trans (srtS_perm _).symm) (corR_sorted k hr w.n (Nat.le_refl _)) (srtS_sorted _) fun x hx y hy h1 h2 => ?_
  obtain ⟨i, hi, rfl⟩ := corR_mem hx
  obtain ⟨j, hj, rfl⟩ := corR_mem hy
  have e := (eq70 h1 h2).2
  rw [nm_of hn (by rw [L24a_run w hn, h]; rfl) i j hi hj e]
end Go.Proofs.Ytjdbmmilcihpoaa
open Go
namespace Go.Proofs.Ytjdbmmilcihpoaa
set_option linter.unusedSimpArgs false
set_option linter.unusedVariables false
set_option maxHeartbeats 0
set_option maxRecDepth 100000
noncomputable def r21.v (w : WD) : Int := (bif decide ((↑w.n : Int) > 512) then 7 else (bif r39.v w.nm then (match L21a.run w 0 with | .e0 => 4 | .e1 => (bif r40.v w == 0 then (match L21b.run w (r41.v w) 0 with | .e0 => 9 | .e1 => (match L21c.run w (r41.v w) 0 with | .e0 => 10 | .e1 => (match L21e.run w (r41.v w) 0 with | .e0 => 11 | .e1 => (match L21g.run w (r41.v w) 0 with | .e0 => 10 | .e1 => 0 ) ) ) ) else r40.v w) ) else 4))
noncomputable abbrev r21.h0 (w : WD) : AHeap := ([AObj.var (WD.av w)])
theorem r21 (w : WD) (hn : w.n ≤ 10000) (hnm : w.nm.size ≤ 9223372036854775807) (hg : ∀ (i : Nat), (w.g i).nm.size ≤ 9223372036854775807) (h : AHeap) : Ret Try.prog 21 ([w.av]) h (AV.int IntKind.i64 (r21.v w)) h := by
  cases h1 : decide ((↑w.n : Int) > 512) with
  | true =>
    have h1p := of_decide_eq_true h1
    exact Ret.of_run1 mix [(AV.int IntKind.i64 (r21.v w))] Try.func21 rfl [.b true] (by simp) (by simp) (kmp (by kernel_rfl) (Ai h1 (Ai (show (AV.int IntKind.i64 7) = ((AV.int IntKind.i64 (r21.v w))) by simp only [r21.v, h1, cond_true, cond_false]) trivial))) h
  | false =>
    have h1p := of_decide_eq_false h1
    have o0 : w.nm.size ≤ (9223372036854775807 : Nat) := by assumption
    cases h2 : r39.v w.nm with
    | true =>
      have o1 : w.n ≤ (10000 : Nat) := by assumption
      have o2 : ∀ (i : Nat), (w.g i).nm.size ≤ (9223372036854775807 : Nat) := by assumption
      have o3 : (0 : Int) ≤ (↑w.n : Int) := by omega
      cases h3 : L21a.run w 0 with
      | e0 =>
        exact Ret.of_run1 mix [(AV.int IntKind.i64 (r21.v w))] Try.func21 rfl [.b false, .ret (AV.bool (r39.v w.nm)) (r21.h0 w), .b false, .loop (others 226 [1, 3]) (Exit.ret) (L21a.X w L21a.O.e0) (L21a.XH w L21a.O.e0)] (by simp) (by simp) (kmp (by kernel_rfl) (Ai h1 (Ai (r39 (w.nm) o0 (r21.h0 w)) (Ai (show (bnot (r39.v w.nm)) = false by rw [h2]; try rfl) (Ai (L21a.e0 (w) o1 o2 (0) (Ai (show (0 : Int) ≤ (0 : Int) by decide) o3) h3) (Ai (show (AV.int IntKind.i64 4) = ((AV.int IntKind.i64 (r21.v w))) by simp only [r21.v, h1, h2, h3, cond_true, cond_false]) trivial)))))) h
      | e1 =>
        cases h4 : r40.v w == 0 with
        | true =>
          have h4p := eq_of_beq h4
          have o4 : r41.v w ≤ (99 : Int) := by first | assumption | omega | (apply top99 <;> first | assumption | omega) | (apply top99' <;> first | assumption | omega) | (exact hg _) | (exact hg _ (by omega)) | (simp_all; done)
          cases h5 : L21b.run w (r41.v w) 0 with
          | e0 =>
            exact Ret.of_run1 mix [(AV.int IntKind.i64 (r21.v w))] Try.func21 rfl [.b false, .ret (AV.bool (r39.v w.nm)) (r21.h0 w), .b false, .loop (others 226 [1, 3]) (Exit.exit 0) (L21a.X w L21a.O.e1) (L21a.XH w L21a.O.e1), .ret (AV.int IntKind.i64 (r40.v w)) (r21.h0 w), .b false, .ret (AV.int IntKind.i64 (r41.v w)) (r21.h0 w), .loop (others 226 [1, 5, 6]) (Exit.ret) (L21b.X w (r41.v w) L21b.O.e0) (L21b.XH w (r41.v w) L21b.O.e0)] (by simp) (by simp) (kmp (by kernel_rfl) (Ai h1 (Ai (r39 (w.nm) o0 (r21.h0 w)) (Ai (show (bnot (r39.v w.nm)) = false by rw [h2]; try rfl) (Ai (L21a.e1 (w) o1 o2 (0) (Ai (show (0 : Int) ≤ (0 : Int) by decide) o3) h3) (Ai (r40 (w) o1 (r21.h0 w)) (Ai (show (bnot (r40.v w == 0)) = false by rw [h4]; try rfl) (Ai (r41 (w) o1 (r21.h0 w)) (Ai (L21b.e0 (w) o1 (r41.v w) o4 (0) (Ai (show (0 : Int) ≤ (0 : Int) by decide) (show (0 : Int) ≤ (100 : Int) by decide)) h5) (Ai (show (AV.int IntKind.i64 9) = ((AV.int IntKind.i64 (r21.v w))) by simp only [r21.v, h1, h2, h4, h3, h5, cond_true, cond_false]) trivial)))))))))) h
          | e1 =>
            have o5 : ∀ (k : Int), (0 : Int) ≤ k → k ≤ r41.v w → (0 : Nat) < (corR w.g k w.n).length := by first | assumption | omega | (simp only [List.length_append, List.length_cons, List.length_nil, List.length_map]; omega) | (apply cor_ne <;> first | assumption | omega) | (exact hg _) | (exact hg _ (by omega)) | (simp_all; done)
            cases h6 : L21c.run w (r41.v w) 0 with
            | e0 =>
              exact Ret.of_run1 mix [(AV.int IntKind.i64 (r21.v w))] Try.func21 rfl [.b false, .ret (AV.bool (r39.v w.nm)) (r21.h0 w), .b false, .loop (others 226 [1, 3]) (Exit.exit 0) (L21a.X w L21a.O.e1) (L21a.XH w L21a.O.e1), .ret (AV.int IntKind.i64 (r40.v w)) (r21.h0 w), .b false, .ret (AV.int IntKind.i64 (r41.v w)) (r21.h0 w), .loop (others 226 [1, 5, 6]) (Exit.exit 2) (L21b.X w (r41.v w) L21b.O.e1) (L21b.XH w (r41.v w) L21b.O.e1), .loop (others 226 [1, 5, 7]) (Exit.ret) (L21c.X w (r41.v w) L21c.O.e0) (L21c.XH w (r41.v w) L21c.O.e0)] (by simp) (by simp) (kmp (by kernel_rfl) (Ai h1 (Ai (r39 (w.nm) o0 (r21.h0 w)) (Ai (show (bnot (r39.v w.nm)) = false by rw [h2]; try rfl) (Ai (L21a.e1 (w) o1 o2 (0) (Ai (show (0 : Int) ≤ (0 : Int) by decide) o3) h3) (Ai (r40 (w) o1 (r21.h0 w)) (Ai (show (bnot (r40.v w == 0)) = false by rw [h4]; try rfl) (Ai (r41 (w) o1 (r21.h0 w)) (Ai (L21b.e1 (w) o1 (r41.v w) o4 (0) (Ai (show (0 : Int) ≤ (0 : Int) by decide) (show (0 : Int) ≤ (100 : Int) by decide)) h5) (Ai (L21c.e0 (w) o1 (r41.v w) o4 o5 (0) (Ai (show (0 : Int) ≤ (0 : Int) by decide) (show (0 : Int) ≤ (100 : Int) by decide)) h6) (Ai (show (AV.int IntKind.i64 10) = ((AV.int IntKind.i64 (r21.v w))) by simp only [r21.v, h1, h2, h4, h3, h5, h6, cond_true, cond_false]) trivial))))))))))) h
            | e1 =>
              cases h7 : L21e.run w (r41.v w) 0 with
              | e0 =>
                exact Ret.of_run1 mix [(AV.int IntKind.i64 (r21.v w))] Try.func21 rfl [.b false, .ret (AV.bool (r39.v w.nm)) (r21.h0 w), .b false, .loop (others 226 [1, 3]) (Exit.exit 0) (L21a.X w L21a.O.e1) (L21a.XH w L21a.O.e1), .ret (AV.int IntKind.i64 (r40.v w)) (r21.h0 w), .b false, .ret (AV.int IntKind.i64 (r41.v w)) (r21.h0 w), .loop (others 226 [1, 5, 6]) (Exit.exit 2) (L21b.X w (r41.v w) L21b.O.e1) (L21b.XH w (r41.v w) L21b.O.e1), .loop (others 226 [1, 5, 7]) (Exit.exit 4) (L21c.X w (r41.v w) L21c.O.e1) (L21c.XH w (r41.v w) L21c.O.e1), .loop (others 226 [1, 5, 11]) (Exit.ret) (L21e.X w (r41.v w) L21e.O.e0) (L21e.XH w (r41.v w) L21e.O.e0)] (by simp) (by simp) (kmp (by kernel_rfl) (Ai h1 (Ai (r39 (w.nm) o0 (r21.h0 w)) (Ai (show (bnot (r39.v w.nm)) = false by rw [h2]; try rfl) (Ai (L21a.e1 (w) o1 o2 (0) (Ai (show (0 : Int) ≤ (0 : Int) by decide) o3) h3) (Ai (r40 (w) o1 (r21.h0 w)) (Ai (show (bnot (r40.v w == 0)) = false by rw [h4]; try rfl) (Ai (r41 (w) o1 (r21.h0 w)) (Ai (L21b.e1 (w) o1 (r41.v w) o4 (0) (Ai (show (0 : Int) ≤ (0 : Int) by decide) (show (0 : Int) ≤ (100 : Int) by decide)) h5) (Ai (L21c.e1 (w) o1 (r41.v w) o4 o5 (0) (Ai (show (0 : Int) ≤ (0 : Int) by decide) (show (0 : Int) ≤ (100 : Int) by decide)) h6) (Ai (L21e.e0 (w) o1 (r41.v w) o4 o5 (0) (Ai (show (0 : Int) ≤ (0 : Int) by decide) (show (0 : Int) ≤ (100 : Int) by decide)) h7) (Ai (show (AV.int IntKind.i64 11) = ((AV.int IntKind.i64 (r21.v w))) by simp only [r21.v, h1, h2, h4, h3, h5, h6, h7, cond_true, cond_false]) trivial)))))))))))) h
              | e1 =>
                cases h8 : L21g.run w (r41.v w) 0 with
                | e0 =>
                  exact Ret.of_run1 mix [(AV.int IntKind.i64 (r21.v w))] Try.func21 rfl [.b false, .ret (AV.bool (r39.v w.nm)) (r21.h0 w), .b false, .loop (others 226 [1, 3]) (Exit.exit 0) (L21a.X w L21a.O.e1) (L21a.XH w L21a.O.e1), .ret (AV.int IntKind.i64 (r40.v w)) (r21.h0 w), .b false, .ret (AV.int IntKind.i64 (r41.v w)) (r21.h0 w), .loop (others 226 [1, 5, 6]) (Exit.exit 2) (L21b.X w (r41.v w) L21b.O.e1) (L21b.XH w (r41.v w) L21b.O.e1), .loop (others 226 [1, 5, 7]) (Exit.exit 4) (L21c.X w (r41.v w) L21c.O.e1) (L21c.XH w (r41.v w) L21c.O.e1), .loop (others 226 [1, 5, 11]) (Exit.exit 8) (L21e.X w (r41.v w) L21e.O.e1) (L21e.XH w (r41.v w) L21e.O.e1), .loop (others 226 [1, 5, 14]) (Exit.ret) (L21g.X w (r41.v w) L21g.O.e0) (L21g.XH w (r41.v w) L21g.O.e0)] (by simp) (by simp) (kmp (by kernel_rfl) (Ai h1 (Ai (r39 (w.nm) o0 (r21.h0 w)) (Ai (show (bnot (r39.v w.nm)) = false by rw [h2]; try rfl) (Ai (L21a.e1 (w) o1 o2 (0) (Ai (show (0 : Int) ≤ (0 : Int) by decide) o3) h3) (Ai (r40 (w) o1 (r21.h0 w)) (Ai (show (bnot (r40.v w == 0)) = false by rw [h4]; try rfl) (Ai (r41 (w) o1 (r21.h0 w)) (Ai (L21b.e1 (w) o1 (r41.v w) o4 (0) (Ai (show (0 : Int) ≤ (0 : Int) by decide) (show (0 : Int) ≤ (100 : Int) by decide)) h5) (Ai (L21c.e1 (w) o1 (r41.v w) o4 o5 (0) (Ai (show (0 : Int) ≤ (0 : Int) by decide) (show (0 : Int) ≤ (100 : Int) by decide)) h6) (Ai (L21e.e1 (w) o1 (r41.v w) o4 o5 (0) (Ai (show (0 : Int) ≤ (0 : Int) by decide) (show (0 : Int) ≤ (100 : Int) by decide)) h7) (Ai (L21g.e0 (w) o1 (r41.v w) o4 o5 (0) (Ai (show (0 : Int) ≤ (0 : Int) by decide) (show (0 : Int) ≤ (100 : Int) by decide)) h8) (Ai (show (AV.int IntKind.i64 10) = ((AV.int IntKind.i64 (r21.v w))) by simp only [r21.v, h1, h2, h4, h3, h5, h6, h7, h8, cond_true, cond_false]) trivial))))))))))))) h
                | e1 =>
                  exact Ret.of_run1 mix [(AV.int IntKind.i64 (r21.v w))] Try.func21 rfl [.b false, .ret (AV.bool (r39.v w.nm)) (r21.h0 w), .b false, .loop (others 226 [1, 3]) (Exit.exit 0) (L21a.X w L21a.O.e1) (L21a.XH w L21a.O.e1), .ret (AV.int IntKind.i64 (r40.v w)) (r21.h0 w), .b false, .ret (AV.int IntKind.i64 (r41.v w)) (r21.h0 w), .loop (others 226 [1, 5, 6]) (Exit.exit 2) (L21b.X w (r41.v w) L21b.O.e1) (L21b.XH w (r41.v w) L21b.O.e1), .loop (others 226 [1, 5, 7]) (Exit.exit 4) (L21c.X w (r41.v w) L21c.O.e1) (L21c.XH w (r41.v w) L21c.O.e1), .loop (others 226 [1, 5, 11]) (Exit.exit 8) (L21e.X w (r41.v w) L21e.O.e1) (L21e.XH w (r41.v w) L21e.O.e1), .loop (others 226 [1, 5, 14]) (Exit.exit 12) (L21g.X w (r41.v w) L21g.O.e1) (L21g.XH w (r41.v w) L21g.O.e1)] (by simp) (by simp) (kmp (by kernel_rfl) (Ai h1 (Ai (r39 (w.nm) o0 (r21.h0 w)) (Ai (show (bnot (r39.v w.nm)) = false by rw [h2]; try rfl) (Ai (L21a.e1 (w) o1 o2 (0) (Ai (show (0 : Int) ≤ (0 : Int) by decide) o3) h3) (Ai (r40 (w) o1 (r21.h0 w)) (Ai (show (bnot (r40.v w == 0)) = false by rw [h4]; try rfl) (Ai (r41 (w) o1 (r21.h0 w)) (Ai (L21b.e1 (w) o1 (r41.v w) o4 (0) (Ai (show (0 : Int) ≤ (0 : Int) by decide) (show (0 : Int) ≤ (100 : Int) by decide)) h5) (Ai (L21c.e1 (w) o1 (r41.v w) o4 o5 (0) (Ai (show (0 : Int) ≤ (0 : Int) by decide) (show (0 : Int) ≤ (100 : Int) by decide)) h6) (Ai (L21e.e1 (w) o1 (r41.v w) o4 o5 (0) (Ai (show (0 : Int) ≤ (0 : Int) by decide) (show (0 : Int) ≤ (100 : Int) by decide)) h7) (Ai (L21g.e1 (w) o1 (r41.v w) o4 o5 (0) (Ai (show (0 : Int) ≤ (0 : Int) by decide) (show (0 : Int) ≤ (100 : Int) by decide)) h8) (Ai (show (AV.int IntKind.i64 0) = ((AV.int IntKind.i64 (r21.v w))) by simp only [r21.v, h1, h2, h4, h3, h5, h6, h7, h8, cond_true, cond_false]) trivial))))))))))))) h
        | false =>
          have h4p := ne_of_beq_false h4
          exact Ret.of_run1 mix [(AV.int IntKind.i64 (r21.v w))] Try.func21 rfl [.b false, .ret (AV.bool (r39.v w.nm)) (r21.h0 w), .b false, .loop (others 226 [1, 3]) (Exit.exit 0) (L21a.X w L21a.O.e1) (L21a.XH w L21a.O.e1), .ret (AV.int IntKind.i64 (r40.v w)) (r21.h0 w), .b true] (by simp) (by simp) (kmp (by kernel_rfl) (Ai h1 (Ai (r39 (w.nm) o0 (r21.h0 w)) (Ai (show (bnot (r39.v w.nm)) = false by rw [h2]; try rfl) (Ai (L21a.e1 (w) o1 o2 (0) (Ai (show (0 : Int) ≤ (0 : Int) by decide) o3) h3) (Ai (r40 (w) o1 (r21.h0 w)) (Ai (show (bnot (r40.v w == 0)) = true by rw [h4]; try rfl) (Ai (show (AV.int IntKind.i64 (r40.v w)) = ((AV.int IntKind.i64 (r21.v w))) by simp only [r21.v, h1, h2, h4, h3, cond_true, cond_false]) trivial)))))))) h
    | false =>
      exact Ret.of_run1 mix [(AV.int IntKind.i64 (r21.v w))] Try.func21 rfl [.b false, .ret (AV.bool (r39.v w.nm)) (r21.h0 w), .b true] (by simp) (by simp) (kmp (by kernel_rfl) (Ai h1 (Ai (r39 (w.nm) o0 (r21.h0 w)) (Ai (show (bnot (r39.v w.nm)) = true by rw [h2]; try rfl) (Ai (show (AV.int IntKind.i64 4) = ((AV.int IntKind.i64 (r21.v w))) by simp only [r21.v, h1, h2, cond_true, cond_false]) trivial))))) h
end Go.Proofs.Ytjdbmmilcihpoaa
open Go
namespace Go.Proofs.Ytjdbmmilcihpoaa
set_option maxHeartbeats 0
set_option maxRecDepth 100000
set_option linter.unusedVariables false
set_option linter.unusedSimpArgs false
theorem L21a_run (w : WD) (hn : w.n ≤ 10000) (hg : ∀ i, (w.g i).nm.size ≤ 9223372036854775807) : L21a.run w 0 = bif r49a.v w.n w.g then .e0 else .e1 := by
  have := scan_eq (N := L21a.N w) (n := w.n) (fun i => r50.v (w.g i)) .e0 .e1 0 (fun k i _ h => by
    simp only [L21a.N, Int.toNat_natCast]
    rw [decide_eq_true (show (i : Int) < (w.n : Int) by omega), cond_true, wrap_s (Nat.le_of_lt h) (by omega), ← name_eq (hg i)]
    unfold r50.v
    cases r48.v (w.g i).nm <;> rfl) (fun k i _ h => by
    simp only [L21a.N]
    rw [decide_eq_false (show ¬ (i : Int) < (w.n : Int) by omega), cond_false]) (((w.n : Int) - ((0 : Nat) : Int)).toNat + 1) 0 (Nat.zero_le _) (by omega)
  rw [anyN_all, ← r49a_v (by omega)] at this
  exact this
theorem r49c_v {n : Nat} {g : Nat → SD} (hn : n ≤ 10000) : r49c.v n g = anyN n (fun i => r78.v g (g i)) := by
  have := search_eq (n := n) (fun i => r78.v g (g i)) (fun i => L59c.O.e0 i) .e1 (N := L59c.N n g) (fun k i h => by
    simp only [L59c.N, wrap_succ (show n ≤ 9223372036854775807 by omega) h, Int.toNat_natCast]; rw [decide_eq_true (by omega)]; rfl) (fun k => by simp [L59c.N]) (n + 1) 0 (Nat.zero_le _) (by omega)
  have e : L59c.run n g 0 = srch (fun i => r78.v g (g i)) (fun i => L59c.O.e0 i) .e1 0 n := by simpa [L59c.run] using this
  unfold r49c.v r59c.v
  rw [e]
  exact idx_any _ n L59c.O (fun o => match o with | .e0 a => a | .e1 => -1) _ _ (fun i => rfl) rfl
theorem L21d_run (L : List SD) (hl : L.length ≤ 10000) : L21d.run L 0 = bif r49c.v L.length (fun i => L.getD i default) then .e0 else .e1 := by
  have := scan_eq (N := L21d.N L) (n := L.length) (fun i => r78.v (fun i => L.getD i default) (L.getD i default)) .e0 .e1 0 (fun k i _ h => by
    simp only [L21d.N, Int.toNat_natCast]
    rw [decide_eq_true (show (i : Int) < (L.length : Int) by omega), cond_true, wrap_s (Nat.le_of_lt h) (by omega)]
    unfold r78.v
    cases (L.getD i default).az == (L.getD 0 default).az with
    | true =>
      show (bif (L.getD i default).sz == (L.getD 0 default).sz then _ else _) = bif (L.getD i default).sz != (L.getD 0 default).sz then _ else _
      rw [show ((L.getD i default).sz != (L.getD 0 default).sz) = !((L.getD i default).sz == (L.getD 0 default).sz) from rfl]
      cases (L.getD i default).sz == (L.getD 0 default).sz <;> rfl
    | false => rfl) (fun k i _ h => by
    simp only [L21d.N]
    rw [decide_eq_false (show ¬ (i : Int) < (L.length : Int) by omega), cond_false]) (((L.length : Int) - ((0 : Nat) : Int)).toNat + 1) 0 (Nat.zero_le _) (by omega)
  rw [anyN_all, ← r49c_v hl] at this
  exact this
/-- A course that isn't at its height. -/
noncomputable def badH (w : WD) (L : Nat → List SD) (k : Nat) : Bool :=
  r49c.v (L k).length (fun i => (L k).getD i default) || (decide (0 < k) && !r51.v (IntKind.i64.wrap (IntKind.i64.wrap (((L k).getD 0 default).az - ((L (k - 1)).getD 0 default).az) - ((L (k - 1)).getD 0 default).sz)) w.jl w.jh)
theorem dec_pos (i : Nat) : decide ((i : Int) > 0) = decide (0 < i) := by
  by_cases h : 0 < i
  · rw [decide_eq_true h, decide_eq_true (by omega)]
  · rw [decide_eq_false h, decide_eq_false (by omega)]
theorem L56a_run (w : WD) (N : Nat) (L : Nat → List SD) (hN : N ≤ 1000) : L56a.run w N L 0 = bif anyN N (badH w L) then .e0 else .e1 := by
  have := scan_eq (N := L56a.N w N L) (n := N) (badH w L) .e0 .e1 0 (fun k i _ h => by
    simp only [L56a.N, Int.toNat_natCast]
    rw [decide_eq_true (show (i : Int) < (N : Int) by omega), cond_true, wrap_s (Nat.le_of_lt h) (by omega), dec_pos]
    unfold badH
    rcases Nat.eq_zero_or_pos i with q | q
    · subst q
      cases r49c.v (L 0).length (fun i => (L 0).getD i default) <;> rfl
    · rw [decide_eq_true q, wrap_pn q (by omega)]
      cases r49c.v (L i).length (fun j => (L i).getD j default) with
      | true => rfl
      | false =>
        simp only [cond_true, cond_false, Bool.false_or, Bool.true_and]
        cases r51.v (IntKind.i64.wrap (IntKind.i64.wrap (((L i).getD 0 default).az - ((L (i - 1)).getD 0 default).az) - ((L (i - 1)).getD 0 default).sz)) w.jl w.jh <;> rfl) (fun k i _ h => by
    simp only [L56a.N]
    rw [decide_eq_false (show ¬ (i : Int) < (N : Int) by omega), cond_false]) (((N : Int) - ((0 : Nat) : Int)).toNat + 1) 0 (Nat.zero_le _) (by omega)
  rw [anyN_all] at this
  exact this
section
variable {w : WD} (hn : w.n ≤ 10000) (hb : badN w = false) (t : Int) (ht : t ≤ 99)
include hn hb ht
theorem L21c_run : L21c.run w t 0 = bif anyN (t + 1).toNat (badH w (cC w)) then .e0 else .e1 := by
  have := scan_eq (N := L21c.N w t) (n := (t + 1).toNat) (badH w (cC w)) .e0 .e1 0 (fun k i _ h => by
    simp only [L21c.N]
    rw [decide_eq_true (show (i : Int) ≤ t by omega), cond_true, wrap_s (n := i) (Nat.le_refl _) (by omega), dec_pos, cor_eq hn hb i, L21d_run _ (cC_len hn i)]
    unfold badH
    rcases Nat.eq_zero_or_pos i with q | q
    · subst q
      cases r49c.v (cC w 0).length (fun i => (cC w 0).getD i default) <;> rfl
    · rw [decide_eq_true q, wrap_p q (by omega), cor_eq hn hb (i - 1)]
      cases r49c.v (cC w i).length (fun j => (cC w i).getD j default) with
      | true => rfl
      | false =>
        simp only [cond_true, cond_false, Bool.false_or, Bool.true_and]
        show (bif r37.v _ w.jl w.jh then _ else _) = _
        rw [r37_51]
        cases r51.v (IntKind.i64.wrap (IntKind.i64.wrap (((cC w i).getD 0 default).az - ((cC w (i - 1)).getD 0 default).az) - ((cC w (i - 1)).getD 0 default).sz)) w.jl w.jh <;> rfl) (fun k i _ h => by
    simp only [L21c.N]
    rw [decide_eq_false (show ¬ (i : Int) ≤ t by omega), cond_false]) ((t + 1 - ((0 : Nat) : Int)).toNat + 1) 0 (Nat.zero_le _) (by omega)
  rw [anyN_all] at this
  exact this
end
noncomputable def badO (L : List SD) : Bool := anyN L.length fun i => decide (1 ≤ i) && decide ((L.getD i default).ax < r61.v (L.getD (i - 1) default))
theorem L21f_run (L : List SD) (hl : L.length ≤ 10000) : L21f.run L 1 = bif badO L then .e0 else .e1 :=
  scan_eq (N := L21f.N L) (n := L.length) (fun i => decide ((L.getD i default).ax < r61.v (L.getD (i - 1) default))) .e0 .e1 1 (fun k i h1 h => by
    simp only [L21f.N, Int.toNat_natCast]
    rw [decide_eq_true (show (i : Int) < (L.length : Int) by omega), cond_true, wrap_s (Nat.le_of_lt h) (by omega), wrap_pn h1 (by omega)]
    rfl) (fun k i _ h => by
    simp only [L21f.N]
    rw [decide_eq_false (show ¬ (i : Int) < (L.length : Int) by omega), cond_false]) (((L.length : Int) - ((1 : Nat) : Int)).toNat + 1) 1 (Nat.le_refl _) (by omega)
theorem L57ab_run (L : Nat → List SD) (c : Nat) (hl : (L c).length ≤ 10000) : L57ab.run L c 1 = bif badO (L c) then .e0 else .e1 :=
  scan_eq (N := L57ab.N L c) (n := (L c).length) (fun i => decide (((L c).getD i default).ax < r61.v ((L c).getD (i - 1) default))) .e0 .e1 1 (fun k i h1 h => by
    simp only [L57ab.N, Int.toNat_natCast]
    rw [decide_eq_true (show (i : Int) < ((L c).length : Int) by omega), cond_true, wrap_s (Nat.le_of_lt h) (by omega), wrap_pn h1 (by omega)]) (fun k i _ h => by
    simp only [L57ab.N, Int.toNat_natCast]
    rw [decide_eq_false (show ¬ (i : Int) < ((L c).length : Int) by omega), cond_false]) ((((L c).length : Int) - ((1 : Nat) : Int)).toNat + 1) 1 (Nat.le_refl _) (by omega)
theorem L57a_run (N : Nat) (L : Nat → List SD) (hN : N ≤ 1000) (hl : ∀ k, (L k).length ≤ 10000) : L57a.run N L 0 = bif anyN N (fun k => badO (L k)) then .e0 else .e1 := by
  have := scan_eq (N := L57a.N N L) (n := N) (fun k => badO (L k)) .e0 .e1 0 (fun k i _ h => by
    simp only [L57a.N]
    rw [decide_eq_true (show (i : Int) < (N : Int) by omega), cond_true, wrap_s (Nat.le_of_lt h) (by omega), L57ab_run L i (hl i)]
    cases badO (L i) <;> rfl) (fun k i _ h => by
    simp only [L57a.N]
    rw [decide_eq_false (show ¬ (i : Int) < (N : Int) by omega), cond_false]) (((N : Int) - ((0 : Nat) : Int)).toNat + 1) 0 (Nat.zero_le _) (by omega)
  rw [anyN_all] at this
  exact this
section
variable {w : WD} (hn : w.n ≤ 10000) (hb : badN w = false) (t : Int) (ht : t ≤ 99)
include hn hb ht
theorem L21e_run : L21e.run w t 0 = bif anyN (t + 1).toNat (fun k => badO (cC w k)) then .e0 else .e1 := by
  have := scan_eq (N := L21e.N w t) (n := (t + 1).toNat) (fun k => badO (cC w k)) .e0 .e1 0 (fun k i _ h => by
    simp only [L21e.N]
    rw [decide_eq_true (show (i : Int) ≤ t by omega), cond_true, wrap_s (n := i) (Nat.le_refl _) (by omega), cor_eq hn hb i, L21f_run _ (cC_len hn i)]
    cases badO (cC w i) <;> rfl) (fun k i _ h => by
    simp only [L21e.N]
    rw [decide_eq_false (show ¬ (i : Int) ≤ t by omega), cond_false]) ((t + 1 - ((0 : Nat) : Int)).toNat + 1) 0 (Nat.zero_le _) (by omega)
  rw [anyN_all] at this
  exact this
end
noncomputable def badJ (w : WD) (L : List SD) : Bool := anyN L.length fun i => decide (1 ≤ i) && !r51.v (IntKind.i64.wrap ((L.getD i default).ax - r61.v (L.getD (i - 1) default))) w.jl w.jh
noncomputable def badE (w : WD) (L : List SD) : Bool := !((L.getD 0 default).ax == 0) || (!(r61.v (L.getD (IntKind.i64.wrap ((L.length : Int) - 1)).toNat default) == w.len) || badJ w L)
theorem L58ab_run (w : WD) (L : Nat → List SD) (c : Nat) (hl : (L c).length ≤ 10000) : L58ab.run w L c 1 = bif badJ w (L c) then .e0 else .e1 :=
  scan_eq (N := L58ab.N w L c) (n := (L c).length) (fun i => !r51.v (IntKind.i64.wrap (((L c).getD i default).ax - r61.v ((L c).getD (i - 1) default))) w.jl w.jh) .e0 .e1 1 (fun k i h1 h => by
    simp only [L58ab.N, Int.toNat_natCast]
    rw [decide_eq_true (show (i : Int) < ((L c).length : Int) by omega), cond_true, wrap_s (Nat.le_of_lt h) (by omega), wrap_pn h1 (by omega)]
    cases r51.v (IntKind.i64.wrap (((L c).getD i default).ax - r61.v ((L c).getD (i - 1) default))) w.jl w.jh <;> rfl) (fun k i _ h => by
    simp only [L58ab.N, Int.toNat_natCast]
    rw [decide_eq_false (show ¬ (i : Int) < ((L c).length : Int) by omega), cond_false]) ((((L c).length : Int) - ((1 : Nat) : Int)).toNat + 1) 1 (Nat.le_refl _) (by omega)
theorem L58a_run (w : WD) (N : Nat) (L : Nat → List SD) (hN : N ≤ 1000) (hl : ∀ k, (L k).length ≤ 10000) : L58a.run w N L 0 = bif anyN N (fun k => badE w (L k)) then .e0 else .e1 := by
  have := scan_eq (N := L58a.N w N L) (n := N) (fun k => badE w (L k)) .e0 .e1 0 (fun k i _ h => by
    simp only [L58a.N, Int.toNat_natCast]
    rw [decide_eq_true (show (i : Int) < (N : Int) by omega), cond_true, wrap_s (Nat.le_of_lt h) (by omega), L58ab_run w L i (hl i)]
    unfold badE
    cases ((L i).getD 0 default).ax == 0 <;> cases r61.v ((L i).getD (IntKind.i64.wrap (((L i).length : Int) - 1)).toNat default) == w.len <;> cases badJ w (L i) <;> rfl) (fun k i _ h => by
    simp only [L58a.N]
    rw [decide_eq_false (show ¬ (i : Int) < (N : Int) by omega), cond_false]) (((N : Int) - ((0 : Nat) : Int)).toNat + 1) 0 (Nat.zero_le _) (by omega)
  rw [anyN_all] at this
  exact this
theorem cC_mem {w : WD} {k : Nat} {x : SD} (h : x ∈ cC w k) : ∃ i, i < w.n ∧ x = w.g i := crs_mem ((srtS_perm _).subset h)
theorem cC_ok {w : WD} (hs : ∀ i, i < w.n → SOk (w.g i)) {k i : Nat} (hi : i < (cC w k).length) : SOk ((cC w k).getD i default) := by
  rw [getD_lt hi]
  obtain ⟨j, hj, e⟩ := cC_mem (List.getElem_mem hi)
  rw [e]; exact hs j hj
theorem L21h_run (w : WD) (L : List SD) (hl : L.length ≤ 10000) (hs : ∀ i, i < L.length → SOk (L.getD i default)) : L21h.run w L 1 = bif badJ w L then .e0 else .e1 :=
  scan_eq (N := L21h.N w L) (n := L.length) (fun i => !r51.v (IntKind.i64.wrap ((L.getD i default).ax - r61.v (L.getD (i - 1) default))) w.jl w.jh) .e0 .e1 1 (fun k i h1 h => by
    simp only [L21h.N, Int.toNat_natCast]
    rw [decide_eq_true (show (i : Int) < (L.length : Int) by omega), cond_true, wrap_s (Nat.le_of_lt h) (by omega), wrap_pn h1 (by omega)]
    have a := (hs i h).ax
    have b := (hs (i - 1) (by omega)).ax
    have c := (hs (i - 1) (by omega)).sx
    have e : IntKind.i64.wrap (IntKind.i64.wrap ((L.getD i default).ax - (L.getD (i - 1) default).ax) - (L.getD (i - 1) default).sx) = IntKind.i64.wrap ((L.getD i default).ax - r61.v (L.getD (i - 1) default)) := by
      unfold r61.v
      rw [IntWalk.i64_in ((L.getD i default).ax - (L.getD (i - 1) default).ax) (by omega), IntWalk.i64_in ((L.getD (i - 1) default).ax + (L.getD (i - 1) default).sx) (by omega)]
      congr 1; omega
    rw [e]
    show (bif r37.v _ w.jl w.jh then _ else _) = _
    rw [r37_51]
    cases r51.v (IntKind.i64.wrap ((L.getD i default).ax - r61.v (L.getD (i - 1) default))) w.jl w.jh <;> rfl) (fun k i _ h => by
    simp only [L21h.N]
    rw [decide_eq_false (show ¬ (i : Int) < (L.length : Int) by omega), cond_false]) (((L.length : Int) - ((1 : Nat) : Int)).toNat + 1) 1 (Nat.le_refl _) (by omega)
section
variable {w : WD} (hn : w.n ≤ 10000) (hb : badN w = false) (hs : ∀ i, i < w.n → SOk (w.g i)) (t : Int) (ht : t ≤ 99)
include hn hb ht hs
theorem L21g_run : L21g.run w t 0 = bif anyN (t + 1).toNat (fun k => badE w (cC w k)) then .e0 else .e1 := by
  have := scan_eq (N := L21g.N w t) (n := (t + 1).toNat) (fun k => badE w (cC w k)) .e0 .e1 0 (fun k i _ h => by
    simp only [L21g.N]
    rw [decide_eq_true (show (i : Int) ≤ t by omega), cond_true, wrap_s (n := i) (Nat.le_refl _) (by omega), cor_eq hn hb i, L21h_run _ _ (cC_len hn i) fun j hj => cC_ok hs hj]
    unfold badE
    show _ = bif !((cC w i).getD 0 default).ax == 0 || (!(IntKind.i64.wrap (((cC w i).getD (IntKind.i64.wrap (((cC w i).length : Int) - 1)).toNat default).ax + ((cC w i).getD (IntKind.i64.wrap (((cC w i).length : Int) - 1)).toNat default).sx) == w.len) || badJ w (cC w i)) then _ else _
    cases ((cC w i).getD 0 default).ax == 0 <;> cases IntKind.i64.wrap (((cC w i).getD (IntKind.i64.wrap (((cC w i).length : Int) - 1)).toNat default).ax + ((cC w i).getD (IntKind.i64.wrap (((cC w i).length : Int) - 1)).toNat default).sx) == w.len <;> cases badJ w (cC w i) <;> rfl) (fun k i _ h => by
    simp only [L21g.N]
    rw [decide_eq_false (show ¬ (i : Int) ≤ t by omega), cond_false]) ((t + 1 - ((0 : Nat) : Int)).toNat + 1) 0 (Nat.zero_le _) (by omega)
  rw [anyN_all] at this
  exact this
end
/-- Both checks agree. -/
theorem check_eq {w : WD} (hn : w.n ≤ 10000) (hnm : w.nm.size ≤ 9223372036854775807) (hg : ∀ i, (w.g i).nm.size ≤ 9223372036854775807) : r21.v w = r24.v w := by
  unfold r21.v r24.v
  rw [← name_eq hnm, L21a_run w hn hg, L24a_run w hn, r40_v w hn]
  cases decide ((w.n : Int) > 512) with
  | true => rfl
  | false =>
  cases r48.v w.nm with
  | false => rfl
  | true =>
  cases r49a.v w.n w.g with
  | true => rfl
  | false =>
  cases r51.v w.len 1 1000000 with
  | false => rfl
  | true =>
  cases r51.v w.lap 0 1000000 with
  | false => rfl
  | true =>
  cases r51.v w.jl 0 1000 with
  | false => rfl
  | true =>
  cases r51.v w.jh 0 1000 with
  | false => rfl
  | true =>
  cases hR : r49b.v w.n w.g with
  | true => rfl
  | false =>
  cases decide (w.jl > w.jh) with
  | true => rfl
  | false =>
  cases hB : badN w with
  | true => rfl
  | false =>
    obtain ⟨t1, t2⟩ := top_le w.g 99 (by decide) w.n fun i hi => (co_of hn hR i hi).2
    have hs := sok_all hn hR
    have hN : nC w ≤ 1000 := nC_le hn hR
    have et : (topC w.g w.n + 1).toNat = nC w := rfl
    have e54 : r54.v (nC w) (cC w) = anyN (nC w) (fun k => ((corR w.g (k : Int) w.n).length : Int) == 0) := by
      rw [r54_v (by omega)]
      exact anyN_congr fun k _ => by rw [cor_eq hn hB k]; rfl
    simp only [cond_true, cond_false]
    rw [r41_v w hn, L21b_run w _ t2, L21c_run hn hB _ t2, L21e_run hn hB _ t2, L21g_run hn hB hs _ t2, et, e54]
    unfold r56.v r57.v r58.v
    rw [L56a_run w _ _ hN, L57a_run _ _ hN (cC_len hn), L58a_run w _ _ hN (cC_len hn)]
    cases anyN (nC w) (fun k => ((corR w.g (k : Int) w.n).length : Int) == 0) <;> cases anyN (nC w) (badH w (cC w)) <;> cases anyN (nC w) (fun k => badO (cC w k)) <;> cases anyN (nC w) (fun k => badE w (cC w k)) <;> rfl
end Go.Proofs.Ytjdbmmilcihpoaa
open Go
namespace Go.Proofs.Ytjdbmmilcihpoaa
set_option maxHeartbeats 0
set_option maxRecDepth 100000
set_option linter.unusedVariables false
set_option linter.unusedSimpArgs false
/-- What a valid wall has. -/
structure Valid (w : WD) : Prop where
  n : w.n ≤ 512
  rng : r49b.v w.n w.g = false
  rise : badN w = false
  some : r54.v (nC w) (cC w) = false
  hgt : r56.v w (nC w) (cC w) = true
  nov : r57.v (nC w) (cC w) = false
  fill : r58.v w (nC w) (cC w) = true
  len : r51.v w.len 1 1000000 = true
  lap : r51.v w.lap 0 1000000 = true
  jl : r51.v w.jl 0 1000 = true
  jh : r51.v w.jh 0 1000 = true
  jo : w.jl ≤ w.jh
theorem valid {w : WD} (hn : w.n ≤ 10000) (h : (r24.v w == 0) = true) : Valid w := by
  have h := eq_of_beq h
  unfold r24.v at h
  rw [L24a_run w hn] at h
  have st : ∀ {b : Bool} {x : Int} {c : Int}, c ≠ 0 → (bif b then c else x) = 0 → b = false ∧ x = 0 := by
    intro b x c hc h; cases b
    · exact ⟨rfl, h⟩
    · exact absurd h hc
  have sf : ∀ {b : Bool} {x : Int} {c : Int}, c ≠ 0 → (bif b then x else c) = 0 → b = true ∧ x = 0 := by
    intro b x c hc h; cases b
    · exact absurd h hc
    · exact ⟨rfl, h⟩
  obtain ⟨a1, h⟩ := st (by decide) h
  obtain ⟨a2, h⟩ := sf (by decide) h
  obtain ⟨a3, h⟩ := st (by decide) h
  obtain ⟨a4, h⟩ := sf (by decide) h
  obtain ⟨a5, h⟩ := sf (by decide) h
  obtain ⟨a6, h⟩ := sf (by decide) h
  obtain ⟨a7, h⟩ := sf (by decide) h
  obtain ⟨a8, h⟩ := st (by decide) h
  obtain ⟨a9, h⟩ := st (by decide) h
  cases hb : badN w with
  | true => rw [hb] at h; cases h
  | false =>
    rw [hb] at h
    simp only [cond_false] at h
    obtain ⟨b1, h⟩ := st (by decide) h
    obtain ⟨b2, h⟩ := sf (by decide) h
    obtain ⟨b3, h⟩ := st (by decide) h
    obtain ⟨b4, _⟩ := sf (by decide) h
    have := of_decide_eq_false a1
    have := of_decide_eq_false a9
    exact ⟨by omega, a8, hb, b1, b2, b3, b4, a4, a5, a6, a7, by omega⟩
section
variable {w : WD} (hn : w.n ≤ 10000) (h : (r24.v w == 0) = true)
include hn h
theorem v_co : ∀ i, i < w.n → 0 ≤ (w.g i).co ∧ (w.g i).co ≤ 99 := co_of hn (valid hn h).rng
theorem v_nm : ∀ i j, i < w.n → j < w.n → (w.g i).nm.toList = (w.g j).nm.toList → i = j := nm_of hn (by rw [L24a_run w hn, (valid hn h).rise]; rfl)
theorem v_N : nC w ≤ 1000 := nC_le hn (valid hn h).rng
theorem v_cor (k : Nat) : corR w.g (k : Int) w.n = cC w k := cor_eq hn (valid hn h).rise k
theorem v_top : topC w.g w.n ≤ 99 ∧ -1 ≤ topC w.g w.n := ⟨(top_le w.g 99 (by decide) w.n fun i hi => (v_co hn h i hi).2).2, (top_le w.g 99 (by decide) w.n fun i hi => (v_co hn h i hi).2).1⟩
theorem v_top41 : r41.v w ≤ 99 := by rw [r41_v w hn]; exact (v_top hn h).1
end
end Go.Proofs.Ytjdbmmilcihpoaa
open Go
namespace Go.Proofs.Ytjdbmmilcihpoaa
set_option linter.unusedSimpArgs false
set_option linter.unusedVariables false
set_option maxHeartbeats 0
set_option maxRecDepth 100000
inductive L30a.O where
  | e0 (a0 : Nat) (a1 : List Int)
noncomputable def L30a.T (w : WD) (c : Int) (av6 : Nat) (al6 : List Int) (a7 : Int) : List AV := mkT 44 [(5, AV.sl 14 (corR w.g c w.n).length fun (q : Nat) => (SD.av ((corR w.g c w.n).getD q default))), (6, AV.ms 1 av6 1 0 al6.length), (7, AV.int IntKind.i64 a7)]
noncomputable def L30a.H (w : WD) (c : Int) (av6 : Nat) (al6 : List Int) (a7 : Int) : AHeap := [AObj.dead, AObj.row 1 av6 (Col.ints IntKind.i64 al6)]
def L30a.inv (w : WD) (c : Int) (av6 : Nat) (al6 : List Int) (a7 : Int) : Prop := 1 ≤ a7 ∧ (a7 ≤ (↑(corR w.g c w.n).length : Int) ∨ a7 ≤ 1) ∧ (↑al6.length : Int) ≤ a7 - 1
noncomputable def L30a.mu (w : WD) (c : Int) (av6 : Nat) (al6 : List Int) (a7 : Int) : Nat := ((↑(corR w.g c w.n).length : Int) - a7).toNat
noncomputable def L30a.E : L30a.O → Exit
  | .e0 a0 a1 => Exit.exit 0
noncomputable def L30a.X (w : WD) (c : Int) : L30a.O → List AV
  | .e0 a0 a1 => mkT 44 [(6, (AV.ms 1 a0 1 0 (List.length a1)))]
noncomputable def L30a.XH (w : WD) (c : Int) : L30a.O → AHeap
  | .e0 a0 a1 => ((AObj.dead) :: ((AObj.row 1 a0 (Col.ints IntKind.i64 a1)) :: ([])))
noncomputable def L30a.N (w : WD) (c : Int) : Nat → Nat → (List Int) → Int → L30a.O
  | 0, av6, al6, _ => .e0 av6 al6
  | k_ + 1, av6, al6, a7 => (bif decide (a7 < (↑(corR w.g c w.n).length : Int)) then (L30a.N w c k_ (av6 + 1) (al6 ++ [IntKind.i64.wrap (IntKind.i64.wrap (((corR w.g c w.n).getD (IntKind.i64.wrap (a7 - 1)).toNat default).ax + ((corR w.g c w.n).getD (IntKind.i64.wrap (a7 - 1)).toNat default).sx) + ((corR w.g c w.n).getD a7.toNat default).ax)]) (IntKind.i64.wrap (a7 + 1))) else (.e0 (av6) (al6)))
noncomputable def L30a.run (w : WD) (c : Int) (av6 : Nat) (al6 : List Int) (a7 : Int) : L30a.O := L30a.N w c ((((↑(corR w.g c w.n).length : Int) - a7).toNat) + 1) av6 al6 a7
theorem L30a.nx (w : WD) (c : Int) {k_ : Nat} {z_ : Nat × (List Int) × Int} {h_ : AHeap} (s_ : Nat × (List Int) × Int) (h1 : L30a.inv w c s_.1 s_.2.1 s_.2.2) (h2 : L30a.mu w c s_.1 s_.2.1 s_.2.2 < L30a.mu w c z_.1 z_.2.1 z_.2.2) (h3 : L30a.N w c k_ s_.1 s_.2.1 s_.2.2 = L30a.N w c (k_ + 1) z_.1 z_.2.1 z_.2.2) (h4 : PopOk (L30a.H w c z_.1 z_.2.1 z_.2.2) h_ (L30a.T w c s_.1 s_.2.1 s_.2.2) (L30a.H w c s_.1 s_.2.1 s_.2.2)) : LNextP (fun (z_ : Nat × (List Int) × Int) => L30a.T w c z_.1 z_.2.1 z_.2.2) (fun (z_ : Nat × (List Int) × Int) => L30a.H w c z_.1 z_.2.1 z_.2.2) (fun (z_ : Nat × (List Int) × Int) => L30a.inv w c z_.1 z_.2.1 z_.2.2) (fun (z_ : Nat × (List Int) × Int) => L30a.mu w c z_.1 z_.2.1 z_.2.2) (fun (k_ : Nat) (z_ : Nat × (List Int) × Int) => L30a.N w c k_ z_.1 z_.2.1 z_.2.2) k_ z_ (L30a.T w c s_.1 s_.2.1 s_.2.2) h_ := LNextP.mk (Tm := (fun (z_ : Nat × (List Int) × Int) => L30a.T w c z_.1 z_.2.1 z_.2.2)) (Hp := (fun (z_ : Nat × (List Int) × Int) => L30a.H w c z_.1 z_.2.1 z_.2.2)) (inv := (fun (z_ : Nat × (List Int) × Int) => L30a.inv w c z_.1 z_.2.1 z_.2.2)) (mu := (fun (z_ : Nat × (List Int) × Int) => L30a.mu w c z_.1 z_.2.1 z_.2.2)) (l := (fun (k_ : Nat) (z_ : Nat × (List Int) × Int) => L30a.N w c k_ z_.1 z_.2.1 z_.2.2)) s_ h1 h2 h3 h4
theorem L30a.en (w : WD) (c : Int) {k_ : Nat} {z_ : Nat × (List Int) × Int} {h_ : AHeap} (o_ : L30a.O) (h3 : L30a.N w c (k_ + 1) z_.1 z_.2.1 z_.2.2 = o_) (h4 : PopOk (L30a.H w c z_.1 z_.2.1 z_.2.2) h_ (L30a.X w c o_) (L30a.XH w c o_)) : LEndP (fun (z_ : Nat × (List Int) × Int) => L30a.H w c z_.1 z_.2.1 z_.2.2) (fun (k_ : Nat) (z_ : Nat × (List Int) × Int) => L30a.N w c k_ z_.1 z_.2.1 z_.2.2) L30a.E (L30a.X w c) (L30a.XH w c) k_ z_ (L30a.E o_) (L30a.X w c o_) h_ := LEndP.mk (Hp := (fun (z_ : Nat × (List Int) × Int) => L30a.H w c z_.1 z_.2.1 z_.2.2)) (l := (fun (k_ : Nat) (z_ : Nat × (List Int) × Int) => L30a.N w c k_ z_.1 z_.2.1 z_.2.2)) (oE := L30a.E) (oT := L30a.X w c) (oH := L30a.XH w c) o_ h3 h4
theorem L30a.spec (w : WD) (hn : w.n ≤ 10000) (c : Int) (k_ : Nat) (z_ : Nat × (List Int) × Int) (hi_ : L30a.inv w c z_.1 z_.2.1 z_.2.2) (hm_ : L30a.mu w c z_.1 z_.2.1 z_.2.2 < k_) : LoopTo Try.prog (loopN Try.f30 0) (L30a.T w c z_.1 z_.2.1 z_.2.2) (L30a.H w c z_.1 z_.2.1 z_.2.2) (L30a.E (L30a.N w c k_ z_.1 z_.2.1 z_.2.2)) (L30a.X w c (L30a.N w c k_ z_.1 z_.2.1 z_.2.2)) (L30a.XH w c (L30a.N w c k_ z_.1 z_.2.1 z_.2.2)) := by
  refine LoopTo.fuelP mix (fun (z_ : Nat × (List Int) × Int) => L30a.T w c z_.1 z_.2.1 z_.2.2) (fun (z_ : Nat × (List Int) × Int) => L30a.H w c z_.1 z_.2.1 z_.2.2) (fun (z_ : Nat × (List Int) × Int) => L30a.inv w c z_.1 z_.2.1 z_.2.2) (fun (z_ : Nat × (List Int) × Int) => L30a.mu w c z_.1 z_.2.1 z_.2.2) (fun (k_ : Nat) (z_ : Nat × (List Int) × Int) => L30a.N w c k_ z_.1 z_.2.1 z_.2.2) L30a.E (L30a.X w c) (L30a.XH w c) (others 44 [5, 6, 7]) (others 44 [4]) (others 44 [6]) ?_ k_ z_ hi_ hm_
  clear hm_ hi_ z_ k_
  intro k_ z_ hinv hmu
  obtain ⟨av6, al6, a7⟩ := z_
  have hinv : 1 ≤ a7 ∧ (a7 ≤ (↑(corR w.g c w.n).length : Int) ∨ a7 ≤ 1) ∧ (↑al6.length : Int) ≤ a7 - 1 := hinv
  have hmu : (((↑(corR w.g c w.n).length : Int) - a7).toNat) < k_ + 1 := hmu
  cases h1 : decide (a7 < (↑(corR w.g c w.n).length : Int)) with
  | true =>
    have h1p := of_decide_eq_true h1
    try have := bd_cor (by assumption) (by assumption)
    try have := IntWalk.i64_in (a7 - 1) (by omega)
    have o0 : (0 : Int) ≤ IntKind.i64.wrap (a7 - (1 : Int)) := by omega
    have o1 : IntKind.i64.wrap (a7 - (1 : Int)) < (↑(corR w.g c w.n).length : Int) := by omega
    have o2 : (0 : Int) ≤ a7 := by omega
    have o3 : a7 < (↑(corR w.g c w.n).length : Int) := by assumption
    have o4 : (al6.length + (1 : Nat)) * (8 : Nat) ≤ (140737488355328 : Nat) := by omega
    have o5 : al6.length = (Col.ints IntKind.i64 al6).len := by rfl
    try have := IntWalk.i64_in (a7 + 1) (by omega)
    have o6 : (1 : Int) ≤ IntKind.i64.wrap (a7 + (1 : Int)) := by omega
    have o7 : IntKind.i64.wrap (a7 + (1 : Int)) ≤ (↑(corR w.g c w.n).length : Int) ∨ IntKind.i64.wrap (a7 + (1 : Int)) ≤ (1 : Int) := by omega
    try have := IntWalk.i64_in (((corR w.g c w.n).getD (IntKind.i64.wrap (a7 - 1)).toNat default).ax + ((corR w.g c w.n).getD (IntKind.i64.wrap (a7 - 1)).toNat default).sx) (by omega)
    try have := IntWalk.i64_in (IntKind.i64.wrap (((corR w.g c w.n).getD (IntKind.i64.wrap (a7 - 1)).toNat default).ax + ((corR w.g c w.n).getD (IntKind.i64.wrap (a7 - 1)).toNat default).sx) + ((corR w.g c w.n).getD a7.toNat default).ax) (by omega)
    have o8 : (↑(al6 ++ [IntKind.i64.wrap (IntKind.i64.wrap (((corR w.g c w.n).getD (IntKind.i64.wrap (a7 - (1 : Int))).toNat default).ax + ((corR w.g c w.n).getD (IntKind.i64.wrap (a7 - (1 : Int))).toNat default).sx) + ((corR w.g c w.n).getD a7.toNat default).ax)]).length : Int) ≤ IntKind.i64.wrap (a7 + (1 : Int)) - (1 : Int) := by simp only [List.length_append, List.length_cons, List.length_nil, List.length_map]; omega
    have o9 : ((↑(corR w.g c w.n).length : Int) - IntKind.i64.wrap (a7 + (1 : Int))).toNat < ((↑(corR w.g c w.n).length : Int) - a7).toNat := by omega
    exact ⟨[.b true, .app .one false], kmp (by kernel_rfl) (Ai h1 (Ai (Ai o0 o1) (Ai (Ai o0 o1) (Ai (Ai o2 o3) (Ai (Ai (show (1 : Nat) = (1 : Nat) by decide) (Ai (show AppMode.one.needs 1 fun (a : Nat) => (Col.ofList [AV.int IntKind.i64 (IntKind.i64.wrap (IntKind.i64.wrap (((corR w.g c w.n).getD (IntKind.i64.wrap (a7 - 1)).toNat default).ax + ((corR w.g c w.n).getD (IntKind.i64.wrap (a7 - 1)).toNat default).sx) + ((corR w.g c w.n).getD a7.toNat default).ax))]).get a by exact ⟨rfl, rfl⟩) (Ai o4 (Ai (rfl : av6 = av6) (Ai (show (0 : Nat) = (0 : Nat) by decide) o5))))) (L30a.nx w c (k_ := k_) (z_ := (av6, al6, a7)) ((av6 + 1, al6 ++ [IntKind.i64.wrap (IntKind.i64.wrap (((corR w.g c w.n).getD (IntKind.i64.wrap (a7 - 1)).toNat default).ax + ((corR w.g c w.n).getD (IntKind.i64.wrap (a7 - 1)).toNat default).sx) + ((corR w.g c w.n).getD a7.toNat default).ax)], IntKind.i64.wrap (a7 + 1))) (Ai o6 (Ai o7 o8)) o9 (by simp only [L30a.N, h1, cond_true, cond_false]) PopOk.same))))))⟩
  | false =>
    have h1p := of_decide_eq_false h1
    exact ⟨[.b false], kmp (by kernel_rfl) (Ai h1 (L30a.en w c (k_ := k_) (z_ := (av6, al6, a7)) (.e0 (av6) (al6) : L30a.O) (by simp only [L30a.N, h1, cond_true, cond_false]) PopOk.same))⟩
theorem L30a.e0 (w : WD) (hn : w.n ≤ 10000) (c : Int) (av6 : Nat) (al6 : List Int) (a7 : Int) (hinv : L30a.inv w c av6 al6 a7) (a0 : Nat) (a1 : List Int) (hN : L30a.run w c av6 al6 a7 = (.e0 a0 a1 : L30a.O)) : LoopTo Try.prog (loopN Try.f30 0) (L30a.T w c av6 al6 a7) (L30a.H w c av6 al6 a7) (Exit.exit 0) (L30a.X w c (.e0 a0 a1 : L30a.O)) (L30a.XH w c (.e0 a0 a1 : L30a.O)) := by
  have h_ := L30a.spec w hn c ((((↑(corR w.g c w.n).length : Int) - a7).toNat) + 1) (av6, al6, a7) hinv (Nat.lt_succ_self _)
  unfold L30a.run at hN
  simp only [hN] at h_
  exact h_
theorem L30a.len0_1 {w : WD} {c : Int} : ∀ (m_ : Nat) (av6 : Nat) (al6 : List Int) (a7 : Int) (a0_ : Nat) (a1_ : List Int), L30a.N w c m_ av6 al6 a7 = (.e0 a0_ a1_ : L30a.O) → (a1_).length ≤ (al6).length + m_ := by
  intro m_
  induction m_ with
  | zero =>
    intro av6 al6 a7 a0_ a1_ h_
    simp only [L30a.N] at h_
    first | (cases h_; done) | (cases h_; first | exact Nat.zero_le _ | omega)
  | succ m_ ih_ =>
    intro av6 al6 a7 a0_ a1_ h_
    cases h1 : decide (a7 < (↑(corR w.g c w.n).length : Int)) with
    | true =>
      have h1p := of_decide_eq_true h1
      (simp only [L30a.N, h1, cond_true, cond_false] at h_; first | (have := ih_ _ _ _ _ _ h_; (try simp only [List.length_append, List.length_cons, List.length_nil, List.length_set] at this); omega) | (cases h_; done) | (cases h_; omega))
    | false =>
      have h1p := of_decide_eq_false h1
      (simp only [L30a.N, h1, cond_true, cond_false] at h_; first | (have := ih_ _ _ _ _ _ h_; (try simp only [List.length_append, List.length_cons, List.length_nil, List.length_set] at this); omega) | (cases h_; done) | (cases h_; omega))
theorem L30a.lenR0_1 {w : WD} {c : Int} {av6 : Nat} {al6 : List Int} {a7 : Int} {a0_ : Nat} {a1_ : List Int} (h_ : L30a.run w c av6 al6 a7 = (.e0 a0_ a1_ : L30a.O)) : (a1_).length ≤ (al6).length + ((((↑(corR w.g c w.n).length : Int) - a7).toNat) + 1) := L30a.len0_1 _ av6 al6 a7 a0_ a1_ h_
noncomputable def r30.v (w : WD) (c : Int) : List Int := (match L30a.run w c 0 [] 1 with | .e0 h1d0 h1d1 => h1d1 )
theorem r30 (w : WD) (hn : w.n ≤ 10000) (c : Int) (h : AHeap) : Ret Try.prog 30 ([w.av, AV.int IntKind.i64 c]) h (avInts IntKind.i64 (r30.v w c)) h := by
  try have := bd_cor (by first | assumption | omega) (by first | assumption | omega)
  try have := L30a.lenR0_1 (by assumption); (try simp only [List.length_nil] at this)
  have o0 : w.n ≤ (10000 : Nat) := by assumption
  have o1 : (1 : Int) ≤ (↑(corR w.g c w.n).length : Int) ∨ (1 : Int) ≤ (1 : Int) := by omega
  cases h1 : L30a.run w c 0 [] 1 with
  | e0 h1d0 h1d1 =>
    try have := bd_cor (by first | assumption | omega) (by first | assumption | omega)
    try have := L30a.lenR0_1 (by assumption); (try simp only [List.length_nil] at this)
    have o2 : (0 : Nat) + h1d1.length ≤ (Col.ints IntKind.i64 h1d1).len := by simp [Col.len]
    exact Ret.of_run1 mix [(avInts IntKind.i64 (r30.v w c))] Try.func30 rfl [.ret (AV.sl 14 (corR w.g c w.n).length fun (q : Nat) => (SD.av ((corR w.g c w.n).getD q default))) ([AObj.var (WD.av w)]), .virt [0] [(none, 6, 1, Col.ints IntKind.i64 [])], .loop (others 44 [5, 6, 7]) (Exit.exit 0) (L30a.X w c (L30a.O.e0 h1d0 h1d1)) (L30a.XH w c (L30a.O.e0 h1d0 h1d1))] (by simp) (by simp) (kmp (by kernel_rfl) (Ai (r42 (w) (c) o0 ([AObj.var (WD.av w)])) (Ai (Ai (rfl : AV.snil = AV.snil) (Ai (rfl : (0 : Nat) = 0) trivial)) (Ai (L30a.e0 (w) o0 (c) (0) ([]) (1) (Ai (show (1 : Int) ≤ (1 : Int) by decide) (Ai o1 (show (0 : Int) ≤ (0 : Int) by decide))) h1d0 h1d1 h1) (Ai (Ai (rfl : h1d0 = h1d0) (Ai (show (1 : Nat) = (1 : Nat) by decide) (Ai o2 (show ((avInts IntKind.i64 h1d1)) = ((avInts IntKind.i64 (r30.v w c))) by simp only [r30.v, h1, cond_true, cond_false])))) trivial))))) h
end Go.Proofs.Ytjdbmmilcihpoaa
open Go
namespace Go.Proofs.Ytjdbmmilcihpoaa
set_option linter.unusedSimpArgs false
set_option linter.unusedVariables false
set_option maxHeartbeats 0
set_option maxRecDepth 100000
end Go.Proofs.Ytjdbmmilcihpoaa
open Go
namespace Go.Proofs.Ytjdbmmilcihpoaa
set_option maxHeartbeats 0
set_option maxRecDepth 100000
set_option linter.unusedVariables false
set_option linter.unusedSimpArgs false
/-- Lists of names as plain data. -/
def nmsF (G : Nat → List ByteArray) (j : Nat) : AV := .sl 1 (G j).length fun q => .str ((G j).getD q ByteArray.empty)
@[simp] theorem low_nmsF (lo : Nat) (G : Nat → List ByteArray) (j : Nat) : Low lo (nmsF G j) = True := by unfold nmsF; simp
def nms (N : Nat) (G : Nat → List ByteArray) : AV := .sl 1 N (nmsF G)
@[simp] theorem low_nms (lo N : Nat) (G : Nat → List ByteArray) : Low lo (nms N G) = True := by unfold nms; simp
def rowN (V : Nat) (G : Nat → List ByteArray) : AObj := .row 1 V (.gen V (nmsF G))
@[simp] theorem low_rowN (lo V : Nat) (G : Nat → List ByteArray) : (rowN V G).Low lo = True := eq_true fun j _ => by show Low lo (nmsF G j); simp
end Go.Proofs.Ytjdbmmilcihpoaa
open Go
namespace Go.Proofs.Ytjdbmmilcihpoaa
set_option maxHeartbeats 0
set_option maxRecDepth 100000
set_option linter.unusedVariables false
set_option linter.unusedSimpArgs false
/-- Names as plain data. -/
def nmL (xs : List ByteArray) : AV := .sl 1 xs.length fun q => .str (xs.getD q ByteArray.empty)
@[simp] theorem low_nmL (lo : Nat) (xs : List ByteArray) : Low lo (nmL xs) = True := by unfold nmL; simp
end Go.Proofs.Ytjdbmmilcihpoaa
open Go
namespace Go.Proofs.Ytjdbmmilcihpoaa
set_option maxHeartbeats 0
set_option maxRecDepth 100000
set_option linter.unusedVariables false
set_option linter.unusedSimpArgs false
abbrev H2 (w : WD) (k : Nat) (G : Nat → List ByteArray) : AHeap := [AObj.var w.av, rowN k G]
end Go.Proofs.Ytjdbmmilcihpoaa
open Go
namespace Go.Proofs.Ytjdbmmilcihpoaa
set_option maxHeartbeats 0
set_option maxRecDepth 100000
set_option linter.unusedVariables false
set_option linter.unusedSimpArgs false
section
variable {w : WD} {st : ByteArray} (hn : w.n ≤ 10000) (he : (r24.v w == 0) = true)
include hn he
theorem v_nN : (nC w : Int) ≤ 1000 := by have := v_N hn he; omega
end
end Go.Proofs.Ytjdbmmilcihpoaa
open Go
namespace Go.Proofs.Ytjdbmmilcihpoaa
set_option maxHeartbeats 0
set_option maxRecDepth 100000
set_option linter.unusedVariables false
set_option linter.unusedSimpArgs false
/-- The doubled middles of d joints from the stone i on. -/
noncomputable def jts (g : Nat → SD) : Nat → Nat → List Int
  | 0, _ => []
  | d + 1, i => IntKind.i64.wrap (r61.v (g (i - 1)) + (g i).ax) :: jts g d (i + 1)
theorem jts_len (g : Nat → SD) : ∀ d i, (jts g d i).length = d := by
  intro d
  induction d with
  | zero => intro i; rfl
  | succ d ih => intro i; simp only [jts, List.length_cons, ih]
theorem r45_N {n : Nat} {g : Nat → SD} (hn : n ≤ 10000) : ∀ (m v i : Nat) (xs : List Int), 1 ≤ i → n - i < m → ∃ v', L45a.N n g m v xs (i : Int) = .e0 v' (xs ++ jts g (n - i) i) := by
  intro m
  induction m with
  | zero => intro v i xs _ h; omega
  | succ m ih =>
    intro v i xs h1 hm
    simp only [L45a.N]
    by_cases h : i < n
    · rw [decide_eq_true (show (i : Int) < (n : Int) by omega), cond_true, wrap_s (Nat.le_of_lt h) (by omega), wrap_pn h1 (by omega), Int.toNat_natCast]
      obtain ⟨v', e⟩ := ih (v + 1) (i + 1) (xs ++ [IntKind.i64.wrap (r61.v (g (i - 1)) + (g i).ax)]) (by omega) (by omega)
      rw [e, show n - i = (n - (i + 1)) + 1 by omega]
      exact ⟨v', by simp only [jts, List.append_assoc, List.singleton_append]⟩
    · rw [decide_eq_false (show ¬ (i : Int) < (n : Int) by omega), cond_false, show n - i = 0 by omega]
      exact ⟨v, by simp only [jts, List.append_nil]⟩
theorem r45_v {n : Nat} {g : Nat → SD} (hn : n ≤ 10000) : r45.v n g = jts g (n - 1) 1 := by
  unfold r45.v L45a.run
  obtain ⟨v', e⟩ := r45_N (g := g) hn (((n : Int) - ((1 : Nat) : Int)).toNat + 1) 0 1 [] (Nat.le_refl _) (by omega)
  have e : L45a.N n g (((n : Int) - 1).toNat + 1) 0 [] 1 = .e0 v' ([] ++ jts g (n - 1) 1) := e
  rw [e]; rfl
theorem r30_N {w : WD} {c : Int} (hn : w.n ≤ 10000) : ∀ (m v i : Nat) (xs : List Int), 1 ≤ i → (corR w.g c w.n).length - i < m → ∃ v', L30a.N w c m v xs (i : Int) = .e0 v' (xs ++ jts (fun i => (corR w.g c w.n).getD i default) ((corR w.g c w.n).length - i) i) := by
  have hl := cor_le hn c
  intro m
  induction m with
  | zero => intro v i xs _ h; omega
  | succ m ih =>
    intro v i xs h1 hm
    simp only [L30a.N]
    by_cases h : i < (corR w.g c w.n).length
    · rw [decide_eq_true (show (i : Int) < ((corR w.g c w.n).length : Int) by omega), cond_true, wrap_s (Nat.le_of_lt h) (by omega), wrap_pn h1 (by omega), Int.toNat_natCast]
      obtain ⟨v', e⟩ := ih (v + 1) (i + 1) (xs ++ [IntKind.i64.wrap (r61.v ((corR w.g c w.n).getD (i - 1) default) + ((corR w.g c w.n).getD i default).ax)]) (by omega) (by omega)
      refine ⟨v', ?_⟩
      rw [show (corR w.g c w.n).length - i = ((corR w.g c w.n).length - (i + 1)) + 1 by omega]
      simp only [jts]
      rw [List.append_assoc, List.singleton_append] at e
      exact e
    · rw [decide_eq_false (show ¬ (i : Int) < ((corR w.g c w.n).length : Int) by omega), cond_false, show (corR w.g c w.n).length - i = 0 by omega]
      exact ⟨v, by simp only [jts, List.append_nil]⟩
theorem r30_v {w : WD} {c : Int} (hn : w.n ≤ 10000) : r30.v w c = jts (fun i => (corR w.g c w.n).getD i default) ((corR w.g c w.n).length - 1) 1 := by
  unfold r30.v L30a.run
  obtain ⟨v', e⟩ := r30_N (c := c) hn ((((corR w.g c w.n).length : Int) - ((1 : Nat) : Int)).toNat + 1) 0 1 [] (Nat.le_refl _) (by omega)
  have e : L30a.N w c ((((corR w.g c w.n).length : Int) - 1).toNat + 1) 0 [] 1 = .e0 v' ([] ++ jts (fun i => (corR w.g c w.n).getD i default) ((corR w.g c w.n).length - 1) 1) := e
  rw [e]; rfl
theorem bd_J {w : WD} {k : Nat} {b : Int} (h : b < ((r45.v (cC w k).length fun i => (cC w k).getD i default).length : Int)) (hn : w.n ≤ 10000) : b < 10000 := by
  have := cC_len hn k
  rw [r45_v this, jts_len] at h
  omega
/-- The joints of both. -/
theorem r30_45 {w : WD} (hn : w.n ≤ 10000) (he : (r24.v w == 0) = true) (k : Nat) : r30.v w (k : Int) = r45.v (cC w k).length fun i => (cC w k).getD i default := by
  rw [r30_v hn, r45_v (cC_len hn k), v_cor hn he]
end Go.Proofs.Ytjdbmmilcihpoaa
open Go
namespace Go.Proofs.Ytjdbmmilcihpoaa
set_option linter.unusedSimpArgs false
set_option linter.unusedVariables false
set_option maxHeartbeats 0
set_option maxRecDepth 100000
theorem bd_nC {w : WD} {b : Int} (h : b < (nC w : Int)) (hn : w.n ≤ 10000) (he : (r24.v w == 0) = true) : b < 1000 := by have := v_nN hn he; omega
inductive Lv22abc.O where
  | e0 (a0 : Int)
  | e1
noncomputable def Lv22abc.T (w : WD) (a6 : Int) (b31 : Int) (bo1_0 : Int) (bo1_1 : Int) (bo1_2 : Int) (c42 : Int) : List AV := mkT 58 [(1, AV.ptr 0 1 6 0 0), (2, AV.ptr 1 1 3 0 0), (5, AV.sl 1 (nC w) fun (j : Nat) => AV.sl 14 (cC w j).length fun (q : Nat) => (SD.av ((cC w j).getD q default))), (6, AV.int IntKind.i64 a6), (8, AV.int IntKind.i64 ((r45.v (cC w a6.toNat).length fun (i : Nat) => (cC w a6.toNat).getD i default).getD b31.toNat 0)), (29, AV.sl 1 (r45.v (cC w a6.toNat).length fun (i : Nat) => (cC w a6.toNat).getD i default).length fun (a : Nat) => AV.int IntKind.i64 ((r45.v (cC w a6.toNat).length fun (i : Nat) => (cC w a6.toNat).getD i default).getD a 0)), (30, AV.int IntKind.i64 (↑(r45.v (cC w a6.toNat).length fun (i : Nat) => (cC w a6.toNat).getD i default).length : Int)), (31, AV.int IntKind.i64 b31), (40, AV.sl 1 (r45.v (cC w (IntKind.i64.wrap (a6 - 1)).toNat).length fun (i : Nat) => (cC w (IntKind.i64.wrap (a6 - 1)).toNat).getD i default).length fun (a : Nat) => AV.int IntKind.i64 ((r45.v (cC w (IntKind.i64.wrap (a6 - 1)).toNat).length fun (i : Nat) => (cC w (IntKind.i64.wrap (a6 - 1)).toNat).getD i default).getD a 0)), (41, AV.int IntKind.i64 (↑(r45.v (cC w (IntKind.i64.wrap (a6 - 1)).toNat).length fun (i : Nat) => (cC w (IntKind.i64.wrap (a6 - 1)).toNat).getD i default).length : Int)), (42, AV.int IntKind.i64 c42)]
noncomputable def Lv22abc.H (w : WD) (a6 : Int) (b31 : Int) (bo1_0 : Int) (bo1_1 : Int) (bo1_2 : Int) (c42 : Int) : AHeap := [AObj.var (WD.av w), AObj.var (AV.agg [AV.int IntKind.i64 bo1_0, AV.int IntKind.i64 bo1_1, AV.int IntKind.i64 bo1_2])]
def Lv22abc.inv (w : WD) (a6 : Int) (b31 : Int) (bo1_0 : Int) (bo1_1 : Int) (bo1_2 : Int) (c42 : Int) : Prop := 0 ≤ c42 ∧ (c42 ≤ (↑(r45.v (cC w (IntKind.i64.wrap (a6 - 1)).toNat).length fun (i : Nat) => (cC w (IntKind.i64.wrap (a6 - 1)).toNat).getD i default).length : Int) ∨ c42 ≤ 0)
noncomputable def Lv22abc.mu (w : WD) (a6 : Int) (b31 : Int) (bo1_0 : Int) (bo1_1 : Int) (bo1_2 : Int) (c42 : Int) : Nat := ((↑(r45.v (cC w (IntKind.i64.wrap (a6 - 1)).toNat).length fun (i : Nat) => (cC w (IntKind.i64.wrap (a6 - 1)).toNat).getD i default).length : Int) - c42).toNat
noncomputable def Lv22abc.E : Lv22abc.O → Exit
  | .e0 a0 => Exit.ret
  | .e1 => Exit.exit 4
noncomputable def Lv22abc.X (w : WD) (a6 : Int) (b31 : Int) (bo1_0 : Int) (bo1_1 : Int) (bo1_2 : Int) : Lv22abc.O → List AV
  | .e0 a0 => mkT 58 [(2, (AV.ptr 1 1 3 0 0)), (3, (AV.int IntKind.i64 0))]
  | .e1 => mkT 58 [(1, (AV.ptr 0 1 6 0 0)), (2, (AV.ptr 1 1 3 0 0)), (5, (AV.sl 1 (nC w) fun (j : Nat) => AV.sl 14 (cC w j).length fun (q : Nat) => (SD.av ((cC w j).getD q default)))), (6, (AV.int IntKind.i64 a6)), (29, (AV.sl 1 (r45.v (cC w a6.toNat).length fun (i : Nat) => (cC w a6.toNat).getD i default).length fun (a : Nat) => AV.int IntKind.i64 ((r45.v (cC w a6.toNat).length fun (i : Nat) => (cC w a6.toNat).getD i default).getD a 0))), (30, (AV.int IntKind.i64 (↑(r45.v (cC w a6.toNat).length fun (i : Nat) => (cC w a6.toNat).getD i default).length : Int))), (31, (AV.int IntKind.i64 b31))]
noncomputable def Lv22abc.XH (w : WD) (a6 : Int) (b31 : Int) (bo1_0 : Int) (bo1_1 : Int) (bo1_2 : Int) : Lv22abc.O → AHeap
  | .e0 a0 => ((AObj.var (WD.av w)) :: ((AObj.var (AV.agg ((AV.int IntKind.i64 a6) :: ((AV.int IntKind.i64 ((r45.v (cC w a6.toNat).length fun (i : Nat) => (cC w a6.toNat).getD i default).getD b31.toNat 0)) :: ((AV.int IntKind.i64 a0) :: ([])))))) :: ([])))
  | .e1 => ([AObj.var (WD.av w), AObj.var (AV.agg [AV.int IntKind.i64 bo1_0, AV.int IntKind.i64 bo1_1, AV.int IntKind.i64 bo1_2])])
noncomputable def Lv22abc.N (w : WD) (a6 : Int) (b31 : Int) : Nat → Int → Lv22abc.O
  | 0, _ => .e0 default
  | k_ + 1, c42 => (bif decide (c42 < (↑(r45.v (cC w (IntKind.i64.wrap (a6 - 1)).toNat).length fun (i : Nat) => (cC w (IntKind.i64.wrap (a6 - 1)).toNat).getD i default).length : Int)) then (bif r46.v ((r45.v (cC w a6.toNat).length fun (i : Nat) => (cC w a6.toNat).getD i default).getD b31.toNat 0) ((r45.v (cC w (IntKind.i64.wrap (a6 - 1)).toNat).length fun (i : Nat) => (cC w (IntKind.i64.wrap (a6 - 1)).toNat).getD i default).getD c42.toNat 0) w.lap then (.e0 ((r45.v (cC w (IntKind.i64.wrap (a6 - 1)).toNat).length fun (i : Nat) => (cC w (IntKind.i64.wrap (a6 - 1)).toNat).getD i default).getD c42.toNat 0)) else (Lv22abc.N w a6 b31 k_ (IntKind.i64.wrap (c42 + 1)))) else (.e1))
noncomputable def Lv22abc.run (w : WD) (a6 : Int) (b31 : Int) (c42 : Int) : Lv22abc.O := Lv22abc.N w a6 b31 ((((↑(r45.v (cC w (IntKind.i64.wrap (a6 - 1)).toNat).length fun (i : Nat) => (cC w (IntKind.i64.wrap (a6 - 1)).toNat).getD i default).length : Int) - c42).toNat) + 1) c42
theorem Lv22abc.nx (w : WD) (a6 : Int) (b31 : Int) (bo1_0 : Int) (bo1_1 : Int) (bo1_2 : Int) {k_ : Nat} {z_ : Int} {h_ : AHeap} (s_ : Int) (h1 : Lv22abc.inv w a6 b31 bo1_0 bo1_1 bo1_2 s_) (h2 : Lv22abc.mu w a6 b31 bo1_0 bo1_1 bo1_2 s_ < Lv22abc.mu w a6 b31 bo1_0 bo1_1 bo1_2 z_) (h3 : Lv22abc.N w a6 b31 k_ s_ = Lv22abc.N w a6 b31 (k_ + 1) z_) (h4 : PopOk (Lv22abc.H w a6 b31 bo1_0 bo1_1 bo1_2 z_) h_ (Lv22abc.T w a6 b31 bo1_0 bo1_1 bo1_2 s_) (Lv22abc.H w a6 b31 bo1_0 bo1_1 bo1_2 s_)) : LNextP (fun (z_ : Int) => Lv22abc.T w a6 b31 bo1_0 bo1_1 bo1_2 z_) (fun (z_ : Int) => Lv22abc.H w a6 b31 bo1_0 bo1_1 bo1_2 z_) (fun (z_ : Int) => Lv22abc.inv w a6 b31 bo1_0 bo1_1 bo1_2 z_) (fun (z_ : Int) => Lv22abc.mu w a6 b31 bo1_0 bo1_1 bo1_2 z_) (fun (k_ : Nat) (z_ : Int) => Lv22abc.N w a6 b31 k_ z_) k_ z_ (Lv22abc.T w a6 b31 bo1_0 bo1_1 bo1_2 s_) h_ := LNextP.mk (Tm := (fun (z_ : Int) => Lv22abc.T w a6 b31 bo1_0 bo1_1 bo1_2 z_)) (Hp := (fun (z_ : Int) => Lv22abc.H w a6 b31 bo1_0 bo1_1 bo1_2 z_)) (inv := (fun (z_ : Int) => Lv22abc.inv w a6 b31 bo1_0 bo1_1 bo1_2 z_)) (mu := (fun (z_ : Int) => Lv22abc.mu w a6 b31 bo1_0 bo1_1 bo1_2 z_)) (l := (fun (k_ : Nat) (z_ : Int) => Lv22abc.N w a6 b31 k_ z_)) s_ h1 h2 h3 h4
theorem Lv22abc.en (w : WD) (a6 : Int) (b31 : Int) (bo1_0 : Int) (bo1_1 : Int) (bo1_2 : Int) {k_ : Nat} {z_ : Int} {h_ : AHeap} (o_ : Lv22abc.O) (h3 : Lv22abc.N w a6 b31 (k_ + 1) z_ = o_) (h4 : PopOk (Lv22abc.H w a6 b31 bo1_0 bo1_1 bo1_2 z_) h_ (Lv22abc.X w a6 b31 bo1_0 bo1_1 bo1_2 o_) (Lv22abc.XH w a6 b31 bo1_0 bo1_1 bo1_2 o_)) : LEndP (fun (z_ : Int) => Lv22abc.H w a6 b31 bo1_0 bo1_1 bo1_2 z_) (fun (k_ : Nat) (z_ : Int) => Lv22abc.N w a6 b31 k_ z_) Lv22abc.E (Lv22abc.X w a6 b31 bo1_0 bo1_1 bo1_2) (Lv22abc.XH w a6 b31 bo1_0 bo1_1 bo1_2) k_ z_ (Lv22abc.E o_) (Lv22abc.X w a6 b31 bo1_0 bo1_1 bo1_2 o_) h_ := LEndP.mk (Hp := (fun (z_ : Int) => Lv22abc.H w a6 b31 bo1_0 bo1_1 bo1_2 z_)) (l := (fun (k_ : Nat) (z_ : Int) => Lv22abc.N w a6 b31 k_ z_)) (oE := Lv22abc.E) (oT := Lv22abc.X w a6 b31 bo1_0 bo1_1 bo1_2) (oH := Lv22abc.XH w a6 b31 bo1_0 bo1_1 bo1_2) o_ h3 h4
noncomputable abbrev Lv22abc.h0 (w : WD) (a6 : Int) (b31 : Int) (bo1_0 : Int) (bo1_1 : Int) (bo1_2 : Int) (c42 : Int) : AHeap := ([AObj.var (WD.av w), AObj.var (AV.agg [AV.int IntKind.i64 bo1_0, AV.int IntKind.i64 bo1_1, AV.int IntKind.i64 bo1_2])])
theorem Lv22abc.spec (w : WD) (hn : w.n ≤ 10000) (hnm : w.nm.size ≤ 9223372036854775807) (hg : ∀ (i : Nat), (w.g i).nm.size ≤ 9223372036854775807) (he : (r24.v w == 0) = true) (a6 : Int) (iv22a_0 : 1 ≤ a6) (iv22a_1 : a6 ≤ (↑(nC w) : Int) ∨ a6 ≤ 1) (k1_1 : decide (a6 < (↑(nC w) : Int)) = true) (p1_1 : a6 < (↑(nC w) : Int)) (b31 : Int) (bo1_0 : Int) (bo1_1 : Int) (bo1_2 : Int) (iv22ab_0 : 0 ≤ b31) (iv22ab_1 : b31 ≤ (↑(r45.v (cC w a6.toNat).length fun (i : Nat) => (cC w a6.toNat).getD i default).length : Int) ∨ b31 ≤ 0) (k2_1 : decide (b31 < (↑(r45.v (cC w a6.toNat).length fun (i : Nat) => (cC w a6.toNat).getD i default).length : Int)) = true) (p2_1 : b31 < (↑(r45.v (cC w a6.toNat).length fun (i : Nat) => (cC w a6.toNat).getD i default).length : Int)) (k_ : Nat) (z_ : Int) (hi_ : Lv22abc.inv w a6 b31 bo1_0 bo1_1 bo1_2 z_) (hm_ : Lv22abc.mu w a6 b31 bo1_0 bo1_1 bo1_2 z_ < k_) : LoopTo Try.prog (loopN Try.f22 2) (Lv22abc.T w a6 b31 bo1_0 bo1_1 bo1_2 z_) (Lv22abc.H w a6 b31 bo1_0 bo1_1 bo1_2 z_) (Lv22abc.E (Lv22abc.N w a6 b31 k_ z_)) (Lv22abc.X w a6 b31 bo1_0 bo1_1 bo1_2 (Lv22abc.N w a6 b31 k_ z_)) (Lv22abc.XH w a6 b31 bo1_0 bo1_1 bo1_2 (Lv22abc.N w a6 b31 k_ z_)) := by
  refine LoopTo.fuelP mix (fun (z_ : Int) => Lv22abc.T w a6 b31 bo1_0 bo1_1 bo1_2 z_) (fun (z_ : Int) => Lv22abc.H w a6 b31 bo1_0 bo1_1 bo1_2 z_) (fun (z_ : Int) => Lv22abc.inv w a6 b31 bo1_0 bo1_1 bo1_2 z_) (fun (z_ : Int) => Lv22abc.mu w a6 b31 bo1_0 bo1_1 bo1_2 z_) (fun (k_ : Nat) (z_ : Int) => Lv22abc.N w a6 b31 k_ z_) Lv22abc.E (Lv22abc.X w a6 b31 bo1_0 bo1_1 bo1_2) (Lv22abc.XH w a6 b31 bo1_0 bo1_1 bo1_2) (others 58 [1, 2, 5, 6, 8, 29, 30, 31, 40, 41, 42]) (others 58 [2, 3]) (others 58 [1, 2, 5, 6, 29, 30, 31]) ?_ k_ z_ hi_ hm_
  clear hm_ hi_ z_ k_
  intro k_ z_ hinv hmu
  revert hinv hmu; revert z_; intro c42 hinv hmu
  have hinv : 0 ≤ c42 ∧ (c42 ≤ (↑(r45.v (cC w (IntKind.i64.wrap (a6 - 1)).toNat).length fun (i : Nat) => (cC w (IntKind.i64.wrap (a6 - 1)).toNat).getD i default).length : Int) ∨ c42 ≤ 0) := hinv
  have hmu : (((↑(r45.v (cC w (IntKind.i64.wrap (a6 - 1)).toNat).length fun (i : Nat) => (cC w (IntKind.i64.wrap (a6 - 1)).toNat).getD i default).length : Int) - c42).toNat) < k_ + 1 := hmu
  cases h1 : decide (c42 < (↑(r45.v (cC w (IntKind.i64.wrap (a6 - 1)).toNat).length fun (i : Nat) => (cC w (IntKind.i64.wrap (a6 - 1)).toNat).getD i default).length : Int)) with
  | true =>
    have h1p := of_decide_eq_true h1
    try have := bd_J (by assumption) (by assumption)
    try have := bd_nC (by assumption) (by assumption) (by assumption)
    have o0 : (0 : Int) ≤ c42 := by omega
    try have := IntWalk.i64_in (a6 - 1) (by omega)
    have o1 : c42 < (↑(r45.v (cC w (IntKind.i64.wrap (a6 - (1 : Int))).toNat).length fun (i : Nat) => (cC w (IntKind.i64.wrap (a6 - (1 : Int))).toNat).getD i default).length : Int) := by assumption
    cases h2 : r46.v ((r45.v (cC w a6.toNat).length fun (i : Nat) => (cC w a6.toNat).getD i default).getD b31.toNat 0) ((r45.v (cC w (IntKind.i64.wrap (a6 - 1)).toNat).length fun (i : Nat) => (cC w (IntKind.i64.wrap (a6 - 1)).toNat).getD i default).getD c42.toNat 0) w.lap with
    | true =>
      exact ⟨[.b true, .ret (AV.bool (r46.v ((r45.v (cC w a6.toNat).length fun (i : Nat) => (cC w a6.toNat).getD i default).getD b31.toNat 0) ((r45.v (cC w (IntKind.i64.wrap (a6 - 1)).toNat).length fun (i : Nat) => (cC w (IntKind.i64.wrap (a6 - 1)).toNat).getD i default).getD c42.toNat 0) w.lap)) (Lv22abc.h0 w a6 b31 bo1_0 bo1_1 bo1_2 c42), .b true], kmp (by kernel_rfl) (Ai h1 (Ai (Ai o0 o1) (Ai (r46 ((r45.v (cC w a6.toNat).length fun (i : Nat) => (cC w a6.toNat).getD i default).getD b31.toNat 0) ((r45.v (cC w (IntKind.i64.wrap (a6 - 1)).toNat).length fun (i : Nat) => (cC w (IntKind.i64.wrap (a6 - 1)).toNat).getD i default).getD c42.toNat 0) (w.lap) (Lv22abc.h0 w a6 b31 bo1_0 bo1_1 bo1_2 c42)) (Ai h2 (Lv22abc.en w a6 b31 bo1_0 bo1_1 bo1_2 (k_ := k_) (z_ := c42) (.e0 ((r45.v (cC w (IntKind.i64.wrap (a6 - 1)).toNat).length fun (i : Nat) => (cC w (IntKind.i64.wrap (a6 - 1)).toNat).getD i default).getD c42.toNat 0) : Lv22abc.O) (by simp only [Lv22abc.N, h1, h2, cond_true, cond_false]) PopOk.same)))))⟩
    | false =>
      try have := bd_J (by assumption) (by assumption)
      try have := bd_nC (by assumption) (by assumption) (by assumption)
      try have := IntWalk.i64_in (c42 + 1) (by omega)
      have o2 : (0 : Int) ≤ IntKind.i64.wrap (c42 + (1 : Int)) := by omega
      try have := IntWalk.i64_in (a6 - 1) (by omega)
      have o3 : IntKind.i64.wrap (c42 + (1 : Int)) ≤ (↑(r45.v (cC w (IntKind.i64.wrap (a6 - (1 : Int))).toNat).length fun (i : Nat) => (cC w (IntKind.i64.wrap (a6 - (1 : Int))).toNat).getD i default).length : Int) ∨ IntKind.i64.wrap (c42 + (1 : Int)) ≤ (0 : Int) := by omega
      have o4 : ((↑(r45.v (cC w (IntKind.i64.wrap (a6 - (1 : Int))).toNat).length fun (i : Nat) => (cC w (IntKind.i64.wrap (a6 - (1 : Int))).toNat).getD i default).length : Int) - IntKind.i64.wrap (c42 + (1 : Int))).toNat < ((↑(r45.v (cC w (IntKind.i64.wrap (a6 - (1 : Int))).toNat).length fun (i : Nat) => (cC w (IntKind.i64.wrap (a6 - (1 : Int))).toNat).getD i default).length : Int) - c42).toNat := by omega
      exact ⟨[.b true, .ret (AV.bool (r46.v ((r45.v (cC w a6.toNat).length fun (i : Nat) => (cC w a6.toNat).getD i default).getD b31.toNat 0) ((r45.v (cC w (IntKind.i64.wrap (a6 - 1)).toNat).length fun (i : Nat) => (cC w (IntKind.i64.wrap (a6 - 1)).toNat).getD i default).getD c42.toNat 0) w.lap)) (Lv22abc.h0 w a6 b31 bo1_0 bo1_1 bo1_2 c42), .b false], kmp (by kernel_rfl) (Ai h1 (Ai (Ai o0 o1) (Ai (r46 ((r45.v (cC w a6.toNat).length fun (i : Nat) => (cC w a6.toNat).getD i default).getD b31.toNat 0) ((r45.v (cC w (IntKind.i64.wrap (a6 - 1)).toNat).length fun (i : Nat) => (cC w (IntKind.i64.wrap (a6 - 1)).toNat).getD i default).getD c42.toNat 0) (w.lap) (Lv22abc.h0 w a6 b31 bo1_0 bo1_1 bo1_2 c42)) (Ai h2 (Lv22abc.nx w a6 b31 bo1_0 bo1_1 bo1_2 (k_ := k_) (z_ := c42) (IntKind.i64.wrap (c42 + 1)) (Ai o2 o3) o4 (by simp only [Lv22abc.N, h1, h2, cond_true, cond_false]) PopOk.same)))))⟩
  | false =>
    have h1p := of_decide_eq_false h1
    exact ⟨[.b false], kmp (by kernel_rfl) (Ai h1 (Lv22abc.en w a6 b31 bo1_0 bo1_1 bo1_2 (k_ := k_) (z_ := c42) (.e1 : Lv22abc.O) (by simp only [Lv22abc.N, h1, cond_true, cond_false]) PopOk.same))⟩
theorem Lv22abc.e0 (w : WD) (hn : w.n ≤ 10000) (hnm : w.nm.size ≤ 9223372036854775807) (hg : ∀ (i : Nat), (w.g i).nm.size ≤ 9223372036854775807) (he : (r24.v w == 0) = true) (a6 : Int) (iv22a_0 : 1 ≤ a6) (iv22a_1 : a6 ≤ (↑(nC w) : Int) ∨ a6 ≤ 1) (k1_1 : decide (a6 < (↑(nC w) : Int)) = true) (p1_1 : a6 < (↑(nC w) : Int)) (b31 : Int) (bo1_0 : Int) (bo1_1 : Int) (bo1_2 : Int) (iv22ab_0 : 0 ≤ b31) (iv22ab_1 : b31 ≤ (↑(r45.v (cC w a6.toNat).length fun (i : Nat) => (cC w a6.toNat).getD i default).length : Int) ∨ b31 ≤ 0) (k2_1 : decide (b31 < (↑(r45.v (cC w a6.toNat).length fun (i : Nat) => (cC w a6.toNat).getD i default).length : Int)) = true) (p2_1 : b31 < (↑(r45.v (cC w a6.toNat).length fun (i : Nat) => (cC w a6.toNat).getD i default).length : Int)) (c42 : Int) (hinv : Lv22abc.inv w a6 b31 bo1_0 bo1_1 bo1_2 c42) (a0 : Int) (hN : Lv22abc.run w a6 b31 c42 = (.e0 a0 : Lv22abc.O)) : LoopTo Try.prog (loopN Try.f22 2) (Lv22abc.T w a6 b31 bo1_0 bo1_1 bo1_2 c42) (Lv22abc.H w a6 b31 bo1_0 bo1_1 bo1_2 c42) (Exit.ret) (Lv22abc.X w a6 b31 bo1_0 bo1_1 bo1_2 (.e0 a0 : Lv22abc.O)) (Lv22abc.XH w a6 b31 bo1_0 bo1_1 bo1_2 (.e0 a0 : Lv22abc.O)) := by
  have h_ := Lv22abc.spec w hn hnm hg he a6 iv22a_0 iv22a_1 k1_1 p1_1 b31 bo1_0 bo1_1 bo1_2 iv22ab_0 iv22ab_1 k2_1 p2_1 ((((↑(r45.v (cC w (IntKind.i64.wrap (a6 - 1)).toNat).length fun (i : Nat) => (cC w (IntKind.i64.wrap (a6 - 1)).toNat).getD i default).length : Int) - c42).toNat) + 1) c42 hinv (Nat.lt_succ_self _)
  unfold Lv22abc.run at hN
  simp only [hN] at h_
  exact h_
theorem Lv22abc.e1 (w : WD) (hn : w.n ≤ 10000) (hnm : w.nm.size ≤ 9223372036854775807) (hg : ∀ (i : Nat), (w.g i).nm.size ≤ 9223372036854775807) (he : (r24.v w == 0) = true) (a6 : Int) (iv22a_0 : 1 ≤ a6) (iv22a_1 : a6 ≤ (↑(nC w) : Int) ∨ a6 ≤ 1) (k1_1 : decide (a6 < (↑(nC w) : Int)) = true) (p1_1 : a6 < (↑(nC w) : Int)) (b31 : Int) (bo1_0 : Int) (bo1_1 : Int) (bo1_2 : Int) (iv22ab_0 : 0 ≤ b31) (iv22ab_1 : b31 ≤ (↑(r45.v (cC w a6.toNat).length fun (i : Nat) => (cC w a6.toNat).getD i default).length : Int) ∨ b31 ≤ 0) (k2_1 : decide (b31 < (↑(r45.v (cC w a6.toNat).length fun (i : Nat) => (cC w a6.toNat).getD i default).length : Int)) = true) (p2_1 : b31 < (↑(r45.v (cC w a6.toNat).length fun (i : Nat) => (cC w a6.toNat).getD i default).length : Int)) (c42 : Int) (hinv : Lv22abc.inv w a6 b31 bo1_0 bo1_1 bo1_2 c42) (hN : Lv22abc.run w a6 b31 c42 = (.e1 : Lv22abc.O)) : LoopTo Try.prog (loopN Try.f22 2) (Lv22abc.T w a6 b31 bo1_0 bo1_1 bo1_2 c42) (Lv22abc.H w a6 b31 bo1_0 bo1_1 bo1_2 c42) (Exit.exit 4) (Lv22abc.X w a6 b31 bo1_0 bo1_1 bo1_2 (.e1 : Lv22abc.O)) (Lv22abc.XH w a6 b31 bo1_0 bo1_1 bo1_2 (.e1 : Lv22abc.O)) := by
  have h_ := Lv22abc.spec w hn hnm hg he a6 iv22a_0 iv22a_1 k1_1 p1_1 b31 bo1_0 bo1_1 bo1_2 iv22ab_0 iv22ab_1 k2_1 p2_1 ((((↑(r45.v (cC w (IntKind.i64.wrap (a6 - 1)).toNat).length fun (i : Nat) => (cC w (IntKind.i64.wrap (a6 - 1)).toNat).getD i default).length : Int) - c42).toNat) + 1) c42 hinv (Nat.lt_succ_self _)
  unfold Lv22abc.run at hN
  simp only [hN] at h_
  exact h_
inductive Lv22ab.O where
  | e0 (a0 : Int) (a1 : Int)
  | e1 (a0 : Int) (a1 : Int) (a2 : Int)
noncomputable def Lv22ab.T (w : WD) (a6 : Int) (b31 : Int) (bo1_0 : Int) (bo1_1 : Int) (bo1_2 : Int) : List AV := mkT 58 [(1, AV.ptr 0 1 6 0 0), (2, AV.ptr 1 1 3 0 0), (5, AV.sl 1 (nC w) fun (j : Nat) => AV.sl 14 (cC w j).length fun (q : Nat) => (SD.av ((cC w j).getD q default))), (6, AV.int IntKind.i64 a6), (29, AV.sl 1 (r45.v (cC w a6.toNat).length fun (i : Nat) => (cC w a6.toNat).getD i default).length fun (a : Nat) => AV.int IntKind.i64 ((r45.v (cC w a6.toNat).length fun (i : Nat) => (cC w a6.toNat).getD i default).getD a 0)), (30, AV.int IntKind.i64 (↑(r45.v (cC w a6.toNat).length fun (i : Nat) => (cC w a6.toNat).getD i default).length : Int)), (31, AV.int IntKind.i64 b31)]
noncomputable def Lv22ab.H (w : WD) (a6 : Int) (b31 : Int) (bo1_0 : Int) (bo1_1 : Int) (bo1_2 : Int) : AHeap := [AObj.var (WD.av w), AObj.var (AV.agg [AV.int IntKind.i64 bo1_0, AV.int IntKind.i64 bo1_1, AV.int IntKind.i64 bo1_2])]
def Lv22ab.inv (w : WD) (a6 : Int) (b31 : Int) (bo1_0 : Int) (bo1_1 : Int) (bo1_2 : Int) : Prop := 0 ≤ b31 ∧ (b31 ≤ (↑(r45.v (cC w a6.toNat).length fun (i : Nat) => (cC w a6.toNat).getD i default).length : Int) ∨ b31 ≤ 0)
noncomputable def Lv22ab.mu (w : WD) (a6 : Int) (b31 : Int) (bo1_0 : Int) (bo1_1 : Int) (bo1_2 : Int) : Nat := ((↑(r45.v (cC w a6.toNat).length fun (i : Nat) => (cC w a6.toNat).getD i default).length : Int) - b31).toNat
noncomputable def Lv22ab.E : Lv22ab.O → Exit
  | .e0 a0 a1 => Exit.ret
  | .e1 a0 a1 a2 => Exit.exit 2
noncomputable def Lv22ab.X (w : WD) (a6 : Int) : Lv22ab.O → List AV
  | .e0 a0 a1 => mkT 58 [(2, (AV.ptr 1 1 3 0 0)), (3, (AV.int IntKind.i64 0))]
  | .e1 a0 a1 a2 => mkT 58 [(1, (AV.ptr 0 1 6 0 0)), (2, (AV.ptr 1 1 3 0 0)), (5, (AV.sl 1 (nC w) fun (j : Nat) => AV.sl 14 (cC w j).length fun (q : Nat) => (SD.av ((cC w j).getD q default)))), (6, (AV.int IntKind.i64 a6))]
noncomputable def Lv22ab.XH (w : WD) (a6 : Int) : Lv22ab.O → AHeap
  | .e0 a0 a1 => ((AObj.var (WD.av w)) :: ((AObj.var (AV.agg ((AV.int IntKind.i64 a6) :: ((AV.int IntKind.i64 a0) :: ((AV.int IntKind.i64 a1) :: ([])))))) :: ([])))
  | .e1 a0 a1 a2 => ((AObj.var (WD.av w)) :: ((AObj.var (AV.agg ((AV.int IntKind.i64 a0) :: ((AV.int IntKind.i64 a1) :: ((AV.int IntKind.i64 a2) :: ([])))))) :: ([])))
noncomputable def Lv22ab.N (w : WD) (a6 : Int) : Nat → Int → Int → Int → Int → Lv22ab.O
  | 0, _, _, _, _ => .e0 default default
  | k_ + 1, b31, bo1_0, bo1_1, bo1_2 => (bif decide (b31 < (↑(r45.v (cC w a6.toNat).length fun (i : Nat) => (cC w a6.toNat).getD i default).length : Int)) then (match Lv22abc.run w a6 b31 0 with | .e0 h2d0 => (.e0 ((r45.v (cC w a6.toNat).length fun (i : Nat) => (cC w a6.toNat).getD i default).getD b31.toNat 0) (h2d0)) | .e1 => (Lv22ab.N w a6 k_ (IntKind.i64.wrap (b31 + 1)) (bo1_0) (bo1_1) (bo1_2)) ) else (.e1 (bo1_0) (bo1_1) (bo1_2)))
noncomputable def Lv22ab.run (w : WD) (a6 : Int) (b31 : Int) (bo1_0 : Int) (bo1_1 : Int) (bo1_2 : Int) : Lv22ab.O := Lv22ab.N w a6 ((((↑(r45.v (cC w a6.toNat).length fun (i : Nat) => (cC w a6.toNat).getD i default).length : Int) - b31).toNat) + 1) b31 bo1_0 bo1_1 bo1_2
theorem Lv22ab.nx (w : WD) (a6 : Int) {k_ : Nat} {z_ : Int × Int × Int × Int} {h_ : AHeap} (s_ : Int × Int × Int × Int) (h1 : Lv22ab.inv w a6 s_.1 s_.2.1 s_.2.2.1 s_.2.2.2) (h2 : Lv22ab.mu w a6 s_.1 s_.2.1 s_.2.2.1 s_.2.2.2 < Lv22ab.mu w a6 z_.1 z_.2.1 z_.2.2.1 z_.2.2.2) (h3 : Lv22ab.N w a6 k_ s_.1 s_.2.1 s_.2.2.1 s_.2.2.2 = Lv22ab.N w a6 (k_ + 1) z_.1 z_.2.1 z_.2.2.1 z_.2.2.2) (h4 : PopOk (Lv22ab.H w a6 z_.1 z_.2.1 z_.2.2.1 z_.2.2.2) h_ (Lv22ab.T w a6 s_.1 s_.2.1 s_.2.2.1 s_.2.2.2) (Lv22ab.H w a6 s_.1 s_.2.1 s_.2.2.1 s_.2.2.2)) : LNextP (fun (z_ : Int × Int × Int × Int) => Lv22ab.T w a6 z_.1 z_.2.1 z_.2.2.1 z_.2.2.2) (fun (z_ : Int × Int × Int × Int) => Lv22ab.H w a6 z_.1 z_.2.1 z_.2.2.1 z_.2.2.2) (fun (z_ : Int × Int × Int × Int) => Lv22ab.inv w a6 z_.1 z_.2.1 z_.2.2.1 z_.2.2.2) (fun (z_ : Int × Int × Int × Int) => Lv22ab.mu w a6 z_.1 z_.2.1 z_.2.2.1 z_.2.2.2) (fun (k_ : Nat) (z_ : Int × Int × Int × Int) => Lv22ab.N w a6 k_ z_.1 z_.2.1 z_.2.2.1 z_.2.2.2) k_ z_ (Lv22ab.T w a6 s_.1 s_.2.1 s_.2.2.1 s_.2.2.2) h_ := LNextP.mk (Tm := (fun (z_ : Int × Int × Int × Int) => Lv22ab.T w a6 z_.1 z_.2.1 z_.2.2.1 z_.2.2.2)) (Hp := (fun (z_ : Int × Int × Int × Int) => Lv22ab.H w a6 z_.1 z_.2.1 z_.2.2.1 z_.2.2.2)) (inv := (fun (z_ : Int × Int × Int × Int) => Lv22ab.inv w a6 z_.1 z_.2.1 z_.2.2.1 z_.2.2.2)) (mu := (fun (z_ : Int × Int × Int × Int) => Lv22ab.mu w a6 z_.1 z_.2.1 z_.2.2.1 z_.2.2.2)) (l := (fun (k_ : Nat) (z_ : Int × Int × Int × Int) => Lv22ab.N w a6 k_ z_.1 z_.2.1 z_.2.2.1 z_.2.2.2)) s_ h1 h2 h3 h4
theorem Lv22ab.en (w : WD) (a6 : Int) {k_ : Nat} {z_ : Int × Int × Int × Int} {h_ : AHeap} (o_ : Lv22ab.O) (h3 : Lv22ab.N w a6 (k_ + 1) z_.1 z_.2.1 z_.2.2.1 z_.2.2.2 = o_) (h4 : PopOk (Lv22ab.H w a6 z_.1 z_.2.1 z_.2.2.1 z_.2.2.2) h_ (Lv22ab.X w a6 o_) (Lv22ab.XH w a6 o_)) : LEndP (fun (z_ : Int × Int × Int × Int) => Lv22ab.H w a6 z_.1 z_.2.1 z_.2.2.1 z_.2.2.2) (fun (k_ : Nat) (z_ : Int × Int × Int × Int) => Lv22ab.N w a6 k_ z_.1 z_.2.1 z_.2.2.1 z_.2.2.2) Lv22ab.E (Lv22ab.X w a6) (Lv22ab.XH w a6) k_ z_ (Lv22ab.E o_) (Lv22ab.X w a6 o_) h_ := LEndP.mk (Hp := (fun (z_ : Int × Int × Int × Int) => Lv22ab.H w a6 z_.1 z_.2.1 z_.2.2.1 z_.2.2.2)) (l := (fun (k_ : Nat) (z_ : Int × Int × Int × Int) => Lv22ab.N w a6 k_ z_.1 z_.2.1 z_.2.2.1 z_.2.2.2)) (oE := Lv22ab.E) (oT := Lv22ab.X w a6) (oH := Lv22ab.XH w a6) o_ h3 h4
noncomputable abbrev Lv22ab.h0 (w : WD) (a6 : Int) (b31 : Int) (bo1_0 : Int) (bo1_1 : Int) (bo1_2 : Int) : AHeap := ([AObj.var (WD.av w), AObj.var (AV.agg [AV.int IntKind.i64 bo1_0, AV.int IntKind.i64 bo1_1, AV.int IntKind.i64 bo1_2])])
theorem Lv22ab.spec (w : WD) (hn : w.n ≤ 10000) (hnm : w.nm.size ≤ 9223372036854775807) (hg : ∀ (i : Nat), (w.g i).nm.size ≤ 9223372036854775807) (he : (r24.v w == 0) = true) (a6 : Int) (iv22a_0 : 1 ≤ a6) (iv22a_1 : a6 ≤ (↑(nC w) : Int) ∨ a6 ≤ 1) (k1_1 : decide (a6 < (↑(nC w) : Int)) = true) (p1_1 : a6 < (↑(nC w) : Int)) (k_ : Nat) (z_ : Int × Int × Int × Int) (hi_ : Lv22ab.inv w a6 z_.1 z_.2.1 z_.2.2.1 z_.2.2.2) (hm_ : Lv22ab.mu w a6 z_.1 z_.2.1 z_.2.2.1 z_.2.2.2 < k_) : LoopTo Try.prog (loopN Try.f22 1) (Lv22ab.T w a6 z_.1 z_.2.1 z_.2.2.1 z_.2.2.2) (Lv22ab.H w a6 z_.1 z_.2.1 z_.2.2.1 z_.2.2.2) (Lv22ab.E (Lv22ab.N w a6 k_ z_.1 z_.2.1 z_.2.2.1 z_.2.2.2)) (Lv22ab.X w a6 (Lv22ab.N w a6 k_ z_.1 z_.2.1 z_.2.2.1 z_.2.2.2)) (Lv22ab.XH w a6 (Lv22ab.N w a6 k_ z_.1 z_.2.1 z_.2.2.1 z_.2.2.2)) := by
  refine LoopTo.fuelP mix (fun (z_ : Int × Int × Int × Int) => Lv22ab.T w a6 z_.1 z_.2.1 z_.2.2.1 z_.2.2.2) (fun (z_ : Int × Int × Int × Int) => Lv22ab.H w a6 z_.1 z_.2.1 z_.2.2.1 z_.2.2.2) (fun (z_ : Int × Int × Int × Int) => Lv22ab.inv w a6 z_.1 z_.2.1 z_.2.2.1 z_.2.2.2) (fun (z_ : Int × Int × Int × Int) => Lv22ab.mu w a6 z_.1 z_.2.1 z_.2.2.1 z_.2.2.2) (fun (k_ : Nat) (z_ : Int × Int × Int × Int) => Lv22ab.N w a6 k_ z_.1 z_.2.1 z_.2.2.1 z_.2.2.2) Lv22ab.E (Lv22ab.X w a6) (Lv22ab.XH w a6) (others 58 [1, 2, 5, 6, 29, 30, 31]) (others 58 [2, 3]) (others 58 [1, 2, 5, 6]) ?_ k_ z_ hi_ hm_
  clear hm_ hi_ z_ k_
  intro k_ z_ hinv hmu
  obtain ⟨b31, bo1_0, bo1_1, bo1_2⟩ := z_
  have hinv : 0 ≤ b31 ∧ (b31 ≤ (↑(r45.v (cC w a6.toNat).length fun (i : Nat) => (cC w a6.toNat).getD i default).length : Int) ∨ b31 ≤ 0) := hinv
  have hmu : (((↑(r45.v (cC w a6.toNat).length fun (i : Nat) => (cC w a6.toNat).getD i default).length : Int) - b31).toNat) < k_ + 1 := hmu
  cases h1 : decide (b31 < (↑(r45.v (cC w a6.toNat).length fun (i : Nat) => (cC w a6.toNat).getD i default).length : Int)) with
  | true =>
    have h1p := of_decide_eq_true h1
    try have := bd_J (by assumption) (by assumption)
    try have := bd_nC (by assumption) (by assumption) (by assumption)
    have o0 : (0 : Int) ≤ b31 := by omega
    have o1 : b31 < (↑(r45.v (cC w a6.toNat).length fun (i : Nat) => (cC w a6.toNat).getD i default).length : Int) := by assumption
    try have := IntWalk.i64_in (a6 - 1) (by omega)
    have o2 : (0 : Int) ≤ IntKind.i64.wrap (a6 - (1 : Int)) := by first | assumption | omega | (apply v_pre0 <;> first | assumption | omega) | (exact hg _) | (exact hg _ (by omega)) | (simp_all; done)
    have o3 : IntKind.i64.wrap (a6 - (1 : Int)) < (↑(nC w) : Int) := by first | assumption | omega | (apply v_pre1 <;> first | assumption | omega) | (exact hg _) | (exact hg _ (by omega)) | (simp_all; done)
    have o4 : (cC w (IntKind.i64.wrap (a6 - (1 : Int))).toNat).length ≤ (10000 : Nat) := by first | assumption | omega | (simp only [List.length_append, List.length_cons, List.length_nil, List.length_map]; omega) | (apply cC_len <;> first | assumption | omega) | (exact hg _) | (exact hg _ (by omega)) | (simp_all; done)
    have o5 : w.n ≤ (10000 : Nat) := by assumption
    have o6 : w.nm.size ≤ (9223372036854775807 : Nat) := by assumption
    have o7 : ∀ (i : Nat), (w.g i).nm.size ≤ (9223372036854775807 : Nat) := by assumption
    have o8 : (r24.v w == (0 : Int)) = true := by assumption
    have o9 : (1 : Int) ≤ a6 := by assumption
    have o10 : a6 ≤ (↑(nC w) : Int) ∨ a6 ≤ (1 : Int) := by assumption
    have o11 : decide (a6 < (↑(nC w) : Int)) = true := by assumption
    have o12 : a6 < (↑(nC w) : Int) := by assumption
    have o13 : b31 ≤ (↑(r45.v (cC w a6.toNat).length fun (i : Nat) => (cC w a6.toNat).getD i default).length : Int) ∨ b31 ≤ (0 : Int) := by omega
    have o14 : decide (b31 < (↑(r45.v (cC w a6.toNat).length fun (i : Nat) => (cC w a6.toNat).getD i default).length : Int)) = true := by assumption
    have o15 : (0 : Int) ≤ (↑(r45.v (cC w (IntKind.i64.wrap (a6 - (1 : Int))).toNat).length fun (i : Nat) => (cC w (IntKind.i64.wrap (a6 - (1 : Int))).toNat).getD i default).length : Int) ∨ (0 : Int) ≤ (0 : Int) := by omega
    cases h2 : Lv22abc.run w a6 b31 0 with
    | e0 h2d0 =>
      exact ⟨[.b true, .ret (AV.sl 1 (r45.v (cC w (IntKind.i64.wrap (a6 - 1)).toNat).length fun (i : Nat) => (cC w (IntKind.i64.wrap (a6 - 1)).toNat).getD i default).length fun (a : Nat) => AV.int IntKind.i64 ((r45.v (cC w (IntKind.i64.wrap (a6 - 1)).toNat).length fun (i : Nat) => (cC w (IntKind.i64.wrap (a6 - 1)).toNat).getD i default).getD a 0)) (Lv22ab.h0 w a6 b31 bo1_0 bo1_1 bo1_2), .loop (others 58 [1, 2, 5, 6, 8, 29, 30, 31, 40, 41, 42]) (Exit.ret) (Lv22abc.X w a6 b31 bo1_0 bo1_1 bo1_2 (Lv22abc.O.e0 h2d0)) (Lv22abc.XH w a6 b31 bo1_0 bo1_1 bo1_2 (Lv22abc.O.e0 h2d0))], kmp (by kernel_rfl) (Ai h1 (Ai (Ai o0 o1) (Ai (Ai o2 o3) (Ai (r45 ((cC w (IntKind.i64.wrap (a6 - 1)).toNat).length) o4 (fun (i : Nat) => (cC w (IntKind.i64.wrap (a6 - 1)).toNat).getD i default) (Lv22ab.h0 w a6 b31 bo1_0 bo1_1 bo1_2)) (Ai (Lv22abc.e0 (w) o5 o6 o7 o8 (a6) o9 o10 o11 o12 (b31) (bo1_0) (bo1_1) (bo1_2) o0 o13 o14 o1 (0) (Ai (show (0 : Int) ≤ (0 : Int) by decide) o15) h2d0 h2) (Lv22ab.en w a6 (k_ := k_) (z_ := (b31, bo1_0, bo1_1, bo1_2)) (.e0 ((r45.v (cC w a6.toNat).length fun (i : Nat) => (cC w a6.toNat).getD i default).getD b31.toNat 0) (h2d0) : Lv22ab.O) (by simp only [Lv22ab.N, h1, h2, cond_true, cond_false]) PopOk.same))))))⟩
    | e1 =>
      try have := bd_J (by assumption) (by assumption)
      try have := bd_nC (by assumption) (by assumption) (by assumption)
      try have := IntWalk.i64_in (b31 + 1) (by omega)
      have o16 : (0 : Int) ≤ IntKind.i64.wrap (b31 + (1 : Int)) := by omega
      have o17 : IntKind.i64.wrap (b31 + (1 : Int)) ≤ (↑(r45.v (cC w a6.toNat).length fun (i : Nat) => (cC w a6.toNat).getD i default).length : Int) ∨ IntKind.i64.wrap (b31 + (1 : Int)) ≤ (0 : Int) := by omega
      have o18 : ((↑(r45.v (cC w a6.toNat).length fun (i : Nat) => (cC w a6.toNat).getD i default).length : Int) - IntKind.i64.wrap (b31 + (1 : Int))).toNat < ((↑(r45.v (cC w a6.toNat).length fun (i : Nat) => (cC w a6.toNat).getD i default).length : Int) - b31).toNat := by omega
      exact ⟨[.b true, .ret (AV.sl 1 (r45.v (cC w (IntKind.i64.wrap (a6 - 1)).toNat).length fun (i : Nat) => (cC w (IntKind.i64.wrap (a6 - 1)).toNat).getD i default).length fun (a : Nat) => AV.int IntKind.i64 ((r45.v (cC w (IntKind.i64.wrap (a6 - 1)).toNat).length fun (i : Nat) => (cC w (IntKind.i64.wrap (a6 - 1)).toNat).getD i default).getD a 0)) (Lv22ab.h0 w a6 b31 bo1_0 bo1_1 bo1_2), .loop (others 58 [1, 2, 5, 6, 8, 29, 30, 31, 40, 41, 42]) (Exit.exit 4) (Lv22abc.X w a6 b31 bo1_0 bo1_1 bo1_2 Lv22abc.O.e1) (Lv22abc.XH w a6 b31 bo1_0 bo1_1 bo1_2 Lv22abc.O.e1)], kmp (by kernel_rfl) (Ai h1 (Ai (Ai o0 o1) (Ai (Ai o2 o3) (Ai (r45 ((cC w (IntKind.i64.wrap (a6 - 1)).toNat).length) o4 (fun (i : Nat) => (cC w (IntKind.i64.wrap (a6 - 1)).toNat).getD i default) (Lv22ab.h0 w a6 b31 bo1_0 bo1_1 bo1_2)) (Ai (Lv22abc.e1 (w) o5 o6 o7 o8 (a6) o9 o10 o11 o12 (b31) (bo1_0) (bo1_1) (bo1_2) o0 o13 o14 o1 (0) (Ai (show (0 : Int) ≤ (0 : Int) by decide) o15) h2) (Lv22ab.nx w a6 (k_ := k_) (z_ := (b31, bo1_0, bo1_1, bo1_2)) ((IntKind.i64.wrap (b31 + 1), bo1_0, bo1_1, bo1_2)) (Ai o16 o17) o18 (by simp only [Lv22ab.N, h1, h2, cond_true, cond_false]) PopOk.same))))))⟩
  | false =>
    have h1p := of_decide_eq_false h1
    exact ⟨[.b false], kmp (by kernel_rfl) (Ai h1 (Lv22ab.en w a6 (k_ := k_) (z_ := (b31, bo1_0, bo1_1, bo1_2)) (.e1 (bo1_0) (bo1_1) (bo1_2) : Lv22ab.O) (by simp only [Lv22ab.N, h1, cond_true, cond_false]) PopOk.same))⟩
theorem Lv22ab.e0 (w : WD) (hn : w.n ≤ 10000) (hnm : w.nm.size ≤ 9223372036854775807) (hg : ∀ (i : Nat), (w.g i).nm.size ≤ 9223372036854775807) (he : (r24.v w == 0) = true) (a6 : Int) (iv22a_0 : 1 ≤ a6) (iv22a_1 : a6 ≤ (↑(nC w) : Int) ∨ a6 ≤ 1) (k1_1 : decide (a6 < (↑(nC w) : Int)) = true) (p1_1 : a6 < (↑(nC w) : Int)) (b31 : Int) (bo1_0 : Int) (bo1_1 : Int) (bo1_2 : Int) (hinv : Lv22ab.inv w a6 b31 bo1_0 bo1_1 bo1_2) (a0 : Int) (a1 : Int) (hN : Lv22ab.run w a6 b31 bo1_0 bo1_1 bo1_2 = (.e0 a0 a1 : Lv22ab.O)) : LoopTo Try.prog (loopN Try.f22 1) (Lv22ab.T w a6 b31 bo1_0 bo1_1 bo1_2) (Lv22ab.H w a6 b31 bo1_0 bo1_1 bo1_2) (Exit.ret) (Lv22ab.X w a6 (.e0 a0 a1 : Lv22ab.O)) (Lv22ab.XH w a6 (.e0 a0 a1 : Lv22ab.O)) := by
  have h_ := Lv22ab.spec w hn hnm hg he a6 iv22a_0 iv22a_1 k1_1 p1_1 ((((↑(r45.v (cC w a6.toNat).length fun (i : Nat) => (cC w a6.toNat).getD i default).length : Int) - b31).toNat) + 1) (b31, bo1_0, bo1_1, bo1_2) hinv (Nat.lt_succ_self _)
  unfold Lv22ab.run at hN
  simp only [hN] at h_
  exact h_
theorem Lv22ab.e1 (w : WD) (hn : w.n ≤ 10000) (hnm : w.nm.size ≤ 9223372036854775807) (hg : ∀ (i : Nat), (w.g i).nm.size ≤ 9223372036854775807) (he : (r24.v w == 0) = true) (a6 : Int) (iv22a_0 : 1 ≤ a6) (iv22a_1 : a6 ≤ (↑(nC w) : Int) ∨ a6 ≤ 1) (k1_1 : decide (a6 < (↑(nC w) : Int)) = true) (p1_1 : a6 < (↑(nC w) : Int)) (b31 : Int) (bo1_0 : Int) (bo1_1 : Int) (bo1_2 : Int) (hinv : Lv22ab.inv w a6 b31 bo1_0 bo1_1 bo1_2) (a0 : Int) (a1 : Int) (a2 : Int) (hN : Lv22ab.run w a6 b31 bo1_0 bo1_1 bo1_2 = (.e1 a0 a1 a2 : Lv22ab.O)) : LoopTo Try.prog (loopN Try.f22 1) (Lv22ab.T w a6 b31 bo1_0 bo1_1 bo1_2) (Lv22ab.H w a6 b31 bo1_0 bo1_1 bo1_2) (Exit.exit 2) (Lv22ab.X w a6 (.e1 a0 a1 a2 : Lv22ab.O)) (Lv22ab.XH w a6 (.e1 a0 a1 a2 : Lv22ab.O)) := by
  have h_ := Lv22ab.spec w hn hnm hg he a6 iv22a_0 iv22a_1 k1_1 p1_1 ((((↑(r45.v (cC w a6.toNat).length fun (i : Nat) => (cC w a6.toNat).getD i default).length : Int) - b31).toNat) + 1) (b31, bo1_0, bo1_1, bo1_2) hinv (Nat.lt_succ_self _)
  unfold Lv22ab.run at hN
  simp only [hN] at h_
  exact h_
inductive Lv22a.O where
  | e0 (a0 : Int) (a1 : Int) (a2 : Int)
  | e1 (a0 : Int) (a1 : Int) (a2 : Int)
noncomputable def Lv22a.T (w : WD) (a6 : Int) (ao1_0 : Int) (ao1_1 : Int) (ao1_2 : Int) : List AV := mkT 58 [(1, AV.ptr 0 1 6 0 0), (2, AV.ptr 1 1 3 0 0), (5, AV.sl 1 (nC w) fun (j : Nat) => AV.sl 14 (cC w j).length fun (q : Nat) => (SD.av ((cC w j).getD q default))), (6, AV.int IntKind.i64 a6)]
noncomputable def Lv22a.H (w : WD) (a6 : Int) (ao1_0 : Int) (ao1_1 : Int) (ao1_2 : Int) : AHeap := [AObj.var (WD.av w), AObj.var (AV.agg [AV.int IntKind.i64 ao1_0, AV.int IntKind.i64 ao1_1, AV.int IntKind.i64 ao1_2])]
def Lv22a.inv (w : WD) (a6 : Int) (ao1_0 : Int) (ao1_1 : Int) (ao1_2 : Int) : Prop := 1 ≤ a6 ∧ (a6 ≤ (↑(nC w) : Int) ∨ a6 ≤ 1)
noncomputable def Lv22a.mu (w : WD) (a6 : Int) (ao1_0 : Int) (ao1_1 : Int) (ao1_2 : Int) : Nat := ((↑(nC w) : Int) - a6).toNat
noncomputable def Lv22a.E : Lv22a.O → Exit
  | .e0 a0 a1 a2 => Exit.ret
  | .e1 a0 a1 a2 => Exit.exit 0
noncomputable def Lv22a.X (w : WD) : Lv22a.O → List AV
  | .e0 a0 a1 a2 => mkT 58 [(2, (AV.ptr 1 1 3 0 0)), (3, (AV.int IntKind.i64 0))]
  | .e1 a0 a1 a2 => mkT 58 [(2, (AV.ptr 1 1 3 0 0))]
noncomputable def Lv22a.XH (w : WD) : Lv22a.O → AHeap
  | .e0 a0 a1 a2 => ((AObj.var (WD.av w)) :: ((AObj.var (AV.agg ((AV.int IntKind.i64 a0) :: ((AV.int IntKind.i64 a1) :: ((AV.int IntKind.i64 a2) :: ([])))))) :: ([])))
  | .e1 a0 a1 a2 => ((AObj.var (WD.av w)) :: ((AObj.var (AV.agg ((AV.int IntKind.i64 a0) :: ((AV.int IntKind.i64 a1) :: ((AV.int IntKind.i64 a2) :: ([])))))) :: ([])))
noncomputable def Lv22a.N (w : WD) : Nat → Int → Int → Int → Int → Lv22a.O
  | 0, a6, _, _, _ => .e0 a6 default default
  | k_ + 1, a6, ao1_0, ao1_1, ao1_2 => (bif decide (a6 < (↑(nC w) : Int)) then (match Lv22ab.run w a6 0 ao1_0 ao1_1 ao1_2 with | .e0 h2d0 h2d1 => (.e0 (a6) (h2d0) (h2d1)) | .e1 h2d0 h2d1 h2d2 => (Lv22a.N w k_ (IntKind.i64.wrap (a6 + 1)) (h2d0) (h2d1) (h2d2)) ) else (.e1 (ao1_0) (ao1_1) (ao1_2)))
noncomputable def Lv22a.run (w : WD) (a6 : Int) (ao1_0 : Int) (ao1_1 : Int) (ao1_2 : Int) : Lv22a.O := Lv22a.N w ((((↑(nC w) : Int) - a6).toNat) + 1) a6 ao1_0 ao1_1 ao1_2
theorem Lv22a.nx (w : WD) {k_ : Nat} {z_ : Int × Int × Int × Int} {h_ : AHeap} (s_ : Int × Int × Int × Int) (h1 : Lv22a.inv w s_.1 s_.2.1 s_.2.2.1 s_.2.2.2) (h2 : Lv22a.mu w s_.1 s_.2.1 s_.2.2.1 s_.2.2.2 < Lv22a.mu w z_.1 z_.2.1 z_.2.2.1 z_.2.2.2) (h3 : Lv22a.N w k_ s_.1 s_.2.1 s_.2.2.1 s_.2.2.2 = Lv22a.N w (k_ + 1) z_.1 z_.2.1 z_.2.2.1 z_.2.2.2) (h4 : PopOk (Lv22a.H w z_.1 z_.2.1 z_.2.2.1 z_.2.2.2) h_ (Lv22a.T w s_.1 s_.2.1 s_.2.2.1 s_.2.2.2) (Lv22a.H w s_.1 s_.2.1 s_.2.2.1 s_.2.2.2)) : LNextP (fun (z_ : Int × Int × Int × Int) => Lv22a.T w z_.1 z_.2.1 z_.2.2.1 z_.2.2.2) (fun (z_ : Int × Int × Int × Int) => Lv22a.H w z_.1 z_.2.1 z_.2.2.1 z_.2.2.2) (fun (z_ : Int × Int × Int × Int) => Lv22a.inv w z_.1 z_.2.1 z_.2.2.1 z_.2.2.2) (fun (z_ : Int × Int × Int × Int) => Lv22a.mu w z_.1 z_.2.1 z_.2.2.1 z_.2.2.2) (fun (k_ : Nat) (z_ : Int × Int × Int × Int) => Lv22a.N w k_ z_.1 z_.2.1 z_.2.2.1 z_.2.2.2) k_ z_ (Lv22a.T w s_.1 s_.2.1 s_.2.2.1 s_.2.2.2) h_ := LNextP.mk (Tm := (fun (z_ : Int × Int × Int × Int) => Lv22a.T w z_.1 z_.2.1 z_.2.2.1 z_.2.2.2)) (Hp := (fun (z_ : Int × Int × Int × Int) => Lv22a.H w z_.1 z_.2.1 z_.2.2.1 z_.2.2.2)) (inv := (fun (z_ : Int × Int × Int × Int) => Lv22a.inv w z_.1 z_.2.1 z_.2.2.1 z_.2.2.2)) (mu := (fun (z_ : Int × Int × Int × Int) => Lv22a.mu w z_.1 z_.2.1 z_.2.2.1 z_.2.2.2)) (l := (fun (k_ : Nat) (z_ : Int × Int × Int × Int) => Lv22a.N w k_ z_.1 z_.2.1 z_.2.2.1 z_.2.2.2)) s_ h1 h2 h3 h4
theorem Lv22a.en (w : WD) {k_ : Nat} {z_ : Int × Int × Int × Int} {h_ : AHeap} (o_ : Lv22a.O) (h3 : Lv22a.N w (k_ + 1) z_.1 z_.2.1 z_.2.2.1 z_.2.2.2 = o_) (h4 : PopOk (Lv22a.H w z_.1 z_.2.1 z_.2.2.1 z_.2.2.2) h_ (Lv22a.X w o_) (Lv22a.XH w o_)) : LEndP (fun (z_ : Int × Int × Int × Int) => Lv22a.H w z_.1 z_.2.1 z_.2.2.1 z_.2.2.2) (fun (k_ : Nat) (z_ : Int × Int × Int × Int) => Lv22a.N w k_ z_.1 z_.2.1 z_.2.2.1 z_.2.2.2) Lv22a.E (Lv22a.X w) (Lv22a.XH w) k_ z_ (Lv22a.E o_) (Lv22a.X w o_) h_ := LEndP.mk (Hp := (fun (z_ : Int × Int × Int × Int) => Lv22a.H w z_.1 z_.2.1 z_.2.2.1 z_.2.2.2)) (l := (fun (k_ : Nat) (z_ : Int × Int × Int × Int) => Lv22a.N w k_ z_.1 z_.2.1 z_.2.2.1 z_.2.2.2)) (oE := Lv22a.E) (oT := Lv22a.X w) (oH := Lv22a.XH w) o_ h3 h4
noncomputable abbrev Lv22a.h0 (w : WD) (a6 : Int) (ao1_0 : Int) (ao1_1 : Int) (ao1_2 : Int) : AHeap := ([AObj.var (WD.av w), AObj.var (AV.agg [AV.int IntKind.i64 ao1_0, AV.int IntKind.i64 ao1_1, AV.int IntKind.i64 ao1_2])])
theorem Lv22a.spec (w : WD) (hn : w.n ≤ 10000) (hnm : w.nm.size ≤ 9223372036854775807) (hg : ∀ (i : Nat), (w.g i).nm.size ≤ 9223372036854775807) (he : (r24.v w == 0) = true) (k_ : Nat) (z_ : Int × Int × Int × Int) (hi_ : Lv22a.inv w z_.1 z_.2.1 z_.2.2.1 z_.2.2.2) (hm_ : Lv22a.mu w z_.1 z_.2.1 z_.2.2.1 z_.2.2.2 < k_) : LoopTo Try.prog (loopN Try.f22 0) (Lv22a.T w z_.1 z_.2.1 z_.2.2.1 z_.2.2.2) (Lv22a.H w z_.1 z_.2.1 z_.2.2.1 z_.2.2.2) (Lv22a.E (Lv22a.N w k_ z_.1 z_.2.1 z_.2.2.1 z_.2.2.2)) (Lv22a.X w (Lv22a.N w k_ z_.1 z_.2.1 z_.2.2.1 z_.2.2.2)) (Lv22a.XH w (Lv22a.N w k_ z_.1 z_.2.1 z_.2.2.1 z_.2.2.2)) := by
  refine LoopTo.fuelP mix (fun (z_ : Int × Int × Int × Int) => Lv22a.T w z_.1 z_.2.1 z_.2.2.1 z_.2.2.2) (fun (z_ : Int × Int × Int × Int) => Lv22a.H w z_.1 z_.2.1 z_.2.2.1 z_.2.2.2) (fun (z_ : Int × Int × Int × Int) => Lv22a.inv w z_.1 z_.2.1 z_.2.2.1 z_.2.2.2) (fun (z_ : Int × Int × Int × Int) => Lv22a.mu w z_.1 z_.2.1 z_.2.2.1 z_.2.2.2) (fun (k_ : Nat) (z_ : Int × Int × Int × Int) => Lv22a.N w k_ z_.1 z_.2.1 z_.2.2.1 z_.2.2.2) Lv22a.E (Lv22a.X w) (Lv22a.XH w) (others 58 [1, 2, 5, 6]) (others 58 [2, 3]) (others 58 [2]) ?_ k_ z_ hi_ hm_
  clear hm_ hi_ z_ k_
  intro k_ z_ hinv hmu
  obtain ⟨a6, ao1_0, ao1_1, ao1_2⟩ := z_
  have hinv : 1 ≤ a6 ∧ (a6 ≤ (↑(nC w) : Int) ∨ a6 ≤ 1) := hinv
  have hmu : (((↑(nC w) : Int) - a6).toNat) < k_ + 1 := hmu
  cases h1 : decide (a6 < (↑(nC w) : Int)) with
  | true =>
    have h1p := of_decide_eq_true h1
    try have := bd_J (by first | assumption | omega) (by first | assumption | omega)
    try have := bd_nC (by assumption) (by assumption) (by assumption)
    have o0 : (0 : Int) ≤ a6 := by omega
    have o1 : a6 < (↑(nC w) : Int) := by assumption
    have o2 : (cC w a6.toNat).length ≤ (10000 : Nat) := by first | assumption | omega | (simp only [List.length_append, List.length_cons, List.length_nil, List.length_map]; omega) | (apply cC_len <;> first | assumption | omega) | (exact hg _) | (exact hg _ (by omega)) | (simp_all; done)
    have o3 : w.n ≤ (10000 : Nat) := by assumption
    have o4 : w.nm.size ≤ (9223372036854775807 : Nat) := by assumption
    have o5 : ∀ (i : Nat), (w.g i).nm.size ≤ (9223372036854775807 : Nat) := by assumption
    have o6 : (r24.v w == (0 : Int)) = true := by assumption
    have o7 : (1 : Int) ≤ a6 := by omega
    have o8 : a6 ≤ (↑(nC w) : Int) ∨ a6 ≤ (1 : Int) := by omega
    have o9 : decide (a6 < (↑(nC w) : Int)) = true := by assumption
    have o10 : (0 : Int) ≤ (↑(r45.v (cC w a6.toNat).length fun (i : Nat) => (cC w a6.toNat).getD i default).length : Int) ∨ (0 : Int) ≤ (0 : Int) := by omega
    cases h2 : Lv22ab.run w a6 0 ao1_0 ao1_1 ao1_2 with
    | e0 h2d0 h2d1 =>
      exact ⟨[.b true, .ret (AV.sl 1 (r45.v (cC w a6.toNat).length fun (i : Nat) => (cC w a6.toNat).getD i default).length fun (a : Nat) => AV.int IntKind.i64 ((r45.v (cC w a6.toNat).length fun (i : Nat) => (cC w a6.toNat).getD i default).getD a 0)) (Lv22a.h0 w a6 ao1_0 ao1_1 ao1_2), .loop (others 58 [1, 2, 5, 6, 29, 30, 31]) (Exit.ret) (Lv22ab.X w a6 (Lv22ab.O.e0 h2d0 h2d1)) (Lv22ab.XH w a6 (Lv22ab.O.e0 h2d0 h2d1))], kmp (by kernel_rfl) (Ai h1 (Ai (Ai o0 o1) (Ai (r45 ((cC w a6.toNat).length) o2 (fun (i : Nat) => (cC w a6.toNat).getD i default) (Lv22a.h0 w a6 ao1_0 ao1_1 ao1_2)) (Ai (Lv22ab.e0 (w) o3 o4 o5 o6 (a6) o7 o8 o9 o1 (0) (ao1_0) (ao1_1) (ao1_2) (Ai (show (0 : Int) ≤ (0 : Int) by decide) o10) h2d0 h2d1 h2) (Lv22a.en w (k_ := k_) (z_ := (a6, ao1_0, ao1_1, ao1_2)) (.e0 (a6) (h2d0) (h2d1) : Lv22a.O) (by simp only [Lv22a.N, h1, h2, cond_true, cond_false]) PopOk.same)))))⟩
    | e1 h2d0 h2d1 h2d2 =>
      try have := bd_J (by first | assumption | omega) (by first | assumption | omega)
      try have := bd_nC (by assumption) (by assumption) (by assumption)
      try have := IntWalk.i64_in (a6 + 1) (by omega)
      have o11 : (1 : Int) ≤ IntKind.i64.wrap (a6 + (1 : Int)) := by omega
      have o12 : IntKind.i64.wrap (a6 + (1 : Int)) ≤ (↑(nC w) : Int) ∨ IntKind.i64.wrap (a6 + (1 : Int)) ≤ (1 : Int) := by omega
      have o13 : ((↑(nC w) : Int) - IntKind.i64.wrap (a6 + (1 : Int))).toNat < ((↑(nC w) : Int) - a6).toNat := by omega
      exact ⟨[.b true, .ret (AV.sl 1 (r45.v (cC w a6.toNat).length fun (i : Nat) => (cC w a6.toNat).getD i default).length fun (a : Nat) => AV.int IntKind.i64 ((r45.v (cC w a6.toNat).length fun (i : Nat) => (cC w a6.toNat).getD i default).getD a 0)) (Lv22a.h0 w a6 ao1_0 ao1_1 ao1_2), .loop (others 58 [1, 2, 5, 6, 29, 30, 31]) (Exit.exit 2) (Lv22ab.X w a6 (Lv22ab.O.e1 h2d0 h2d1 h2d2)) (Lv22ab.XH w a6 (Lv22ab.O.e1 h2d0 h2d1 h2d2))], kmp (by kernel_rfl) (Ai h1 (Ai (Ai o0 o1) (Ai (r45 ((cC w a6.toNat).length) o2 (fun (i : Nat) => (cC w a6.toNat).getD i default) (Lv22a.h0 w a6 ao1_0 ao1_1 ao1_2)) (Ai (Lv22ab.e1 (w) o3 o4 o5 o6 (a6) o7 o8 o9 o1 (0) (ao1_0) (ao1_1) (ao1_2) (Ai (show (0 : Int) ≤ (0 : Int) by decide) o10) h2d0 h2d1 h2d2 h2) (Lv22a.nx w (k_ := k_) (z_ := (a6, ao1_0, ao1_1, ao1_2)) ((IntKind.i64.wrap (a6 + 1), h2d0, h2d1, h2d2)) (Ai o11 o12) o13 (by simp only [Lv22a.N, h1, h2, cond_true, cond_false]) PopOk.same)))))⟩
  | false =>
    have h1p := of_decide_eq_false h1
    exact ⟨[.b false], kmp (by kernel_rfl) (Ai h1 (Lv22a.en w (k_ := k_) (z_ := (a6, ao1_0, ao1_1, ao1_2)) (.e1 (ao1_0) (ao1_1) (ao1_2) : Lv22a.O) (by simp only [Lv22a.N, h1, cond_true, cond_false]) PopOk.same))⟩
theorem Lv22a.e0 (w : WD) (hn : w.n ≤ 10000) (hnm : w.nm.size ≤ 9223372036854775807) (hg : ∀ (i : Nat), (w.g i).nm.size ≤ 9223372036854775807) (he : (r24.v w == 0) = true) (a6 : Int) (ao1_0 : Int) (ao1_1 : Int) (ao1_2 : Int) (hinv : Lv22a.inv w a6 ao1_0 ao1_1 ao1_2) (a0 : Int) (a1 : Int) (a2 : Int) (hN : Lv22a.run w a6 ao1_0 ao1_1 ao1_2 = (.e0 a0 a1 a2 : Lv22a.O)) : LoopTo Try.prog (loopN Try.f22 0) (Lv22a.T w a6 ao1_0 ao1_1 ao1_2) (Lv22a.H w a6 ao1_0 ao1_1 ao1_2) (Exit.ret) (Lv22a.X w (.e0 a0 a1 a2 : Lv22a.O)) (Lv22a.XH w (.e0 a0 a1 a2 : Lv22a.O)) := by
  have h_ := Lv22a.spec w hn hnm hg he ((((↑(nC w) : Int) - a6).toNat) + 1) (a6, ao1_0, ao1_1, ao1_2) hinv (Nat.lt_succ_self _)
  unfold Lv22a.run at hN
  simp only [hN] at h_
  exact h_
theorem Lv22a.e1 (w : WD) (hn : w.n ≤ 10000) (hnm : w.nm.size ≤ 9223372036854775807) (hg : ∀ (i : Nat), (w.g i).nm.size ≤ 9223372036854775807) (he : (r24.v w == 0) = true) (a6 : Int) (ao1_0 : Int) (ao1_1 : Int) (ao1_2 : Int) (hinv : Lv22a.inv w a6 ao1_0 ao1_1 ao1_2) (a0 : Int) (a1 : Int) (a2 : Int) (hN : Lv22a.run w a6 ao1_0 ao1_1 ao1_2 = (.e1 a0 a1 a2 : Lv22a.O)) : LoopTo Try.prog (loopN Try.f22 0) (Lv22a.T w a6 ao1_0 ao1_1 ao1_2) (Lv22a.H w a6 ao1_0 ao1_1 ao1_2) (Exit.exit 0) (Lv22a.X w (.e1 a0 a1 a2 : Lv22a.O)) (Lv22a.XH w (.e1 a0 a1 a2 : Lv22a.O)) := by
  have h_ := Lv22a.spec w hn hnm hg he ((((↑(nC w) : Int) - a6).toNat) + 1) (a6, ao1_0, ao1_1, ao1_2) hinv (Nat.lt_succ_self _)
  unfold Lv22a.run at hN
  simp only [hN] at h_
  exact h_
noncomputable def v22.v0 (w : WD) : Int := (match Lv22a.run w 1 0 0 0 with | .e0 h1d0 h1d1 h1d2 => h1d0 | .e1 h1d0 h1d1 h1d2 => 0 )
noncomputable def v22.v1 (w : WD) : Int := (match Lv22a.run w 1 0 0 0 with | .e0 h1d0 h1d1 h1d2 => h1d1 | .e1 h1d0 h1d1 h1d2 => 0 )
noncomputable def v22.v2 (w : WD) : Int := (match Lv22a.run w 1 0 0 0 with | .e0 h1d0 h1d1 h1d2 => h1d2 | .e1 h1d0 h1d1 h1d2 => 0 )
noncomputable def v22.v3 (w : WD) : Int := (match Lv22a.run w 1 0 0 0 with | .e0 h1d0 h1d1 h1d2 => 0 | .e1 h1d0 h1d1 h1d2 => 9 )
noncomputable abbrev v22.h0 (w : WD) : AHeap := ([AObj.var (WD.av w), AObj.var (AV.agg [AV.int IntKind.i64 0, AV.int IntKind.i64 0, AV.int IntKind.i64 0])])
theorem v22 (w : WD) (hn : w.n ≤ 10000) (hnm : w.nm.size ≤ 9223372036854775807) (hg : ∀ (i : Nat), (w.g i).nm.size ≤ 9223372036854775807) (he : (r24.v w == 0) = true) (h : AHeap) : Ret Try.prog 22 ([w.av]) h (AV.tup [(AV.agg ((AV.int IntKind.i64 (v22.v0 w)) :: ((AV.int IntKind.i64 (v22.v1 w)) :: ((AV.int IntKind.i64 (v22.v2 w)) :: [])))), (AV.int IntKind.i64 (v22.v3 w))]) h := by
  try have := bd_J (by first | assumption | omega) (by first | assumption | omega)
  try have := bd_nC (by first | assumption | omega) (by first | assumption | omega) (by first | assumption | omega)
  have o0 : w.n ≤ (10000 : Nat) := by assumption
  have o1 : w.nm.size ≤ (9223372036854775807 : Nat) := by assumption
  have o2 : ∀ (i : Nat), (w.g i).nm.size ≤ (9223372036854775807 : Nat) := by assumption
  have o3 : ∀ (i : Nat), i < w.n → (0 : Int) ≤ (w.g i).co ∧ (w.g i).co ≤ (99 : Int) := by first | assumption | omega | (apply v_co <;> first | assumption | omega) | (exact hg _) | (exact hg _ (by omega)) | (simp_all; done)
  have o4 : ∀ (i j : Nat), i < w.n → j < w.n → (w.g i).nm.toList = (w.g j).nm.toList → i = j := by first | assumption | omega | (apply v_nm <;> first | assumption | omega) | (exact hg _) | (exact hg _ (by omega)) | (simp_all; done)
  have o5 : (r24.v w == (0 : Int)) = true := by assumption
  have o6 : (1 : Int) ≤ (↑(nC w) : Int) ∨ (1 : Int) ≤ (1 : Int) := by omega
  cases h1 : Lv22a.run w 1 0 0 0 with
  | e0 h1d0 h1d1 h1d2 =>
    exact Ret.of_run1 mix [(AV.agg ((AV.int IntKind.i64 (v22.v0 w)) :: ((AV.int IntKind.i64 (v22.v1 w)) :: ((AV.int IntKind.i64 (v22.v2 w)) :: [])))), (AV.int IntKind.i64 (v22.v3 w))] Try.func22 rfl [.ret (AV.int IntKind.i64 (r24.v w)) (v22.h0 w), .b false, .ret (AV.sl 1 (nC w) fun (j : Nat) => AV.sl 14 (cC w j).length fun (q : Nat) => (SD.av ((cC w j).getD q default))) (v22.h0 w), .loop (others 58 [1, 2, 5, 6]) (Exit.ret) (Lv22a.X w (Lv22a.O.e0 h1d0 h1d1 h1d2)) (Lv22a.XH w (Lv22a.O.e0 h1d0 h1d1 h1d2))] (by simp) (by simp) (kmp (by kernel_rfl) (Ai (r24 (w) o0 o1 o2 (v22.h0 w)) (Ai (show (bnot (r24.v w == 0)) = false by rw [he]; try rfl) (Ai (r44 (w) o0 o3 o4 (v22.h0 w)) (Ai (Lv22a.e0 (w) o0 o1 o2 o5 (1) (0) (0) (0) (Ai (show (1 : Int) ≤ (1 : Int) by decide) o6) h1d0 h1d1 h1d2 h1) (Ai (Ai trivial (show (AV.agg [AV.int IntKind.i64 h1d0, AV.int IntKind.i64 h1d1, AV.int IntKind.i64 h1d2]) = ((AV.agg ((AV.int IntKind.i64 (v22.v0 w)) :: ((AV.int IntKind.i64 (v22.v1 w)) :: ((AV.int IntKind.i64 (v22.v2 w)) :: []))))) by simp only [v22.v0, v22.v1, v22.v2, v22.v3, he, h1, cond_true, cond_false])) (Ai (show (AV.int IntKind.i64 0) = ((AV.int IntKind.i64 (v22.v3 w))) by simp only [v22.v0, v22.v1, v22.v2, v22.v3, he, h1, cond_true, cond_false]) trivial))))))) h
  | e1 h1d0 h1d1 h1d2 =>
    exact Ret.of_run1 mix [(AV.agg ((AV.int IntKind.i64 (v22.v0 w)) :: ((AV.int IntKind.i64 (v22.v1 w)) :: ((AV.int IntKind.i64 (v22.v2 w)) :: [])))), (AV.int IntKind.i64 (v22.v3 w))] Try.func22 rfl [.ret (AV.int IntKind.i64 (r24.v w)) (v22.h0 w), .b false, .ret (AV.sl 1 (nC w) fun (j : Nat) => AV.sl 14 (cC w j).length fun (q : Nat) => (SD.av ((cC w j).getD q default))) (v22.h0 w), .loop (others 58 [1, 2, 5, 6]) (Exit.exit 0) (Lv22a.X w (Lv22a.O.e1 h1d0 h1d1 h1d2)) (Lv22a.XH w (Lv22a.O.e1 h1d0 h1d1 h1d2))] (by simp) (by simp) (kmp (by kernel_rfl) (Ai (r24 (w) o0 o1 o2 (v22.h0 w)) (Ai (show (bnot (r24.v w == 0)) = false by rw [he]; try rfl) (Ai (r44 (w) o0 o3 o4 (v22.h0 w)) (Ai (Lv22a.e1 (w) o0 o1 o2 o5 (1) (0) (0) (0) (Ai (show (1 : Int) ≤ (1 : Int) by decide) o6) h1d0 h1d1 h1d2 h1) (Ai (Ai trivial (show (AV.agg [AV.int IntKind.i64 0, AV.int IntKind.i64 0, AV.int IntKind.i64 0]) = ((AV.agg ((AV.int IntKind.i64 (v22.v0 w)) :: ((AV.int IntKind.i64 (v22.v1 w)) :: ((AV.int IntKind.i64 (v22.v2 w)) :: []))))) by simp only [v22.v0, v22.v1, v22.v2, v22.v3, he, h1, cond_true, cond_false])) (Ai (show (AV.int IntKind.i64 9) = ((AV.int IntKind.i64 (v22.v3 w))) by simp only [v22.v0, v22.v1, v22.v2, v22.v3, he, h1, cond_true, cond_false]) trivial))))))) h
end Go.Proofs.Ytjdbmmilcihpoaa
