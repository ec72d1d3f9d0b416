/- Contracts of the functions and plain laws, part 2. Conditions: none. -/
import Derived.Test.Ytjdbmmilcihpoaa71

open Go
namespace Go.Proofs.Ytjdbmmilcihpoaa
set_option linter.unusedSimpArgs false
set_option linter.unusedVariables false
set_option maxHeartbeats 0
set_option maxRecDepth 100000
/-- Courses as plain data. -/
def nsts (N : Nat) (L : Nat → List SD) : AV := .sl 1 N fun j => .sl 14 (L j).length fun q => ((L j).getD q default).av
@[simp] theorem low_nsts (lo N : Nat) (L : Nat → List SD) : Low lo (nsts N L) = True := by unfold nsts; simp
inductive L59aa.O where
 | e0 (a0 : Int)
 | e1
noncomputable def L59aa.T (n : Nat) (g : Nat → SD) (a8 : Int) : List AV := mkT 19 [(0, AV.sl 14 n fun (i : Nat) => AV.agg [AV.str (g i).nm, iv (g i).sx, iv (g i).sy, iv (g i).sz, iv (g i).tl, iv (g i).ax, iv (g i).ay, iv (g i).az, iv (g i).co, iv (g i).bd, AV.str (g i).gr, iv (g i).cl, AV.str (g i).pf, AV.sl 4 (g i).am fun (i_1 : Nat) => AV.agg [iv ((g i).ag i_1).fa, iv ((g i).ag i_1).px, iv ((g i).ag i_1).py, iv ((g i).ag i_1).ed]]), (1, AV.fn 50 []), (7, iv (↑n : Int)), (8, iv a8)]
noncomputable def L59aa.H (n : Nat) (g : Nat → SD) (a8 : Int) : AHeap := []
def L59aa.inv (n : Nat) (g : Nat → SD) (a8 : Int) : Prop := 0 ≤ a8 ∧ (a8 ≤ (↑n : Int) ∨ a8 ≤ 0)
noncomputable def L59aa.mu (n : Nat) (g : Nat → SD) (a8 : Int) : Nat := ((↑n : Int) - a8).toNat
noncomputable def L59aa.E : L59aa.O → Exit
 | .e0 a0 => Exit.ret
 | .e1 => Exit.exit 0
noncomputable def L59aa.X (n : Nat) (g : Nat → SD) : L59aa.O → List AV
 | .e0 a0 => mkT 19 [(4, (iv a0))]
 | .e1 => mkT 19 []
noncomputable def L59aa.XH (n : Nat) (g : Nat → SD) : L59aa.O → AHeap
 | .e0 a0 => ([])
 | .e1 => ([])
noncomputable def L59aa.N (n : Nat) (g : Nat → SD) : Nat → Int → L59aa.O
 | 0, a8 => .e0 a8
 | k_ + 1, a8 => (bif decide (a8 < (↑n : Int)) then (bif r50.v (g a8.toNat) then (.e0 (a8)) else (L59aa.N n g k_ (IntKind.i64.wrap (a8 + 1)))) else (.e1))
noncomputable def L59aa.run (n : Nat) (g : Nat → SD) (a8 : Int) : L59aa.O := L59aa.N n g ((((↑n : Int) - a8).toNat) + 1) a8
theorem L59aa.nx (n : Nat) (g : Nat → SD) {k_ : Nat} {z_ : Int} {h_ : AHeap} (s_ : Int) (h1 : L59aa.inv n g s_) (h2 : L59aa.mu n g s_ < L59aa.mu n g z_) (h3 : L59aa.N n g k_ s_ = L59aa.N n g (k_ + 1) z_) (h4 : PopOk (L59aa.H n g z_) h_ (L59aa.T n g s_) (L59aa.H n g s_)) : LNextP (L59aa.T n g) (L59aa.H n g) (L59aa.inv n g) (L59aa.mu n g) (L59aa.N n g) k_ z_ (L59aa.T n g s_) h_ := LNextP.mk s_ h1 h2 h3 h4
theorem L59aa.en (n : Nat) (g : Nat → SD) {k_ : Nat} {z_ : Int} {h_ : AHeap} (o_ : L59aa.O) (h3 : L59aa.N n g (k_ + 1) z_ = o_) (h4 : PopOk (L59aa.H n g z_) h_ (L59aa.X n g o_) (L59aa.XH n g o_)) : LEndP (L59aa.H n g) (L59aa.N n g) L59aa.E (L59aa.X n g) (L59aa.XH n g) k_ z_ (L59aa.E o_) (L59aa.X n g o_) h_ := LEndP.mk o_ h3 h4
theorem L59aa.spec (n : Nat) (g : Nat → SD) (hn : n ≤ 9223372036854775807) (hg : ∀ (i : Nat), (g i).nm.size ≤ 9223372036854775807) (k_ : Nat) (z_ : Int) (hi_ : L59aa.inv n g z_) (hm_ : L59aa.mu n g z_ < k_) : LoopTo Try.prog (loopN Try.f59 0) (L59aa.T n g z_) (L59aa.H n g z_) (L59aa.E (L59aa.N n g k_ z_)) (L59aa.X n g (L59aa.N n g k_ z_)) (L59aa.XH n g (L59aa.N n g k_ z_)) := by
 refine LoopTo.fuelP mix (L59aa.T n g) (L59aa.H n g) (L59aa.inv n g) (L59aa.mu n g) (L59aa.N n g) L59aa.E (L59aa.X n g) (L59aa.XH n g) (others 19 [0, 1, 7, 8]) (others 19 [4]) (others 19 []) ?_ k_ z_ hi_ hm_
 clear hm_ hi_ z_ k_
 intro k_ z_ hinv hmu
 revert hinv hmu; revert z_; intro a8 hinv hmu
 have hinv : 0 ≤ a8 ∧ (a8 ≤ (↑n : Int) ∨ a8 ≤ 0) := hinv
 have hmu : (((↑n : Int) - a8).toNat) < k_ + 1 := hmu
 cases h1 : decide (a8 < (↑n : Int)) with
 | true =>
  have h1p := of_decide_eq_true h1
  have o0 : (0 : Int) ≤ a8 := by omega
  have o1 : a8 < (↑n : Int) := by assumption
  have o2 : (g a8.toNat).nm.size ≤ (9223372036854775807 : Nat) := by exact hg _
  cases h2 : r50.v (g a8.toNat) with
  | true =>
   exact ⟨[.b true, .ret (AV.bool (r50.v (g a8.toNat))) ([]), .b true], kmp (by kernel_rfl) (Ai h1 (Ai (Ai o0 o1) (Ai (r50 (g a8.toNat) o2 ([])) (Ai h2 (L59aa.en n g (k_ := k_) (z_ := a8) (.e0 (a8) : L59aa.O) (by simp only [L59aa.N, h1, h2, cond_true, cond_false]) PopOk.same)))))⟩
  | false =>
   try have := IntWalk.i64_in (a8 + 1) (by omega)
   have o3 : (0 : Int) ≤ IntKind.i64.wrap (a8 + (1 : Int)) := by omega
   have o4 : IntKind.i64.wrap (a8 + (1 : Int)) ≤ (↑n : Int) ∨ IntKind.i64.wrap (a8 + (1 : Int)) ≤ (0 : Int) := by omega
   have o5 : ((↑n : Int) - IntKind.i64.wrap (a8 + (1 : Int))).toNat < ((↑n : Int) - a8).toNat := by omega
   exact ⟨[.b true, .ret (AV.bool (r50.v (g a8.toNat))) ([]), .b false], kmp (by kernel_rfl) (Ai h1 (Ai (Ai o0 o1) (Ai (r50 (g a8.toNat) o2 ([])) (Ai h2 (L59aa.nx n g (k_ := k_) (z_ := a8) (IntKind.i64.wrap (a8 + 1)) (Ai o3 o4) o5 (by simp only [L59aa.N, h1, h2, cond_true, cond_false]) PopOk.same)))))⟩
 | false =>
  have h1p := of_decide_eq_false h1
  exact ⟨[.b false], kmp (by kernel_rfl) (Ai h1 (L59aa.en n g (k_ := k_) (z_ := a8) (.e1 : L59aa.O) (by simp only [L59aa.N, h1, cond_true, cond_false]) PopOk.same))⟩
theorem L59aa.e0 (n : Nat) (g : Nat → SD) (hn : n ≤ 9223372036854775807) (hg : ∀ (i : Nat), (g i).nm.size ≤ 9223372036854775807) (a8 : Int) (hinv : L59aa.inv n g a8) (a0 : Int) (hN : L59aa.run n g a8 = (.e0 a0 : L59aa.O)) : LoopTo Try.prog (loopN Try.f59 0) (L59aa.T n g a8) (L59aa.H n g a8) (Exit.ret) (L59aa.X n g (.e0 a0 : L59aa.O)) (L59aa.XH n g (.e0 a0 : L59aa.O)) := by
 have h_ := L59aa.spec n g hn hg ((((↑n : Int) - a8).toNat) + 1) a8 hinv (Nat.lt_succ_self _)
 unfold L59aa.run at hN
 simp only [hN] at h_
 exact h_
theorem L59aa.e1 (n : Nat) (g : Nat → SD) (hn : n ≤ 9223372036854775807) (hg : ∀ (i : Nat), (g i).nm.size ≤ 9223372036854775807) (a8 : Int) (hinv : L59aa.inv n g a8) (hN : L59aa.run n g a8 = (.e1 : L59aa.O)) : LoopTo Try.prog (loopN Try.f59 0) (L59aa.T n g a8) (L59aa.H n g a8) (Exit.exit 0) (L59aa.X n g (.e1 : L59aa.O)) (L59aa.XH n g (.e1 : L59aa.O)) := by
 have h_ := L59aa.spec n g hn hg ((((↑n : Int) - a8).toNat) + 1) a8 hinv (Nat.lt_succ_self _)
 unfold L59aa.run at hN
 simp only [hN] at h_
 exact h_
noncomputable def r59a.v (n : Nat) (g : Nat → SD) : Int := (match L59aa.run n g 0 with | .e0 h1d0 => h1d0 | .e1 => -1 )
theorem r59a (n : Nat) (g : Nat → SD) (hn : n ≤ 9223372036854775807) (hg : ∀ (i : Nat), (g i).nm.size ≤ 9223372036854775807) (h : AHeap) : Ret Try.prog 59 ([sds n g, AV.fn 50 []]) h (iv (r59a.v n g)) h := by
 have o0 : n ≤ (9223372036854775807 : Nat) := by assumption
 have o1 : ∀ (i : Nat), (g i).nm.size ≤ (9223372036854775807 : Nat) := by assumption
 have o2 : (0 : Int) ≤ (↑n : Int) ∨ (0 : Int) ≤ (0 : Int) := by omega
 cases h1 : L59aa.run n g 0 with
 | e0 h1d0 =>
  exact Ret.of_run1 mix [(iv (r59a.v n g))] Try.func59 rfl [.loop (others 19 [0, 1, 7, 8]) (Exit.ret) (L59aa.X n g (L59aa.O.e0 h1d0)) (L59aa.XH n g (L59aa.O.e0 h1d0))] (by simp) (by simp) (kmp (by kernel_rfl) (Ai (L59aa.e0 (n) (g) o0 o1 (0) (Ai (show (0 : Int) ≤ (0 : Int) by decide) o2) h1d0 h1) (Ai (show (iv h1d0) = ((iv (r59a.v n g))) by simp only [r59a.v, h1, cond_true, cond_false]) trivial))) h
 | e1 =>
  exact Ret.of_run1 mix [(iv (r59a.v n g))] Try.func59 rfl [.loop (others 19 [0, 1, 7, 8]) (Exit.exit 0) (L59aa.X n g L59aa.O.e1) (L59aa.XH n g L59aa.O.e1)] (by simp) (by simp) (kmp (by kernel_rfl) (Ai (L59aa.e1 (n) (g) o0 o1 (0) (Ai (show (0 : Int) ≤ (0 : Int) by decide) o2) h1) (Ai (show (iv (-1)) = ((iv (r59a.v n g))) by simp only [r59a.v, h1, cond_true, cond_false]) trivial))) h
noncomputable def r49a.v (n : Nat) (g : Nat → SD) : Bool := decide (r59a.v n g ≥ 0)
theorem r49a (n : Nat) (g : Nat → SD) (hn : n ≤ 9223372036854775807) (hg : ∀ (i : Nat), (g i).nm.size ≤ 9223372036854775807) (h : AHeap) : Ret Try.prog 49 ([sds n g, AV.fn 50 []]) h (AV.bool (r49a.v n g)) h := by
 have o0 : n ≤ (9223372036854775807 : Nat) := by assumption
 have o1 : ∀ (i : Nat), (g i).nm.size ≤ (9223372036854775807 : Nat) := by assumption
 exact Ret.of_run1 mix [(AV.bool (r49a.v n g))] Try.func49 rfl [.ret (iv (r59a.v n g)) ([])] (by simp) (by simp) (kmp (by kernel_rfl) (Ai (r59a (n) (g) o0 o1 ([])) (Ai (show (AV.bool (decide (r59a.v n g ≥ 0))) = ((AV.bool (r49a.v n g))) by simp only [r49a.v, cond_true, cond_false]) trivial))) h
inductive L59ba.O where
 | e0 (a0 : Int)
 | e1
noncomputable def L59ba.T (n : Nat) (g : Nat → SD) (a8 : Int) : List AV := mkT 19 [(0, AV.sl 14 n fun (i : Nat) => AV.agg [AV.str (g i).nm, iv (g i).sx, iv (g i).sy, iv (g i).sz, iv (g i).tl, iv (g i).ax, iv (g i).ay, iv (g i).az, iv (g i).co, iv (g i).bd, AV.str (g i).gr, iv (g i).cl, AV.str (g i).pf, AV.sl 4 (g i).am fun (i_1 : Nat) => AV.agg [iv ((g i).ag i_1).fa, iv ((g i).ag i_1).px, iv ((g i).ag i_1).py, iv ((g i).ag i_1).ed]]), (1, AV.fn 52 []), (7, iv (↑n : Int)), (8, iv a8)]
noncomputable def L59ba.H (n : Nat) (g : Nat → SD) (a8 : Int) : AHeap := []
def L59ba.inv (n : Nat) (g : Nat → SD) (a8 : Int) : Prop := 0 ≤ a8 ∧ (a8 ≤ (↑n : Int) ∨ a8 ≤ 0)
noncomputable def L59ba.mu (n : Nat) (g : Nat → SD) (a8 : Int) : Nat := ((↑n : Int) - a8).toNat
noncomputable def L59ba.E : L59ba.O → Exit
 | .e0 a0 => Exit.ret
 | .e1 => Exit.exit 0
noncomputable def L59ba.X (n : Nat) (g : Nat → SD) : L59ba.O → List AV
 | .e0 a0 => mkT 19 [(4, (iv a0))]
 | .e1 => mkT 19 []
noncomputable def L59ba.XH (n : Nat) (g : Nat → SD) : L59ba.O → AHeap
 | .e0 a0 => ([])
 | .e1 => ([])
noncomputable def L59ba.N (n : Nat) (g : Nat → SD) : Nat → Int → L59ba.O
 | 0, a8 => .e0 a8
 | k_ + 1, a8 => (bif decide (a8 < (↑n : Int)) then (bif r52.v (g a8.toNat) then (.e0 (a8)) else (L59ba.N n g k_ (IntKind.i64.wrap (a8 + 1)))) else (.e1))
noncomputable def L59ba.run (n : Nat) (g : Nat → SD) (a8 : Int) : L59ba.O := L59ba.N n g ((((↑n : Int) - a8).toNat) + 1) a8
theorem L59ba.nx (n : Nat) (g : Nat → SD) {k_ : Nat} {z_ : Int} {h_ : AHeap} (s_ : Int) (h1 : L59ba.inv n g s_) (h2 : L59ba.mu n g s_ < L59ba.mu n g z_) (h3 : L59ba.N n g k_ s_ = L59ba.N n g (k_ + 1) z_) (h4 : PopOk (L59ba.H n g z_) h_ (L59ba.T n g s_) (L59ba.H n g s_)) : LNextP (L59ba.T n g) (L59ba.H n g) (L59ba.inv n g) (L59ba.mu n g) (L59ba.N n g) k_ z_ (L59ba.T n g s_) h_ := LNextP.mk s_ h1 h2 h3 h4
theorem L59ba.en (n : Nat) (g : Nat → SD) {k_ : Nat} {z_ : Int} {h_ : AHeap} (o_ : L59ba.O) (h3 : L59ba.N n g (k_ + 1) z_ = o_) (h4 : PopOk (L59ba.H n g z_) h_ (L59ba.X n g o_) (L59ba.XH n g o_)) : LEndP (L59ba.H n g) (L59ba.N n g) L59ba.E (L59ba.X n g) (L59ba.XH n g) k_ z_ (L59ba.E o_) (L59ba.X n g o_) h_ := LEndP.mk o_ h3 h4
theorem L59ba.spec (n : Nat) (g : Nat → SD) (hn : n ≤ 9223372036854775807) (k_ : Nat) (z_ : Int) (hi_ : L59ba.inv n g z_) (hm_ : L59ba.mu n g z_ < k_) : LoopTo Try.prog (loopN Try.f59 0) (L59ba.T n g z_) (L59ba.H n g z_) (L59ba.E (L59ba.N n g k_ z_)) (L59ba.X n g (L59ba.N n g k_ z_)) (L59ba.XH n g (L59ba.N n g k_ z_)) := by
 refine LoopTo.fuelP mix (L59ba.T n g) (L59ba.H n g) (L59ba.inv n g) (L59ba.mu n g) (L59ba.N n g) L59ba.E (L59ba.X n g) (L59ba.XH n g) (others 19 [0, 1, 7, 8]) (others 19 [4]) (others 19 []) ?_ k_ z_ hi_ hm_
 clear hm_ hi_ z_ k_
 intro k_ z_ hinv hmu
 revert hinv hmu; revert z_; intro a8 hinv hmu
 have hinv : 0 ≤ a8 ∧ (a8 ≤ (↑n : Int) ∨ a8 ≤ 0) := hinv
 have hmu : (((↑n : Int) - a8).toNat) < k_ + 1 := hmu
 cases h1 : decide (a8 < (↑n : Int)) with
 | true =>
  have h1p := of_decide_eq_true h1
  have o0 : (0 : Int) ≤ a8 := by omega
  have o1 : a8 < (↑n : Int) := by assumption
  cases h2 : r52.v (g a8.toNat) with
  | true =>
   exact ⟨[.b true, .ret (AV.bool (r52.v (g a8.toNat))) ([]), .b true], kmp (by kernel_rfl) (Ai h1 (Ai (Ai o0 o1) (Ai (r52 (g a8.toNat) ([])) (Ai h2 (L59ba.en n g (k_ := k_) (z_ := a8) (.e0 (a8) : L59ba.O) (by simp only [L59ba.N, h1, h2, cond_true, cond_false]) PopOk.same)))))⟩
  | false =>
   try have := IntWalk.i64_in (a8 + 1) (by omega)
   have o2 : (0 : Int) ≤ IntKind.i64.wrap (a8 + (1 : Int)) := by omega
   have o3 : IntKind.i64.wrap (a8 + (1 : Int)) ≤ (↑n : Int) ∨ IntKind.i64.wrap (a8 + (1 : Int)) ≤ (0 : Int) := by omega
   have o4 : ((↑n : Int) - IntKind.i64.wrap (a8 + (1 : Int))).toNat < ((↑n : Int) - a8).toNat := by omega
   exact ⟨[.b true, .ret (AV.bool (r52.v (g a8.toNat))) ([]), .b false], kmp (by kernel_rfl) (Ai h1 (Ai (Ai o0 o1) (Ai (r52 (g a8.toNat) ([])) (Ai h2 (L59ba.nx n g (k_ := k_) (z_ := a8) (IntKind.i64.wrap (a8 + 1)) (Ai o2 o3) o4 (by simp only [L59ba.N, h1, h2, cond_true, cond_false]) PopOk.same)))))⟩
 | false =>
  have h1p := of_decide_eq_false h1
  exact ⟨[.b false], kmp (by kernel_rfl) (Ai h1 (L59ba.en n g (k_ := k_) (z_ := a8) (.e1 : L59ba.O) (by simp only [L59ba.N, h1, cond_true, cond_false]) PopOk.same))⟩
theorem L59ba.e0 (n : Nat) (g : Nat → SD) (hn : n ≤ 9223372036854775807) (a8 : Int) (hinv : L59ba.inv n g a8) (a0 : Int) (hN : L59ba.run n g a8 = (.e0 a0 : L59ba.O)) : LoopTo Try.prog (loopN Try.f59 0) (L59ba.T n g a8) (L59ba.H n g a8) (Exit.ret) (L59ba.X n g (.e0 a0 : L59ba.O)) (L59ba.XH n g (.e0 a0 : L59ba.O)) := by
 have h_ := L59ba.spec n g hn ((((↑n : Int) - a8).toNat) + 1) a8 hinv (Nat.lt_succ_self _)
 unfold L59ba.run at hN
 simp only [hN] at h_
 exact h_
theorem L59ba.e1 (n : Nat) (g : Nat → SD) (hn : n ≤ 9223372036854775807) (a8 : Int) (hinv : L59ba.inv n g a8) (hN : L59ba.run n g a8 = (.e1 : L59ba.O)) : LoopTo Try.prog (loopN Try.f59 0) (L59ba.T n g a8) (L59ba.H n g a8) (Exit.exit 0) (L59ba.X n g (.e1 : L59ba.O)) (L59ba.XH n g (.e1 : L59ba.O)) := by
 have h_ := L59ba.spec n g hn ((((↑n : Int) - a8).toNat) + 1) a8 hinv (Nat.lt_succ_self _)
 unfold L59ba.run at hN
 simp only [hN] at h_
 exact h_
noncomputable def r59b.v (n : Nat) (g : Nat → SD) : Int := (match L59ba.run n g 0 with | .e0 h1d0 => h1d0 | .e1 => -1 )
theorem r59b (n : Nat) (g : Nat → SD) (hn : n ≤ 9223372036854775807) (h : AHeap) : Ret Try.prog 59 ([sds n g, AV.fn 52 []]) h (iv (r59b.v n g)) h := by
 have o0 : n ≤ (9223372036854775807 : Nat) := by assumption
 have o1 : (0 : Int) ≤ (↑n : Int) ∨ (0 : Int) ≤ (0 : Int) := by omega
 cases h1 : L59ba.run n g 0 with
 | e0 h1d0 =>
  exact Ret.of_run1 mix [(iv (r59b.v n g))] Try.func59 rfl [.loop (others 19 [0, 1, 7, 8]) (Exit.ret) (L59ba.X n g (L59ba.O.e0 h1d0)) (L59ba.XH n g (L59ba.O.e0 h1d0))] (by simp) (by simp) (kmp (by kernel_rfl) (Ai (L59ba.e0 (n) (g) o0 (0) (Ai (show (0 : Int) ≤ (0 : Int) by decide) o1) h1d0 h1) (Ai (show (iv h1d0) = ((iv (r59b.v n g))) by simp only [r59b.v, h1, cond_true, cond_false]) trivial))) h
 | e1 =>
  exact Ret.of_run1 mix [(iv (r59b.v n g))] Try.func59 rfl [.loop (others 19 [0, 1, 7, 8]) (Exit.exit 0) (L59ba.X n g L59ba.O.e1) (L59ba.XH n g L59ba.O.e1)] (by simp) (by simp) (kmp (by kernel_rfl) (Ai (L59ba.e1 (n) (g) o0 (0) (Ai (show (0 : Int) ≤ (0 : Int) by decide) o1) h1) (Ai (show (iv (-1)) = ((iv (r59b.v n g))) by simp only [r59b.v, h1, cond_true, cond_false]) trivial))) h
noncomputable def r49b.v (n : Nat) (g : Nat → SD) : Bool := decide (r59b.v n g ≥ 0)
theorem r49b (n : Nat) (g : Nat → SD) (hn : n ≤ 9223372036854775807) (h : AHeap) : Ret Try.prog 49 ([sds n g, AV.fn 52 []]) h (AV.bool (r49b.v n g)) h := by
 have o0 : n ≤ (9223372036854775807 : Nat) := by assumption
 exact Ret.of_run1 mix [(AV.bool (r49b.v n g))] Try.func49 rfl [.ret (iv (r59b.v n g)) ([])] (by simp) (by simp) (kmp (by kernel_rfl) (Ai (r59b (n) (g) o0 ([])) (Ai (show (AV.bool (decide (r59b.v n g ≥ 0))) = ((AV.bool (r49b.v n g))) by simp only [r49b.v, cond_true, cond_false]) trivial))) h
noncomputable def r55.v (n : Nat) : Bool := (↑n : Int) == 0
theorem r55 (n : Nat) (g : Nat → SD) (h : AHeap) : Ret Try.prog 55 ([sds n g]) h (AV.bool (r55.v n)) h := by
 exact Ret.of_run1 mix [(AV.bool (r55.v n))] Try.func55 rfl [] (by simp) (by simp) (kmp (by kernel_rfl) (Ai (show (AV.bool ((↑n : Int) == 0)) = ((AV.bool (r55.v n))) by simp only [r55.v, cond_true, cond_false]) trivial)) h
inductive L77a.O where
 | e0 (a0 : Int)
 | e1
noncomputable def L77a.T (N : Nat) (L : Nat → List SD) (a8 : Int) : List AV := mkT 19 [(0, AV.sl 1 N fun (j : Nat) => AV.sl 14 (L j).length fun (q : Nat) => AV.agg [AV.str ((L j).getD q default).nm, iv ((L j).getD q default).sx, iv ((L j).getD q default).sy, iv ((L j).getD q default).sz, iv ((L j).getD q default).tl, iv ((L j).getD q default).ax, iv ((L j).getD q default).ay, iv ((L j).getD q default).az, iv ((L j).getD q default).co, iv ((L j).getD q default).bd, AV.str ((L j).getD q default).gr, iv ((L j).getD q default).cl, AV.str ((L j).getD q default).pf, AV.sl 4 ((L j).getD q default).am fun (i : Nat) => AV.agg [iv (((L j).getD q default).ag i).fa, iv (((L j).getD q default).ag i).px, iv (((L j).getD q default).ag i).py, iv (((L j).getD q default).ag i).ed]]), (1, AV.fn 55 []), (7, iv (↑N : Int)), (8, iv a8)]
noncomputable def L77a.H (N : Nat) (L : Nat → List SD) (a8 : Int) : AHeap := []
def L77a.inv (N : Nat) (L : Nat → List SD) (a8 : Int) : Prop := 0 ≤ a8 ∧ (a8 ≤ (↑N : Int) ∨ a8 ≤ 0)
noncomputable def L77a.mu (N : Nat) (L : Nat → List SD) (a8 : Int) : Nat := ((↑N : Int) - a8).toNat
noncomputable def L77a.E : L77a.O → Exit
 | .e0 a0 => Exit.ret
 | .e1 => Exit.exit 0
noncomputable def L77a.X (N : Nat) (L : Nat → List SD) : L77a.O → List AV
 | .e0 a0 => mkT 19 [(4, (iv a0))]
 | .e1 => mkT 19 []
noncomputable def L77a.XH (N : Nat) (L : Nat → List SD) : L77a.O → AHeap
 | .e0 a0 => ([])
 | .e1 => ([])
noncomputable def L77a.N (N : Nat) (L : Nat → List SD) : Nat → Int → L77a.O
 | 0, a8 => .e0 a8
 | k_ + 1, a8 => (bif decide (a8 < (↑N : Int)) then (bif r55.v (L a8.toNat).length then (.e0 (a8)) else (L77a.N N L k_ (IntKind.i64.wrap (a8 + 1)))) else (.e1))
noncomputable def L77a.run (N : Nat) (L : Nat → List SD) (a8 : Int) : L77a.O := L77a.N N L ((((↑N : Int) - a8).toNat) + 1) a8
theorem L77a.nx (N : Nat) (L : Nat → List SD) {k_ : Nat} {z_ : Int} {h_ : AHeap} (s_ : Int) (h1 : L77a.inv N L s_) (h2 : L77a.mu N L s_ < L77a.mu N L z_) (h3 : L77a.N N L k_ s_ = L77a.N N L (k_ + 1) z_) (h4 : PopOk (L77a.H N L z_) h_ (L77a.T N L s_) (L77a.H N L s_)) : LNextP (L77a.T N L) (L77a.H N L) (L77a.inv N L) (L77a.mu N L) (L77a.N N L) k_ z_ (L77a.T N L s_) h_ := LNextP.mk s_ h1 h2 h3 h4
theorem L77a.en (N : Nat) (L : Nat → List SD) {k_ : Nat} {z_ : Int} {h_ : AHeap} (o_ : L77a.O) (h3 : L77a.N N L (k_ + 1) z_ = o_) (h4 : PopOk (L77a.H N L z_) h_ (L77a.X N L o_) (L77a.XH N L o_)) : LEndP (L77a.H N L) (L77a.N N L) L77a.E (L77a.X N L) (L77a.XH N L) k_ z_ (L77a.E o_) (L77a.X N L o_) h_ := LEndP.mk o_ h3 h4
theorem L77a.spec (N : Nat) (hb : N ≤ 1000) (L : Nat → List SD) (k_ : Nat) (z_ : Int) (hi_ : L77a.inv N L z_) (hm_ : L77a.mu N L z_ < k_) : LoopTo Try.prog (loopN Try.f77 0) (L77a.T N L z_) (L77a.H N L z_) (L77a.E (L77a.N N L k_ z_)) (L77a.X N L (L77a.N N L k_ z_)) (L77a.XH N L (L77a.N N L k_ z_)) := by
 refine LoopTo.fuelP mix (L77a.T N L) (L77a.H N L) (L77a.inv N L) (L77a.mu N L) (L77a.N N L) L77a.E (L77a.X N L) (L77a.XH N L) (others 19 [0, 1, 7, 8]) (others 19 [4]) (others 19 []) ?_ k_ z_ hi_ hm_
 clear hm_ hi_ z_ k_
 intro k_ z_ hinv hmu
 revert hinv hmu; revert z_; intro a8 hinv hmu
 have hinv : 0 ≤ a8 ∧ (a8 ≤ (↑N : Int) ∨ a8 ≤ 0) := hinv
 have hmu : (((↑N : Int) - a8).toNat) < k_ + 1 := hmu
 cases h1 : decide (a8 < (↑N : Int)) with
 | true =>
  have h1p := of_decide_eq_true h1
  have o0 : (0 : Int) ≤ a8 := by omega
  have o1 : a8 < (↑N : Int) := by assumption
  cases h2 : r55.v (L a8.toNat).length with
  | true =>
   exact ⟨[.b true, .ret (AV.bool (r55.v (L a8.toNat).length)) ([]), .b true], kmp (by kernel_rfl) (Ai h1 (Ai (Ai o0 o1) (Ai (r55 ((L a8.toNat).length) (fun (i : Nat) => (L a8.toNat).getD i default) ([])) (Ai h2 (L77a.en N L (k_ := k_) (z_ := a8) (.e0 (a8) : L77a.O) (by simp only [L77a.N, h1, h2, cond_true, cond_false]) PopOk.same)))))⟩
  | false =>
   try have := IntWalk.i64_in (a8 + 1) (by omega)
   have o2 : (0 : Int) ≤ IntKind.i64.wrap (a8 + (1 : Int)) := by omega
   have o3 : IntKind.i64.wrap (a8 + (1 : Int)) ≤ (↑N : Int) ∨ IntKind.i64.wrap (a8 + (1 : Int)) ≤ (0 : Int) := by omega
   have o4 : ((↑N : Int) - IntKind.i64.wrap (a8 + (1 : Int))).toNat < ((↑N : Int) - a8).toNat := by omega
   exact ⟨[.b true, .ret (AV.bool (r55.v (L a8.toNat).length)) ([]), .b false], kmp (by kernel_rfl) (Ai h1 (Ai (Ai o0 o1) (Ai (r55 ((L a8.toNat).length) (fun (i : Nat) => (L a8.toNat).getD i default) ([])) (Ai h2 (L77a.nx N L (k_ := k_) (z_ := a8) (IntKind.i64.wrap (a8 + 1)) (Ai o2 o3) o4 (by simp only [L77a.N, h1, h2, cond_true, cond_false]) PopOk.same)))))⟩
 | false =>
  have h1p := of_decide_eq_false h1
  exact ⟨[.b false], kmp (by kernel_rfl) (Ai h1 (L77a.en N L (k_ := k_) (z_ := a8) (.e1 : L77a.O) (by simp only [L77a.N, h1, cond_true, cond_false]) PopOk.same))⟩
theorem L77a.e0 (N : Nat) (hb : N ≤ 1000) (L : Nat → List SD) (a8 : Int) (hinv : L77a.inv N L a8) (a0 : Int) (hN : L77a.run N L a8 = (.e0 a0 : L77a.O)) : LoopTo Try.prog (loopN Try.f77 0) (L77a.T N L a8) (L77a.H N L a8) (Exit.ret) (L77a.X N L (.e0 a0 : L77a.O)) (L77a.XH N L (.e0 a0 : L77a.O)) := by
 have h_ := L77a.spec N hb L ((((↑N : Int) - a8).toNat) + 1) a8 hinv (Nat.lt_succ_self _)
 unfold L77a.run at hN
 simp only [hN] at h_
 exact h_
theorem L77a.e1 (N : Nat) (hb : N ≤ 1000) (L : Nat → List SD) (a8 : Int) (hinv : L77a.inv N L a8) (hN : L77a.run N L a8 = (.e1 : L77a.O)) : LoopTo Try.prog (loopN Try.f77 0) (L77a.T N L a8) (L77a.H N L a8) (Exit.exit 0) (L77a.X N L (.e1 : L77a.O)) (L77a.XH N L (.e1 : L77a.O)) := by
 have h_ := L77a.spec N hb L ((((↑N : Int) - a8).toNat) + 1) a8 hinv (Nat.lt_succ_self _)
 unfold L77a.run at hN
 simp only [hN] at h_
 exact h_
noncomputable def r77.v (N : Nat) (L : Nat → List SD) : Int := (match L77a.run N L 0 with | .e0 h1d0 => h1d0 | .e1 => -1 )
theorem r77 (N : Nat) (hb : N ≤ 1000) (L : Nat → List SD) (h : AHeap) : Ret Try.prog 77 ([nsts N L, AV.fn 55 []]) h (iv (r77.v N L)) h := by
 have o0 : N ≤ (1000 : Nat) := by assumption
 have o1 : (0 : Int) ≤ (↑N : Int) ∨ (0 : Int) ≤ (0 : Int) := by omega
 cases h1 : L77a.run N L 0 with
 | e0 h1d0 =>
  exact Ret.of_run1 mix [(iv (r77.v N L))] Try.func77 rfl [.loop (others 19 [0, 1, 7, 8]) (Exit.ret) (L77a.X N L (L77a.O.e0 h1d0)) (L77a.XH N L (L77a.O.e0 h1d0))] (by simp) (by simp) (kmp (by kernel_rfl) (Ai (L77a.e0 (N) o0 (L) (0) (Ai (show (0 : Int) ≤ (0 : Int) by decide) o1) h1d0 h1) (Ai (show (iv h1d0) = ((iv (r77.v N L))) by simp only [r77.v, h1, cond_true, cond_false]) trivial))) h
 | e1 =>
  exact Ret.of_run1 mix [(iv (r77.v N L))] Try.func77 rfl [.loop (others 19 [0, 1, 7, 8]) (Exit.exit 0) (L77a.X N L L77a.O.e1) (L77a.XH N L L77a.O.e1)] (by simp) (by simp) (kmp (by kernel_rfl) (Ai (L77a.e1 (N) o0 (L) (0) (Ai (show (0 : Int) ≤ (0 : Int) by decide) o1) h1) (Ai (show (iv (-1)) = ((iv (r77.v N L))) by simp only [r77.v, h1, cond_true, cond_false]) trivial))) h
noncomputable def r54.v (N : Nat) (L : Nat → List SD) : Bool := decide (r77.v N L ≥ 0)
theorem r54 (N : Nat) (hb : N ≤ 1000) (L : Nat → List SD) (h : AHeap) : Ret Try.prog 54 ([nsts N L, AV.fn 55 []]) h (AV.bool (r54.v N L)) h := by
 have o0 : N ≤ (1000 : Nat) := by assumption
 exact Ret.of_run1 mix [(AV.bool (r54.v N L))] Try.func54 rfl [.ret (iv (r77.v N L)) ([])] (by simp) (by simp) (kmp (by kernel_rfl) (Ai (r77 (N) o0 (L) ([])) (Ai (show (AV.bool (decide (r77.v N L ≥ 0))) = ((AV.bool (r54.v N L))) by simp only [r54.v, cond_true, cond_false]) trivial))) h
end Go.Proofs.Ytjdbmmilcihpoaa
open Go
namespace Go.Proofs.Ytjdbmmilcihpoaa
set_option linter.unusedSimpArgs false
set_option linter.unusedVariables false
set_option maxHeartbeats 0
set_option maxRecDepth 100000
/-- Stones as plain data. -/
def sl14 (L : List SD) : AV := .sl 14 L.length fun q => (L.getD q default).av
@[simp] theorem low_sl14 (lo : Nat) (L : List SD) : Low lo (sl14 L) = True := by unfold sl14; simp
noncomputable def r43.v (w : WD) (n : Int) : Bool := r37.v n w.jl w.jh
theorem r43 (w : WD) (n : Int) (h : AHeap) : Ret Try.prog 43 ([w.av, iv n]) h (AV.bool (r43.v w n)) h := by
 exact Ret.of_run1 mix [(AV.bool (r43.v w n))] Try.func43 rfl [.ret (AV.bool (r37.v n w.jl w.jh)) ([AObj.var (WD.av w)])] (by simp) (by simp) (kmp (by kernel_rfl) (Ai (r37 (n) (w.jl) (w.jh) ([AObj.var (WD.av w)])) (Ai (show (AV.bool (r37.v n w.jl w.jh)) = ((AV.bool (r43.v w n))) by simp only [r43.v, cond_true, cond_false]) trivial))) h
inductive L41a.O where
 | e0 (a0 : Int)
noncomputable def L41a.T (w : WD) (a3 : Int) (a4 : Int) : List AV := mkT 21 [(1, AV.ptr 0 1 6 0 0), (3, iv a3), (4, iv a4)]
noncomputable def L41a.H (w : WD) (a3 : Int) (a4 : Int) : AHeap := [AObj.var w.av]
def L41a.inv (w : WD) (a3 : Int) (a4 : Int) : Prop := 0 ≤ a4 ∧ a4 ≤ (↑w.n : Int)
noncomputable def L41a.mu (w : WD) (a3 : Int) (a4 : Int) : Nat := ((↑w.n : Int) - a4).toNat
noncomputable def L41a.E : L41a.O → Exit
 | .e0 a0 => Exit.exit 0
noncomputable def L41a.X (w : WD) : L41a.O → List AV
 | .e0 a0 => mkT 21 [(3, (iv a0))]
noncomputable def L41a.XH (w : WD) : L41a.O → AHeap
 | .e0 a0 => ([AObj.var (WD.av w)])
noncomputable def L41a.N (w : WD) : Nat → Int → Int → L41a.O
 | 0, a3, _ => .e0 a3
 | k_ + 1, a3, a4 => (bif decide (a4 < (↑w.n : Int)) then (L41a.N w k_ (if (w.g a4.toNat).co > a3 then (w.g a4.toNat).co else a3) (IntKind.i64.wrap (a4 + 1))) else (.e0 (a3)))
noncomputable def L41a.run (w : WD) (a3 : Int) (a4 : Int) : L41a.O := L41a.N w ((((↑w.n : Int) - a4).toNat) + 1) a3 a4
theorem L41a.nx (w : WD) {k_ : Nat} {z_ : Int × Int} {h_ : AHeap} (s_ : Int × Int) (h1 : L41a.inv w s_.1 s_.2) (h2 : L41a.mu w s_.1 s_.2 < L41a.mu w z_.1 z_.2) (h3 : L41a.N w k_ s_.1 s_.2 = L41a.N w (k_ + 1) z_.1 z_.2) (h4 : PopOk (L41a.H w z_.1 z_.2) h_ (L41a.T w s_.1 s_.2) (L41a.H w s_.1 s_.2)) : LNextP (fun (z_ : Int × Int) => L41a.T w z_.1 z_.2) (fun (z_ : Int × Int) => L41a.H w z_.1 z_.2) (fun (z_ : Int × Int) => L41a.inv w z_.1 z_.2) (fun (z_ : Int × Int) => L41a.mu w z_.1 z_.2) (fun (k_ : Nat) (z_ : Int × Int) => L41a.N w k_ z_.1 z_.2) k_ z_ (L41a.T w s_.1 s_.2) h_ := LNextP.mk s_ h1 h2 h3 h4
theorem L41a.en (w : WD) {k_ : Nat} {z_ : Int × Int} {h_ : AHeap} (o_ : L41a.O) (h3 : L41a.N w (k_ + 1) z_.1 z_.2 = o_) (h4 : PopOk (L41a.H w z_.1 z_.2) h_ (L41a.X w o_) (L41a.XH w o_)) : LEndP (fun (z_ : Int × Int) => L41a.H w z_.1 z_.2) (fun (k_ : Nat) (z_ : Int × Int) => L41a.N w k_ z_.1 z_.2) L41a.E (L41a.X w) (L41a.XH w) k_ z_ (L41a.E o_) (L41a.X w o_) h_ := LEndP.mk o_ h3 h4
theorem L41a.spec (w : WD) (hn : w.n ≤ 10000) (k_ : Nat) (z_ : Int × Int) (hi_ : L41a.inv w z_.1 z_.2) (hm_ : L41a.mu w z_.1 z_.2 < k_) : LoopTo Try.prog (loopN Try.f41 0) (L41a.T w z_.1 z_.2) (L41a.H w z_.1 z_.2) (L41a.E (L41a.N w k_ z_.1 z_.2)) (L41a.X w (L41a.N w k_ z_.1 z_.2)) (L41a.XH w (L41a.N w k_ z_.1 z_.2)) := by
 refine LoopTo.fuelP mix (fun (z_ : Int × Int) => L41a.T w z_.1 z_.2) (fun (z_ : Int × Int) => L41a.H w z_.1 z_.2) (fun (z_ : Int × Int) => L41a.inv w z_.1 z_.2) (fun (z_ : Int × Int) => L41a.mu w z_.1 z_.2) (fun (k_ : Nat) (z_ : Int × Int) => L41a.N w k_ z_.1 z_.2) L41a.E (L41a.X w) (L41a.XH w) (others 21 [1, 3, 4]) (others 21 [2]) (others 21 [3]) ?_ k_ z_ hi_ hm_
 clear hm_ hi_ z_ k_
 intro k_ z_ hinv hmu
 obtain ⟨a3, a4⟩ := z_
 have hinv : 0 ≤ a4 ∧ a4 ≤ (↑w.n : Int) := hinv
 have hmu : (((↑w.n : Int) - a4).toNat) < k_ + 1 := hmu
 cases h1 : decide (a4 < (↑w.n : Int)) with
 | true =>
  have h1p := of_decide_eq_true h1
  have o0 : (0 : Int) ≤ a4 := by omega
  have o1 : a4 < (↑w.n : Int) := by assumption
  try have := IntWalk.i64_in (a4 + 1) (by omega)
  have o2 : (0 : Int) ≤ IntKind.i64.wrap (a4 + (1 : Int)) := by omega
  have o3 : IntKind.i64.wrap (a4 + (1 : Int)) ≤ (↑w.n : Int) := by omega
  have o4 : ((↑w.n : Int) - IntKind.i64.wrap (a4 + (1 : Int))).toNat < ((↑w.n : Int) - a4).toNat := by omega
  exact ⟨[.b true], kmp (by kernel_rfl) (Ai h1 (Ai (Ai o0 o1) (L41a.nx w (k_ := k_) (z_ := (a3, a4)) ((if (w.g a4.toNat).co > a3 then (w.g a4.toNat).co else a3, IntKind.i64.wrap (a4 + 1))) (Ai o2 o3) o4 (by simp only [L41a.N, h1, cond_true, cond_false]) PopOk.same)))⟩
 | false =>
  have h1p := of_decide_eq_false h1
  exact ⟨[.b false], kmp (by kernel_rfl) (Ai h1 (L41a.en w (k_ := k_) (z_ := (a3, a4)) (.e0 (a3) : L41a.O) (by simp only [L41a.N, h1, cond_true, cond_false]) PopOk.same))⟩
theorem L41a.e0 (w : WD) (hn : w.n ≤ 10000) (a3 : Int) (a4 : Int) (hinv : L41a.inv w a3 a4) (a0 : Int) (hN : L41a.run w a3 a4 = (.e0 a0 : L41a.O)) : LoopTo Try.prog (loopN Try.f41 0) (L41a.T w a3 a4) (L41a.H w a3 a4) (Exit.exit 0) (L41a.X w (.e0 a0 : L41a.O)) (L41a.XH w (.e0 a0 : L41a.O)) := by
 have h_ := L41a.spec w hn ((((↑w.n : Int) - a4).toNat) + 1) (a3, a4) hinv (Nat.lt_succ_self _)
 unfold L41a.run at hN
 simp only [hN] at h_
 exact h_
noncomputable def r41.v (w : WD) : Int := (match L41a.run w (-1) 0 with | .e0 h1d0 => h1d0 )
theorem r41 (w : WD) (hn : w.n ≤ 10000) (h : AHeap) : Ret Try.prog 41 ([w.av]) h (iv (r41.v w)) h := by
 have o0 : w.n ≤ (10000 : Nat) := by assumption
 have o1 : (0 : Int) ≤ (↑w.n : Int) := by omega
 cases h1 : L41a.run w (-1) 0 with
 | e0 h1d0 =>
  exact Ret.of_run1 mix [(iv (r41.v w))] Try.func41 rfl [.loop (others 21 [1, 3, 4]) (Exit.exit 0) (L41a.X w (L41a.O.e0 h1d0)) (L41a.XH w (L41a.O.e0 h1d0))] (by simp) (by simp) (kmp (by kernel_rfl) (Ai (L41a.e0 (w) o0 (-1) (0) (Ai (show (0 : Int) ≤ (0 : Int) by decide) o1) h1d0 h1) (Ai (show (iv h1d0) = ((iv (r41.v w))) by simp only [r41.v, h1, cond_true, cond_false]) trivial))) h
inductive L42b.O where
 | e0 (a0 : Int)
noncomputable def L42b.T (w : WD) (s : SD) (L : List SD) (c : Int) (i : Int) (k : Int) : List AV := mkT 57 [(1, iv c), (2, AV.ptr 0 1 6 0 0), (5, sl14 L), (6, iv i), (7, AV.ptr 1 1 14 0 0), (8, iv k)]
noncomputable def L42b.H (w : WD) (s : SD) (L : List SD) (c : Int) (i : Int) (k : Int) : AHeap := [AObj.var w.av, AObj.var s.av]
def L42b.inv (w : WD) (s : SD) (L : List SD) (c : Int) (i : Int) (k : Int) : Prop := 0 ≤ k ∧ k ≤ (↑L.length : Int)
noncomputable def L42b.mu (w : WD) (s : SD) (L : List SD) (c : Int) (i : Int) (k : Int) : Nat := ((↑L.length : Int) - k).toNat
noncomputable def L42b.E : L42b.O → Exit
 | .e0 a0 => Exit.exit 2
noncomputable def L42b.X (w : WD) (s : SD) (L : List SD) (c : Int) (i : Int) : L42b.O → List AV
 | .e0 a0 => mkT 57 [(1, (iv c)), (2, (AV.ptr 0 1 6 0 0)), (5, (AV.sl 14 L.length fun (q : Nat) => (SD.av (L.getD q default)))), (6, (iv i)), (7, (AV.ptr 1 1 14 0 0)), (8, (iv a0))]
noncomputable def L42b.XH (w : WD) (s : SD) (L : List SD) (c : Int) (i : Int) : L42b.O → AHeap
 | .e0 a0 => ([AObj.var (WD.av w), AObj.var (SD.av s)])
noncomputable def L42b.N (s : SD) (L : List SD) : Nat → Int → L42b.O
 | 0, k => .e0 k
 | k_ + 1, k => (bif decide (k < (↑L.length : Int)) then (bif decide ((L.getD k.toNat default).ax ≤ s.ax) then (L42b.N s L k_ (IntKind.i64.wrap (k + 1))) else (.e0 (k))) else (.e0 (k)))
noncomputable def L42b.run (s : SD) (L : List SD) (k : Int) : L42b.O := L42b.N s L ((((↑L.length : Int) - k).toNat) + 1) k
theorem L42b.nx (w : WD) (s : SD) (L : List SD) (c : Int) (i : Int) {k_ : Nat} {z_ : Int} {h_ : AHeap} (s_ : Int) (h1 : L42b.inv w s L c i s_) (h2 : L42b.mu w s L c i s_ < L42b.mu w s L c i z_) (h3 : L42b.N s L k_ s_ = L42b.N s L (k_ + 1) z_) (h4 : PopOk (L42b.H w s L c i z_) h_ (L42b.T w s L c i s_) (L42b.H w s L c i s_)) : LNextP (L42b.T w s L c i) (L42b.H w s L c i) (L42b.inv w s L c i) (L42b.mu w s L c i) (L42b.N s L) k_ z_ (L42b.T w s L c i s_) h_ := LNextP.mk s_ h1 h2 h3 h4
theorem L42b.en (w : WD) (s : SD) (L : List SD) (c : Int) (i : Int) {k_ : Nat} {z_ : Int} {h_ : AHeap} (o_ : L42b.O) (h3 : L42b.N s L (k_ + 1) z_ = o_) (h4 : PopOk (L42b.H w s L c i z_) h_ (L42b.X w s L c i o_) (L42b.XH w s L c i o_)) : LEndP (L42b.H w s L c i) (L42b.N s L) L42b.E (L42b.X w s L c i) (L42b.XH w s L c i) k_ z_ (L42b.E o_) (L42b.X w s L c i o_) h_ := LEndP.mk o_ h3 h4
theorem L42b.spec (w : WD) (s : SD) (L : List SD) (hl : L.length ≤ 10000) (c : Int) (i : Int) (k_ : Nat) (z_ : Int) (hi_ : L42b.inv w s L c i z_) (hm_ : L42b.mu w s L c i z_ < k_) : LoopTo Try.prog (loopN Try.f42 1) (L42b.T w s L c i z_) (L42b.H w s L c i z_) (L42b.E (L42b.N s L k_ z_)) (L42b.X w s L c i (L42b.N s L k_ z_)) (L42b.XH w s L c i (L42b.N s L k_ z_)) := by
 refine LoopTo.fuelP mix (L42b.T w s L c i) (L42b.H w s L c i) (L42b.inv w s L c i) (L42b.mu w s L c i) (L42b.N s L) L42b.E (L42b.X w s L c i) (L42b.XH w s L c i) (others 57 [1, 2, 5, 6, 7, 8]) (others 57 [4]) (others 57 [1, 2, 5, 6, 7, 8]) ?_ k_ z_ hi_ hm_
 clear hm_ hi_ z_ k_
 intro k_ z_ hinv hmu
 revert hinv hmu; revert z_; intro k hinv hmu
 have hinv : 0 ≤ k ∧ k ≤ (↑L.length : Int) := hinv
 have hmu : (((↑L.length : Int) - k).toNat) < k_ + 1 := hmu
 cases h1 : decide (k < (↑L.length : Int)) with
 | true =>
  have h1p := of_decide_eq_true h1
  have o0 : (0 : Int) ≤ k := by omega
  have o1 : k < (↑L.length : Int) := by assumption
  cases h2 : decide ((L.getD k.toNat default).ax ≤ s.ax) with
  | true =>
   have h2p := of_decide_eq_true h2
   try have := IntWalk.i64_in (k + 1) (by omega)
   have o2 : (0 : Int) ≤ IntKind.i64.wrap (k + (1 : Int)) := by omega
   have o3 : IntKind.i64.wrap (k + (1 : Int)) ≤ (↑L.length : Int) := by omega
   have o4 : ((↑L.length : Int) - IntKind.i64.wrap (k + (1 : Int))).toNat < ((↑L.length : Int) - k).toNat := by omega
   exact ⟨[.b true, .b true, .b true, .b true, .b true, .b true, .b true, .b true, .b true, .b true, .b true, .b true], kmp (by kernel_rfl) (Ai h1 (Ai h1 (Ai h1 (Ai (Ai o0 o1) (Ai h1 (Ai h1 (Ai h1 (Ai h1 (Ai h1 (Ai h1 (Ai h1 (Ai h1 (Ai h2 (L42b.nx w s L c i (k_ := k_) (z_ := k) (IntKind.i64.wrap (k + 1)) (Ai o2 o3) o4 (by simp only [L42b.N, h1, h2, cond_true, cond_false]) PopOk.same))))))))))))))⟩
  | false =>
   have h2p := of_decide_eq_false h2
   exact ⟨[.b true, .b true, .b true, .b true, .b true, .b true, .b true, .b true, .b true, .b true, .b true, .b false], kmp (by kernel_rfl) (Ai h1 (Ai h1 (Ai h1 (Ai (Ai o0 o1) (Ai h1 (Ai h1 (Ai h1 (Ai h1 (Ai h1 (Ai h1 (Ai h1 (Ai h1 (Ai h2 (L42b.en w s L c i (k_ := k_) (z_ := k) (.e0 (k) : L42b.O) (by simp only [L42b.N, h1, h2, cond_true, cond_false]) PopOk.same))))))))))))))⟩
 | false =>
  have h1p := of_decide_eq_false h1
  exact ⟨[.b false, .b false, .b false, .b false, .b false, .b false, .b false, .b false, .b false, .b false, .b false, .b false], kmp (by kernel_rfl) (Ai h1 (Ai h1 (Ai h1 (Ai h1 (Ai h1 (Ai h1 (Ai h1 (Ai h1 (Ai h1 (Ai h1 (Ai h1 (Ai (rfl : false = false) (L42b.en w s L c i (k_ := k_) (z_ := k) (.e0 (k) : L42b.O) (by simp only [L42b.N, h1, cond_true, cond_false]) PopOk.same)))))))))))))⟩
theorem L42b.e0 (w : WD) (s : SD) (L : List SD) (hl : L.length ≤ 10000) (c : Int) (i : Int) (k : Int) (hinv : L42b.inv w s L c i k) (a0 : Int) (hN : L42b.run s L k = (.e0 a0 : L42b.O)) : LoopTo Try.prog (loopN Try.f42 1) (L42b.T w s L c i k) (L42b.H w s L c i k) (Exit.exit 2) (L42b.X w s L c i (.e0 a0 : L42b.O)) (L42b.XH w s L c i (.e0 a0 : L42b.O)) := by
 have h_ := L42b.spec w s L hl c i ((((↑L.length : Int) - k).toNat) + 1) k hinv (Nat.lt_succ_self _)
 unfold L42b.run at hN
 simp only [hN] at h_
 exact h_
end Go.Proofs.Ytjdbmmilcihpoaa
open Go
namespace Go.Proofs.Ytjdbmmilcihpoaa
set_option maxHeartbeats 0
set_option maxRecDepth 100000
set_option linter.unusedVariables false
set_option linter.unusedSimpArgs false
noncomputable def T42 (c i : Int) (L : List SD) : List AV := mkT 57 [(1, AV.int .i64 c), (2, AV.ptr 0 1 6 0 0), (5, sl14 L), (6, AV.int .i64 i)]
noncomputable def X42 (c i : Int) (x : AV) : List AV := mkT 57 [(1, AV.int .i64 c), (2, AV.ptr 0 1 6 0 0), (5, x), (6, AV.int .i64 i)]
abbrev fL (L : List SD) (q : Nat) : AV := (L.getD q default).av
abbrev gS (s : SD) : Nat → AV := (Col.ofList [s.av]).get
def M42 (K : Exit → List AV → AHeap → Prop) : Exit → List AV → AHeap → List Dec → Prop := fun e T h _ => K e (mask (others 57 [1, 2, 5, 6]) T) h
noncomputable abbrev K42 (w : WD) (s : SD) (L : List SD) (c i : Int) (k : Nat) : Dec := .loop (others 57 [1, 2, 6, 5, 7, 8]) (.exit 2) (L42b.X w s L c i (.e0 (k : Int))) [AObj.var w.av, AObj.var s.av]
section
variable (w : WD) (c i : Int) (L : List SD) (k : Nat) (K : Exit → List AV → AHeap → Prop)
theorem e42_0 : run Try.prog (loopN Try.f42 0) (T42 c i L) [AObj.var w.av] [.b false] (M42 K) = (decide (i < (w.n : Int)) = false ∧ K (.exit 0) (X42 c i (sl14 L)) [AObj.var w.av]) := by kernel_rfl
theorem e42_1 : run Try.prog (loopN Try.f42 0) (T42 c i L) [AObj.var w.av] [.b true, .b true] (M42 K) = (decide (i < (w.n : Int)) = true ∧ (0 ≤ i ∧ i < (w.n : Int)) ∧ ((w.g i.toNat).co != c) = true ∧ K .normal (X42 c (IntKind.i64.wrap (i + 1)) (sl14 L)) [AObj.var w.av, AObj.var (w.g i.toNat).av]) := by kernel_rfl
theorem e42_a : run Try.prog (loopN Try.f42 0) (T42 c i L) [AObj.var w.av] [.b true, .b false, K42 w (w.g i.toNat) L c i k, .app .none false, .app .one false, .app .none false] (M42 K) = (decide (i < (w.n : Int)) = true ∧ (0 ≤ i ∧ i < (w.n : Int)) ∧ ((w.g i.toNat).co != c) = false ∧ LoopTo Try.prog (loopN Try.f42 1) (L42b.T w (w.g i.toNat) L c i 0) (L42b.H w (w.g i.toNat) L c i 0) (.exit 2) (L42b.X w (w.g i.toNat) L c i (.e0 (k : Int))) [AObj.var w.av, AObj.var (w.g i.toNat).av] ∧ (0 ≤ (k : Int) ∧ (k : Int) ≤ (L.length : Int)) ∧ k - 0 = 0 ∧ (14 = 14 ∧ AppMode.one.needs 1 (gS (w.g i.toNat)) ∧ 1 * 152 ≤ 140737488355328) ∧ (0 ≤ (k : Int) ∧ (k : Int) ≤ (L.length : Int)) ∧ L.length - k = 0 ∧ K .normal (X42 c (IntKind.i64.wrap (i + 1)) (.ms 2 1 14 0 1)) [AObj.var w.av, AObj.var (w.g i.toNat).av, .row 14 1 (Col.first .one 1 (gS (w.g i.toNat)))]) := by kernel_rfl
theorem e42_b : run Try.prog (loopN Try.f42 0) (T42 c i L) [AObj.var w.av] [.b true, .b false, K42 w (w.g i.toNat) L c i k, .app .none false, .app .one false, .app .many false] (M42 K) = (decide (i < (w.n : Int)) = true ∧ (0 ≤ i ∧ i < (w.n : Int)) ∧ ((w.g i.toNat).co != c) = false ∧ LoopTo Try.prog (loopN Try.f42 1) (L42b.T w (w.g i.toNat) L c i 0) (L42b.H w (w.g i.toNat) L c i 0) (.exit 2) (L42b.X w (w.g i.toNat) L c i (.e0 (k : Int))) [AObj.var w.av, AObj.var (w.g i.toNat).av] ∧ (0 ≤ (k : Int) ∧ (k : Int) ≤ (L.length : Int)) ∧ k - 0 = 0 ∧ (14 = 14 ∧ AppMode.one.needs 1 (gS (w.g i.toNat)) ∧ 1 * 152 ≤ 140737488355328) ∧ (0 ≤ (k : Int) ∧ (k : Int) ≤ (L.length : Int)) ∧ (14 = 14 ∧ AppMode.many.needs (L.length - k) (fun j => fL L (k + j)) ∧ (1 + (L.length - k)) * 152 ≤ 140737488355328 ∧ 1 = 1 ∧ 0 = 0 ∧ 1 = (Col.first .one 1 (gS (w.g i.toNat))).len) ∧ K .normal (X42 c (IntKind.i64.wrap (i + 1)) (.ms 2 (1 + (L.length - k)) 14 0 ((Col.first .one 1 (gS (w.g i.toNat))).join .many (L.length - k) (fun j => fL L (k + j))).len)) [AObj.var w.av, AObj.var (w.g i.toNat).av, .row 14 (1 + (L.length - k)) ((Col.first .one 1 (gS (w.g i.toNat))).join .many (L.length - k) (fun j => fL L (k + j)))]) := by kernel_rfl
theorem e42_c : run Try.prog (loopN Try.f42 0) (T42 c i L) [AObj.var w.av] [.b true, .b false, K42 w (w.g i.toNat) L c i k, .app .many false, .app .one false, .app .none false] (M42 K) = (decide (i < (w.n : Int)) = true ∧ (0 ≤ i ∧ i < (w.n : Int)) ∧ ((w.g i.toNat).co != c) = false ∧ LoopTo Try.prog (loopN Try.f42 1) (L42b.T w (w.g i.toNat) L c i 0) (L42b.H w (w.g i.toNat) L c i 0) (.exit 2) (L42b.X w (w.g i.toNat) L c i (.e0 (k : Int))) [AObj.var w.av, AObj.var (w.g i.toNat).av] ∧ (0 ≤ (k : Int) ∧ (k : Int) ≤ (L.length : Int)) ∧ (14 = 14 ∧ AppMode.many.needs (k - 0) (fun j => fL L (0 + j)) ∧ (k - 0) * 152 ≤ 140737488355328) ∧ (14 = 14 ∧ AppMode.one.needs 1 (gS (w.g i.toNat)) ∧ ((k - 0) + 1) * 152 ≤ 140737488355328 ∧ k - 0 = k - 0 ∧ 0 = 0 ∧ k - 0 = (Col.first .many (k - 0) (fun j => fL L (0 + j))).len) ∧ (0 ≤ (k : Int) ∧ (k : Int) ≤ (L.length : Int)) ∧ L.length - k = 0 ∧ K .normal (X42 c (IntKind.i64.wrap (i + 1)) (.ms 2 ((k - 0) + 1) 14 0 ((Col.first .many (k - 0) (fun j => fL L (0 + j))).join .one 1 (gS (w.g i.toNat))).len)) [AObj.var w.av, AObj.var (w.g i.toNat).av, .row 14 ((k - 0) + 1) ((Col.first .many (k - 0) (fun j => fL L (0 + j))).join .one 1 (gS (w.g i.toNat)))]) := by kernel_rfl
theorem e42_d : run Try.prog (loopN Try.f42 0) (T42 c i L) [AObj.var w.av] [.b true, .b false, K42 w (w.g i.toNat) L c i k, .app .many false, .app .one false, .app .many false] (M42 K) = (decide (i < (w.n : Int)) = true ∧ (0 ≤ i ∧ i < (w.n : Int)) ∧ ((w.g i.toNat).co != c) = false ∧ LoopTo Try.prog (loopN Try.f42 1) (L42b.T w (w.g i.toNat) L c i 0) (L42b.H w (w.g i.toNat) L c i 0) (.exit 2) (L42b.X w (w.g i.toNat) L c i (.e0 (k : Int))) [AObj.var w.av, AObj.var (w.g i.toNat).av] ∧ (0 ≤ (k : Int) ∧ (k : Int) ≤ (L.length : Int)) ∧ (14 = 14 ∧ AppMode.many.needs (k - 0) (fun j => fL L (0 + j)) ∧ (k - 0) * 152 ≤ 140737488355328) ∧ (14 = 14 ∧ AppMode.one.needs 1 (gS (w.g i.toNat)) ∧ ((k - 0) + 1) * 152 ≤ 140737488355328 ∧ k - 0 = k - 0 ∧ 0 = 0 ∧ k - 0 = (Col.first .many (k - 0) (fun j => fL L (0 + j))).len) ∧ (0 ≤ (k : Int) ∧ (k : Int) ≤ (L.length : Int)) ∧ (14 = 14 ∧ AppMode.many.needs (L.length - k) (fun j => fL L (k + j)) ∧ (((Col.first .many (k - 0) (fun j => fL L (0 + j))).join .one 1 (gS (w.g i.toNat))).len + (L.length - k)) * 152 ≤ 140737488355328 ∧ ((k - 0) + 1) = ((k - 0) + 1) ∧ 0 = 0 ∧ ((Col.first .many (k - 0) (fun j => fL L (0 + j))).join .one 1 (gS (w.g i.toNat))).len = ((Col.first .many (k - 0) (fun j => fL L (0 + j))).join .one 1 (gS (w.g i.toNat))).len) ∧ K .normal (X42 c (IntKind.i64.wrap (i + 1)) (.ms 2 (((k - 0) + 1) + (L.length - k)) 14 0 (((Col.first .many (k - 0) (fun j => fL L (0 + j))).join .one 1 (gS (w.g i.toNat))).join .many (L.length - k) (fun j => fL L (k + j))).len)) [AObj.var w.av, AObj.var (w.g i.toNat).av, .row 14 (((k - 0) + 1) + (L.length - k)) (((Col.first .many (k - 0) (fun j => fL L (0 + j))).join .one 1 (gS (w.g i.toNat))).join .many (L.length - k) (fun j => fL L (k + j)))]) := by kernel_rfl
end
end Go.Proofs.Ytjdbmmilcihpoaa
open Go
namespace Go.Proofs.Ytjdbmmilcihpoaa
set_option maxHeartbeats 0
set_option maxRecDepth 100000
set_option linter.unusedVariables false
set_option linter.unusedSimpArgs false
/-- Where a stone comes in its course. -/
def kR (s : SD) (L : List SD) : Nat := (L.takeWhile fun t => decide (t.ax ≤ s.ax)).length
def insR (L : List SD) (s : SD) : List SD := L.take (kR s L) ++ [s] ++ L.drop (kR s L)
def corR (g : Nat → SD) (c : Int) : Nat → List SD
 | 0 => []
 | i + 1 => if (g i).co = c then insR (corR g c i) (g i) else corR g c i
theorem kR_le (s : SD) (L : List SD) : kR s L ≤ L.length := (List.takeWhile_sublist _).length_le
theorem insR_len (s : SD) (L : List SD) : (insR L s).length = L.length + 1 := by
 have := kR_le s L
 unfold insR
 simp only [List.length_append, List.length_take, List.length_drop, List.length_singleton]
 omega
theorem corR_len (g : Nat → SD) (c : Int) : ∀ i, (corR g c i).length ≤ i := by
 intro i
 induction i with
 | zero => exact Nat.le_refl _
 | succ i ih =>
  unfold corR
  split
  · rw [insR_len]; omega
  · omega
theorem kR_N (s : SD) (L : List SD) (hl : L.length ≤ 10000) : ∀ (m k : Nat), k ≤ L.length → L.length - k < m → L42b.N s L m (k : Int) = .e0 ((k + ((L.drop k).takeWhile fun t => decide (t.ax ≤ s.ax)).length : Nat) : Int) := by
 intro m
 induction m with
 | zero => intro k _ h; omega
 | succ m ih =>
  intro k hk hm
  simp only [L42b.N, Int.toNat_natCast]
  by_cases h : k < L.length
  · rw [decide_eq_true (show (k : Int) < (L.length : Int) by omega), cond_true, List.drop_eq_getElem_cons h, List.takeWhile_cons]
    simp only [getD_lt h]
    by_cases q : (L[k]).ax ≤ s.ax
    · rw [decide_eq_true q, cond_true, if_pos rfl, show IntKind.i64.wrap ((k : Int) + 1) = ((k + 1 : Nat) : Int) by rw [IntWalk.i64_in _ (by omega)]; omega, ih (k + 1) (by omega) (by omega), List.length_cons]
      congr 2; omega
    · rw [decide_eq_false q, cond_false, if_neg (by simp)]; rfl
  · rw [decide_eq_false (show ¬ (k : Int) < (L.length : Int) by omega), cond_false, List.drop_eq_nil_of_le (by omega)]
    rfl
theorem kR_run (s : SD) (L : List SD) (hl : L.length ≤ 10000) : L42b.run s L 0 = .e0 ((kR s L : Nat) : Int) := by
 have := kR_N s L hl (((L.length : Int) - ((0 : Nat) : Int)).toNat + 1) 0 (Nat.zero_le _) (by omega)
 unfold L42b.run kR
 simpa using this
theorem cells_sd (s : SD) : ∀ x ∈ s.av.cells, Low 1 x := by
 have h : Low 1 s.av := by simp
 intro x hx
 cases h with
 | agg _ h => exact h x hx
section
variable {w : WD} {c : Int} {L : List SD} {i : Nat}
theorem pop42 {L' : List SD} {x : AV} {s : SD} {v : Nat} {col : Col} (hp : Pur [AObj.var w.av, AObj.var s.av, .row 14 v col] 1 x (sl14 L')) (j : Int) :
 ExitTo [AObj.var w.av] [AObj.var w.av, AObj.var s.av, .row 14 v col] (.tup (X42 c j x)) (.tup (T42 c j L')) [AObj.var w.av] :=
 .pop (pur_mkT (.same (.int _ _) (.same (.ptr _ _ _ _ _ (Nat.lt_succ_self 0)) (.new hp (.same (.int _ _) trivial))))) rfl rfl fun id o ho => .inl ho
theorem one42 (s : SD) : IsCol SD.av (Col.first .one 1 (gS s)) [s] := .first rfl ⟨rfl, rfl⟩ fun j hj => by
 have e : j = 0 := by omega
 subst e; rfl
theorem fin42 {L' : List SD} {s : SD} {v len : Nat} {col : Col} {K : Exit → List AV → AHeap → Prop} {T1 : List AV} {h1 : AHeap} {ks : List Nat}
 (hc : IsCol SD.av col L') (hlen : len = L'.length) (hT : T1 = X42 c (i + 1 : Nat) (.ms 2 v 14 0 len)) (hh : h1 = [AObj.var w.av, AObj.var s.av, .row 14 v col]) :
 ExitTo [AObj.var w.av] h1 (.tup T1) (.tup (T42 c (i + 1 : Nat) L')) [AObj.var w.av] := by
 subst hT; subst hh
 exact pop42 (pur_col hc hlen rfl (by decide) (fun s => rfl) cells_sd) _
abbrev G42 (E : Exit) (T : List AV) (h : AHeap) : Exit → List AV → AHeap → Prop := fun e T' h' => e = E ∧ T' = T ∧ h' = h
theorem round42 (hn : w.n ≤ 10000) (hi : i < w.n) (hl : L.length ≤ i) :
 To Try.prog (loopN Try.f42 0) (T42 c i L) [AObj.var w.av] (G42 .normal (T42 c (i + 1 : Nat) (if (w.g i).co = c then insR L (w.g i) else L)) [AObj.var w.av]) := by
 have hw : IntKind.i64.wrap ((i : Int) + 1) = ((i + 1 : Nat) : Int) := by rw [IntWalk.i64_in _ (by omega)]; omega
 have hd : decide ((i : Int) < (w.n : Int)) = true := decide_eq_true (by omega)
 have hin : 0 ≤ (i : Int) ∧ (i : Int) < (w.n : Int) := by omega
 by_cases hc : (w.g i).co = c
 · rw [if_pos hc]
   have hl1 : L.length ≤ 10000 := by omega
   have hk := kR_le (w.g i) L
   have hco : ((w.g (i : Int).toNat).co != c) = false := by rw [Int.toNat_natCast, hc]; simp
   have lp : LoopTo Try.prog (loopN Try.f42 1) (L42b.T w (w.g (i : Int).toNat) L c i 0) (L42b.H w (w.g (i : Int).toNat) L c i 0) (.exit 2) (L42b.X w (w.g (i : Int).toNat) L c i (.e0 ((kR (w.g i) L : Nat) : Int))) [AObj.var w.av, AObj.var (w.g (i : Int).toNat).av] :=
    L42b.e0 w (w.g (i : Int).toNat) L hl1 c i 0 ⟨Int.le_refl _, by omega⟩ _ (by rw [Int.toNat_natCast]; exact kR_run _ _ hl1)
   have hr : 0 ≤ ((kR (w.g i) L : Nat) : Int) ∧ ((kR (w.g i) L : Nat) : Int) ≤ (L.length : Int) := by omega
   have eg : w.g (i : Int).toNat = w.g i := by rw [Int.toNat_natCast]
   have fin : ∀ {ds : List Dec} {v len : Nat} {col : Col} {T1 : List AV} {h1 : AHeap},
    run Try.prog (loopN Try.f42 0) (T42 c i L) [AObj.var w.av] ds (M42 (G42 .normal (X42 c (IntKind.i64.wrap ((i : Int) + 1)) (.ms 2 v 14 0 len)) [AObj.var w.av, AObj.var (w.g (i : Int).toNat).av, .row 14 v col])) →
    IsCol SD.av col (insR L (w.g i)) → len = (insR L (w.g i)).length → To Try.prog (loopN Try.f42 0) (T42 c i L) [AObj.var w.av] (G42 .normal (T42 c (i + 1 : Nat) (insR L (w.g i))) [AObj.var w.av]) := by
    intro ds v len col T1 h1 hrun hcol hlen
    refine (To.ofRun mix hrun).popF fun e T1 h1 ⟨ds', he, hT, hh⟩ => ?_
    subst he
    exact ⟨_, _, _, leT_mask (others 57 [1, 2, 5, 6]) T1, ⟨rfl, rfl, rfl⟩, fin42 (s := w.g (i : Int).toNat) (K := fun _ _ _ => True) (ks := []) hcol hlen (by rw [hT, hw]) hh⟩
   have one := one42 (w.g i)
   have sub : L.length - kR (w.g i) L = (L.drop (kR (w.g i) L)).length := by rw [List.length_drop]
   have fL2 : ∀ j, fL L (kR (w.g i) L + j) = ((L.drop (kR (w.g i) L)).getD j default).av := fun j => by rw [getD_drop]
   have tk : IsCol SD.av (Col.first .many (kR (w.g i) L - 0) (fun j => fL L (0 + j))) (L.take (kR (w.g i) L)) := .first (by rw [List.length_take]; omega) (fun _ _ => rfl) fun j hj => by
    rw [getD_take (by omega), Nat.zero_add]
   by_cases h0 : kR (w.g i) L = 0
   · by_cases h1 : L.length - kR (w.g i) L = 0
     · have hL : L = [] := List.eq_nil_of_length_eq_zero (by omega)
       have hins : insR L (w.g i) = [w.g i] := by unfold insR; rw [hL]; simp
       refine fin (T1 := []) (h1 := []) ((e42_a w c i L (kR (w.g i) L) _).mpr ⟨hd, hin, hco, lp, hr, by omega, ⟨rfl, ⟨rfl, rfl⟩, by omega⟩, hr, h1, rfl, rfl, rfl⟩) ?_ ?_
       · rw [hins, eg]; exact one
       · rw [hins]; rfl
     · have hins : insR L (w.g i) = [w.g i] ++ L.drop (kR (w.g i) L) := by unfold insR; rw [h0]; simp
       have hcol : IsCol SD.av ((Col.first .one 1 (gS (w.g i))).join .many (L.length - kR (w.g i) L) (fun j => fL L (kR (w.g i) L + j))) (insR L (w.g i)) := by
        rw [hins]; exact one.join sub (fun _ _ => rfl) fun j _ => fL2 j
       refine fin (T1 := []) (h1 := []) ((e42_b w c i L (kR (w.g i) L) _).mpr ⟨hd, hin, hco, lp, hr, by omega, ⟨rfl, ⟨rfl, rfl⟩, by omega⟩, hr, ⟨rfl, fun _ _ => rfl, by omega, rfl, rfl, by rw [eg, one.len]; rfl⟩, rfl, rfl, rfl⟩) ?_ ?_
       · rw [eg]; exact hcol
       · rw [eg, hcol.len]
   · have hcol2 : IsCol SD.av ((Col.first .many (kR (w.g i) L - 0) (fun j => fL L (0 + j))).join .one 1 (gS (w.g i))) (L.take (kR (w.g i) L) ++ [w.g i]) := tk.join rfl ⟨rfl, rfl⟩ fun j hj => by
      have e : j = 0 := by omega
      subst e; rfl
     by_cases h1 : L.length - kR (w.g i) L = 0
     · have hins : insR L (w.g i) = L.take (kR (w.g i) L) ++ [w.g i] := by unfold insR; rw [List.drop_eq_nil_of_le (by omega), List.append_nil]
       refine fin (T1 := []) (h1 := []) ((e42_c w c i L (kR (w.g i) L) _).mpr ⟨hd, hin, hco, lp, hr, ⟨rfl, fun _ _ => rfl, by omega⟩, ⟨rfl, ⟨rfl, rfl⟩, by omega, rfl, rfl, rfl⟩, hr, h1, rfl, rfl, rfl⟩) ?_ ?_
       · rw [hins, eg]; exact hcol2
       · rw [hins, eg, hcol2.len]
     · have hcol : IsCol SD.av (((Col.first .many (kR (w.g i) L - 0) (fun j => fL L (0 + j))).join .one 1 (gS (w.g i))).join .many (L.length - kR (w.g i) L) (fun j => fL L (kR (w.g i) L + j))) (insR L (w.g i)) := by
        unfold insR; exact hcol2.join sub (fun _ _ => rfl) fun j _ => fL2 j
       have l2 : ((Col.first .many (kR (w.g i) L - 0) (fun j => fL L (0 + j))).join .one 1 (gS (w.g (i : Int).toNat))).len + (L.length - kR (w.g i) L) = L.length + 1 := by
        rw [eg, hcol2.len]; simp only [List.length_append, List.length_take, List.length_singleton]; omega
       refine fin (T1 := []) (h1 := []) ((e42_d w c i L (kR (w.g i) L) _).mpr ⟨hd, hin, hco, lp, hr, ⟨rfl, fun _ _ => rfl, by omega⟩, ⟨rfl, ⟨rfl, rfl⟩, by omega, rfl, rfl, rfl⟩, hr, ⟨rfl, fun _ _ => rfl, by rw [l2]; omega, rfl, rfl, rfl⟩, rfl, rfl, rfl⟩) ?_ ?_
       · rw [eg]; exact hcol
       · rw [eg, hcol.len]
 · rw [if_neg hc]
   have hco : ((w.g (i : Int).toNat).co != c) = true := by rw [Int.toNat_natCast]; simpa using hc
   refine (To.ofRun mix ((e42_1 w c i L (G42 .normal (X42 c (IntKind.i64.wrap ((i : Int) + 1)) (sl14 L)) [AObj.var w.av, AObj.var (w.g (i : Int).toNat).av])).mpr ⟨hd, hin, hco, rfl, rfl, rfl⟩)).popF fun e T1 h1 ⟨ds', he, hT, hh⟩ => ?_
   subst he
   rw [hw] at hT
   refine ⟨_, _, _, leT_mask (others 57 [1, 2, 5, 6]) T1, ⟨rfl, rfl, rfl⟩, ?_⟩
   rw [hT, hh]
   exact .pop (.low _ (.tup _ (low_mkTg _ _ _ fun e he => by
    simp only [List.mem_cons, List.not_mem_nil, or_false] at he
    rcases he with rfl | rfl | rfl | rfl
    · exact .int _ _
    · exact .ptr _ _ _ _ _ (Nat.lt_succ_self 0)
    · simp
    · exact .int _ _))) rfl rfl fun id o ho => .inl ho
end
theorem loop42 (w : WD) (c : Int) (hn : w.n ≤ 10000) : LoopTo Try.prog (loopN Try.f42 0) (T42 c 0 []) [AObj.var w.av] (.exit 0) (X42 c (w.n : Int) (sl14 (corR w.g c w.n))) [AObj.var w.av] := by
 refine (To.loop (fun r T h => ∃ i, i ≤ w.n ∧ r = w.n - i ∧ T = T42 c i (corR w.g c i) ∧ h = [AObj.var w.av]) (fun r T h ⟨i, hi, hr, hT, hh⟩ => ?_) (n := w.n) ⟨0, Nat.zero_le _, rfl, rfl, rfl⟩).wpc
 subst hT; subst hh
 by_cases hlt : i < w.n
 · refine (round42 (c := c) hn hlt (corR_len w.g c i)).mono fun e T h ⟨he, hT, hh⟩ => ?_
   subst he
   exact ⟨w.n - (i + 1), by omega, i + 1, by omega, rfl, hT, hh⟩
 · refine (To.ofRun mix ((e42_0 w c i (corR w.g c i) (G42 (.exit 0) (X42 c i (sl14 (corR w.g c i))) [AObj.var w.av])).mpr ⟨decide_eq_false (by omega), rfl, rfl, rfl⟩)).popF fun e T1 h1 ⟨ds', he, hT, hh⟩ => ?_
   subst he
   obtain rfl : i = w.n := by omega
   exact ⟨_, _, _, leT_mask (others 57 [1, 2, 5, 6]) T1, ⟨rfl, hT, hh⟩, .keep rfl rfl⟩
end Go.Proofs.Ytjdbmmilcihpoaa
open Go
namespace Go.Proofs.Ytjdbmmilcihpoaa
set_option maxHeartbeats 0
set_option maxRecDepth 100000
set_option linter.unusedVariables false
set_option linter.unusedSimpArgs false
theorem imp_snil14 : Imp .snil (sl14 []) := fun m Mut w v h => by cases h with | snil a => exact .sl0 _ _ _ _
theorem loop42s (w : WD) (c : Int) (hn : w.n ≤ 10000) : LoopTo Try.prog (loopN Try.f42 0) (X42 c 0 .snil) [AObj.var w.av] (.exit 0) (X42 c (w.n : Int) (sl14 (corR w.g c w.n))) [AObj.var w.av] :=
 WPC.impT (T' := T42 c 0 []) (imp_mkT rfl (.cons (.refl _) (.cons (.refl _) (.cons imp_snil14 (.cons (.refl _) .nil))))) (loop42 w c hn)
theorem r42 (w : WD) (c : Int) (hn : w.n ≤ 10000) (h : AHeap) : Ret Try.prog 42 [w.av, AV.int .i64 c] h (sl14 (corR w.g c w.n)) h :=
 Ret.of_run1 mix [sl14 (corR w.g c w.n)] (c := bodyOf Try.f42) Try.func42 rfl [.loop (others 57 [1, 2, 5, 6]) (.exit 0) (X42 c (w.n : Int) (sl14 (corR w.g c w.n))) [AObj.var w.av]] (by simp) (by simp)
  (kmp (by kernel_rfl) (Ai (loop42s w c hn) (Ai (rfl : sl14 (corR w.g c w.n) = sl14 (corR w.g c w.n)) trivial))) h
end Go.Proofs.Ytjdbmmilcihpoaa
open Go
namespace Go.Proofs.Ytjdbmmilcihpoaa
set_option linter.unusedSimpArgs false
set_option linter.unusedVariables false
set_option maxHeartbeats 0
set_option maxRecDepth 100000
inductive L40a.O where
 | e0
 | e1
noncomputable def L40a.T (w : WD) (a3 : Int) : List AV := mkT 108 [(1, AV.ptr 0 1 6 0 0), (3, iv a3)]
noncomputable def L40a.H (w : WD) (a3 : Int) : AHeap := [AObj.var (WD.av w)]
def L40a.inv (w : WD) (a3 : Int) : Prop := 0 ≤ a3 ∧ (a3 ≤ (↑w.n : Int) ∨ a3 ≤ 0)
noncomputable def L40a.mu (w : WD) (a3 : Int) : Nat := ((↑w.n : Int) - a3).toNat
noncomputable def L40a.E : L40a.O → Exit
 | .e0 => Exit.ret
 | .e1 => Exit.exit 0
noncomputable def L40a.X (w : WD) : L40a.O → List AV
 | .e0 => mkT 108 [(2, (iv 6))]
 | .e1 => mkT 108 [(1, (AV.ptr 0 1 6 0 0))]
noncomputable def L40a.XH (w : WD) : L40a.O → AHeap
 | .e0 => ([AObj.var (WD.av w)])
 | .e1 => ([AObj.var (WD.av w)])
noncomputable def L40a.N (w : WD) : Nat → Int → L40a.O
 | 0, _ => .e0
 | k_ + 1, a3 => (bif decide (a3 < (↑w.n : Int)) then (bif r37.v (w.g a3.toNat).sx 1 1000000 then (bif r37.v (w.g a3.toNat).sz 1 1000000 then (bif r37.v (w.g a3.toNat).ax 0 1000000 then (bif r37.v (w.g a3.toNat).az 0 1000000 then (bif r37.v (w.g a3.toNat).tl 0 100 then (bif r37.v (w.g a3.toNat).co 0 99 then (L40a.N w k_ (IntKind.i64.wrap (a3 + 1))) else (.e0)) else (.e0)) else (.e0)) else (.e0)) else (.e0)) else (.e0)) else (.e1))
noncomputable def L40a.run (w : WD) (a3 : Int) : L40a.O := L40a.N w ((((↑w.n : Int) - a3).toNat) + 1) a3
theorem L40a.nx (w : WD) {k_ : Nat} {z_ : Int} {h_ : AHeap} (s_ : Int) (h1 : L40a.inv w s_) (h2 : L40a.mu w s_ < L40a.mu w z_) (h3 : L40a.N w k_ s_ = L40a.N w (k_ + 1) z_) (h4 : PopOk (L40a.H w z_) h_ (L40a.T w s_) (L40a.H w s_)) : LNextP (L40a.T w) (L40a.H w) (L40a.inv w) (L40a.mu w) (L40a.N w) k_ z_ (L40a.T w s_) h_ := LNextP.mk s_ h1 h2 h3 h4
theorem L40a.en (w : WD) {k_ : Nat} {z_ : Int} {h_ : AHeap} (o_ : L40a.O) (h3 : L40a.N w (k_ + 1) z_ = o_) (h4 : PopOk (L40a.H w z_) h_ (L40a.X w o_) (L40a.XH w o_)) : LEndP (L40a.H w) (L40a.N w) L40a.E (L40a.X w) (L40a.XH w) k_ z_ (L40a.E o_) (L40a.X w o_) h_ := LEndP.mk o_ h3 h4
noncomputable abbrev L40a.h0 (w : WD) (a3 : Int) : AHeap := ([AObj.var (WD.av w), AObj.var ((SD.av (w.g a3.toNat)))])
theorem L40a.spec (w : WD) (hn : w.n ≤ 10000) (k0_1 : r37.v w.len 1 1000000 = true) (k0_2 : r37.v w.lap 0 1000000 = true) (k0_3 : r37.v w.jl 0 1000 = true) (k0_4 : r37.v w.jh 0 1000 = true) (k_ : Nat) (z_ : Int) (hi_ : L40a.inv w z_) (hm_ : L40a.mu w z_ < k_) : LoopTo Try.prog (loopN Try.f40 0) (L40a.T w z_) (L40a.H w z_) (L40a.E (L40a.N w k_ z_)) (L40a.X w (L40a.N w k_ z_)) (L40a.XH w (L40a.N w k_ z_)) := by
 refine LoopTo.fuelP mix (L40a.T w) (L40a.H w) (L40a.inv w) (L40a.mu w) (L40a.N w) L40a.E (L40a.X w) (L40a.XH w) (others 108 [1, 3]) (others 108 [2]) (others 108 [1]) ?_ k_ z_ hi_ hm_
 clear hm_ hi_ z_ k_
 intro k_ z_ hinv hmu
 revert hinv hmu; revert z_; intro a3 hinv hmu
 have hinv : 0 ≤ a3 ∧ (a3 ≤ (↑w.n : Int) ∨ a3 ≤ 0) := hinv
 have hmu : (((↑w.n : Int) - a3).toNat) < k_ + 1 := hmu
 cases h1 : decide (a3 < (↑w.n : Int)) with
 | true =>
  have h1p := of_decide_eq_true h1
  have o0 : (0 : Int) ≤ a3 := by omega
  have o1 : a3 < (↑w.n : Int) := by assumption
  cases h2 : r37.v (w.g a3.toNat).sx 1 1000000 with
  | true =>
   cases h3 : r37.v (w.g a3.toNat).sz 1 1000000 with
   | true =>
    cases h4 : r37.v (w.g a3.toNat).ax 0 1000000 with
    | true =>
     cases h5 : r37.v (w.g a3.toNat).az 0 1000000 with
     | true =>
      cases h6 : r37.v (w.g a3.toNat).tl 0 100 with
      | true =>
       cases h7 : r37.v (w.g a3.toNat).co 0 99 with
       | true =>
        try have := IntWalk.i64_in (a3 + 1) (by omega)
        have o2 : (0 : Int) ≤ IntKind.i64.wrap (a3 + (1 : Int)) := by omega
        have o3 : IntKind.i64.wrap (a3 + (1 : Int)) ≤ (↑w.n : Int) ∨ IntKind.i64.wrap (a3 + (1 : Int)) ≤ (0 : Int) := by omega
        have o4 : ((↑w.n : Int) - IntKind.i64.wrap (a3 + (1 : Int))).toNat < ((↑w.n : Int) - a3).toNat := by omega
        exact ⟨[.b true, .ret (AV.bool (r37.v (w.g a3.toNat).sx 1 1000000)) (L40a.h0 w a3), .b false, .b false, .b false, .b false, .ret (AV.bool (r37.v (w.g a3.toNat).sz 1 1000000)) (L40a.h0 w a3), .b false, .b false, .b false, .b false, .b false, .b false, .ret (AV.bool (r37.v (w.g a3.toNat).ax 0 1000000)) (L40a.h0 w a3), .b false, .b false, .b false, .b false, .b false, .b false, .ret (AV.bool (r37.v (w.g a3.toNat).az 0 1000000)) (L40a.h0 w a3), .b false, .b false, .b false, .b false, .b false, .ret (AV.bool (r37.v (w.g a3.toNat).tl 0 100)) (L40a.h0 w a3), .b false, .b false, .b false, .b false, .b false, .ret (AV.bool (r37.v (w.g a3.toNat).co 0 99)) (L40a.h0 w a3), .b false, .b false, .b false], kmp (by kernel_rfl) (Ai h1 (Ai (Ai o0 o1) (Ai (r37 ((w.g a3.toNat).sx) (1) (1000000) (L40a.h0 w a3)) (Ai (show (bnot (r37.v (w.g a3.toNat).sx 1 1000000)) = false by rw [h2]; try rfl) (Ai (show (bnot (r37.v (w.g a3.toNat).sx 1 1000000)) = false by rw [h2]; try rfl) (Ai (show (bnot (r37.v (w.g a3.toNat).sx 1 1000000)) = false by rw [h2]; try rfl) (Ai (show (bnot (r37.v (w.g a3.toNat).sx 1 1000000)) = false by rw [h2]; try rfl) (Ai (r37 ((w.g a3.toNat).sz) (1) (1000000) (L40a.h0 w a3)) (Ai (show (bnot (r37.v (w.g a3.toNat).sx 1 1000000)) = false by rw [h2]; try rfl) (Ai (show (bnot (r37.v (w.g a3.toNat).sx 1 1000000)) = false by rw [h2]; try rfl) (Ai (show (bnot (r37.v (w.g a3.toNat).sz 1 1000000)) = false by rw [h3]; try rfl) (Ai (show (bnot (r37.v (w.g a3.toNat).sz 1 1000000)) = false by rw [h3]; try rfl) (Ai (show (bnot (r37.v (w.g a3.toNat).sz 1 1000000)) = false by rw [h3]; try rfl) (Ai (show (bnot (r37.v (w.g a3.toNat).sz 1 1000000)) = false by rw [h3]; try rfl) (Ai (r37 ((w.g a3.toNat).ax) (0) (1000000) (L40a.h0 w a3)) (Ai (show (bnot (r37.v (w.g a3.toNat).sz 1 1000000)) = false by rw [h3]; try rfl) (Ai (show (bnot (r37.v (w.g a3.toNat).sz 1 1000000)) = false by rw [h3]; try rfl) (Ai (show (bnot (r37.v (w.g a3.toNat).ax 0 1000000)) = false by rw [h4]; try rfl) (Ai (show (bnot (r37.v (w.g a3.toNat).ax 0 1000000)) = false by rw [h4]; try rfl) (Ai (show (bnot (r37.v (w.g a3.toNat).ax 0 1000000)) = false by rw [h4]; try rfl) (Ai (show (bnot (r37.v (w.g a3.toNat).ax 0 1000000)) = false by rw [h4]; try rfl) (Ai (r37 ((w.g a3.toNat).az) (0) (1000000) (L40a.h0 w a3)) (Ai (show (bnot (r37.v (w.g a3.toNat).ax 0 1000000)) = false by rw [h4]; try rfl) (Ai (show (bnot (r37.v (w.g a3.toNat).ax 0 1000000)) = false by rw [h4]; try rfl) (Ai (show (bnot (r37.v (w.g a3.toNat).az 0 1000000)) = false by rw [h5]; try rfl) (Ai (show (bnot (r37.v (w.g a3.toNat).az 0 1000000)) = false by rw [h5]; try rfl) (Ai (show (bnot (r37.v (w.g a3.toNat).az 0 1000000)) = false by rw [h5]; try rfl) (Ai (r37 ((w.g a3.toNat).tl) (0) (100) (L40a.h0 w a3)) (Ai (show (bnot (r37.v (w.g a3.toNat).az 0 1000000)) = false by rw [h5]; try rfl) (Ai (show (bnot (r37.v (w.g a3.toNat).az 0 1000000)) = false by rw [h5]; try rfl) (Ai (show (bnot (r37.v (w.g a3.toNat).tl 0 100)) = false by rw [h6]; try rfl) (Ai (show (bnot (r37.v (w.g a3.toNat).tl 0 100)) = false by rw [h6]; try rfl) (Ai (show (bnot (r37.v (w.g a3.toNat).tl 0 100)) = false by rw [h6]; try rfl) (Ai (r37 ((w.g a3.toNat).co) (0) (99) (L40a.h0 w a3)) (Ai (show (bnot (r37.v (w.g a3.toNat).tl 0 100)) = false by rw [h6]; try rfl) (Ai (show (bnot (r37.v (w.g a3.toNat).tl 0 100)) = false by rw [h6]; try rfl) (Ai (show (bnot (r37.v (w.g a3.toNat).co 0 99)) = false by rw [h7]; try rfl) (L40a.nx w (k_ := k_) (z_ := a3) (h_ := [AObj.var (WD.av w), AObj.var ((SD.av (w.g a3.toNat)))]) (IntKind.i64.wrap (a3 + 1)) (Ai o2 o3) o4 (by simp only [L40a.N, h1, h2, h3, h4, h5, h6, h7, cond_true, cond_false]) (PopOk.pop rfl (by simp [L40a.T, L40a.X, L40a.H, L40a.XH]))))))))))))))))))))))))))))))))))))))))⟩
       | false =>
        exact ⟨[.b true, .ret (AV.bool (r37.v (w.g a3.toNat).sx 1 1000000)) (L40a.h0 w a3), .b false, .b false, .b false, .b false, .ret (AV.bool (r37.v (w.g a3.toNat).sz 1 1000000)) (L40a.h0 w a3), .b false, .b false, .b false, .b false, .b false, .b false, .ret (AV.bool (r37.v (w.g a3.toNat).ax 0 1000000)) (L40a.h0 w a3), .b false, .b false, .b false, .b false, .b false, .b false, .ret (AV.bool (r37.v (w.g a3.toNat).az 0 1000000)) (L40a.h0 w a3), .b false, .b false, .b false, .b false, .b false, .ret (AV.bool (r37.v (w.g a3.toNat).tl 0 100)) (L40a.h0 w a3), .b false, .b false, .b false, .b false, .b false, .ret (AV.bool (r37.v (w.g a3.toNat).co 0 99)) (L40a.h0 w a3), .b false, .b false, .b true], kmp (by kernel_rfl) (Ai h1 (Ai (Ai o0 o1) (Ai (r37 ((w.g a3.toNat).sx) (1) (1000000) (L40a.h0 w a3)) (Ai (show (bnot (r37.v (w.g a3.toNat).sx 1 1000000)) = false by rw [h2]; try rfl) (Ai (show (bnot (r37.v (w.g a3.toNat).sx 1 1000000)) = false by rw [h2]; try rfl) (Ai (show (bnot (r37.v (w.g a3.toNat).sx 1 1000000)) = false by rw [h2]; try rfl) (Ai (show (bnot (r37.v (w.g a3.toNat).sx 1 1000000)) = false by rw [h2]; try rfl) (Ai (r37 ((w.g a3.toNat).sz) (1) (1000000) (L40a.h0 w a3)) (Ai (show (bnot (r37.v (w.g a3.toNat).sx 1 1000000)) = false by rw [h2]; try rfl) (Ai (show (bnot (r37.v (w.g a3.toNat).sx 1 1000000)) = false by rw [h2]; try rfl) (Ai (show (bnot (r37.v (w.g a3.toNat).sz 1 1000000)) = false by rw [h3]; try rfl) (Ai (show (bnot (r37.v (w.g a3.toNat).sz 1 1000000)) = false by rw [h3]; try rfl) (Ai (show (bnot (r37.v (w.g a3.toNat).sz 1 1000000)) = false by rw [h3]; try rfl) (Ai (show (bnot (r37.v (w.g a3.toNat).sz 1 1000000)) = false by rw [h3]; try rfl) (Ai (r37 ((w.g a3.toNat).ax) (0) (1000000) (L40a.h0 w a3)) (Ai (show (bnot (r37.v (w.g a3.toNat).sz 1 1000000)) = false by rw [h3]; try rfl) (Ai (show (bnot (r37.v (w.g a3.toNat).sz 1 1000000)) = false by rw [h3]; try rfl) (Ai (show (bnot (r37.v (w.g a3.toNat).ax 0 1000000)) = false by rw [h4]; try rfl) (Ai (show (bnot (r37.v (w.g a3.toNat).ax 0 1000000)) = false by rw [h4]; try rfl) (Ai (show (bnot (r37.v (w.g a3.toNat).ax 0 1000000)) = false by rw [h4]; try rfl) (Ai (show (bnot (r37.v (w.g a3.toNat).ax 0 1000000)) = false by rw [h4]; try rfl) (Ai (r37 ((w.g a3.toNat).az) (0) (1000000) (L40a.h0 w a3)) (Ai (show (bnot (r37.v (w.g a3.toNat).ax 0 1000000)) = false by rw [h4]; try rfl) (Ai (show (bnot (r37.v (w.g a3.toNat).ax 0 1000000)) = false by rw [h4]; try rfl) (Ai (show (bnot (r37.v (w.g a3.toNat).az 0 1000000)) = false by rw [h5]; try rfl) (Ai (show (bnot (r37.v (w.g a3.toNat).az 0 1000000)) = false by rw [h5]; try rfl) (Ai (show (bnot (r37.v (w.g a3.toNat).az 0 1000000)) = false by rw [h5]; try rfl) (Ai (r37 ((w.g a3.toNat).tl) (0) (100) (L40a.h0 w a3)) (Ai (show (bnot (r37.v (w.g a3.toNat).az 0 1000000)) = false by rw [h5]; try rfl) (Ai (show (bnot (r37.v (w.g a3.toNat).az 0 1000000)) = false by rw [h5]; try rfl) (Ai (show (bnot (r37.v (w.g a3.toNat).tl 0 100)) = false by rw [h6]; try rfl) (Ai (show (bnot (r37.v (w.g a3.toNat).tl 0 100)) = false by rw [h6]; try rfl) (Ai (show (bnot (r37.v (w.g a3.toNat).tl 0 100)) = false by rw [h6]; try rfl) (Ai (r37 ((w.g a3.toNat).co) (0) (99) (L40a.h0 w a3)) (Ai (show (bnot (r37.v (w.g a3.toNat).tl 0 100)) = false by rw [h6]; try rfl) (Ai (show (bnot (r37.v (w.g a3.toNat).tl 0 100)) = false by rw [h6]; try rfl) (Ai (show (bnot (r37.v (w.g a3.toNat).co 0 99)) = true by rw [h7]; try rfl) (L40a.en w (k_ := k_) (z_ := a3) (h_ := [AObj.var (WD.av w), AObj.var ((SD.av (w.g a3.toNat)))]) (.e0 : L40a.O) (by simp only [L40a.N, h1, h2, h3, h4, h5, h6, h7, cond_true, cond_false]) (PopOk.pop rfl (by simp [L40a.T, L40a.X, L40a.H, L40a.XH]))))))))))))))))))))))))))))))))))))))))⟩
      | false =>
       exact ⟨[.b true, .ret (AV.bool (r37.v (w.g a3.toNat).sx 1 1000000)) (L40a.h0 w a3), .b false, .b false, .b false, .b false, .ret (AV.bool (r37.v (w.g a3.toNat).sz 1 1000000)) (L40a.h0 w a3), .b false, .b false, .b false, .b false, .b false, .b false, .ret (AV.bool (r37.v (w.g a3.toNat).ax 0 1000000)) (L40a.h0 w a3), .b false, .b false, .b false, .b false, .b false, .b false, .ret (AV.bool (r37.v (w.g a3.toNat).az 0 1000000)) (L40a.h0 w a3), .b false, .b false, .b false, .b false, .b false, .ret (AV.bool (r37.v (w.g a3.toNat).tl 0 100)) (L40a.h0 w a3), .b false, .b false, .b true, .b true, .b true, .b true, .b true, .b true], kmp (by kernel_rfl) (Ai h1 (Ai (Ai o0 o1) (Ai (r37 ((w.g a3.toNat).sx) (1) (1000000) (L40a.h0 w a3)) (Ai (show (bnot (r37.v (w.g a3.toNat).sx 1 1000000)) = false by rw [h2]; try rfl) (Ai (show (bnot (r37.v (w.g a3.toNat).sx 1 1000000)) = false by rw [h2]; try rfl) (Ai (show (bnot (r37.v (w.g a3.toNat).sx 1 1000000)) = false by rw [h2]; try rfl) (Ai (show (bnot (r37.v (w.g a3.toNat).sx 1 1000000)) = false by rw [h2]; try rfl) (Ai (r37 ((w.g a3.toNat).sz) (1) (1000000) (L40a.h0 w a3)) (Ai (show (bnot (r37.v (w.g a3.toNat).sx 1 1000000)) = false by rw [h2]; try rfl) (Ai (show (bnot (r37.v (w.g a3.toNat).sx 1 1000000)) = false by rw [h2]; try rfl) (Ai (show (bnot (r37.v (w.g a3.toNat).sz 1 1000000)) = false by rw [h3]; try rfl) (Ai (show (bnot (r37.v (w.g a3.toNat).sz 1 1000000)) = false by rw [h3]; try rfl) (Ai (show (bnot (r37.v (w.g a3.toNat).sz 1 1000000)) = false by rw [h3]; try rfl) (Ai (show (bnot (r37.v (w.g a3.toNat).sz 1 1000000)) = false by rw [h3]; try rfl) (Ai (r37 ((w.g a3.toNat).ax) (0) (1000000) (L40a.h0 w a3)) (Ai (show (bnot (r37.v (w.g a3.toNat).sz 1 1000000)) = false by rw [h3]; try rfl) (Ai (show (bnot (r37.v (w.g a3.toNat).sz 1 1000000)) = false by rw [h3]; try rfl) (Ai (show (bnot (r37.v (w.g a3.toNat).ax 0 1000000)) = false by rw [h4]; try rfl) (Ai (show (bnot (r37.v (w.g a3.toNat).ax 0 1000000)) = false by rw [h4]; try rfl) (Ai (show (bnot (r37.v (w.g a3.toNat).ax 0 1000000)) = false by rw [h4]; try rfl) (Ai (show (bnot (r37.v (w.g a3.toNat).ax 0 1000000)) = false by rw [h4]; try rfl) (Ai (r37 ((w.g a3.toNat).az) (0) (1000000) (L40a.h0 w a3)) (Ai (show (bnot (r37.v (w.g a3.toNat).ax 0 1000000)) = false by rw [h4]; try rfl) (Ai (show (bnot (r37.v (w.g a3.toNat).ax 0 1000000)) = false by rw [h4]; try rfl) (Ai (show (bnot (r37.v (w.g a3.toNat).az 0 1000000)) = false by rw [h5]; try rfl) (Ai (show (bnot (r37.v (w.g a3.toNat).az 0 1000000)) = false by rw [h5]; try rfl) (Ai (show (bnot (r37.v (w.g a3.toNat).az 0 1000000)) = false by rw [h5]; try rfl) (Ai (r37 ((w.g a3.toNat).tl) (0) (100) (L40a.h0 w a3)) (Ai (show (bnot (r37.v (w.g a3.toNat).az 0 1000000)) = false by rw [h5]; try rfl) (Ai (show (bnot (r37.v (w.g a3.toNat).az 0 1000000)) = false by rw [h5]; try rfl) (Ai (show (bnot (r37.v (w.g a3.toNat).tl 0 100)) = true by rw [h6]; try rfl) (Ai (show (bnot (r37.v (w.g a3.toNat).tl 0 100)) = true by rw [h6]; try rfl) (Ai (show (bnot (r37.v (w.g a3.toNat).tl 0 100)) = true by rw [h6]; try rfl) (Ai (show (bnot (r37.v (w.g a3.toNat).tl 0 100)) = true by rw [h6]; try rfl) (Ai (show (bnot (r37.v (w.g a3.toNat).tl 0 100)) = true by rw [h6]; try rfl) (Ai (rfl : true = true) (L40a.en w (k_ := k_) (z_ := a3) (h_ := [AObj.var (WD.av w), AObj.var ((SD.av (w.g a3.toNat)))]) (.e0 : L40a.O) (by simp only [L40a.N, h1, h2, h3, h4, h5, h6, cond_true, cond_false]) (PopOk.pop rfl (by simp [L40a.T, L40a.X, L40a.H, L40a.XH])))))))))))))))))))))))))))))))))))))))⟩
     | false =>
      exact ⟨[.b true, .ret (AV.bool (r37.v (w.g a3.toNat).sx 1 1000000)) (L40a.h0 w a3), .b false, .b false, .b false, .b false, .ret (AV.bool (r37.v (w.g a3.toNat).sz 1 1000000)) (L40a.h0 w a3), .b false, .b false, .b false, .b false, .b false, .b false, .ret (AV.bool (r37.v (w.g a3.toNat).ax 0 1000000)) (L40a.h0 w a3), .b false, .b false, .b false, .b false, .b false, .b false, .ret (AV.bool (r37.v (w.g a3.toNat).az 0 1000000)) (L40a.h0 w a3), .b false, .b false, .b true, .b true, .b true, .b true, .b true, .b true, .b true, .b true, .b true, .b true, .b true], kmp (by kernel_rfl) (Ai h1 (Ai (Ai o0 o1) (Ai (r37 ((w.g a3.toNat).sx) (1) (1000000) (L40a.h0 w a3)) (Ai (show (bnot (r37.v (w.g a3.toNat).sx 1 1000000)) = false by rw [h2]; try rfl) (Ai (show (bnot (r37.v (w.g a3.toNat).sx 1 1000000)) = false by rw [h2]; try rfl) (Ai (show (bnot (r37.v (w.g a3.toNat).sx 1 1000000)) = false by rw [h2]; try rfl) (Ai (show (bnot (r37.v (w.g a3.toNat).sx 1 1000000)) = false by rw [h2]; try rfl) (Ai (r37 ((w.g a3.toNat).sz) (1) (1000000) (L40a.h0 w a3)) (Ai (show (bnot (r37.v (w.g a3.toNat).sx 1 1000000)) = false by rw [h2]; try rfl) (Ai (show (bnot (r37.v (w.g a3.toNat).sx 1 1000000)) = false by rw [h2]; try rfl) (Ai (show (bnot (r37.v (w.g a3.toNat).sz 1 1000000)) = false by rw [h3]; try rfl) (Ai (show (bnot (r37.v (w.g a3.toNat).sz 1 1000000)) = false by rw [h3]; try rfl) (Ai (show (bnot (r37.v (w.g a3.toNat).sz 1 1000000)) = false by rw [h3]; try rfl) (Ai (show (bnot (r37.v (w.g a3.toNat).sz 1 1000000)) = false by rw [h3]; try rfl) (Ai (r37 ((w.g a3.toNat).ax) (0) (1000000) (L40a.h0 w a3)) (Ai (show (bnot (r37.v (w.g a3.toNat).sz 1 1000000)) = false by rw [h3]; try rfl) (Ai (show (bnot (r37.v (w.g a3.toNat).sz 1 1000000)) = false by rw [h3]; try rfl) (Ai (show (bnot (r37.v (w.g a3.toNat).ax 0 1000000)) = false by rw [h4]; try rfl) (Ai (show (bnot (r37.v (w.g a3.toNat).ax 0 1000000)) = false by rw [h4]; try rfl) (Ai (show (bnot (r37.v (w.g a3.toNat).ax 0 1000000)) = false by rw [h4]; try rfl) (Ai (show (bnot (r37.v (w.g a3.toNat).ax 0 1000000)) = false by rw [h4]; try rfl) (Ai (r37 ((w.g a3.toNat).az) (0) (1000000) (L40a.h0 w a3)) (Ai (show (bnot (r37.v (w.g a3.toNat).ax 0 1000000)) = false by rw [h4]; try rfl) (Ai (show (bnot (r37.v (w.g a3.toNat).ax 0 1000000)) = false by rw [h4]; try rfl) (Ai (show (bnot (r37.v (w.g a3.toNat).az 0 1000000)) = true by rw [h5]; try rfl) (Ai (show (bnot (r37.v (w.g a3.toNat).az 0 1000000)) = true by rw [h5]; try rfl) (Ai (show (bnot (r37.v (w.g a3.toNat).az 0 1000000)) = true by rw [h5]; try rfl) (Ai (show (bnot (r37.v (w.g a3.toNat).az 0 1000000)) = true by rw [h5]; try rfl) (Ai (show (bnot (r37.v (w.g a3.toNat).az 0 1000000)) = true by rw [h5]; try rfl) (Ai (rfl : true = true) (Ai (rfl : true = true) (Ai (rfl : true = true) (Ai (rfl : true = true) (Ai (rfl : true = true) (Ai (rfl : true = true) (L40a.en w (k_ := k_) (z_ := a3) (h_ := [AObj.var (WD.av w), AObj.var ((SD.av (w.g a3.toNat)))]) (.e0 : L40a.O) (by simp only [L40a.N, h1, h2, h3, h4, h5, cond_true, cond_false]) (PopOk.pop rfl (by simp [L40a.T, L40a.X, L40a.H, L40a.XH]))))))))))))))))))))))))))))))))))))))⟩
    | false =>
     exact ⟨[.b true, .ret (AV.bool (r37.v (w.g a3.toNat).sx 1 1000000)) (L40a.h0 w a3), .b false, .b false, .b false, .b false, .ret (AV.bool (r37.v (w.g a3.toNat).sz 1 1000000)) (L40a.h0 w a3), .b false, .b false, .b false, .b false, .b false, .b false, .ret (AV.bool (r37.v (w.g a3.toNat).ax 0 1000000)) (L40a.h0 w a3), .b false, .b false, .b true, .b true, .b true, .b true, .b true, .b true, .b true, .b true, .b true, .b true, .b true, .b true, .b true, .b true, .b true, .b true, .b true], kmp (by kernel_rfl) (Ai h1 (Ai (Ai o0 o1) (Ai (r37 ((w.g a3.toNat).sx) (1) (1000000) (L40a.h0 w a3)) (Ai (show (bnot (r37.v (w.g a3.toNat).sx 1 1000000)) = false by rw [h2]; try rfl) (Ai (show (bnot (r37.v (w.g a3.toNat).sx 1 1000000)) = false by rw [h2]; try rfl) (Ai (show (bnot (r37.v (w.g a3.toNat).sx 1 1000000)) = false by rw [h2]; try rfl) (Ai (show (bnot (r37.v (w.g a3.toNat).sx 1 1000000)) = false by rw [h2]; try rfl) (Ai (r37 ((w.g a3.toNat).sz) (1) (1000000) (L40a.h0 w a3)) (Ai (show (bnot (r37.v (w.g a3.toNat).sx 1 1000000)) = false by rw [h2]; try rfl) (Ai (show (bnot (r37.v (w.g a3.toNat).sx 1 1000000)) = false by rw [h2]; try rfl) (Ai (show (bnot (r37.v (w.g a3.toNat).sz 1 1000000)) = false by rw [h3]; try rfl) (Ai (show (bnot (r37.v (w.g a3.toNat).sz 1 1000000)) = false by rw [h3]; try rfl) (Ai (show (bnot (r37.v (w.g a3.toNat).sz 1 1000000)) = false by rw [h3]; try rfl) (Ai (show (bnot (r37.v (w.g a3.toNat).sz 1 1000000)) = false by rw [h3]; try rfl) (Ai (r37 ((w.g a3.toNat).ax) (0) (1000000) (L40a.h0 w a3)) (Ai (show (bnot (r37.v (w.g a3.toNat).sz 1 1000000)) = false by rw [h3]; try rfl) (Ai (show (bnot (r37.v (w.g a3.toNat).sz 1 1000000)) = false by rw [h3]; try rfl) (Ai (show (bnot (r37.v (w.g a3.toNat).ax 0 1000000)) = true by rw [h4]; try rfl) (Ai (show (bnot (r37.v (w.g a3.toNat).ax 0 1000000)) = true by rw [h4]; try rfl) (Ai (show (bnot (r37.v (w.g a3.toNat).ax 0 1000000)) = true by rw [h4]; try rfl) (Ai (show (bnot (r37.v (w.g a3.toNat).ax 0 1000000)) = true by rw [h4]; try rfl) (Ai (show (bnot (r37.v (w.g a3.toNat).ax 0 1000000)) = true by rw [h4]; try rfl) (Ai (show (bnot (r37.v (w.g a3.toNat).ax 0 1000000)) = true by rw [h4]; try rfl) (Ai (rfl : true = true) (Ai (rfl : true = true) (Ai (rfl : true = true) (Ai (rfl : true = true) (Ai (rfl : true = true) (Ai (rfl : true = true) (Ai (rfl : true = true) (Ai (rfl : true = true) (Ai (rfl : true = true) (Ai (rfl : true = true) (Ai (rfl : true = true) (L40a.en w (k_ := k_) (z_ := a3) (h_ := [AObj.var (WD.av w), AObj.var ((SD.av (w.g a3.toNat)))]) (.e0 : L40a.O) (by simp only [L40a.N, h1, h2, h3, h4, cond_true, cond_false]) (PopOk.pop rfl (by simp [L40a.T, L40a.X, L40a.H, L40a.XH])))))))))))))))))))))))))))))))))))))⟩
   | false =>
    exact ⟨[.b true, .ret (AV.bool (r37.v (w.g a3.toNat).sx 1 1000000)) (L40a.h0 w a3), .b false, .b false, .b false, .b false, .ret (AV.bool (r37.v (w.g a3.toNat).sz 1 1000000)) (L40a.h0 w a3), .b false, .b false, .b true, .b true, .b true, .b true, .b true, .b true, .b true, .b true, .b true, .b true, .b true, .b true, .b true, .b true, .b true, .b true, .b true, .b true, .b true, .b true, .b true, .b true, .b true], kmp (by kernel_rfl) (Ai h1 (Ai (Ai o0 o1) (Ai (r37 ((w.g a3.toNat).sx) (1) (1000000) (L40a.h0 w a3)) (Ai (show (bnot (r37.v (w.g a3.toNat).sx 1 1000000)) = false by rw [h2]; try rfl) (Ai (show (bnot (r37.v (w.g a3.toNat).sx 1 1000000)) = false by rw [h2]; try rfl) (Ai (show (bnot (r37.v (w.g a3.toNat).sx 1 1000000)) = false by rw [h2]; try rfl) (Ai (show (bnot (r37.v (w.g a3.toNat).sx 1 1000000)) = false by rw [h2]; try rfl) (Ai (r37 ((w.g a3.toNat).sz) (1) (1000000) (L40a.h0 w a3)) (Ai (show (bnot (r37.v (w.g a3.toNat).sx 1 1000000)) = false by rw [h2]; try rfl) (Ai (show (bnot (r37.v (w.g a3.toNat).sx 1 1000000)) = false by rw [h2]; try rfl) (Ai (show (bnot (r37.v (w.g a3.toNat).sz 1 1000000)) = true by rw [h3]; try rfl) (Ai (show (bnot (r37.v (w.g a3.toNat).sz 1 1000000)) = true by rw [h3]; try rfl) (Ai (show (bnot (r37.v (w.g a3.toNat).sz 1 1000000)) = true by rw [h3]; try rfl) (Ai (show (bnot (r37.v (w.g a3.toNat).sz 1 1000000)) = true by rw [h3]; try rfl) (Ai (show (bnot (r37.v (w.g a3.toNat).sz 1 1000000)) = true by rw [h3]; try rfl) (Ai (show (bnot (r37.v (w.g a3.toNat).sz 1 1000000)) = true by rw [h3]; try rfl) (Ai (rfl : true = true) (Ai (rfl : true = true) (Ai (rfl : true = true) (Ai (rfl : true = true) (Ai (rfl : true = true) (Ai (rfl : true = true) (Ai (rfl : true = true) (Ai (rfl : true = true) (Ai (rfl : true = true) (Ai (rfl : true = true) (Ai (rfl : true = true) (Ai (rfl : true = true) (Ai (rfl : true = true) (Ai (rfl : true = true) (Ai (rfl : true = true) (Ai (rfl : true = true) (Ai (rfl : true = true) (L40a.en w (k_ := k_) (z_ := a3) (h_ := [AObj.var (WD.av w), AObj.var ((SD.av (w.g a3.toNat)))]) (.e0 : L40a.O) (by simp only [L40a.N, h1, h2, h3, cond_true, cond_false]) (PopOk.pop rfl (by simp [L40a.T, L40a.X, L40a.H, L40a.XH]))))))))))))))))))))))))))))))))))))⟩
  | false =>
   exact ⟨[.b true, .ret (AV.bool (r37.v (w.g a3.toNat).sx 1 1000000)) (L40a.h0 w a3), .b true, .b true, .b true, .b true, .b true, .b true, .b true, .b true, .b true, .b true, .b true, .b true, .b true, .b true, .b true, .b true, .b true, .b true, .b true, .b true, .b true, .b true, .b true, .b true, .b true, .b true, .b true, .b true, .b true], kmp (by kernel_rfl) (Ai h1 (Ai (Ai o0 o1) (Ai (r37 ((w.g a3.toNat).sx) (1) (1000000) (L40a.h0 w a3)) (Ai (show (bnot (r37.v (w.g a3.toNat).sx 1 1000000)) = true by rw [h2]; try rfl) (Ai (show (bnot (r37.v (w.g a3.toNat).sx 1 1000000)) = true by rw [h2]; try rfl) (Ai (show (bnot (r37.v (w.g a3.toNat).sx 1 1000000)) = true by rw [h2]; try rfl) (Ai (show (bnot (r37.v (w.g a3.toNat).sx 1 1000000)) = true by rw [h2]; try rfl) (Ai (show (bnot (r37.v (w.g a3.toNat).sx 1 1000000)) = true by rw [h2]; try rfl) (Ai (show (bnot (r37.v (w.g a3.toNat).sx 1 1000000)) = true by rw [h2]; try rfl) (Ai (rfl : true = true) (Ai (rfl : true = true) (Ai (rfl : true = true) (Ai (rfl : true = true) (Ai (rfl : true = true) (Ai (rfl : true = true) (Ai (rfl : true = true) (Ai (rfl : true = true) (Ai (rfl : true = true) (Ai (rfl : true = true) (Ai (rfl : true = true) (Ai (rfl : true = true) (Ai (rfl : true = true) (Ai (rfl : true = true) (Ai (rfl : true = true) (Ai (rfl : true = true) (Ai (rfl : true = true) (Ai (rfl : true = true) (Ai (rfl : true = true) (Ai (rfl : true = true) (Ai (rfl : true = true) (Ai (rfl : true = true) (Ai (rfl : true = true) (L40a.en w (k_ := k_) (z_ := a3) (h_ := [AObj.var (WD.av w), AObj.var ((SD.av (w.g a3.toNat)))]) (.e0 : L40a.O) (by simp only [L40a.N, h1, h2, cond_true, cond_false]) (PopOk.pop rfl (by simp [L40a.T, L40a.X, L40a.H, L40a.XH])))))))))))))))))))))))))))))))))))⟩
 | false =>
  have h1p := of_decide_eq_false h1
  exact ⟨[.b false], kmp (by kernel_rfl) (Ai h1 (L40a.en w (k_ := k_) (z_ := a3) (.e1 : L40a.O) (by simp only [L40a.N, h1, cond_true, cond_false]) PopOk.same))⟩
theorem L40a.e0 (w : WD) (hn : w.n ≤ 10000) (k0_1 : r37.v w.len 1 1000000 = true) (k0_2 : r37.v w.lap 0 1000000 = true) (k0_3 : r37.v w.jl 0 1000 = true) (k0_4 : r37.v w.jh 0 1000 = true) (a3 : Int) (hinv : L40a.inv w a3) (hN : L40a.run w a3 = (.e0 : L40a.O)) : LoopTo Try.prog (loopN Try.f40 0) (L40a.T w a3) (L40a.H w a3) (Exit.ret) (L40a.X w (.e0 : L40a.O)) (L40a.XH w (.e0 : L40a.O)) := by
 have h_ := L40a.spec w hn k0_1 k0_2 k0_3 k0_4 ((((↑w.n : Int) - a3).toNat) + 1) a3 hinv (Nat.lt_succ_self _)
 unfold L40a.run at hN
 simp only [hN] at h_
 exact h_
theorem L40a.e1 (w : WD) (hn : w.n ≤ 10000) (k0_1 : r37.v w.len 1 1000000 = true) (k0_2 : r37.v w.lap 0 1000000 = true) (k0_3 : r37.v w.jl 0 1000 = true) (k0_4 : r37.v w.jh 0 1000 = true) (a3 : Int) (hinv : L40a.inv w a3) (hN : L40a.run w a3 = (.e1 : L40a.O)) : LoopTo Try.prog (loopN Try.f40 0) (L40a.T w a3) (L40a.H w a3) (Exit.exit 0) (L40a.X w (.e1 : L40a.O)) (L40a.XH w (.e1 : L40a.O)) := by
 have h_ := L40a.spec w hn k0_1 k0_2 k0_3 k0_4 ((((↑w.n : Int) - a3).toNat) + 1) a3 hinv (Nat.lt_succ_self _)
 unfold L40a.run at hN
 simp only [hN] at h_
 exact h_
inductive L40b.O where
 | e0
 | e1
noncomputable def L40b.T (w : WD) (b5 : Int) : List AV := mkT 108 [(1, AV.ptr 0 1 6 0 0), (5, iv b5)]
noncomputable def L40b.H (w : WD) (b5 : Int) : AHeap := [AObj.var (WD.av w)]
def L40b.inv (w : WD) (b5 : Int) : Prop := 1 ≤ b5 ∧ (b5 ≤ (↑w.n : Int) ∨ b5 ≤ 1)
noncomputable def L40b.mu (w : WD) (b5 : Int) : Nat := ((↑w.n : Int) - b5).toNat
noncomputable def L40b.E : L40b.O → Exit
 | .e0 => Exit.ret
 | .e1 => Exit.exit 2
noncomputable def L40b.X (w : WD) : L40b.O → List AV
 | .e0 => mkT 108 [(2, (iv 5))]
 | .e1 => mkT 108 []
noncomputable def L40b.XH (w : WD) : L40b.O → AHeap
 | .e0 => ([AObj.var (WD.av w)])
 | .e1 => ([AObj.var (WD.av w)])
noncomputable def L40b.N (w : WD) : Nat → Int → L40b.O
 | 0, _ => .e0
 | k_ + 1, b5 => (bif decide (b5 < (↑w.n : Int)) then (bif Op.bytesLess (w.g (IntKind.i64.wrap (b5 - 1)).toNat).nm.toList (w.g b5.toNat).nm.toList then (L40b.N w k_ (IntKind.i64.wrap (b5 + 1))) else (.e0)) else (.e1))
noncomputable def L40b.run (w : WD) (b5 : Int) : L40b.O := L40b.N w ((((↑w.n : Int) - b5).toNat) + 1) b5
theorem L40b.nx (w : WD) {k_ : Nat} {z_ : Int} {h_ : AHeap} (s_ : Int) (h1 : L40b.inv w s_) (h2 : L40b.mu w s_ < L40b.mu w z_) (h3 : L40b.N w k_ s_ = L40b.N w (k_ + 1) z_) (h4 : PopOk (L40b.H w z_) h_ (L40b.T w s_) (L40b.H w s_)) : LNextP (L40b.T w) (L40b.H w) (L40b.inv w) (L40b.mu w) (L40b.N w) k_ z_ (L40b.T w s_) h_ := LNextP.mk s_ h1 h2 h3 h4
theorem L40b.en (w : WD) {k_ : Nat} {z_ : Int} {h_ : AHeap} (o_ : L40b.O) (h3 : L40b.N w (k_ + 1) z_ = o_) (h4 : PopOk (L40b.H w z_) h_ (L40b.X w o_) (L40b.XH w o_)) : LEndP (L40b.H w) (L40b.N w) L40b.E (L40b.X w) (L40b.XH w) k_ z_ (L40b.E o_) (L40b.X w o_) h_ := LEndP.mk o_ h3 h4
theorem L40b.spec (w : WD) (hn : w.n ≤ 10000) (k1_1 : r37.v w.len 1 1000000 = true) (k1_2 : r37.v w.lap 0 1000000 = true) (k1_3 : r37.v w.jl 0 1000 = true) (k1_4 : r37.v w.jh 0 1000 = true) (k1_5 : decide (w.jl > w.jh) = false) (p1_5 : ¬w.jl > w.jh) (k_ : Nat) (z_ : Int) (hi_ : L40b.inv w z_) (hm_ : L40b.mu w z_ < k_) : LoopTo Try.prog (loopN Try.f40 1) (L40b.T w z_) (L40b.H w z_) (L40b.E (L40b.N w k_ z_)) (L40b.X w (L40b.N w k_ z_)) (L40b.XH w (L40b.N w k_ z_)) := by
 refine LoopTo.fuelP mix (L40b.T w) (L40b.H w) (L40b.inv w) (L40b.mu w) (L40b.N w) L40b.E (L40b.X w) (L40b.XH w) (others 108 [1, 5]) (others 108 [2]) (others 108 []) ?_ k_ z_ hi_ hm_
 clear hm_ hi_ z_ k_
 intro k_ z_ hinv hmu
 revert hinv hmu; revert z_; intro b5 hinv hmu
 have hinv : 1 ≤ b5 ∧ (b5 ≤ (↑w.n : Int) ∨ b5 ≤ 1) := hinv
 have hmu : (((↑w.n : Int) - b5).toNat) < k_ + 1 := hmu
 cases h1 : decide (b5 < (↑w.n : Int)) with
 | true =>
  have h1p := of_decide_eq_true h1
  try have := IntWalk.i64_in (b5 - 1) (by omega)
  have o0 : (0 : Int) ≤ IntKind.i64.wrap (b5 - (1 : Int)) := by omega
  have o1 : IntKind.i64.wrap (b5 - (1 : Int)) < (↑w.n : Int) := by omega
  have o2 : (0 : Int) ≤ b5 := by omega
  have o3 : b5 < (↑w.n : Int) := by assumption
  cases h2 : Op.bytesLess (w.g (IntKind.i64.wrap (b5 - 1)).toNat).nm.toList (w.g b5.toNat).nm.toList with
  | true =>
   try have := IntWalk.i64_in (b5 + 1) (by omega)
   have o4 : (1 : Int) ≤ IntKind.i64.wrap (b5 + (1 : Int)) := by omega
   have o5 : IntKind.i64.wrap (b5 + (1 : Int)) ≤ (↑w.n : Int) ∨ IntKind.i64.wrap (b5 + (1 : Int)) ≤ (1 : Int) := by omega
   have o6 : ((↑w.n : Int) - IntKind.i64.wrap (b5 + (1 : Int))).toNat < ((↑w.n : Int) - b5).toNat := by omega
   exact ⟨[.b true, .b false], kmp (by kernel_rfl) (Ai h1 (Ai (Ai o0 o1) (Ai (Ai o2 o3) (Ai (show (bnot (Op.bytesLess (w.g (IntKind.i64.wrap (b5 - 1)).toNat).nm.toList (w.g b5.toNat).nm.toList)) = false by rw [h2]; try rfl) (L40b.nx w (k_ := k_) (z_ := b5) (IntKind.i64.wrap (b5 + 1)) (Ai o4 o5) o6 (by simp only [L40b.N, h1, h2, cond_true, cond_false]) PopOk.same)))))⟩
  | false =>
   exact ⟨[.b true, .b true], kmp (by kernel_rfl) (Ai h1 (Ai (Ai o0 o1) (Ai (Ai o2 o3) (Ai (show (bnot (Op.bytesLess (w.g (IntKind.i64.wrap (b5 - 1)).toNat).nm.toList (w.g b5.toNat).nm.toList)) = true by rw [h2]; try rfl) (L40b.en w (k_ := k_) (z_ := b5) (.e0 : L40b.O) (by simp only [L40b.N, h1, h2, cond_true, cond_false]) PopOk.same)))))⟩
 | false =>
  have h1p := of_decide_eq_false h1
  exact ⟨[.b false], kmp (by kernel_rfl) (Ai h1 (L40b.en w (k_ := k_) (z_ := b5) (.e1 : L40b.O) (by simp only [L40b.N, h1, cond_true, cond_false]) PopOk.same))⟩
theorem L40b.e0 (w : WD) (hn : w.n ≤ 10000) (k1_1 : r37.v w.len 1 1000000 = true) (k1_2 : r37.v w.lap 0 1000000 = true) (k1_3 : r37.v w.jl 0 1000 = true) (k1_4 : r37.v w.jh 0 1000 = true) (k1_5 : decide (w.jl > w.jh) = false) (p1_5 : ¬w.jl > w.jh) (b5 : Int) (hinv : L40b.inv w b5) (hN : L40b.run w b5 = (.e0 : L40b.O)) : LoopTo Try.prog (loopN Try.f40 1) (L40b.T w b5) (L40b.H w b5) (Exit.ret) (L40b.X w (.e0 : L40b.O)) (L40b.XH w (.e0 : L40b.O)) := by
 have h_ := L40b.spec w hn k1_1 k1_2 k1_3 k1_4 k1_5 p1_5 ((((↑w.n : Int) - b5).toNat) + 1) b5 hinv (Nat.lt_succ_self _)
 unfold L40b.run at hN
 simp only [hN] at h_
 exact h_
theorem L40b.e1 (w : WD) (hn : w.n ≤ 10000) (k1_1 : r37.v w.len 1 1000000 = true) (k1_2 : r37.v w.lap 0 1000000 = true) (k1_3 : r37.v w.jl 0 1000 = true) (k1_4 : r37.v w.jh 0 1000 = true) (k1_5 : decide (w.jl > w.jh) = false) (p1_5 : ¬w.jl > w.jh) (b5 : Int) (hinv : L40b.inv w b5) (hN : L40b.run w b5 = (.e1 : L40b.O)) : LoopTo Try.prog (loopN Try.f40 1) (L40b.T w b5) (L40b.H w b5) (Exit.exit 2) (L40b.X w (.e1 : L40b.O)) (L40b.XH w (.e1 : L40b.O)) := by
 have h_ := L40b.spec w hn k1_1 k1_2 k1_3 k1_4 k1_5 p1_5 ((((↑w.n : Int) - b5).toNat) + 1) b5 hinv (Nat.lt_succ_self _)
 unfold L40b.run at hN
 simp only [hN] at h_
 exact h_
noncomputable def r40.v (w : WD) : Int := (bif r37.v w.len 1 1000000 then (bif r37.v w.lap 0 1000000 then (bif r37.v w.jl 0 1000 then (bif r37.v w.jh 0 1000 then (match L40a.run w 0 with | .e0 => 6 | .e1 => (bif decide (w.jl > w.jh) then 1 else (match L40b.run w 1 with | .e0 => 5 | .e1 => 0 )) ) else 6) else 6) else 6) else 6)
noncomputable abbrev r40.h0 (w : WD) : AHeap := ([AObj.var (WD.av w)])
theorem r40 (w : WD) (hn : w.n ≤ 10000) (h : AHeap) : Ret Try.prog 40 ([w.av]) h (iv (r40.v w)) h := by
 cases h1 : r37.v w.len 1 1000000 with
 | true =>
  cases h2 : r37.v w.lap 0 1000000 with
  | true =>
   cases h3 : r37.v w.jl 0 1000 with
   | true =>
    cases h4 : r37.v w.jh 0 1000 with
    | true =>
     have o0 : w.n ≤ (10000 : Nat) := by assumption
     have o1 : r37.v w.len (1 : Int) (1000000 : Int) = true := by assumption
     have o2 : r37.v w.lap (0 : Int) (1000000 : Int) = true := by assumption
     have o3 : r37.v w.jl (0 : Int) (1000 : Int) = true := by assumption
     have o4 : r37.v w.jh (0 : Int) (1000 : Int) = true := by assumption
     have o5 : (0 : Int) ≤ (↑w.n : Int) ∨ (0 : Int) ≤ (0 : Int) := by omega
     cases h5 : L40a.run w 0 with
     | e0 =>
      exact Ret.of_run1 mix [(iv (r40.v w))] Try.func40 rfl [.ret (AV.bool (r37.v w.len 1 1000000)) (r40.h0 w), .b false, .b false, .b false, .ret (AV.bool (r37.v w.lap 0 1000000)) (r40.h0 w), .b false, .b false, .b false, .b false, .b false, .b false, .ret (AV.bool (r37.v w.jl 0 1000)) (r40.h0 w), .b false, .b false, .b false, .b false, .b false, .b false, .ret (AV.bool (r37.v w.jh 0 1000)) (r40.h0 w), .b false, .b false, .b false, .loop (others 108 [1, 3]) (Exit.ret) (L40a.X w L40a.O.e0) (L40a.XH w L40a.O.e0)] (by simp) (by simp) (kmp (by kernel_rfl) (Ai (r37 (w.len) (1) (1000000) (r40.h0 w)) (Ai (show (bnot (r37.v w.len 1 1000000)) = false by rw [h1]; try rfl) (Ai (show (bnot (r37.v w.len 1 1000000)) = false by rw [h1]; try rfl) (Ai (show (bnot (r37.v w.len 1 1000000)) = false by rw [h1]; try rfl) (Ai (r37 (w.lap) (0) (1000000) (r40.h0 w)) (Ai (show (bnot (r37.v w.len 1 1000000)) = false by rw [h1]; try rfl) (Ai (show (bnot (r37.v w.len 1 1000000)) = false by rw [h1]; try rfl) (Ai (show (bnot (r37.v w.lap 0 1000000)) = false by rw [h2]; try rfl) (Ai (show (bnot (r37.v w.lap 0 1000000)) = false by rw [h2]; try rfl) (Ai (show (bnot (r37.v w.lap 0 1000000)) = false by rw [h2]; try rfl) (Ai (show (bnot (r37.v w.lap 0 1000000)) = false by rw [h2]; try rfl) (Ai (r37 (w.jl) (0) (1000) (r40.h0 w)) (Ai (show (bnot (r37.v w.lap 0 1000000)) = false by rw [h2]; try rfl) (Ai (show (bnot (r37.v w.lap 0 1000000)) = false by rw [h2]; try rfl) (Ai (show (bnot (r37.v w.jl 0 1000)) = false by rw [h3]; try rfl) (Ai (show (bnot (r37.v w.jl 0 1000)) = false by rw [h3]; try rfl) (Ai (show (bnot (r37.v w.jl 0 1000)) = false by rw [h3]; try rfl) (Ai (show (bnot (r37.v w.jl 0 1000)) = false by rw [h3]; try rfl) (Ai (r37 (w.jh) (0) (1000) (r40.h0 w)) (Ai (show (bnot (r37.v w.jl 0 1000)) = false by rw [h3]; try rfl) (Ai (show (bnot (r37.v w.jl 0 1000)) = false by rw [h3]; try rfl) (Ai (show (bnot (r37.v w.jh 0 1000)) = false by rw [h4]; try rfl) (Ai (L40a.e0 (w) o0 o1 o2 o3 o4 (0) (Ai (show (0 : Int) ≤ (0 : Int) by decide) o5) h5) (Ai (show (iv 6) = ((iv (r40.v w))) by simp only [r40.v, h1, h2, h3, h4, h5, cond_true, cond_false]) trivial))))))))))))))))))))))))) h
     | e1 =>
      cases h6 : decide (w.jl > w.jh) with
      | true =>
       have h6p := of_decide_eq_true h6
       exact Ret.of_run1 mix [(iv (r40.v w))] Try.func40 rfl [.ret (AV.bool (r37.v w.len 1 1000000)) (r40.h0 w), .b false, .b false, .b false, .ret (AV.bool (r37.v w.lap 0 1000000)) (r40.h0 w), .b false, .b false, .b false, .b false, .b false, .b false, .ret (AV.bool (r37.v w.jl 0 1000)) (r40.h0 w), .b false, .b false, .b false, .b false, .b false, .b false, .ret (AV.bool (r37.v w.jh 0 1000)) (r40.h0 w), .b false, .b false, .b false, .loop (others 108 [1, 3]) (Exit.exit 0) (L40a.X w L40a.O.e1) (L40a.XH w L40a.O.e1), .b true] (by simp) (by simp) (kmp (by kernel_rfl) (Ai (r37 (w.len) (1) (1000000) (r40.h0 w)) (Ai (show (bnot (r37.v w.len 1 1000000)) = false by rw [h1]; try rfl) (Ai (show (bnot (r37.v w.len 1 1000000)) = false by rw [h1]; try rfl) (Ai (show (bnot (r37.v w.len 1 1000000)) = false by rw [h1]; try rfl) (Ai (r37 (w.lap) (0) (1000000) (r40.h0 w)) (Ai (show (bnot (r37.v w.len 1 1000000)) = false by rw [h1]; try rfl) (Ai (show (bnot (r37.v w.len 1 1000000)) = false by rw [h1]; try rfl) (Ai (show (bnot (r37.v w.lap 0 1000000)) = false by rw [h2]; try rfl) (Ai (show (bnot (r37.v w.lap 0 1000000)) = false by rw [h2]; try rfl) (Ai (show (bnot (r37.v w.lap 0 1000000)) = false by rw [h2]; try rfl) (Ai (show (bnot (r37.v w.lap 0 1000000)) = false by rw [h2]; try rfl) (Ai (r37 (w.jl) (0) (1000) (r40.h0 w)) (Ai (show (bnot (r37.v w.lap 0 1000000)) = false by rw [h2]; try rfl) (Ai (show (bnot (r37.v w.lap 0 1000000)) = false by rw [h2]; try rfl) (Ai (show (bnot (r37.v w.jl 0 1000)) = false by rw [h3]; try rfl) (Ai (show (bnot (r37.v w.jl 0 1000)) = false by rw [h3]; try rfl) (Ai (show (bnot (r37.v w.jl 0 1000)) = false by rw [h3]; try rfl) (Ai (show (bnot (r37.v w.jl 0 1000)) = false by rw [h3]; try rfl) (Ai (r37 (w.jh) (0) (1000) (r40.h0 w)) (Ai (show (bnot (r37.v w.jl 0 1000)) = false by rw [h3]; try rfl) (Ai (show (bnot (r37.v w.jl 0 1000)) = false by rw [h3]; try rfl) (Ai (show (bnot (r37.v w.jh 0 1000)) = false by rw [h4]; try rfl) (Ai (L40a.e1 (w) o0 o1 o2 o3 o4 (0) (Ai (show (0 : Int) ≤ (0 : Int) by decide) o5) h5) (Ai h6 (Ai (show (iv 1) = ((iv (r40.v w))) by simp only [r40.v, h1, h2, h3, h4, h6, h5, cond_true, cond_false]) trivial)))))))))))))))))))))))))) h
      | false =>
       have h6p := of_decide_eq_false h6
       have o6 : decide (w.jl > w.jh) = false := by assumption
       have o7 : ¬w.jl > w.jh := by assumption
       have o8 : (1 : Int) ≤ (↑w.n : Int) ∨ (1 : Int) ≤ (1 : Int) := by omega
       cases h7 : L40b.run w 1 with
       | e0 =>
        exact Ret.of_run1 mix [(iv (r40.v w))] Try.func40 rfl [.ret (AV.bool (r37.v w.len 1 1000000)) (r40.h0 w), .b false, .b false, .b false, .ret (AV.bool (r37.v w.lap 0 1000000)) (r40.h0 w), .b false, .b false, .b false, .b false, .b false, .b false, .ret (AV.bool (r37.v w.jl 0 1000)) (r40.h0 w), .b false, .b false, .b false, .b false, .b false, .b false, .ret (AV.bool (r37.v w.jh 0 1000)) (r40.h0 w), .b false, .b false, .b false, .loop (others 108 [1, 3]) (Exit.exit 0) (L40a.X w L40a.O.e1) (L40a.XH w L40a.O.e1), .b false, .loop (others 108 [1, 5]) (Exit.ret) (L40b.X w L40b.O.e0) (L40b.XH w L40b.O.e0)] (by simp) (by simp) (kmp (by kernel_rfl) (Ai (r37 (w.len) (1) (1000000) (r40.h0 w)) (Ai (show (bnot (r37.v w.len 1 1000000)) = false by rw [h1]; try rfl) (Ai (show (bnot (r37.v w.len 1 1000000)) = false by rw [h1]; try rfl) (Ai (show (bnot (r37.v w.len 1 1000000)) = false by rw [h1]; try rfl) (Ai (r37 (w.lap) (0) (1000000) (r40.h0 w)) (Ai (show (bnot (r37.v w.len 1 1000000)) = false by rw [h1]; try rfl) (Ai (show (bnot (r37.v w.len 1 1000000)) = false by rw [h1]; try rfl) (Ai (show (bnot (r37.v w.lap 0 1000000)) = false by rw [h2]; try rfl) (Ai (show (bnot (r37.v w.lap 0 1000000)) = false by rw [h2]; try rfl) (Ai (show (bnot (r37.v w.lap 0 1000000)) = false by rw [h2]; try rfl) (Ai (show (bnot (r37.v w.lap 0 1000000)) = false by rw [h2]; try rfl) (Ai (r37 (w.jl) (0) (1000) (r40.h0 w)) (Ai (show (bnot (r37.v w.lap 0 1000000)) = false by rw [h2]; try rfl) (Ai (show (bnot (r37.v w.lap 0 1000000)) = false by rw [h2]; try rfl) (Ai (show (bnot (r37.v w.jl 0 1000)) = false by rw [h3]; try rfl) (Ai (show (bnot (r37.v w.jl 0 1000)) = false by rw [h3]; try rfl) (Ai (show (bnot (r37.v w.jl 0 1000)) = false by rw [h3]; try rfl) (Ai (show (bnot (r37.v w.jl 0 1000)) = false by rw [h3]; try rfl) (Ai (r37 (w.jh) (0) (1000) (r40.h0 w)) (Ai (show (bnot (r37.v w.jl 0 1000)) = false by rw [h3]; try rfl) (Ai (show (bnot (r37.v w.jl 0 1000)) = false by rw [h3]; try rfl) (Ai (show (bnot (r37.v w.jh 0 1000)) = false by rw [h4]; try rfl) (Ai (L40a.e1 (w) o0 o1 o2 o3 o4 (0) (Ai (show (0 : Int) ≤ (0 : Int) by decide) o5) h5) (Ai h6 (Ai (L40b.e0 (w) o0 o1 o2 o3 o4 o6 o7 (1) (Ai (show (1 : Int) ≤ (1 : Int) by decide) o8) h7) (Ai (show (iv 5) = ((iv (r40.v w))) by simp only [r40.v, h1, h2, h3, h4, h6, h5, h7, cond_true, cond_false]) trivial))))))))))))))))))))))))))) h
       | e1 =>
        exact Ret.of_run1 mix [(iv (r40.v w))] Try.func40 rfl [.ret (AV.bool (r37.v w.len 1 1000000)) (r40.h0 w), .b false, .b false, .b false, .ret (AV.bool (r37.v w.lap 0 1000000)) (r40.h0 w), .b false, .b false, .b false, .b false, .b false, .b false, .ret (AV.bool (r37.v w.jl 0 1000)) (r40.h0 w), .b false, .b false, .b false, .b false, .b false, .b false, .ret (AV.bool (r37.v w.jh 0 1000)) (r40.h0 w), .b false, .b false, .b false, .loop (others 108 [1, 3]) (Exit.exit 0) (L40a.X w L40a.O.e1) (L40a.XH w L40a.O.e1), .b false, .loop (others 108 [1, 5]) (Exit.exit 2) (L40b.X w L40b.O.e1) (L40b.XH w L40b.O.e1)] (by simp) (by simp) (kmp (by kernel_rfl) (Ai (r37 (w.len) (1) (1000000) (r40.h0 w)) (Ai (show (bnot (r37.v w.len 1 1000000)) = false by rw [h1]; try rfl) (Ai (show (bnot (r37.v w.len 1 1000000)) = false by rw [h1]; try rfl) (Ai (show (bnot (r37.v w.len 1 1000000)) = false by rw [h1]; try rfl) (Ai (r37 (w.lap) (0) (1000000) (r40.h0 w)) (Ai (show (bnot (r37.v w.len 1 1000000)) = false by rw [h1]; try rfl) (Ai (show (bnot (r37.v w.len 1 1000000)) = false by rw [h1]; try rfl) (Ai (show (bnot (r37.v w.lap 0 1000000)) = false by rw [h2]; try rfl) (Ai (show (bnot (r37.v w.lap 0 1000000)) = false by rw [h2]; try rfl) (Ai (show (bnot (r37.v w.lap 0 1000000)) = false by rw [h2]; try rfl) (Ai (show (bnot (r37.v w.lap 0 1000000)) = false by rw [h2]; try rfl) (Ai (r37 (w.jl) (0) (1000) (r40.h0 w)) (Ai (show (bnot (r37.v w.lap 0 1000000)) = false by rw [h2]; try rfl) (Ai (show (bnot (r37.v w.lap 0 1000000)) = false by rw [h2]; try rfl) (Ai (show (bnot (r37.v w.jl 0 1000)) = false by rw [h3]; try rfl) (Ai (show (bnot (r37.v w.jl 0 1000)) = false by rw [h3]; try rfl) (Ai (show (bnot (r37.v w.jl 0 1000)) = false by rw [h3]; try rfl) (Ai (show (bnot (r37.v w.jl 0 1000)) = false by rw [h3]; try rfl) (Ai (r37 (w.jh) (0) (1000) (r40.h0 w)) (Ai (show (bnot (r37.v w.jl 0 1000)) = false by rw [h3]; try rfl) (Ai (show (bnot (r37.v w.jl 0 1000)) = false by rw [h3]; try rfl) (Ai (show (bnot (r37.v w.jh 0 1000)) = false by rw [h4]; try rfl) (Ai (L40a.e1 (w) o0 o1 o2 o3 o4 (0) (Ai (show (0 : Int) ≤ (0 : Int) by decide) o5) h5) (Ai h6 (Ai (L40b.e1 (w) o0 o1 o2 o3 o4 o6 o7 (1) (Ai (show (1 : Int) ≤ (1 : Int) by decide) o8) h7) (Ai (show (iv 0) = ((iv (r40.v w))) by simp only [r40.v, h1, h2, h3, h4, h6, h5, h7, cond_true, cond_false]) trivial))))))))))))))))))))))))))) h
    | false =>
     exact Ret.of_run1 mix [(iv (r40.v w))] Try.func40 rfl [.ret (AV.bool (r37.v w.len 1 1000000)) (r40.h0 w), .b false, .b false, .b false, .ret (AV.bool (r37.v w.lap 0 1000000)) (r40.h0 w), .b false, .b false, .b false, .b false, .b false, .b false, .ret (AV.bool (r37.v w.jl 0 1000)) (r40.h0 w), .b false, .b false, .b false, .b false, .b false, .b false, .ret (AV.bool (r37.v w.jh 0 1000)) (r40.h0 w), .b false, .b false, .b true] (by simp) (by simp) (kmp (by kernel_rfl) (Ai (r37 (w.len) (1) (1000000) (r40.h0 w)) (Ai (show (bnot (r37.v w.len 1 1000000)) = false by rw [h1]; try rfl) (Ai (show (bnot (r37.v w.len 1 1000000)) = false by rw [h1]; try rfl) (Ai (show (bnot (r37.v w.len 1 1000000)) = false by rw [h1]; try rfl) (Ai (r37 (w.lap) (0) (1000000) (r40.h0 w)) (Ai (show (bnot (r37.v w.len 1 1000000)) = false by rw [h1]; try rfl) (Ai (show (bnot (r37.v w.len 1 1000000)) = false by rw [h1]; try rfl) (Ai (show (bnot (r37.v w.lap 0 1000000)) = false by rw [h2]; try rfl) (Ai (show (bnot (r37.v w.lap 0 1000000)) = false by rw [h2]; try rfl) (Ai (show (bnot (r37.v w.lap 0 1000000)) = false by rw [h2]; try rfl) (Ai (show (bnot (r37.v w.lap 0 1000000)) = false by rw [h2]; try rfl) (Ai (r37 (w.jl) (0) (1000) (r40.h0 w)) (Ai (show (bnot (r37.v w.lap 0 1000000)) = false by rw [h2]; try rfl) (Ai (show (bnot (r37.v w.lap 0 1000000)) = false by rw [h2]; try rfl) (Ai (show (bnot (r37.v w.jl 0 1000)) = false by rw [h3]; try rfl) (Ai (show (bnot (r37.v w.jl 0 1000)) = false by rw [h3]; try rfl) (Ai (show (bnot (r37.v w.jl 0 1000)) = false by rw [h3]; try rfl) (Ai (show (bnot (r37.v w.jl 0 1000)) = false by rw [h3]; try rfl) (Ai (r37 (w.jh) (0) (1000) (r40.h0 w)) (Ai (show (bnot (r37.v w.jl 0 1000)) = false by rw [h3]; try rfl) (Ai (show (bnot (r37.v w.jl 0 1000)) = false by rw [h3]; try rfl) (Ai (show (bnot (r37.v w.jh 0 1000)) = true by rw [h4]; try rfl) (Ai (show (iv 6) = ((iv (r40.v w))) by simp only [r40.v, h1, h2, h3, h4, cond_true, cond_false]) trivial)))))))))))))))))))))))) h
   | false =>
    exact Ret.of_run1 mix [(iv (r40.v w))] Try.func40 rfl [.ret (AV.bool (r37.v w.len 1 1000000)) (r40.h0 w), .b false, .b false, .b false, .ret (AV.bool (r37.v w.lap 0 1000000)) (r40.h0 w), .b false, .b false, .b false, .b false, .b false, .b false, .ret (AV.bool (r37.v w.jl 0 1000)) (r40.h0 w), .b false, .b false, .b true, .b true, .b true, .b true, .b true, .b true, .b true] (by simp) (by simp) (kmp (by kernel_rfl) (Ai (r37 (w.len) (1) (1000000) (r40.h0 w)) (Ai (show (bnot (r37.v w.len 1 1000000)) = false by rw [h1]; try rfl) (Ai (show (bnot (r37.v w.len 1 1000000)) = false by rw [h1]; try rfl) (Ai (show (bnot (r37.v w.len 1 1000000)) = false by rw [h1]; try rfl) (Ai (r37 (w.lap) (0) (1000000) (r40.h0 w)) (Ai (show (bnot (r37.v w.len 1 1000000)) = false by rw [h1]; try rfl) (Ai (show (bnot (r37.v w.len 1 1000000)) = false by rw [h1]; try rfl) (Ai (show (bnot (r37.v w.lap 0 1000000)) = false by rw [h2]; try rfl) (Ai (show (bnot (r37.v w.lap 0 1000000)) = false by rw [h2]; try rfl) (Ai (show (bnot (r37.v w.lap 0 1000000)) = false by rw [h2]; try rfl) (Ai (show (bnot (r37.v w.lap 0 1000000)) = false by rw [h2]; try rfl) (Ai (r37 (w.jl) (0) (1000) (r40.h0 w)) (Ai (show (bnot (r37.v w.lap 0 1000000)) = false by rw [h2]; try rfl) (Ai (show (bnot (r37.v w.lap 0 1000000)) = false by rw [h2]; try rfl) (Ai (show (bnot (r37.v w.jl 0 1000)) = true by rw [h3]; try rfl) (Ai (show (bnot (r37.v w.jl 0 1000)) = true by rw [h3]; try rfl) (Ai (show (bnot (r37.v w.jl 0 1000)) = true by rw [h3]; try rfl) (Ai (show (bnot (r37.v w.jl 0 1000)) = true by rw [h3]; try rfl) (Ai (show (bnot (r37.v w.jl 0 1000)) = true by rw [h3]; try rfl) (Ai (show (bnot (r37.v w.jl 0 1000)) = true by rw [h3]; try rfl) (Ai (rfl : true = true) (Ai (show (iv 6) = ((iv (r40.v w))) by simp only [r40.v, h1, h2, h3, cond_true, cond_false]) trivial))))))))))))))))))))))) h
  | false =>
   exact Ret.of_run1 mix [(iv (r40.v w))] Try.func40 rfl [.ret (AV.bool (r37.v w.len 1 1000000)) (r40.h0 w), .b false, .b false, .b false, .ret (AV.bool (r37.v w.lap 0 1000000)) (r40.h0 w), .b false, .b false, .b true, .b true, .b true, .b true, .b true, .b true, .b true, .b true, .b true, .b true, .b true, .b true, .b true] (by simp) (by simp) (kmp (by kernel_rfl) (Ai (r37 (w.len) (1) (1000000) (r40.h0 w)) (Ai (show (bnot (r37.v w.len 1 1000000)) = false by rw [h1]; try rfl) (Ai (show (bnot (r37.v w.len 1 1000000)) = false by rw [h1]; try rfl) (Ai (show (bnot (r37.v w.len 1 1000000)) = false by rw [h1]; try rfl) (Ai (r37 (w.lap) (0) (1000000) (r40.h0 w)) (Ai (show (bnot (r37.v w.len 1 1000000)) = false by rw [h1]; try rfl) (Ai (show (bnot (r37.v w.len 1 1000000)) = false by rw [h1]; try rfl) (Ai (show (bnot (r37.v w.lap 0 1000000)) = true by rw [h2]; try rfl) (Ai (show (bnot (r37.v w.lap 0 1000000)) = true by rw [h2]; try rfl) (Ai (show (bnot (r37.v w.lap 0 1000000)) = true by rw [h2]; try rfl) (Ai (show (bnot (r37.v w.lap 0 1000000)) = true by rw [h2]; try rfl) (Ai (show (bnot (r37.v w.lap 0 1000000)) = true by rw [h2]; try rfl) (Ai (show (bnot (r37.v w.lap 0 1000000)) = true by rw [h2]; try rfl) (Ai (rfl : true = true) (Ai (rfl : true = true) (Ai (rfl : true = true) (Ai (rfl : true = true) (Ai (rfl : true = true) (Ai (rfl : true = true) (Ai (rfl : true = true) (Ai (show (iv 6) = ((iv (r40.v w))) by simp only [r40.v, h1, h2, cond_true, cond_false]) trivial)))))))))))))))))))))) h
 | false =>
  exact Ret.of_run1 mix [(iv (r40.v w))] Try.func40 rfl [.ret (AV.bool (r37.v w.len 1 1000000)) (r40.h0 w), .b true, .b true, .b true, .b true, .b true, .b true, .b true, .b true, .b true, .b true, .b true, .b true, .b true, .b true, .b true, .b true, .b true, .b true] (by simp) (by simp) (kmp (by kernel_rfl) (Ai (r37 (w.len) (1) (1000000) (r40.h0 w)) (Ai (show (bnot (r37.v w.len 1 1000000)) = true by rw [h1]; try rfl) (Ai (show (bnot (r37.v w.len 1 1000000)) = true by rw [h1]; try rfl) (Ai (show (bnot (r37.v w.len 1 1000000)) = true by rw [h1]; try rfl) (Ai (show (bnot (r37.v w.len 1 1000000)) = true by rw [h1]; try rfl) (Ai (show (bnot (r37.v w.len 1 1000000)) = true by rw [h1]; try rfl) (Ai (rfl : true = true) (Ai (rfl : true = true) (Ai (rfl : true = true) (Ai (rfl : true = true) (Ai (rfl : true = true) (Ai (rfl : true = true) (Ai (rfl : true = true) (Ai (rfl : true = true) (Ai (rfl : true = true) (Ai (rfl : true = true) (Ai (rfl : true = true) (Ai (rfl : true = true) (Ai (rfl : true = true) (Ai (show (iv 6) = ((iv (r40.v w))) by simp only [r40.v, h1, cond_true, cond_false]) trivial))))))))))))))))))))) h
inductive L21a.O where
 | e0
 | e1
noncomputable def L21a.T (w : WD) (a3 : Int) : List AV := mkT 226 [(1, AV.ptr 0 1 6 0 0), (3, iv a3)]
noncomputable def L21a.H (w : WD) (a3 : Int) : AHeap := [AObj.var w.av]
def L21a.inv (w : WD) (a3 : Int) : Prop := 0 ≤ a3 ∧ a3 ≤ (↑w.n : Int)
noncomputable def L21a.mu (w : WD) (a3 : Int) : Nat := ((↑w.n : Int) - a3).toNat
noncomputable def L21a.E : L21a.O → Exit
 | .e0 => Exit.ret
 | .e1 => Exit.exit 0
noncomputable def L21a.X (w : WD) : L21a.O → List AV
 | .e0 => mkT 226 [(2, (iv 4))]
 | .e1 => mkT 226 [(1, (AV.ptr 0 1 6 0 0))]
noncomputable def L21a.XH (w : WD) : L21a.O → AHeap
 | .e0 => ([AObj.var (WD.av w)])
 | .e1 => ([AObj.var (WD.av w)])
noncomputable def L21a.N (w : WD) : Nat → Int → L21a.O
 | 0, _ => .e0
 | k_ + 1, a3 => (bif decide (a3 < (↑w.n : Int)) then (bif r39.v (w.g a3.toNat).nm then (L21a.N w k_ (IntKind.i64.wrap (a3 + 1))) else (.e0)) else (.e1))
noncomputable def L21a.run (w : WD) (a3 : Int) : L21a.O := L21a.N w ((((↑w.n : Int) - a3).toNat) + 1) a3
theorem L21a.nx (w : WD) {k_ : Nat} {z_ : Int} {h_ : AHeap} (s_ : Int) (h1 : L21a.inv w s_) (h2 : L21a.mu w s_ < L21a.mu w z_) (h3 : L21a.N w k_ s_ = L21a.N w (k_ + 1) z_) (h4 : PopOk (L21a.H w z_) h_ (L21a.T w s_) (L21a.H w s_)) : LNextP (L21a.T w) (L21a.H w) (L21a.inv w) (L21a.mu w) (L21a.N w) k_ z_ (L21a.T w s_) h_ := LNextP.mk s_ h1 h2 h3 h4
theorem L21a.en (w : WD) {k_ : Nat} {z_ : Int} {h_ : AHeap} (o_ : L21a.O) (h3 : L21a.N w (k_ + 1) z_ = o_) (h4 : PopOk (L21a.H w z_) h_ (L21a.X w o_) (L21a.XH w o_)) : LEndP (L21a.H w) (L21a.N w) L21a.E (L21a.X w) (L21a.XH w) k_ z_ (L21a.E o_) (L21a.X w o_) h_ := LEndP.mk o_ h3 h4
noncomputable abbrev L21a.h0 (w : WD) (a3 : Int) : AHeap := ([AObj.var (WD.av w)])
theorem L21a.spec (w : WD) (hn : w.n ≤ 10000) (hg : ∀ (i : Nat), (w.g i).nm.size ≤ 9223372036854775807) (k_ : Nat) (z_ : Int) (hi_ : L21a.inv w z_) (hm_ : L21a.mu w z_ < k_) : LoopTo Try.prog (loopN Try.f21 0) (L21a.T w z_) (L21a.H w z_) (L21a.E (L21a.N w k_ z_)) (L21a.X w (L21a.N w k_ z_)) (L21a.XH w (L21a.N w k_ z_)) := by
 refine LoopTo.fuelP mix (L21a.T w) (L21a.H w) (L21a.inv w) (L21a.mu w) (L21a.N w) L21a.E (L21a.X w) (L21a.XH w) (others 226 [1, 3]) (others 226 [2]) (others 226 [1]) ?_ k_ z_ hi_ hm_
 clear hm_ hi_ z_ k_
 intro k_ z_ hinv hmu
 revert hinv hmu; revert z_; intro a3 hinv hmu
 have hinv : 0 ≤ a3 ∧ a3 ≤ (↑w.n : Int) := hinv
 have hmu : (((↑w.n : Int) - a3).toNat) < k_ + 1 := hmu
 cases h1 : decide (a3 < (↑w.n : Int)) with
 | true =>
  have h1p := of_decide_eq_true h1
  have o0 : (0 : Int) ≤ a3 := by omega
  have o1 : a3 < (↑w.n : Int) := by assumption
  have o2 : (w.g a3.toNat).nm.size ≤ (9223372036854775807 : Nat) := by exact hg _
  cases h2 : r39.v (w.g a3.toNat).nm with
  | true =>
   try have := IntWalk.i64_in (a3 + 1) (by omega)
   have o3 : (0 : Int) ≤ IntKind.i64.wrap (a3 + (1 : Int)) := by omega
   have o4 : IntKind.i64.wrap (a3 + (1 : Int)) ≤ (↑w.n : Int) := by omega
   have o5 : ((↑w.n : Int) - IntKind.i64.wrap (a3 + (1 : Int))).toNat < ((↑w.n : Int) - a3).toNat := by omega
   exact ⟨[.b true, .ret (AV.bool (r39.v (w.g a3.toNat).nm)) (L21a.h0 w a3), .b false], kmp (by kernel_rfl) (Ai h1 (Ai (Ai o0 o1) (Ai (r39 ((w.g a3.toNat).nm) o2 (L21a.h0 w a3)) (Ai (show (bnot (r39.v (w.g a3.toNat).nm)) = false by rw [h2]; try rfl) (L21a.nx w (k_ := k_) (z_ := a3) (IntKind.i64.wrap (a3 + 1)) (Ai o3 o4) o5 (by simp only [L21a.N, h1, h2, cond_true, cond_false]) PopOk.same)))))⟩
  | false =>
   exact ⟨[.b true, .ret (AV.bool (r39.v (w.g a3.toNat).nm)) (L21a.h0 w a3), .b true], kmp (by kernel_rfl) (Ai h1 (Ai (Ai o0 o1) (Ai (r39 ((w.g a3.toNat).nm) o2 (L21a.h0 w a3)) (Ai (show (bnot (r39.v (w.g a3.toNat).nm)) = true by rw [h2]; try rfl) (L21a.en w (k_ := k_) (z_ := a3) (.e0 : L21a.O) (by simp only [L21a.N, h1, h2, cond_true, cond_false]) PopOk.same)))))⟩
 | false =>
  have h1p := of_decide_eq_false h1
  exact ⟨[.b false], kmp (by kernel_rfl) (Ai h1 (L21a.en w (k_ := k_) (z_ := a3) (.e1 : L21a.O) (by simp only [L21a.N, h1, cond_true, cond_false]) PopOk.same))⟩
theorem L21a.e0 (w : WD) (hn : w.n ≤ 10000) (hg : ∀ (i : Nat), (w.g i).nm.size ≤ 9223372036854775807) (a3 : Int) (hinv : L21a.inv w a3) (hN : L21a.run w a3 = (.e0 : L21a.O)) : LoopTo Try.prog (loopN Try.f21 0) (L21a.T w a3) (L21a.H w a3) (Exit.ret) (L21a.X w (.e0 : L21a.O)) (L21a.XH w (.e0 : L21a.O)) := by
 have h_ := L21a.spec w hn hg ((((↑w.n : Int) - a3).toNat) + 1) a3 hinv (Nat.lt_succ_self _)
 unfold L21a.run at hN
 simp only [hN] at h_
 exact h_
theorem L21a.e1 (w : WD) (hn : w.n ≤ 10000) (hg : ∀ (i : Nat), (w.g i).nm.size ≤ 9223372036854775807) (a3 : Int) (hinv : L21a.inv w a3) (hN : L21a.run w a3 = (.e1 : L21a.O)) : LoopTo Try.prog (loopN Try.f21 0) (L21a.T w a3) (L21a.H w a3) (Exit.exit 0) (L21a.X w (.e1 : L21a.O)) (L21a.XH w (.e1 : L21a.O)) := by
 have h_ := L21a.spec w hn hg ((((↑w.n : Int) - a3).toNat) + 1) a3 hinv (Nat.lt_succ_self _)
 unfold L21a.run at hN
 simp only [hN] at h_
 exact h_
inductive L21b.O where
 | e0
 | e1
noncomputable def L21b.T (w : WD) (t : Int) (k : Int) : List AV := mkT 226 [(1, AV.ptr 0 1 6 0 0), (5, iv t), (6, iv k)]
noncomputable def L21b.H (w : WD) (t : Int) (k : Int) : AHeap := [AObj.var w.av]
def L21b.inv (w : WD) (t : Int) (k : Int) : Prop := 0 ≤ k ∧ k ≤ 100
noncomputable def L21b.mu (w : WD) (t : Int) (k : Int) : Nat := (t + 1 - k).toNat
noncomputable def L21b.E : L21b.O → Exit
 | .e0 => Exit.ret
 | .e1 => Exit.exit 2
noncomputable def L21b.X (w : WD) (t : Int) : L21b.O → List AV
 | .e0 => mkT 226 [(2, (iv 9))]
 | .e1 => mkT 226 [(1, (AV.ptr 0 1 6 0 0)), (5, (iv t))]
noncomputable def L21b.XH (w : WD) (t : Int) : L21b.O → AHeap
 | .e0 => ([AObj.var (WD.av w)])
 | .e1 => ([AObj.var (WD.av w)])
noncomputable def L21b.N (w : WD) (t : Int) : Nat → Int → L21b.O
 | 0, _ => .e0
 | k_ + 1, k => (bif decide (k ≤ t) then (bif (↑(corR w.g k w.n).length : Int) == 0 then (.e0) else (L21b.N w t k_ (IntKind.i64.wrap (k + 1)))) else (.e1))
noncomputable def L21b.run (w : WD) (t : Int) (k : Int) : L21b.O := L21b.N w t (((t + 1 - k).toNat) + 1) k
theorem L21b.nx (w : WD) (t : Int) {k_ : Nat} {z_ : Int} {h_ : AHeap} (s_ : Int) (h1 : L21b.inv w t s_) (h2 : L21b.mu w t s_ < L21b.mu w t z_) (h3 : L21b.N w t k_ s_ = L21b.N w t (k_ + 1) z_) (h4 : PopOk (L21b.H w t z_) h_ (L21b.T w t s_) (L21b.H w t s_)) : LNextP (L21b.T w t) (L21b.H w t) (L21b.inv w t) (L21b.mu w t) (L21b.N w t) k_ z_ (L21b.T w t s_) h_ := LNextP.mk s_ h1 h2 h3 h4
theorem L21b.en (w : WD) (t : Int) {k_ : Nat} {z_ : Int} {h_ : AHeap} (o_ : L21b.O) (h3 : L21b.N w t (k_ + 1) z_ = o_) (h4 : PopOk (L21b.H w t z_) h_ (L21b.X w t o_) (L21b.XH w t o_)) : LEndP (L21b.H w t) (L21b.N w t) L21b.E (L21b.X w t) (L21b.XH w t) k_ z_ (L21b.E o_) (L21b.X w t o_) h_ := LEndP.mk o_ h3 h4
noncomputable abbrev L21b.h0 (w : WD) (t : Int) (k : Int) : AHeap := ([AObj.var (WD.av w)])
theorem L21b.spec (w : WD) (hn : w.n ≤ 10000) (t : Int) (ht : t ≤ 99) (k_ : Nat) (z_ : Int) (hi_ : L21b.inv w t z_) (hm_ : L21b.mu w t z_ < k_) : LoopTo Try.prog (loopN Try.f21 1) (L21b.T w t z_) (L21b.H w t z_) (L21b.E (L21b.N w t k_ z_)) (L21b.X w t (L21b.N w t k_ z_)) (L21b.XH w t (L21b.N w t k_ z_)) := by
 refine LoopTo.fuelP mix (L21b.T w t) (L21b.H w t) (L21b.inv w t) (L21b.mu w t) (L21b.N w t) L21b.E (L21b.X w t) (L21b.XH w t) (others 226 [1, 5, 6]) (others 226 [2]) (others 226 [1, 5]) ?_ k_ z_ hi_ hm_
 clear hm_ hi_ z_ k_
 intro k_ z_ hinv hmu
 revert hinv hmu; revert z_; intro k hinv hmu
 have hinv : 0 ≤ k ∧ k ≤ 100 := hinv
 have hmu : ((t + 1 - k).toNat) < k_ + 1 := hmu
 cases h1 : decide (k ≤ t) with
 | true =>
  have h1p := of_decide_eq_true h1
  have o0 : w.n ≤ (10000 : Nat) := by assumption
  cases h2 : (↑(corR w.g k w.n).length : Int) == 0 with
  | true =>
   have h2p := eq_of_beq h2
   exact ⟨[.b true, .ret (AV.sl 14 (corR w.g k w.n).length fun (q : Nat) => (SD.av ((corR w.g k w.n).getD q default))) (L21b.h0 w t k), .b true], kmp (by kernel_rfl) (Ai h1 (Ai (r42 (w) (k) o0 (L21b.h0 w t k)) (Ai h2 (L21b.en w t (k_ := k_) (z_ := k) (.e0 : L21b.O) (by simp only [L21b.N, h1, h2, cond_true, cond_false]) PopOk.same))))⟩
  | false =>
   have h2p := ne_of_beq_false h2
   try have := IntWalk.i64_in (k + 1) (by omega)
   have o1 : (0 : Int) ≤ IntKind.i64.wrap (k + (1 : Int)) := by omega
   have o2 : IntKind.i64.wrap (k + (1 : Int)) ≤ (100 : Int) := by omega
   have o3 : (t + (1 : Int) - IntKind.i64.wrap (k + (1 : Int))).toNat < (t + (1 : Int) - k).toNat := by omega
   exact ⟨[.b true, .ret (AV.sl 14 (corR w.g k w.n).length fun (q : Nat) => (SD.av ((corR w.g k w.n).getD q default))) (L21b.h0 w t k), .b false], kmp (by kernel_rfl) (Ai h1 (Ai (r42 (w) (k) o0 (L21b.h0 w t k)) (Ai h2 (L21b.nx w t (k_ := k_) (z_ := k) (IntKind.i64.wrap (k + 1)) (Ai o1 o2) o3 (by simp only [L21b.N, h1, h2, cond_true, cond_false]) PopOk.same))))⟩
 | false =>
  have h1p := of_decide_eq_false h1
  exact ⟨[.b false], kmp (by kernel_rfl) (Ai h1 (L21b.en w t (k_ := k_) (z_ := k) (.e1 : L21b.O) (by simp only [L21b.N, h1, cond_true, cond_false]) PopOk.same))⟩
theorem L21b.e0 (w : WD) (hn : w.n ≤ 10000) (t : Int) (ht : t ≤ 99) (k : Int) (hinv : L21b.inv w t k) (hN : L21b.run w t k = (.e0 : L21b.O)) : LoopTo Try.prog (loopN Try.f21 1) (L21b.T w t k) (L21b.H w t k) (Exit.ret) (L21b.X w t (.e0 : L21b.O)) (L21b.XH w t (.e0 : L21b.O)) := by
 have h_ := L21b.spec w hn t ht (((t + 1 - k).toNat) + 1) k hinv (Nat.lt_succ_self _)
 unfold L21b.run at hN
 simp only [hN] at h_
 exact h_
theorem L21b.e1 (w : WD) (hn : w.n ≤ 10000) (t : Int) (ht : t ≤ 99) (k : Int) (hinv : L21b.inv w t k) (hN : L21b.run w t k = (.e1 : L21b.O)) : LoopTo Try.prog (loopN Try.f21 1) (L21b.T w t k) (L21b.H w t k) (Exit.exit 2) (L21b.X w t (.e1 : L21b.O)) (L21b.XH w t (.e1 : L21b.O)) := by
 have h_ := L21b.spec w hn t ht (((t + 1 - k).toNat) + 1) k hinv (Nat.lt_succ_self _)
 unfold L21b.run at hN
 simp only [hN] at h_
 exact h_
end Go.Proofs.Ytjdbmmilcihpoaa
open Go
namespace Go.Proofs.Ytjdbmmilcihpoaa
set_option linter.unusedSimpArgs false
set_option linter.unusedVariables false
set_option maxHeartbeats 0
set_option maxRecDepth 100000
theorem cor_le {w : WD} (hn : w.n ≤ 10000) (c : Int) : (corR w.g c w.n).length ≤ 10000 := by have := corR_len w.g c w.n; omega
theorem bd_cor {w : WD} {b c : Int} (h : b < ((corR w.g c w.n).length : Int)) (hn : w.n ≤ 10000) : b < 10000 := by have := corR_len w.g c w.n; omega
theorem cor_p0 {w : WD} {t k : Int} (hne : ∀ k, 0 ≤ k → k ≤ t → 0 < (corR w.g k w.n).length) (h0 : 0 ≤ k) (h1 : k ≤ t) : (0 : Int) < ((corR w.g k w.n).length : Int) := by have := hne k h0 h1; omega
inductive L21d.O where
 | e0
 | e1
noncomputable def L21d.T (w : WD) (L : List SD) (t : Int) (k : Int) (i : Int) : List AV := mkT 226 [(1, AV.ptr 0 1 6 0 0), (5, iv t), (7, iv k), (8, sl14 L), (9, iv i)]
noncomputable def L21d.H (w : WD) (L : List SD) (t : Int) (k : Int) (i : Int) : AHeap := [AObj.var w.av]
def L21d.inv (w : WD) (L : List SD) (t : Int) (k : Int) (i : Int) : Prop := 0 ≤ i ∧ i ≤ (↑L.length : Int)
noncomputable def L21d.mu (w : WD) (L : List SD) (t : Int) (k : Int) (i : Int) : Nat := ((↑L.length : Int) - i).toNat
noncomputable def L21d.E : L21d.O → Exit
 | .e0 => Exit.ret
 | .e1 => Exit.exit 6
noncomputable def L21d.X (w : WD) (L : List SD) (t : Int) (k : Int) : L21d.O → List AV
 | .e0 => mkT 226 [(2, (iv 10))]
 | .e1 => mkT 226 [(1, (AV.ptr 0 1 6 0 0)), (5, (iv t)), (7, (iv k)), (8, (AV.sl 14 L.length fun (q : Nat) => (SD.av (L.getD q default))))]
noncomputable def L21d.XH (w : WD) (L : List SD) (t : Int) (k : Int) : L21d.O → AHeap
 | .e0 => ([AObj.var (WD.av w)])
 | .e1 => ([AObj.var (WD.av w)])
noncomputable def L21d.N (L : List SD) : Nat → Int → L21d.O
 | 0, _ => .e0
 | k_ + 1, i => (bif decide (i < (↑L.length : Int)) then (bif (L.getD i.toNat default).az == (L.getD 0 default).az then (bif (L.getD i.toNat default).sz == (L.getD 0 default).sz then (L21d.N L k_ (IntKind.i64.wrap (i + 1))) else (.e0)) else (.e0)) else (.e1))
noncomputable def L21d.run (L : List SD) (i : Int) : L21d.O := L21d.N L ((((↑L.length : Int) - i).toNat) + 1) i
theorem L21d.nx (w : WD) (L : List SD) (t : Int) (k : Int) {k_ : Nat} {z_ : Int} {h_ : AHeap} (s_ : Int) (h1 : L21d.inv w L t k s_) (h2 : L21d.mu w L t k s_ < L21d.mu w L t k z_) (h3 : L21d.N L k_ s_ = L21d.N L (k_ + 1) z_) (h4 : PopOk (L21d.H w L t k z_) h_ (L21d.T w L t k s_) (L21d.H w L t k s_)) : LNextP (L21d.T w L t k) (L21d.H w L t k) (L21d.inv w L t k) (L21d.mu w L t k) (L21d.N L) k_ z_ (L21d.T w L t k s_) h_ := LNextP.mk s_ h1 h2 h3 h4
theorem L21d.en (w : WD) (L : List SD) (t : Int) (k : Int) {k_ : Nat} {z_ : Int} {h_ : AHeap} (o_ : L21d.O) (h3 : L21d.N L (k_ + 1) z_ = o_) (h4 : PopOk (L21d.H w L t k z_) h_ (L21d.X w L t k o_) (L21d.XH w L t k o_)) : LEndP (L21d.H w L t k) (L21d.N L) L21d.E (L21d.X w L t k) (L21d.XH w L t k) k_ z_ (L21d.E o_) (L21d.X w L t k o_) h_ := LEndP.mk o_ h3 h4
theorem L21d.spec (w : WD) (L : List SD) (hl : L.length ≤ 10000) (t : Int) (k : Int) (k_ : Nat) (z_ : Int) (hi_ : L21d.inv w L t k z_) (hm_ : L21d.mu w L t k z_ < k_) : LoopTo Try.prog (loopN Try.f21 3) (L21d.T w L t k z_) (L21d.H w L t k z_) (L21d.E (L21d.N L k_ z_)) (L21d.X w L t k (L21d.N L k_ z_)) (L21d.XH w L t k (L21d.N L k_ z_)) := by
 refine LoopTo.fuelP mix (L21d.T w L t k) (L21d.H w L t k) (L21d.inv w L t k) (L21d.mu w L t k) (L21d.N L) L21d.E (L21d.X w L t k) (L21d.XH w L t k) (others 226 [1, 5, 7, 8, 9]) (others 226 [2]) (others 226 [1, 5, 7, 8]) ?_ k_ z_ hi_ hm_
 clear hm_ hi_ z_ k_
 intro k_ z_ hinv hmu
 revert hinv hmu; revert z_; intro i hinv hmu
 have hinv : 0 ≤ i ∧ i ≤ (↑L.length : Int) := hinv
 have hmu : (((↑L.length : Int) - i).toNat) < k_ + 1 := hmu
 cases h1 : decide (i < (↑L.length : Int)) with
 | true =>
  have h1p := of_decide_eq_true h1
  have o0 : (0 : Int) ≤ i := by omega
  have o1 : i < (↑L.length : Int) := by assumption
  have o2 : (0 : Int) < (↑L.length : Int) := by omega
  cases h2 : (L.getD i.toNat default).az == (L.getD 0 default).az with
  | true =>
   have h2p := eq_of_beq h2
   cases h3 : (L.getD i.toNat default).sz == (L.getD 0 default).sz with
   | true =>
    have h3p := eq_of_beq h3
    try have := IntWalk.i64_in (i + 1) (by omega)
    have o3 : (0 : Int) ≤ IntKind.i64.wrap (i + (1 : Int)) := by omega
    have o4 : IntKind.i64.wrap (i + (1 : Int)) ≤ (↑L.length : Int) := by omega
    have o5 : ((↑L.length : Int) - IntKind.i64.wrap (i + (1 : Int))).toNat < ((↑L.length : Int) - i).toNat := by omega
    exact ⟨[.b true, .b false, .b false, .b false, .b false, .b false, .b false, .b false, .b false, .b false, .b false, .b false, .b false, .b false, .b false], kmp (by kernel_rfl) (Ai h1 (Ai (Ai o0 o1) (Ai (Ai (show (0 : Int) ≤ (0 : Int) by decide) o2) (Ai (show (bnot ((L.getD i.toNat default).az == (L.getD 0 default).az)) = false by rw [h2]; try rfl) (Ai (show (bnot ((L.getD i.toNat default).az == (L.getD 0 default).az)) = false by rw [h2]; try rfl) (Ai (show (bnot ((L.getD i.toNat default).az == (L.getD 0 default).az)) = false by rw [h2]; try rfl) (Ai (Ai o0 o1) (Ai (show (bnot ((L.getD i.toNat default).az == (L.getD 0 default).az)) = false by rw [h2]; try rfl) (Ai (show (bnot ((L.getD i.toNat default).az == (L.getD 0 default).az)) = false by rw [h2]; try rfl) (Ai (show (bnot ((L.getD i.toNat default).az == (L.getD 0 default).az)) = false by rw [h2]; try rfl) (Ai (show (bnot ((L.getD i.toNat default).az == (L.getD 0 default).az)) = false by rw [h2]; try rfl) (Ai (show (bnot ((L.getD i.toNat default).az == (L.getD 0 default).az)) = false by rw [h2]; try rfl) (Ai (Ai (show (0 : Int) ≤ (0 : Int) by decide) o2) (Ai (show (bnot ((L.getD i.toNat default).az == (L.getD 0 default).az)) = false by rw [h2]; try rfl) (Ai (show (bnot ((L.getD i.toNat default).az == (L.getD 0 default).az)) = false by rw [h2]; try rfl) (Ai (show (bnot ((L.getD i.toNat default).az == (L.getD 0 default).az)) = false by rw [h2]; try rfl) (Ai (show (bnot ((L.getD i.toNat default).az == (L.getD 0 default).az)) = false by rw [h2]; try rfl) (Ai (show (bnot ((L.getD i.toNat default).az == (L.getD 0 default).az)) = false by rw [h2]; try rfl) (Ai (show (bnot ((L.getD i.toNat default).sz == (L.getD 0 default).sz)) = false by rw [h3]; try rfl) (L21d.nx w L t k (k_ := k_) (z_ := i) (IntKind.i64.wrap (i + 1)) (Ai o3 o4) o5 (by simp only [L21d.N, h1, h2, h3, cond_true, cond_false]) PopOk.same))))))))))))))))))))⟩
   | false =>
    have h3p := ne_of_beq_false h3
    exact ⟨[.b true, .b false, .b false, .b false, .b false, .b false, .b false, .b false, .b false, .b false, .b false, .b false, .b false, .b false, .b true], kmp (by kernel_rfl) (Ai h1 (Ai (Ai o0 o1) (Ai (Ai (show (0 : Int) ≤ (0 : Int) by decide) o2) (Ai (show (bnot ((L.getD i.toNat default).az == (L.getD 0 default).az)) = false by rw [h2]; try rfl) (Ai (show (bnot ((L.getD i.toNat default).az == (L.getD 0 default).az)) = false by rw [h2]; try rfl) (Ai (show (bnot ((L.getD i.toNat default).az == (L.getD 0 default).az)) = false by rw [h2]; try rfl) (Ai (Ai o0 o1) (Ai (show (bnot ((L.getD i.toNat default).az == (L.getD 0 default).az)) = false by rw [h2]; try rfl) (Ai (show (bnot ((L.getD i.toNat default).az == (L.getD 0 default).az)) = false by rw [h2]; try rfl) (Ai (show (bnot ((L.getD i.toNat default).az == (L.getD 0 default).az)) = false by rw [h2]; try rfl) (Ai (show (bnot ((L.getD i.toNat default).az == (L.getD 0 default).az)) = false by rw [h2]; try rfl) (Ai (show (bnot ((L.getD i.toNat default).az == (L.getD 0 default).az)) = false by rw [h2]; try rfl) (Ai (Ai (show (0 : Int) ≤ (0 : Int) by decide) o2) (Ai (show (bnot ((L.getD i.toNat default).az == (L.getD 0 default).az)) = false by rw [h2]; try rfl) (Ai (show (bnot ((L.getD i.toNat default).az == (L.getD 0 default).az)) = false by rw [h2]; try rfl) (Ai (show (bnot ((L.getD i.toNat default).az == (L.getD 0 default).az)) = false by rw [h2]; try rfl) (Ai (show (bnot ((L.getD i.toNat default).az == (L.getD 0 default).az)) = false by rw [h2]; try rfl) (Ai (show (bnot ((L.getD i.toNat default).az == (L.getD 0 default).az)) = false by rw [h2]; try rfl) (Ai (show (bnot ((L.getD i.toNat default).sz == (L.getD 0 default).sz)) = true by rw [h3]; try rfl) (L21d.en w L t k (k_ := k_) (z_ := i) (.e0 : L21d.O) (by simp only [L21d.N, h1, h2, h3, cond_true, cond_false]) PopOk.same))))))))))))))))))))⟩
  | false =>
   have h2p := ne_of_beq_false h2
   exact ⟨[.b true, .b true, .b true, .b true, .b true, .b true, .b true, .b true, .b true, .b true, .b true, .b true, .b true, .b true, .b true], kmp (by kernel_rfl) (Ai h1 (Ai (Ai o0 o1) (Ai (Ai (show (0 : Int) ≤ (0 : Int) by decide) o2) (Ai (show (bnot ((L.getD i.toNat default).az == (L.getD 0 default).az)) = true by rw [h2]; try rfl) (Ai (show (bnot ((L.getD i.toNat default).az == (L.getD 0 default).az)) = true by rw [h2]; try rfl) (Ai (show (bnot ((L.getD i.toNat default).az == (L.getD 0 default).az)) = true by rw [h2]; try rfl) (Ai (show (bnot ((L.getD i.toNat default).az == (L.getD 0 default).az)) = true by rw [h2]; try rfl) (Ai (show (bnot ((L.getD i.toNat default).az == (L.getD 0 default).az)) = true by rw [h2]; try rfl) (Ai (show (bnot ((L.getD i.toNat default).az == (L.getD 0 default).az)) = true by rw [h2]; try rfl) (Ai (show (bnot ((L.getD i.toNat default).az == (L.getD 0 default).az)) = true by rw [h2]; try rfl) (Ai (show (bnot ((L.getD i.toNat default).az == (L.getD 0 default).az)) = true by rw [h2]; try rfl) (Ai (show (bnot ((L.getD i.toNat default).az == (L.getD 0 default).az)) = true by rw [h2]; try rfl) (Ai (show (bnot ((L.getD i.toNat default).az == (L.getD 0 default).az)) = true by rw [h2]; try rfl) (Ai (show (bnot ((L.getD i.toNat default).az == (L.getD 0 default).az)) = true by rw [h2]; try rfl) (Ai (show (bnot ((L.getD i.toNat default).az == (L.getD 0 default).az)) = true by rw [h2]; try rfl) (Ai (show (bnot ((L.getD i.toNat default).az == (L.getD 0 default).az)) = true by rw [h2]; try rfl) (Ai (rfl : true = true) (L21d.en w L t k (k_ := k_) (z_ := i) (.e0 : L21d.O) (by simp only [L21d.N, h1, h2, cond_true, cond_false]) PopOk.same))))))))))))))))))⟩
 | false =>
  have h1p := of_decide_eq_false h1
  exact ⟨[.b false], kmp (by kernel_rfl) (Ai h1 (L21d.en w L t k (k_ := k_) (z_ := i) (.e1 : L21d.O) (by simp only [L21d.N, h1, cond_true, cond_false]) PopOk.same))⟩
theorem L21d.e0 (w : WD) (L : List SD) (hl : L.length ≤ 10000) (t : Int) (k : Int) (i : Int) (hinv : L21d.inv w L t k i) (hN : L21d.run L i = (.e0 : L21d.O)) : LoopTo Try.prog (loopN Try.f21 3) (L21d.T w L t k i) (L21d.H w L t k i) (Exit.ret) (L21d.X w L t k (.e0 : L21d.O)) (L21d.XH w L t k (.e0 : L21d.O)) := by
 have h_ := L21d.spec w L hl t k ((((↑L.length : Int) - i).toNat) + 1) i hinv (Nat.lt_succ_self _)
 unfold L21d.run at hN
 simp only [hN] at h_
 exact h_
theorem L21d.e1 (w : WD) (L : List SD) (hl : L.length ≤ 10000) (t : Int) (k : Int) (i : Int) (hinv : L21d.inv w L t k i) (hN : L21d.run L i = (.e1 : L21d.O)) : LoopTo Try.prog (loopN Try.f21 3) (L21d.T w L t k i) (L21d.H w L t k i) (Exit.exit 6) (L21d.X w L t k (.e1 : L21d.O)) (L21d.XH w L t k (.e1 : L21d.O)) := by
 have h_ := L21d.spec w L hl t k ((((↑L.length : Int) - i).toNat) + 1) i hinv (Nat.lt_succ_self _)
 unfold L21d.run at hN
 simp only [hN] at h_
 exact h_
inductive L21f.O where
 | e0
 | e1
noncomputable def L21f.T (w : WD) (L : List SD) (t : Int) (k : Int) (i : Int) : List AV := mkT 226 [(1, AV.ptr 0 1 6 0 0), (5, iv t), (11, iv k), (12, sl14 L), (13, iv i)]
noncomputable def L21f.H (w : WD) (L : List SD) (t : Int) (k : Int) (i : Int) : AHeap := [AObj.var w.av]
def L21f.inv (w : WD) (L : List SD) (t : Int) (k : Int) (i : Int) : Prop := 1 ≤ i ∧ (i ≤ (↑L.length : Int) ∨ i ≤ 1)
noncomputable def L21f.mu (w : WD) (L : List SD) (t : Int) (k : Int) (i : Int) : Nat := ((↑L.length : Int) - i).toNat
noncomputable def L21f.E : L21f.O → Exit
 | .e0 => Exit.ret
 | .e1 => Exit.exit 10
noncomputable def L21f.X (w : WD) (L : List SD) (t : Int) (k : Int) : L21f.O → List AV
 | .e0 => mkT 226 [(2, (iv 11))]
 | .e1 => mkT 226 [(1, (AV.ptr 0 1 6 0 0)), (5, (iv t)), (11, (iv k))]
noncomputable def L21f.XH (w : WD) (L : List SD) (t : Int) (k : Int) : L21f.O → AHeap
 | .e0 => ([AObj.var (WD.av w)])
 | .e1 => ([AObj.var (WD.av w)])
noncomputable def L21f.N (L : List SD) : Nat → Int → L21f.O
 | 0, _ => .e0
 | k_ + 1, i => (bif decide (i < (↑L.length : Int)) then (bif decide ((L.getD i.toNat default).ax < IntKind.i64.wrap ((L.getD (IntKind.i64.wrap (i - 1)).toNat default).ax + (L.getD (IntKind.i64.wrap (i - 1)).toNat default).sx)) then (.e0) else (L21f.N L k_ (IntKind.i64.wrap (i + 1)))) else (.e1))
noncomputable def L21f.run (L : List SD) (i : Int) : L21f.O := L21f.N L ((((↑L.length : Int) - i).toNat) + 1) i
theorem L21f.nx (w : WD) (L : List SD) (t : Int) (k : Int) {k_ : Nat} {z_ : Int} {h_ : AHeap} (s_ : Int) (h1 : L21f.inv w L t k s_) (h2 : L21f.mu w L t k s_ < L21f.mu w L t k z_) (h3 : L21f.N L k_ s_ = L21f.N L (k_ + 1) z_) (h4 : PopOk (L21f.H w L t k z_) h_ (L21f.T w L t k s_) (L21f.H w L t k s_)) : LNextP (L21f.T w L t k) (L21f.H w L t k) (L21f.inv w L t k) (L21f.mu w L t k) (L21f.N L) k_ z_ (L21f.T w L t k s_) h_ := LNextP.mk s_ h1 h2 h3 h4
theorem L21f.en (w : WD) (L : List SD) (t : Int) (k : Int) {k_ : Nat} {z_ : Int} {h_ : AHeap} (o_ : L21f.O) (h3 : L21f.N L (k_ + 1) z_ = o_) (h4 : PopOk (L21f.H w L t k z_) h_ (L21f.X w L t k o_) (L21f.XH w L t k o_)) : LEndP (L21f.H w L t k) (L21f.N L) L21f.E (L21f.X w L t k) (L21f.XH w L t k) k_ z_ (L21f.E o_) (L21f.X w L t k o_) h_ := LEndP.mk o_ h3 h4
theorem L21f.spec (w : WD) (L : List SD) (hl : L.length ≤ 10000) (t : Int) (k : Int) (k_ : Nat) (z_ : Int) (hi_ : L21f.inv w L t k z_) (hm_ : L21f.mu w L t k z_ < k_) : LoopTo Try.prog (loopN Try.f21 5) (L21f.T w L t k z_) (L21f.H w L t k z_) (L21f.E (L21f.N L k_ z_)) (L21f.X w L t k (L21f.N L k_ z_)) (L21f.XH w L t k (L21f.N L k_ z_)) := by
 refine LoopTo.fuelP mix (L21f.T w L t k) (L21f.H w L t k) (L21f.inv w L t k) (L21f.mu w L t k) (L21f.N L) L21f.E (L21f.X w L t k) (L21f.XH w L t k) (others 226 [1, 5, 11, 12, 13]) (others 226 [2]) (others 226 [1, 5, 11]) ?_ k_ z_ hi_ hm_
 clear hm_ hi_ z_ k_
 intro k_ z_ hinv hmu
 revert hinv hmu; revert z_; intro i hinv hmu
 have hinv : 1 ≤ i ∧ (i ≤ (↑L.length : Int) ∨ i ≤ 1) := hinv
 have hmu : (((↑L.length : Int) - i).toNat) < k_ + 1 := hmu
 cases h1 : decide (i < (↑L.length : Int)) with
 | true =>
  have h1p := of_decide_eq_true h1
  have o0 : (0 : Int) ≤ i := by omega
  have o1 : i < (↑L.length : Int) := by assumption
  try have := IntWalk.i64_in (i - 1) (by omega)
  have o2 : (0 : Int) ≤ IntKind.i64.wrap (i - (1 : Int)) := by omega
  have o3 : IntKind.i64.wrap (i - (1 : Int)) < (↑L.length : Int) := by omega
  cases h2 : decide ((L.getD i.toNat default).ax < IntKind.i64.wrap ((L.getD (IntKind.i64.wrap (i - 1)).toNat default).ax + (L.getD (IntKind.i64.wrap (i - 1)).toNat default).sx)) with
  | true =>
   have h2p := of_decide_eq_true h2
   exact ⟨[.b true, .b true], kmp (by kernel_rfl) (Ai h1 (Ai (Ai o0 o1) (Ai (Ai o2 o3) (Ai (Ai o2 o3) (Ai h2 (L21f.en w L t k (k_ := k_) (z_ := i) (.e0 : L21f.O) (by simp only [L21f.N, h1, h2, cond_true, cond_false]) PopOk.same))))))⟩
  | false =>
   have h2p := of_decide_eq_false h2
   try have := IntWalk.i64_in (i + 1) (by omega)
   have o4 : (1 : Int) ≤ IntKind.i64.wrap (i + (1 : Int)) := by omega
   have o5 : IntKind.i64.wrap (i + (1 : Int)) ≤ (↑L.length : Int) ∨ IntKind.i64.wrap (i + (1 : Int)) ≤ (1 : Int) := by omega
   have o6 : ((↑L.length : Int) - IntKind.i64.wrap (i + (1 : Int))).toNat < ((↑L.length : Int) - i).toNat := by omega
   exact ⟨[.b true, .b false], kmp (by kernel_rfl) (Ai h1 (Ai (Ai o0 o1) (Ai (Ai o2 o3) (Ai (Ai o2 o3) (Ai h2 (L21f.nx w L t k (k_ := k_) (z_ := i) (IntKind.i64.wrap (i + 1)) (Ai o4 o5) o6 (by simp only [L21f.N, h1, h2, cond_true, cond_false]) PopOk.same))))))⟩
 | false =>
  have h1p := of_decide_eq_false h1
  exact ⟨[.b false], kmp (by kernel_rfl) (Ai h1 (L21f.en w L t k (k_ := k_) (z_ := i) (.e1 : L21f.O) (by simp only [L21f.N, h1, cond_true, cond_false]) PopOk.same))⟩
theorem L21f.e0 (w : WD) (L : List SD) (hl : L.length ≤ 10000) (t : Int) (k : Int) (i : Int) (hinv : L21f.inv w L t k i) (hN : L21f.run L i = (.e0 : L21f.O)) : LoopTo Try.prog (loopN Try.f21 5) (L21f.T w L t k i) (L21f.H w L t k i) (Exit.ret) (L21f.X w L t k (.e0 : L21f.O)) (L21f.XH w L t k (.e0 : L21f.O)) := by
 have h_ := L21f.spec w L hl t k ((((↑L.length : Int) - i).toNat) + 1) i hinv (Nat.lt_succ_self _)
 unfold L21f.run at hN
 simp only [hN] at h_
 exact h_
theorem L21f.e1 (w : WD) (L : List SD) (hl : L.length ≤ 10000) (t : Int) (k : Int) (i : Int) (hinv : L21f.inv w L t k i) (hN : L21f.run L i = (.e1 : L21f.O)) : LoopTo Try.prog (loopN Try.f21 5) (L21f.T w L t k i) (L21f.H w L t k i) (Exit.exit 10) (L21f.X w L t k (.e1 : L21f.O)) (L21f.XH w L t k (.e1 : L21f.O)) := by
 have h_ := L21f.spec w L hl t k ((((↑L.length : Int) - i).toNat) + 1) i hinv (Nat.lt_succ_self _)
 unfold L21f.run at hN
 simp only [hN] at h_
 exact h_
inductive L21h.O where
 | e0
 | e1
noncomputable def L21h.T (w : WD) (L : List SD) (t : Int) (k : Int) (i : Int) : List AV := mkT 226 [(1, AV.ptr 0 1 6 0 0), (5, iv t), (14, iv k), (15, sl14 L), (16, iv (↑L.length : Int)), (17, iv i)]
noncomputable def L21h.H (w : WD) (L : List SD) (t : Int) (k : Int) (i : Int) : AHeap := [AObj.var w.av]
def L21h.inv (w : WD) (L : List SD) (t : Int) (k : Int) (i : Int) : Prop := 1 ≤ i ∧ (i ≤ (↑L.length : Int) ∨ i ≤ 1)
noncomputable def L21h.mu (w : WD) (L : List SD) (t : Int) (k : Int) (i : Int) : Nat := ((↑L.length : Int) - i).toNat
noncomputable def L21h.E : L21h.O → Exit
 | .e0 => Exit.ret
 | .e1 => Exit.exit 14
noncomputable def L21h.X (w : WD) (L : List SD) (t : Int) (k : Int) : L21h.O → List AV
 | .e0 => mkT 226 [(2, (iv 10))]
 | .e1 => mkT 226 [(1, (AV.ptr 0 1 6 0 0)), (5, (iv t)), (14, (iv k)), (15, (AV.sl 14 L.length fun (q : Nat) => (SD.av (L.getD q default)))), (16, (iv (↑L.length : Int)))]
noncomputable def L21h.XH (w : WD) (L : List SD) (t : Int) (k : Int) : L21h.O → AHeap
 | .e0 => ([AObj.var (WD.av w)])
 | .e1 => ([AObj.var (WD.av w)])
noncomputable def L21h.N (w : WD) (L : List SD) : Nat → Int → L21h.O
 | 0, _ => .e0
 | k_ + 1, i => (bif decide (i < (↑L.length : Int)) then (bif r43.v w (IntKind.i64.wrap (IntKind.i64.wrap ((L.getD i.toNat default).ax - (L.getD (IntKind.i64.wrap (i - 1)).toNat default).ax) - (L.getD (IntKind.i64.wrap (i - 1)).toNat default).sx)) then (L21h.N w L k_ (IntKind.i64.wrap (i + 1))) else (.e0)) else (.e1))
noncomputable def L21h.run (w : WD) (L : List SD) (i : Int) : L21h.O := L21h.N w L ((((↑L.length : Int) - i).toNat) + 1) i
theorem L21h.nx (w : WD) (L : List SD) (t : Int) (k : Int) {k_ : Nat} {z_ : Int} {h_ : AHeap} (s_ : Int) (h1 : L21h.inv w L t k s_) (h2 : L21h.mu w L t k s_ < L21h.mu w L t k z_) (h3 : L21h.N w L k_ s_ = L21h.N w L (k_ + 1) z_) (h4 : PopOk (L21h.H w L t k z_) h_ (L21h.T w L t k s_) (L21h.H w L t k s_)) : LNextP (L21h.T w L t k) (L21h.H w L t k) (L21h.inv w L t k) (L21h.mu w L t k) (L21h.N w L) k_ z_ (L21h.T w L t k s_) h_ := LNextP.mk s_ h1 h2 h3 h4
theorem L21h.en (w : WD) (L : List SD) (t : Int) (k : Int) {k_ : Nat} {z_ : Int} {h_ : AHeap} (o_ : L21h.O) (h3 : L21h.N w L (k_ + 1) z_ = o_) (h4 : PopOk (L21h.H w L t k z_) h_ (L21h.X w L t k o_) (L21h.XH w L t k o_)) : LEndP (L21h.H w L t k) (L21h.N w L) L21h.E (L21h.X w L t k) (L21h.XH w L t k) k_ z_ (L21h.E o_) (L21h.X w L t k o_) h_ := LEndP.mk o_ h3 h4
noncomputable abbrev L21h.h0 (w : WD) (L : List SD) (t : Int) (k : Int) (i : Int) : AHeap := ([AObj.var (WD.av w)])
theorem L21h.spec (w : WD) (L : List SD) (hl : L.length ≤ 10000) (t : Int) (k : Int) (k_ : Nat) (z_ : Int) (hi_ : L21h.inv w L t k z_) (hm_ : L21h.mu w L t k z_ < k_) : LoopTo Try.prog (loopN Try.f21 7) (L21h.T w L t k z_) (L21h.H w L t k z_) (L21h.E (L21h.N w L k_ z_)) (L21h.X w L t k (L21h.N w L k_ z_)) (L21h.XH w L t k (L21h.N w L k_ z_)) := by
 refine LoopTo.fuelP mix (L21h.T w L t k) (L21h.H w L t k) (L21h.inv w L t k) (L21h.mu w L t k) (L21h.N w L) L21h.E (L21h.X w L t k) (L21h.XH w L t k) (others 226 [1, 5, 14, 15, 16, 17]) (others 226 [2]) (others 226 [1, 5, 14, 15, 16]) ?_ k_ z_ hi_ hm_
 clear hm_ hi_ z_ k_
 intro k_ z_ hinv hmu
 revert hinv hmu; revert z_; intro i hinv hmu
 have hinv : 1 ≤ i ∧ (i ≤ (↑L.length : Int) ∨ i ≤ 1) := hinv
 have hmu : (((↑L.length : Int) - i).toNat) < k_ + 1 := hmu
 cases h1 : decide (i < (↑L.length : Int)) with
 | true =>
  have h1p := of_decide_eq_true h1
  have o0 : (0 : Int) ≤ i := by omega
  have o1 : i < (↑L.length : Int) := by assumption
  try have := IntWalk.i64_in (i - 1) (by omega)
  have o2 : (0 : Int) ≤ IntKind.i64.wrap (i - (1 : Int)) := by omega
  have o3 : IntKind.i64.wrap (i - (1 : Int)) < (↑L.length : Int) := by omega
  cases h2 : r43.v w (IntKind.i64.wrap (IntKind.i64.wrap ((L.getD i.toNat default).ax - (L.getD (IntKind.i64.wrap (i - 1)).toNat default).ax) - (L.getD (IntKind.i64.wrap (i - 1)).toNat default).sx)) with
  | true =>
   try have := IntWalk.i64_in (i + 1) (by omega)
   have o4 : (1 : Int) ≤ IntKind.i64.wrap (i + (1 : Int)) := by omega
   have o5 : IntKind.i64.wrap (i + (1 : Int)) ≤ (↑L.length : Int) ∨ IntKind.i64.wrap (i + (1 : Int)) ≤ (1 : Int) := by omega
   have o6 : ((↑L.length : Int) - IntKind.i64.wrap (i + (1 : Int))).toNat < ((↑L.length : Int) - i).toNat := by omega
   exact ⟨[.b true, .ret (AV.bool (r43.v w (IntKind.i64.wrap (IntKind.i64.wrap ((L.getD i.toNat default).ax - (L.getD (IntKind.i64.wrap (i - 1)).toNat default).ax) - (L.getD (IntKind.i64.wrap (i - 1)).toNat default).sx)))) (L21h.h0 w L t k i), .b false], kmp (by kernel_rfl) (Ai h1 (Ai (Ai o0 o1) (Ai (Ai o2 o3) (Ai (Ai o2 o3) (Ai (r43 (w) (IntKind.i64.wrap (IntKind.i64.wrap ((L.getD i.toNat default).ax - (L.getD (IntKind.i64.wrap (i - 1)).toNat default).ax) - (L.getD (IntKind.i64.wrap (i - 1)).toNat default).sx)) (L21h.h0 w L t k i)) (Ai (show (bnot (r43.v w (IntKind.i64.wrap (IntKind.i64.wrap ((L.getD i.toNat default).ax - (L.getD (IntKind.i64.wrap (i - 1)).toNat default).ax) - (L.getD (IntKind.i64.wrap (i - 1)).toNat default).sx)))) = false by rw [h2]; try rfl) (L21h.nx w L t k (k_ := k_) (z_ := i) (IntKind.i64.wrap (i + 1)) (Ai o4 o5) o6 (by simp only [L21h.N, h1, h2, cond_true, cond_false]) PopOk.same)))))))⟩
  | false =>
   exact ⟨[.b true, .ret (AV.bool (r43.v w (IntKind.i64.wrap (IntKind.i64.wrap ((L.getD i.toNat default).ax - (L.getD (IntKind.i64.wrap (i - 1)).toNat default).ax) - (L.getD (IntKind.i64.wrap (i - 1)).toNat default).sx)))) (L21h.h0 w L t k i), .b true], kmp (by kernel_rfl) (Ai h1 (Ai (Ai o0 o1) (Ai (Ai o2 o3) (Ai (Ai o2 o3) (Ai (r43 (w) (IntKind.i64.wrap (IntKind.i64.wrap ((L.getD i.toNat default).ax - (L.getD (IntKind.i64.wrap (i - 1)).toNat default).ax) - (L.getD (IntKind.i64.wrap (i - 1)).toNat default).sx)) (L21h.h0 w L t k i)) (Ai (show (bnot (r43.v w (IntKind.i64.wrap (IntKind.i64.wrap ((L.getD i.toNat default).ax - (L.getD (IntKind.i64.wrap (i - 1)).toNat default).ax) - (L.getD (IntKind.i64.wrap (i - 1)).toNat default).sx)))) = true by rw [h2]; try rfl) (L21h.en w L t k (k_ := k_) (z_ := i) (.e0 : L21h.O) (by simp only [L21h.N, h1, h2, cond_true, cond_false]) PopOk.same)))))))⟩
 | false =>
  have h1p := of_decide_eq_false h1
  exact ⟨[.b false], kmp (by kernel_rfl) (Ai h1 (L21h.en w L t k (k_ := k_) (z_ := i) (.e1 : L21h.O) (by simp only [L21h.N, h1, cond_true, cond_false]) PopOk.same))⟩
theorem L21h.e0 (w : WD) (L : List SD) (hl : L.length ≤ 10000) (t : Int) (k : Int) (i : Int) (hinv : L21h.inv w L t k i) (hN : L21h.run w L i = (.e0 : L21h.O)) : LoopTo Try.prog (loopN Try.f21 7) (L21h.T w L t k i) (L21h.H w L t k i) (Exit.ret) (L21h.X w L t k (.e0 : L21h.O)) (L21h.XH w L t k (.e0 : L21h.O)) := by
 have h_ := L21h.spec w L hl t k ((((↑L.length : Int) - i).toNat) + 1) i hinv (Nat.lt_succ_self _)
 unfold L21h.run at hN
 simp only [hN] at h_
 exact h_
theorem L21h.e1 (w : WD) (L : List SD) (hl : L.length ≤ 10000) (t : Int) (k : Int) (i : Int) (hinv : L21h.inv w L t k i) (hN : L21h.run w L i = (.e1 : L21h.O)) : LoopTo Try.prog (loopN Try.f21 7) (L21h.T w L t k i) (L21h.H w L t k i) (Exit.exit 14) (L21h.X w L t k (.e1 : L21h.O)) (L21h.XH w L t k (.e1 : L21h.O)) := by
 have h_ := L21h.spec w L hl t k ((((↑L.length : Int) - i).toNat) + 1) i hinv (Nat.lt_succ_self _)
 unfold L21h.run at hN
 simp only [hN] at h_
 exact h_
end Go.Proofs.Ytjdbmmilcihpoaa
open Go
namespace Go.Proofs.Ytjdbmmilcihpoaa
set_option linter.unusedSimpArgs false
set_option linter.unusedVariables false
set_option maxHeartbeats 0
set_option maxRecDepth 100000
inductive L21c.O where
 | e0
 | e1
noncomputable def L21c.T (w : WD) (t : Int) (k : Int) : List AV := mkT 226 [(1, AV.ptr 0 1 6 0 0), (5, iv t), (7, iv k)]
noncomputable def L21c.H (w : WD) (t : Int) (k : Int) : AHeap := [AObj.var w.av]
def L21c.inv (w : WD) (t : Int) (k : Int) : Prop := 0 ≤ k ∧ k ≤ 100
noncomputable def L21c.mu (w : WD) (t : Int) (k : Int) : Nat := (t + 1 - k).toNat
noncomputable def L21c.E : L21c.O → Exit
 | .e0 => Exit.ret
 | .e1 => Exit.exit 4
noncomputable def L21c.X (w : WD) (t : Int) : L21c.O → List AV
 | .e0 => mkT 226 [(2, (iv 10))]
 | .e1 => mkT 226 [(1, (AV.ptr 0 1 6 0 0)), (5, (iv t))]
noncomputable def L21c.XH (w : WD) (t : Int) : L21c.O → AHeap
 | .e0 => ([AObj.var (WD.av w)])
 | .e1 => ([AObj.var (WD.av w)])
noncomputable def L21c.N (w : WD) (t : Int) : Nat → Int → L21c.O
 | 0, _ => .e0
 | k_ + 1, k => (bif decide (k ≤ t) then (match L21d.run (corR w.g k w.n) 0 with | .e0 => (.e0) | .e1 => (bif decide (k > 0) then (bif r43.v w (IntKind.i64.wrap (IntKind.i64.wrap (((corR w.g k w.n).getD 0 default).az - ((corR w.g (IntKind.i64.wrap (k - 1)) w.n).getD 0 default).az) - ((corR w.g (IntKind.i64.wrap (k - 1)) w.n).getD 0 default).sz)) then (L21c.N w t k_ (IntKind.i64.wrap (k + 1))) else (.e0)) else (L21c.N w t k_ (IntKind.i64.wrap (k + 1)))) ) else (.e1))
noncomputable def L21c.run (w : WD) (t : Int) (k : Int) : L21c.O := L21c.N w t (((t + 1 - k).toNat) + 1) k
theorem L21c.nx (w : WD) (t : Int) {k_ : Nat} {z_ : Int} {h_ : AHeap} (s_ : Int) (h1 : L21c.inv w t s_) (h2 : L21c.mu w t s_ < L21c.mu w t z_) (h3 : L21c.N w t k_ s_ = L21c.N w t (k_ + 1) z_) (h4 : PopOk (L21c.H w t z_) h_ (L21c.T w t s_) (L21c.H w t s_)) : LNextP (L21c.T w t) (L21c.H w t) (L21c.inv w t) (L21c.mu w t) (L21c.N w t) k_ z_ (L21c.T w t s_) h_ := LNextP.mk s_ h1 h2 h3 h4
theorem L21c.en (w : WD) (t : Int) {k_ : Nat} {z_ : Int} {h_ : AHeap} (o_ : L21c.O) (h3 : L21c.N w t (k_ + 1) z_ = o_) (h4 : PopOk (L21c.H w t z_) h_ (L21c.X w t o_) (L21c.XH w t o_)) : LEndP (L21c.H w t) (L21c.N w t) L21c.E (L21c.X w t) (L21c.XH w t) k_ z_ (L21c.E o_) (L21c.X w t o_) h_ := LEndP.mk o_ h3 h4
noncomputable abbrev L21c.h0 (w : WD) (t : Int) (k : Int) : AHeap := ([AObj.var (WD.av w)])
theorem L21c.spec (w : WD) (hn : w.n ≤ 10000) (t : Int) (ht : t ≤ 99) (hne : ∀ (k : Int), 0 ≤ k → k ≤ t → 0 < (corR w.g k w.n).length) (k_ : Nat) (z_ : Int) (hi_ : L21c.inv w t z_) (hm_ : L21c.mu w t z_ < k_) : LoopTo Try.prog (loopN Try.f21 2) (L21c.T w t z_) (L21c.H w t z_) (L21c.E (L21c.N w t k_ z_)) (L21c.X w t (L21c.N w t k_ z_)) (L21c.XH w t (L21c.N w t k_ z_)) := by
 refine LoopTo.fuelP mix (L21c.T w t) (L21c.H w t) (L21c.inv w t) (L21c.mu w t) (L21c.N w t) L21c.E (L21c.X w t) (L21c.XH w t) (others 226 [1, 5, 7]) (others 226 [2]) (others 226 [1, 5]) ?_ k_ z_ hi_ hm_
 clear hm_ hi_ z_ k_
 intro k_ z_ hinv hmu
 revert hinv hmu; revert z_; intro k hinv hmu
 have hinv : 0 ≤ k ∧ k ≤ 100 := hinv
 have hmu : ((t + 1 - k).toNat) < k_ + 1 := hmu
 cases h1 : decide (k ≤ t) with
 | true =>
  have h1p := of_decide_eq_true h1
  try have := bd_cor (by first | assumption | omega) (by first | assumption | omega)
  have o0 : w.n ≤ (10000 : Nat) := by assumption
  have o1 : (corR w.g k w.n).length ≤ (10000 : Nat) := by first | assumption | omega | (simp only [List.length_append, List.length_cons, List.length_nil, List.length_map]; omega) | (apply cor_le <;> first | assumption | omega) | (exact hne _) | (exact hne _ (by omega)) | (simp_all; done)
  have o2 : (0 : Int) ≤ (↑(corR w.g k w.n).length : Int) := by omega
  cases h2 : L21d.run (corR w.g k w.n) 0 with
  | e0 =>
   exact ⟨[.b true, .ret (AV.sl 14 (corR w.g k w.n).length fun (q : Nat) => (SD.av ((corR w.g k w.n).getD q default))) (L21c.h0 w t k), .loop (others 226 [1, 5, 7, 8, 9]) (Exit.ret) (L21d.X w (corR w.g k w.n) t k L21d.O.e0) (L21d.XH w (corR w.g k w.n) t k L21d.O.e0)], kmp (by kernel_rfl) (Ai h1 (Ai (r42 (w) (k) o0 (L21c.h0 w t k)) (Ai (L21d.e0 (w) (corR w.g k w.n) o1 (t) (k) (0) (Ai (show (0 : Int) ≤ (0 : Int) by decide) o2) h2) (L21c.en w t (k_ := k_) (z_ := k) (.e0 : L21c.O) (by simp only [L21c.N, h1, h2, cond_true, cond_false]) PopOk.same))))⟩
  | e1 =>
   cases h3 : decide (k > 0) with
   | true =>
    have h3p := of_decide_eq_true h3
    try have := bd_cor (by first | assumption | omega) (by first | assumption | omega)
    have o3 : (0 : Int) < (↑(corR w.g k w.n).length : Int) := by first | assumption | omega | (simp only [List.length_append, List.length_cons, List.length_nil, List.length_map]; omega) | (apply cor_p0 <;> first | assumption | omega) | (exact hne _) | (exact hne _ (by omega)) | (simp_all; done)
    try have := IntWalk.i64_in (k - 1) (by omega)
    have o4 : (0 : Int) < (↑(corR w.g (IntKind.i64.wrap (k - (1 : Int))) w.n).length : Int) := by first | assumption | omega | (simp only [List.length_append, List.length_cons, List.length_nil, List.length_map]; omega) | (apply cor_p0 <;> first | assumption | omega) | (apply cor_p1 <;> first | assumption | omega) | (exact hne _) | (exact hne _ (by omega)) | (simp_all; done)
    cases h4 : r43.v w (IntKind.i64.wrap (IntKind.i64.wrap (((corR w.g k w.n).getD 0 default).az - ((corR w.g (IntKind.i64.wrap (k - 1)) w.n).getD 0 default).az) - ((corR w.g (IntKind.i64.wrap (k - 1)) w.n).getD 0 default).sz)) with
    | true =>
     try have := bd_cor (by assumption) (by assumption)
     try have := IntWalk.i64_in (k + 1) (by omega)
     have o5 : (0 : Int) ≤ IntKind.i64.wrap (k + (1 : Int)) := by omega
     have o6 : IntKind.i64.wrap (k + (1 : Int)) ≤ (100 : Int) := by omega
     have o7 : (t + (1 : Int) - IntKind.i64.wrap (k + (1 : Int))).toNat < (t + (1 : Int) - k).toNat := by omega
     exact ⟨[.b true, .ret (AV.sl 14 (corR w.g k w.n).length fun (q : Nat) => (SD.av ((corR w.g k w.n).getD q default))) (L21c.h0 w t k), .loop (others 226 [1, 5, 7, 8, 9]) (Exit.exit 6) (L21d.X w (corR w.g k w.n) t k L21d.O.e1) (L21d.XH w (corR w.g k w.n) t k L21d.O.e1), .b true, .ret (AV.sl 14 (corR w.g (IntKind.i64.wrap (k - 1)) w.n).length fun (q : Nat) => (SD.av ((corR w.g (IntKind.i64.wrap (k - 1)) w.n).getD q default))) (L21c.h0 w t k), .ret (AV.bool (r43.v w (IntKind.i64.wrap (IntKind.i64.wrap (((corR w.g k w.n).getD 0 default).az - ((corR w.g (IntKind.i64.wrap (k - 1)) w.n).getD 0 default).az) - ((corR w.g (IntKind.i64.wrap (k - 1)) w.n).getD 0 default).sz)))) (L21c.h0 w t k), .b false], kmp (by kernel_rfl) (Ai h1 (Ai (r42 (w) (k) o0 (L21c.h0 w t k)) (Ai (L21d.e1 (w) (corR w.g k w.n) o1 (t) (k) (0) (Ai (show (0 : Int) ≤ (0 : Int) by decide) o2) h2) (Ai h3 (Ai (r42 (w) (IntKind.i64.wrap (k - 1)) o0 (L21c.h0 w t k)) (Ai (Ai (show (0 : Int) ≤ (0 : Int) by decide) o3) (Ai (Ai (show (0 : Int) ≤ (0 : Int) by decide) o4) (Ai (Ai (show (0 : Int) ≤ (0 : Int) by decide) o4) (Ai (r43 (w) (IntKind.i64.wrap (IntKind.i64.wrap (((corR w.g k w.n).getD 0 default).az - ((corR w.g (IntKind.i64.wrap (k - 1)) w.n).getD 0 default).az) - ((corR w.g (IntKind.i64.wrap (k - 1)) w.n).getD 0 default).sz)) (L21c.h0 w t k)) (Ai (show (bnot (r43.v w (IntKind.i64.wrap (IntKind.i64.wrap (((corR w.g k w.n).getD 0 default).az - ((corR w.g (IntKind.i64.wrap (k - 1)) w.n).getD 0 default).az) - ((corR w.g (IntKind.i64.wrap (k - 1)) w.n).getD 0 default).sz)))) = false by rw [h4]; try rfl) (L21c.nx w t (k_ := k_) (z_ := k) (IntKind.i64.wrap (k + 1)) (Ai o5 o6) o7 (by simp only [L21c.N, h1, h3, h4, h2, cond_true, cond_false]) PopOk.same)))))))))))⟩
    | false =>
     exact ⟨[.b true, .ret (AV.sl 14 (corR w.g k w.n).length fun (q : Nat) => (SD.av ((corR w.g k w.n).getD q default))) (L21c.h0 w t k), .loop (others 226 [1, 5, 7, 8, 9]) (Exit.exit 6) (L21d.X w (corR w.g k w.n) t k L21d.O.e1) (L21d.XH w (corR w.g k w.n) t k L21d.O.e1), .b true, .ret (AV.sl 14 (corR w.g (IntKind.i64.wrap (k - 1)) w.n).length fun (q : Nat) => (SD.av ((corR w.g (IntKind.i64.wrap (k - 1)) w.n).getD q default))) (L21c.h0 w t k), .ret (AV.bool (r43.v w (IntKind.i64.wrap (IntKind.i64.wrap (((corR w.g k w.n).getD 0 default).az - ((corR w.g (IntKind.i64.wrap (k - 1)) w.n).getD 0 default).az) - ((corR w.g (IntKind.i64.wrap (k - 1)) w.n).getD 0 default).sz)))) (L21c.h0 w t k), .b true], kmp (by kernel_rfl) (Ai h1 (Ai (r42 (w) (k) o0 (L21c.h0 w t k)) (Ai (L21d.e1 (w) (corR w.g k w.n) o1 (t) (k) (0) (Ai (show (0 : Int) ≤ (0 : Int) by decide) o2) h2) (Ai h3 (Ai (r42 (w) (IntKind.i64.wrap (k - 1)) o0 (L21c.h0 w t k)) (Ai (Ai (show (0 : Int) ≤ (0 : Int) by decide) o3) (Ai (Ai (show (0 : Int) ≤ (0 : Int) by decide) o4) (Ai (Ai (show (0 : Int) ≤ (0 : Int) by decide) o4) (Ai (r43 (w) (IntKind.i64.wrap (IntKind.i64.wrap (((corR w.g k w.n).getD 0 default).az - ((corR w.g (IntKind.i64.wrap (k - 1)) w.n).getD 0 default).az) - ((corR w.g (IntKind.i64.wrap (k - 1)) w.n).getD 0 default).sz)) (L21c.h0 w t k)) (Ai (show (bnot (r43.v w (IntKind.i64.wrap (IntKind.i64.wrap (((corR w.g k w.n).getD 0 default).az - ((corR w.g (IntKind.i64.wrap (k - 1)) w.n).getD 0 default).az) - ((corR w.g (IntKind.i64.wrap (k - 1)) w.n).getD 0 default).sz)))) = true by rw [h4]; try rfl) (L21c.en w t (k_ := k_) (z_ := k) (.e0 : L21c.O) (by simp only [L21c.N, h1, h3, h4, h2, cond_true, cond_false]) PopOk.same)))))))))))⟩
   | false =>
    have h3p := of_decide_eq_false h3
    try have := bd_cor (by first | assumption | omega) (by first | assumption | omega)
    try have := IntWalk.i64_in (k + 1) (by omega)
    have o5 : (0 : Int) ≤ IntKind.i64.wrap (k + (1 : Int)) := by omega
    have o6 : IntKind.i64.wrap (k + (1 : Int)) ≤ (100 : Int) := by omega
    have o7 : (t + (1 : Int) - IntKind.i64.wrap (k + (1 : Int))).toNat < (t + (1 : Int) - k).toNat := by omega
    exact ⟨[.b true, .ret (AV.sl 14 (corR w.g k w.n).length fun (q : Nat) => (SD.av ((corR w.g k w.n).getD q default))) (L21c.h0 w t k), .loop (others 226 [1, 5, 7, 8, 9]) (Exit.exit 6) (L21d.X w (corR w.g k w.n) t k L21d.O.e1) (L21d.XH w (corR w.g k w.n) t k L21d.O.e1), .b false], kmp (by kernel_rfl) (Ai h1 (Ai (r42 (w) (k) o0 (L21c.h0 w t k)) (Ai (L21d.e1 (w) (corR w.g k w.n) o1 (t) (k) (0) (Ai (show (0 : Int) ≤ (0 : Int) by decide) o2) h2) (Ai h3 (L21c.nx w t (k_ := k_) (z_ := k) (IntKind.i64.wrap (k + 1)) (Ai o5 o6) o7 (by simp only [L21c.N, h1, h3, h2, cond_true, cond_false]) PopOk.same)))))⟩
 | false =>
  have h1p := of_decide_eq_false h1
  exact ⟨[.b false], kmp (by kernel_rfl) (Ai h1 (L21c.en w t (k_ := k_) (z_ := k) (.e1 : L21c.O) (by simp only [L21c.N, h1, cond_true, cond_false]) PopOk.same))⟩
theorem L21c.e0 (w : WD) (hn : w.n ≤ 10000) (t : Int) (ht : t ≤ 99) (hne : ∀ (k : Int), 0 ≤ k → k ≤ t → 0 < (corR w.g k w.n).length) (k : Int) (hinv : L21c.inv w t k) (hN : L21c.run w t k = (.e0 : L21c.O)) : LoopTo Try.prog (loopN Try.f21 2) (L21c.T w t k) (L21c.H w t k) (Exit.ret) (L21c.X w t (.e0 : L21c.O)) (L21c.XH w t (.e0 : L21c.O)) := by
 have h_ := L21c.spec w hn t ht hne (((t + 1 - k).toNat) + 1) k hinv (Nat.lt_succ_self _)
 unfold L21c.run at hN
 simp only [hN] at h_
 exact h_
theorem L21c.e1 (w : WD) (hn : w.n ≤ 10000) (t : Int) (ht : t ≤ 99) (hne : ∀ (k : Int), 0 ≤ k → k ≤ t → 0 < (corR w.g k w.n).length) (k : Int) (hinv : L21c.inv w t k) (hN : L21c.run w t k = (.e1 : L21c.O)) : LoopTo Try.prog (loopN Try.f21 2) (L21c.T w t k) (L21c.H w t k) (Exit.exit 4) (L21c.X w t (.e1 : L21c.O)) (L21c.XH w t (.e1 : L21c.O)) := by
 have h_ := L21c.spec w hn t ht hne (((t + 1 - k).toNat) + 1) k hinv (Nat.lt_succ_self _)
 unfold L21c.run at hN
 simp only [hN] at h_
 exact h_
inductive L21e.O where
 | e0
 | e1
noncomputable def L21e.T (w : WD) (t : Int) (k : Int) : List AV := mkT 226 [(1, AV.ptr 0 1 6 0 0), (5, iv t), (11, iv k)]
noncomputable def L21e.H (w : WD) (t : Int) (k : Int) : AHeap := [AObj.var w.av]
def L21e.inv (w : WD) (t : Int) (k : Int) : Prop := 0 ≤ k ∧ k ≤ 100
noncomputable def L21e.mu (w : WD) (t : Int) (k : Int) : Nat := (t + 1 - k).toNat
noncomputable def L21e.E : L21e.O → Exit
 | .e0 => Exit.ret
 | .e1 => Exit.exit 8
noncomputable def L21e.X (w : WD) (t : Int) : L21e.O → List AV
 | .e0 => mkT 226 [(2, (iv 11))]
 | .e1 => mkT 226 [(1, (AV.ptr 0 1 6 0 0)), (5, (iv t))]
noncomputable def L21e.XH (w : WD) (t : Int) : L21e.O → AHeap
 | .e0 => ([AObj.var (WD.av w)])
 | .e1 => ([AObj.var (WD.av w)])
noncomputable def L21e.N (w : WD) (t : Int) : Nat → Int → L21e.O
 | 0, _ => .e0
 | k_ + 1, k => (bif decide (k ≤ t) then (match L21f.run (corR w.g k w.n) 1 with | .e0 => (.e0) | .e1 => (L21e.N w t k_ (IntKind.i64.wrap (k + 1))) ) else (.e1))
noncomputable def L21e.run (w : WD) (t : Int) (k : Int) : L21e.O := L21e.N w t (((t + 1 - k).toNat) + 1) k
theorem L21e.nx (w : WD) (t : Int) {k_ : Nat} {z_ : Int} {h_ : AHeap} (s_ : Int) (h1 : L21e.inv w t s_) (h2 : L21e.mu w t s_ < L21e.mu w t z_) (h3 : L21e.N w t k_ s_ = L21e.N w t (k_ + 1) z_) (h4 : PopOk (L21e.H w t z_) h_ (L21e.T w t s_) (L21e.H w t s_)) : LNextP (L21e.T w t) (L21e.H w t) (L21e.inv w t) (L21e.mu w t) (L21e.N w t) k_ z_ (L21e.T w t s_) h_ := LNextP.mk s_ h1 h2 h3 h4
theorem L21e.en (w : WD) (t : Int) {k_ : Nat} {z_ : Int} {h_ : AHeap} (o_ : L21e.O) (h3 : L21e.N w t (k_ + 1) z_ = o_) (h4 : PopOk (L21e.H w t z_) h_ (L21e.X w t o_) (L21e.XH w t o_)) : LEndP (L21e.H w t) (L21e.N w t) L21e.E (L21e.X w t) (L21e.XH w t) k_ z_ (L21e.E o_) (L21e.X w t o_) h_ := LEndP.mk o_ h3 h4
noncomputable abbrev L21e.h0 (w : WD) (t : Int) (k : Int) : AHeap := ([AObj.var (WD.av w)])
theorem L21e.spec (w : WD) (hn : w.n ≤ 10000) (t : Int) (ht : t ≤ 99) (hne : ∀ (k : Int), 0 ≤ k → k ≤ t → 0 < (corR w.g k w.n).length) (k_ : Nat) (z_ : Int) (hi_ : L21e.inv w t z_) (hm_ : L21e.mu w t z_ < k_) : LoopTo Try.prog (loopN Try.f21 4) (L21e.T w t z_) (L21e.H w t z_) (L21e.E (L21e.N w t k_ z_)) (L21e.X w t (L21e.N w t k_ z_)) (L21e.XH w t (L21e.N w t k_ z_)) := by
 refine LoopTo.fuelP mix (L21e.T w t) (L21e.H w t) (L21e.inv w t) (L21e.mu w t) (L21e.N w t) L21e.E (L21e.X w t) (L21e.XH w t) (others 226 [1, 5, 11]) (others 226 [2]) (others 226 [1, 5]) ?_ k_ z_ hi_ hm_
 clear hm_ hi_ z_ k_
 intro k_ z_ hinv hmu
 revert hinv hmu; revert z_; intro k hinv hmu
 have hinv : 0 ≤ k ∧ k ≤ 100 := hinv
 have hmu : ((t + 1 - k).toNat) < k_ + 1 := hmu
 cases h1 : decide (k ≤ t) with
 | true =>
  have h1p := of_decide_eq_true h1
  try have := bd_cor (by first | assumption | omega) (by first | assumption | omega)
  have o0 : w.n ≤ (10000 : Nat) := by assumption
  have o1 : (corR w.g k w.n).length ≤ (10000 : Nat) := by first | assumption | omega | (simp only [List.length_append, List.length_cons, List.length_nil, List.length_map]; omega) | (apply cor_le <;> first | assumption | omega) | (exact hne _) | (exact hne _ (by omega)) | (simp_all; done)
  have o2 : (1 : Int) ≤ (↑(corR w.g k w.n).length : Int) ∨ (1 : Int) ≤ (1 : Int) := by omega
  cases h2 : L21f.run (corR w.g k w.n) 1 with
  | e0 =>
   exact ⟨[.b true, .ret (AV.sl 14 (corR w.g k w.n).length fun (q : Nat) => (SD.av ((corR w.g k w.n).getD q default))) (L21e.h0 w t k), .loop (others 226 [1, 5, 11, 12, 13]) (Exit.ret) (L21f.X w (corR w.g k w.n) t k L21f.O.e0) (L21f.XH w (corR w.g k w.n) t k L21f.O.e0)], kmp (by kernel_rfl) (Ai h1 (Ai (r42 (w) (k) o0 (L21e.h0 w t k)) (Ai (L21f.e0 (w) (corR w.g k w.n) o1 (t) (k) (1) (Ai (show (1 : Int) ≤ (1 : Int) by decide) o2) h2) (L21e.en w t (k_ := k_) (z_ := k) (.e0 : L21e.O) (by simp only [L21e.N, h1, h2, cond_true, cond_false]) PopOk.same))))⟩
  | e1 =>
   try have := bd_cor (by first | assumption | omega) (by first | assumption | omega)
   try have := IntWalk.i64_in (k + 1) (by omega)
   have o3 : (0 : Int) ≤ IntKind.i64.wrap (k + (1 : Int)) := by omega
   have o4 : IntKind.i64.wrap (k + (1 : Int)) ≤ (100 : Int) := by omega
   have o5 : (t + (1 : Int) - IntKind.i64.wrap (k + (1 : Int))).toNat < (t + (1 : Int) - k).toNat := by omega
   exact ⟨[.b true, .ret (AV.sl 14 (corR w.g k w.n).length fun (q : Nat) => (SD.av ((corR w.g k w.n).getD q default))) (L21e.h0 w t k), .loop (others 226 [1, 5, 11, 12, 13]) (Exit.exit 10) (L21f.X w (corR w.g k w.n) t k L21f.O.e1) (L21f.XH w (corR w.g k w.n) t k L21f.O.e1)], kmp (by kernel_rfl) (Ai h1 (Ai (r42 (w) (k) o0 (L21e.h0 w t k)) (Ai (L21f.e1 (w) (corR w.g k w.n) o1 (t) (k) (1) (Ai (show (1 : Int) ≤ (1 : Int) by decide) o2) h2) (L21e.nx w t (k_ := k_) (z_ := k) (IntKind.i64.wrap (k + 1)) (Ai o3 o4) o5 (by simp only [L21e.N, h1, h2, cond_true, cond_false]) PopOk.same))))⟩
 | false =>
  have h1p := of_decide_eq_false h1
  exact ⟨[.b false], kmp (by kernel_rfl) (Ai h1 (L21e.en w t (k_ := k_) (z_ := k) (.e1 : L21e.O) (by simp only [L21e.N, h1, cond_true, cond_false]) PopOk.same))⟩
theorem L21e.e0 (w : WD) (hn : w.n ≤ 10000) (t : Int) (ht : t ≤ 99) (hne : ∀ (k : Int), 0 ≤ k → k ≤ t → 0 < (corR w.g k w.n).length) (k : Int) (hinv : L21e.inv w t k) (hN : L21e.run w t k = (.e0 : L21e.O)) : LoopTo Try.prog (loopN Try.f21 4) (L21e.T w t k) (L21e.H w t k) (Exit.ret) (L21e.X w t (.e0 : L21e.O)) (L21e.XH w t (.e0 : L21e.O)) := by
 have h_ := L21e.spec w hn t ht hne (((t + 1 - k).toNat) + 1) k hinv (Nat.lt_succ_self _)
 unfold L21e.run at hN
 simp only [hN] at h_
 exact h_
theorem L21e.e1 (w : WD) (hn : w.n ≤ 10000) (t : Int) (ht : t ≤ 99) (hne : ∀ (k : Int), 0 ≤ k → k ≤ t → 0 < (corR w.g k w.n).length) (k : Int) (hinv : L21e.inv w t k) (hN : L21e.run w t k = (.e1 : L21e.O)) : LoopTo Try.prog (loopN Try.f21 4) (L21e.T w t k) (L21e.H w t k) (Exit.exit 8) (L21e.X w t (.e1 : L21e.O)) (L21e.XH w t (.e1 : L21e.O)) := by
 have h_ := L21e.spec w hn t ht hne (((t + 1 - k).toNat) + 1) k hinv (Nat.lt_succ_self _)
 unfold L21e.run at hN
 simp only [hN] at h_
 exact h_
inductive L21g.O where
 | e0
 | e1
noncomputable def L21g.T (w : WD) (t : Int) (k : Int) : List AV := mkT 226 [(1, AV.ptr 0 1 6 0 0), (5, iv t), (14, iv k)]
noncomputable def L21g.H (w : WD) (t : Int) (k : Int) : AHeap := [AObj.var w.av]
def L21g.inv (w : WD) (t : Int) (k : Int) : Prop := 0 ≤ k ∧ k ≤ 100
noncomputable def L21g.mu (w : WD) (t : Int) (k : Int) : Nat := (t + 1 - k).toNat
noncomputable def L21g.E : L21g.O → Exit
 | .e0 => Exit.ret
 | .e1 => Exit.exit 12
noncomputable def L21g.X (w : WD) (t : Int) : L21g.O → List AV
 | .e0 => mkT 226 [(2, (iv 10))]
 | .e1 => mkT 226 []
noncomputable def L21g.XH (w : WD) (t : Int) : L21g.O → AHeap
 | .e0 => ([AObj.var (WD.av w)])
 | .e1 => ([AObj.var (WD.av w)])
noncomputable def L21g.N (w : WD) (t : Int) : Nat → Int → L21g.O
 | 0, _ => .e0
 | k_ + 1, k => (bif decide (k ≤ t) then (match L21h.run w (corR w.g k w.n) 1 with | .e0 => (.e0) | .e1 => (bif ((corR w.g k w.n).getD 0 default).ax == 0 then (bif IntKind.i64.wrap (((corR w.g k w.n).getD (IntKind.i64.wrap ((↑(corR w.g k w.n).length : Int) - 1)).toNat default).ax + ((corR w.g k w.n).getD (IntKind.i64.wrap ((↑(corR w.g k w.n).length : Int) - 1)).toNat default).sx) == w.len then (L21g.N w t k_ (IntKind.i64.wrap (k + 1))) else (.e0)) else (.e0)) ) else (.e1))
noncomputable def L21g.run (w : WD) (t : Int) (k : Int) : L21g.O := L21g.N w t (((t + 1 - k).toNat) + 1) k
theorem L21g.nx (w : WD) (t : Int) {k_ : Nat} {z_ : Int} {h_ : AHeap} (s_ : Int) (h1 : L21g.inv w t s_) (h2 : L21g.mu w t s_ < L21g.mu w t z_) (h3 : L21g.N w t k_ s_ = L21g.N w t (k_ + 1) z_) (h4 : PopOk (L21g.H w t z_) h_ (L21g.T w t s_) (L21g.H w t s_)) : LNextP (L21g.T w t) (L21g.H w t) (L21g.inv w t) (L21g.mu w t) (L21g.N w t) k_ z_ (L21g.T w t s_) h_ := LNextP.mk s_ h1 h2 h3 h4
theorem L21g.en (w : WD) (t : Int) {k_ : Nat} {z_ : Int} {h_ : AHeap} (o_ : L21g.O) (h3 : L21g.N w t (k_ + 1) z_ = o_) (h4 : PopOk (L21g.H w t z_) h_ (L21g.X w t o_) (L21g.XH w t o_)) : LEndP (L21g.H w t) (L21g.N w t) L21g.E (L21g.X w t) (L21g.XH w t) k_ z_ (L21g.E o_) (L21g.X w t o_) h_ := LEndP.mk o_ h3 h4
noncomputable abbrev L21g.h0 (w : WD) (t : Int) (k : Int) : AHeap := ([AObj.var (WD.av w)])
theorem L21g.spec (w : WD) (hn : w.n ≤ 10000) (t : Int) (ht : t ≤ 99) (hne : ∀ (k : Int), 0 ≤ k → k ≤ t → 0 < (corR w.g k w.n).length) (k_ : Nat) (z_ : Int) (hi_ : L21g.inv w t z_) (hm_ : L21g.mu w t z_ < k_) : LoopTo Try.prog (loopN Try.f21 6) (L21g.T w t z_) (L21g.H w t z_) (L21g.E (L21g.N w t k_ z_)) (L21g.X w t (L21g.N w t k_ z_)) (L21g.XH w t (L21g.N w t k_ z_)) := by
 refine LoopTo.fuelP mix (L21g.T w t) (L21g.H w t) (L21g.inv w t) (L21g.mu w t) (L21g.N w t) L21g.E (L21g.X w t) (L21g.XH w t) (others 226 [1, 5, 14]) (others 226 [2]) (others 226 []) ?_ k_ z_ hi_ hm_
 clear hm_ hi_ z_ k_
 intro k_ z_ hinv hmu
 revert hinv hmu; revert z_; intro k hinv hmu
 have hinv : 0 ≤ k ∧ k ≤ 100 := hinv
 have hmu : ((t + 1 - k).toNat) < k_ + 1 := hmu
 cases h1 : decide (k ≤ t) with
 | true =>
  have h1p := of_decide_eq_true h1
  try have := bd_cor (by first | assumption | omega) (by first | assumption | omega)
  have o0 : w.n ≤ (10000 : Nat) := by assumption
  have o1 : (corR w.g k w.n).length ≤ (10000 : Nat) := by first | assumption | omega | (simp only [List.length_append, List.length_cons, List.length_nil, List.length_map]; omega) | (apply cor_le <;> first | assumption | omega) | (exact hne _) | (exact hne _ (by omega)) | (simp_all; done)
  have o2 : (1 : Int) ≤ (↑(corR w.g k w.n).length : Int) ∨ (1 : Int) ≤ (1 : Int) := by omega
  cases h2 : L21h.run w (corR w.g k w.n) 1 with
  | e0 =>
   exact ⟨[.b true, .ret (AV.sl 14 (corR w.g k w.n).length fun (q : Nat) => (SD.av ((corR w.g k w.n).getD q default))) (L21g.h0 w t k), .loop (others 226 [1, 5, 14, 15, 16, 17]) (Exit.ret) (L21h.X w (corR w.g k w.n) t k L21h.O.e0) (L21h.XH w (corR w.g k w.n) t k L21h.O.e0)], kmp (by kernel_rfl) (Ai h1 (Ai (r42 (w) (k) o0 (L21g.h0 w t k)) (Ai (L21h.e0 (w) (corR w.g k w.n) o1 (t) (k) (1) (Ai (show (1 : Int) ≤ (1 : Int) by decide) o2) h2) (L21g.en w t (k_ := k_) (z_ := k) (.e0 : L21g.O) (by simp only [L21g.N, h1, h2, cond_true, cond_false]) PopOk.same))))⟩
  | e1 =>
   try have := bd_cor (by first | assumption | omega) (by first | assumption | omega)
   have o3 : (0 : Int) < (↑(corR w.g k w.n).length : Int) := by first | assumption | omega | (simp only [List.length_append, List.length_cons, List.length_nil, List.length_map]; omega) | (apply cor_p0 <;> first | assumption | omega) | (exact hne _) | (exact hne _ (by omega)) | (simp_all; done)
   cases h3 : ((corR w.g k w.n).getD 0 default).ax == 0 with
   | true =>
    have h3p := eq_of_beq h3
    try have := bd_cor (by assumption) (by assumption)
    try have := IntWalk.i64_in ((↑(corR w.g k w.n).length : Int) - 1) (by omega)
    have o4 : (0 : Int) ≤ IntKind.i64.wrap ((↑(corR w.g k w.n).length : Int) - (1 : Int)) := by first | assumption | omega | (simp only [List.length_append, List.length_cons, List.length_nil, List.length_map]; omega) | (apply cor_l0 <;> first | assumption | omega) | (exact hne _) | (exact hne _ (by omega)) | (simp_all; done)
    have o5 : IntKind.i64.wrap ((↑(corR w.g k w.n).length : Int) - (1 : Int)) < (↑(corR w.g k w.n).length : Int) := by first | assumption | omega | (simp only [List.length_append, List.length_cons, List.length_nil, List.length_map]; omega) | (apply cor_l1 <;> first | assumption | omega) | (exact hne _) | (exact hne _ (by omega)) | (simp_all; done)
    cases h4 : IntKind.i64.wrap (((corR w.g k w.n).getD (IntKind.i64.wrap ((↑(corR w.g k w.n).length : Int) - 1)).toNat default).ax + ((corR w.g k w.n).getD (IntKind.i64.wrap ((↑(corR w.g k w.n).length : Int) - 1)).toNat default).sx) == w.len with
    | true =>
     have h4p := eq_of_beq h4
     try have := bd_cor (by assumption) (by assumption)
     try have := IntWalk.i64_in (k + 1) (by omega)
     have o6 : (0 : Int) ≤ IntKind.i64.wrap (k + (1 : Int)) := by omega
     have o7 : IntKind.i64.wrap (k + (1 : Int)) ≤ (100 : Int) := by omega
     have o8 : (t + (1 : Int) - IntKind.i64.wrap (k + (1 : Int))).toNat < (t + (1 : Int) - k).toNat := by omega
     exact ⟨[.b true, .ret (AV.sl 14 (corR w.g k w.n).length fun (q : Nat) => (SD.av ((corR w.g k w.n).getD q default))) (L21g.h0 w t k), .loop (others 226 [1, 5, 14, 15, 16, 17]) (Exit.exit 14) (L21h.X w (corR w.g k w.n) t k L21h.O.e1) (L21h.XH w (corR w.g k w.n) t k L21h.O.e1), .b false, .b false, .b false, .b false, .b false, .b false, .b false, .b false, .b false, .b false, .b false, .b false, .b false, .b false, .b false, .b false, .b false, .b false, .b false, .b false], kmp (by kernel_rfl) (Ai h1 (Ai (r42 (w) (k) o0 (L21g.h0 w t k)) (Ai (L21h.e1 (w) (corR w.g k w.n) o1 (t) (k) (1) (Ai (show (1 : Int) ≤ (1 : Int) by decide) o2) h2) (Ai (Ai (show (0 : Int) ≤ (0 : Int) by decide) o3) (Ai (show (bnot (((corR w.g k w.n).getD 0 default).ax == 0)) = false by rw [h3]; try rfl) (Ai (show (bnot (((corR w.g k w.n).getD 0 default).ax == 0)) = false by rw [h3]; try rfl) (Ai (show (bnot (((corR w.g k w.n).getD 0 default).ax == 0)) = false by rw [h3]; try rfl) (Ai (show (bnot (((corR w.g k w.n).getD 0 default).ax == 0)) = false by rw [h3]; try rfl) (Ai (Ai o4 o5) (Ai (show (bnot (((corR w.g k w.n).getD 0 default).ax == 0)) = false by rw [h3]; try rfl) (Ai (show (bnot (((corR w.g k w.n).getD 0 default).ax == 0)) = false by rw [h3]; try rfl) (Ai (show (bnot (((corR w.g k w.n).getD 0 default).ax == 0)) = false by rw [h3]; try rfl) (Ai (show (bnot (((corR w.g k w.n).getD 0 default).ax == 0)) = false by rw [h3]; try rfl) (Ai (show (bnot (((corR w.g k w.n).getD 0 default).ax == 0)) = false by rw [h3]; try rfl) (Ai (show (bnot (((corR w.g k w.n).getD 0 default).ax == 0)) = false by rw [h3]; try rfl) (Ai (show (bnot (((corR w.g k w.n).getD 0 default).ax == 0)) = false by rw [h3]; try rfl) (Ai (Ai o4 o5) (Ai (show (bnot (((corR w.g k w.n).getD 0 default).ax == 0)) = false by rw [h3]; try rfl) (Ai (show (bnot (((corR w.g k w.n).getD 0 default).ax == 0)) = false by rw [h3]; try rfl) (Ai (show (bnot (((corR w.g k w.n).getD 0 default).ax == 0)) = false by rw [h3]; try rfl) (Ai (show (bnot (((corR w.g k w.n).getD 0 default).ax == 0)) = false by rw [h3]; try rfl) (Ai (show (bnot (((corR w.g k w.n).getD 0 default).ax == 0)) = false by rw [h3]; try rfl) (Ai (show (bnot (((corR w.g k w.n).getD 0 default).ax == 0)) = false by rw [h3]; try rfl) (Ai (show (bnot (((corR w.g k w.n).getD 0 default).ax == 0)) = false by rw [h3]; try rfl) (Ai (show (bnot (((corR w.g k w.n).getD 0 default).ax == 0)) = false by rw [h3]; try rfl) (Ai (show (bnot (IntKind.i64.wrap (((corR w.g k w.n).getD (IntKind.i64.wrap ((↑(corR w.g k w.n).length : Int) - 1)).toNat default).ax + ((corR w.g k w.n).getD (IntKind.i64.wrap ((↑(corR w.g k w.n).length : Int) - 1)).toNat default).sx) == w.len)) = false by rw [h4]; try rfl) (L21g.nx w t (k_ := k_) (z_ := k) (IntKind.i64.wrap (k + 1)) (Ai o6 o7) o8 (by simp only [L21g.N, h1, h3, h4, h2, cond_true, cond_false]) PopOk.same)))))))))))))))))))))))))))⟩
    | false =>
     have h4p := ne_of_beq_false h4
     exact ⟨[.b true, .ret (AV.sl 14 (corR w.g k w.n).length fun (q : Nat) => (SD.av ((corR w.g k w.n).getD q default))) (L21g.h0 w t k), .loop (others 226 [1, 5, 14, 15, 16, 17]) (Exit.exit 14) (L21h.X w (corR w.g k w.n) t k L21h.O.e1) (L21h.XH w (corR w.g k w.n) t k L21h.O.e1), .b false, .b false, .b false, .b false, .b false, .b false, .b false, .b false, .b false, .b false, .b false, .b false, .b false, .b false, .b false, .b false, .b false, .b false, .b false, .b true], kmp (by kernel_rfl) (Ai h1 (Ai (r42 (w) (k) o0 (L21g.h0 w t k)) (Ai (L21h.e1 (w) (corR w.g k w.n) o1 (t) (k) (1) (Ai (show (1 : Int) ≤ (1 : Int) by decide) o2) h2) (Ai (Ai (show (0 : Int) ≤ (0 : Int) by decide) o3) (Ai (show (bnot (((corR w.g k w.n).getD 0 default).ax == 0)) = false by rw [h3]; try rfl) (Ai (show (bnot (((corR w.g k w.n).getD 0 default).ax == 0)) = false by rw [h3]; try rfl) (Ai (show (bnot (((corR w.g k w.n).getD 0 default).ax == 0)) = false by rw [h3]; try rfl) (Ai (show (bnot (((corR w.g k w.n).getD 0 default).ax == 0)) = false by rw [h3]; try rfl) (Ai (Ai o4 o5) (Ai (show (bnot (((corR w.g k w.n).getD 0 default).ax == 0)) = false by rw [h3]; try rfl) (Ai (show (bnot (((corR w.g k w.n).getD 0 default).ax == 0)) = false by rw [h3]; try rfl) (Ai (show (bnot (((corR w.g k w.n).getD 0 default).ax == 0)) = false by rw [h3]; try rfl) (Ai (show (bnot (((corR w.g k w.n).getD 0 default).ax == 0)) = false by rw [h3]; try rfl) (Ai (show (bnot (((corR w.g k w.n).getD 0 default).ax == 0)) = false by rw [h3]; try rfl) (Ai (show (bnot (((corR w.g k w.n).getD 0 default).ax == 0)) = false by rw [h3]; try rfl) (Ai (show (bnot (((corR w.g k w.n).getD 0 default).ax == 0)) = false by rw [h3]; try rfl) (Ai (Ai o4 o5) (Ai (show (bnot (((corR w.g k w.n).getD 0 default).ax == 0)) = false by rw [h3]; try rfl) (Ai (show (bnot (((corR w.g k w.n).getD 0 default).ax == 0)) = false by rw [h3]; try rfl) (Ai (show (bnot (((corR w.g k w.n).getD 0 default).ax == 0)) = false by rw [h3]; try rfl) (Ai (show (bnot (((corR w.g k w.n).getD 0 default).ax == 0)) = false by rw [h3]; try rfl) (Ai (show (bnot (((corR w.g k w.n).getD 0 default).ax == 0)) = false by rw [h3]; try rfl) (Ai (show (bnot (((corR w.g k w.n).getD 0 default).ax == 0)) = false by rw [h3]; try rfl) (Ai (show (bnot (((corR w.g k w.n).getD 0 default).ax == 0)) = false by rw [h3]; try rfl) (Ai (show (bnot (((corR w.g k w.n).getD 0 default).ax == 0)) = false by rw [h3]; try rfl) (Ai (show (bnot (IntKind.i64.wrap (((corR w.g k w.n).getD (IntKind.i64.wrap ((↑(corR w.g k w.n).length : Int) - 1)).toNat default).ax + ((corR w.g k w.n).getD (IntKind.i64.wrap ((↑(corR w.g k w.n).length : Int) - 1)).toNat default).sx) == w.len)) = true by rw [h4]; try rfl) (L21g.en w t (k_ := k_) (z_ := k) (.e0 : L21g.O) (by simp only [L21g.N, h1, h3, h4, h2, cond_true, cond_false]) PopOk.same)))))))))))))))))))))))))))⟩
   | false =>
    have h3p := ne_of_beq_false h3
    exact ⟨[.b true, .ret (AV.sl 14 (corR w.g k w.n).length fun (q : Nat) => (SD.av ((corR w.g k w.n).getD q default))) (L21g.h0 w t k), .loop (others 226 [1, 5, 14, 15, 16, 17]) (Exit.exit 14) (L21h.X w (corR w.g k w.n) t k L21h.O.e1) (L21h.XH w (corR w.g k w.n) t k L21h.O.e1), .b true, .b true, .b true, .b true, .b true, .b true, .b true, .b true, .b true, .b true, .b true, .b true, .b true, .b true, .b true, .b true, .b true, .b true, .b true, .b true], kmp (by kernel_rfl) (Ai h1 (Ai (r42 (w) (k) o0 (L21g.h0 w t k)) (Ai (L21h.e1 (w) (corR w.g k w.n) o1 (t) (k) (1) (Ai (show (1 : Int) ≤ (1 : Int) by decide) o2) h2) (Ai (Ai (show (0 : Int) ≤ (0 : Int) by decide) o3) (Ai (show (bnot (((corR w.g k w.n).getD 0 default).ax == 0)) = true by rw [h3]; try rfl) (Ai (show (bnot (((corR w.g k w.n).getD 0 default).ax == 0)) = true by rw [h3]; try rfl) (Ai (show (bnot (((corR w.g k w.n).getD 0 default).ax == 0)) = true by rw [h3]; try rfl) (Ai (show (bnot (((corR w.g k w.n).getD 0 default).ax == 0)) = true by rw [h3]; try rfl) (Ai (show (bnot (((corR w.g k w.n).getD 0 default).ax == 0)) = true by rw [h3]; try rfl) (Ai (show (bnot (((corR w.g k w.n).getD 0 default).ax == 0)) = true by rw [h3]; try rfl) (Ai (show (bnot (((corR w.g k w.n).getD 0 default).ax == 0)) = true by rw [h3]; try rfl) (Ai (show (bnot (((corR w.g k w.n).getD 0 default).ax == 0)) = true by rw [h3]; try rfl) (Ai (show (bnot (((corR w.g k w.n).getD 0 default).ax == 0)) = true by rw [h3]; try rfl) (Ai (show (bnot (((corR w.g k w.n).getD 0 default).ax == 0)) = true by rw [h3]; try rfl) (Ai (show (bnot (((corR w.g k w.n).getD 0 default).ax == 0)) = true by rw [h3]; try rfl) (Ai (show (bnot (((corR w.g k w.n).getD 0 default).ax == 0)) = true by rw [h3]; try rfl) (Ai (show (bnot (((corR w.g k w.n).getD 0 default).ax == 0)) = true by rw [h3]; try rfl) (Ai (show (bnot (((corR w.g k w.n).getD 0 default).ax == 0)) = true by rw [h3]; try rfl) (Ai (show (bnot (((corR w.g k w.n).getD 0 default).ax == 0)) = true by rw [h3]; try rfl) (Ai (show (bnot (((corR w.g k w.n).getD 0 default).ax == 0)) = true by rw [h3]; try rfl) (Ai (show (bnot (((corR w.g k w.n).getD 0 default).ax == 0)) = true by rw [h3]; try rfl) (Ai (show (bnot (((corR w.g k w.n).getD 0 default).ax == 0)) = true by rw [h3]; try rfl) (Ai (show (bnot (((corR w.g k w.n).getD 0 default).ax == 0)) = true by rw [h3]; try rfl) (Ai (rfl : true = true) (L21g.en w t (k_ := k_) (z_ := k) (.e0 : L21g.O) (by simp only [L21g.N, h1, h3, h2, cond_true, cond_false]) PopOk.same)))))))))))))))))))))))))⟩
 | false =>
  have h1p := of_decide_eq_false h1
  exact ⟨[.b false], kmp (by kernel_rfl) (Ai h1 (L21g.en w t (k_ := k_) (z_ := k) (.e1 : L21g.O) (by simp only [L21g.N, h1, cond_true, cond_false]) PopOk.same))⟩
theorem L21g.e0 (w : WD) (hn : w.n ≤ 10000) (t : Int) (ht : t ≤ 99) (hne : ∀ (k : Int), 0 ≤ k → k ≤ t → 0 < (corR w.g k w.n).length) (k : Int) (hinv : L21g.inv w t k) (hN : L21g.run w t k = (.e0 : L21g.O)) : LoopTo Try.prog (loopN Try.f21 6) (L21g.T w t k) (L21g.H w t k) (Exit.ret) (L21g.X w t (.e0 : L21g.O)) (L21g.XH w t (.e0 : L21g.O)) := by
 have h_ := L21g.spec w hn t ht hne (((t + 1 - k).toNat) + 1) k hinv (Nat.lt_succ_self _)
 unfold L21g.run at hN
 simp only [hN] at h_
 exact h_
theorem L21g.e1 (w : WD) (hn : w.n ≤ 10000) (t : Int) (ht : t ≤ 99) (hne : ∀ (k : Int), 0 ≤ k → k ≤ t → 0 < (corR w.g k w.n).length) (k : Int) (hinv : L21g.inv w t k) (hN : L21g.run w t k = (.e1 : L21g.O)) : LoopTo Try.prog (loopN Try.f21 6) (L21g.T w t k) (L21g.H w t k) (Exit.exit 12) (L21g.X w t (.e1 : L21g.O)) (L21g.XH w t (.e1 : L21g.O)) := by
 have h_ := L21g.spec w hn t ht hne (((t + 1 - k).toNat) + 1) k hinv (Nat.lt_succ_self _)
 unfold L21g.run at hN
 simp only [hN] at h_
 exact h_
end Go.Proofs.Ytjdbmmilcihpoaa
open Go
namespace Go.Proofs.Ytjdbmmilcihpoaa
set_option linter.unusedSimpArgs false
set_option linter.unusedVariables false
set_option maxHeartbeats 0
set_option maxRecDepth 100000
theorem bd_crs {L : Nat → List SD} {b : Int} {k : Nat} (h : b < ((L k).length : Int)) (hl : ∀ k, (L k).length ≤ 10000) : b < 10000 := by have := hl k; omega
theorem last_lo {L : Nat → List SD} {k : Nat} (hl : ∀ k, (L k).length ≤ 10000) {N : Nat} (hne : ∀ k, k < N → 0 < (L k).length) (hk : k < N) : 0 ≤ IntKind.i64.wrap (((L k).length : Int) - 1) := by
 have := hl k; have := hne k hk
 rw [IntWalk.i64_in _ (by omega)]; omega
theorem last_hi {L : Nat → List SD} {k : Nat} (hl : ∀ k, (L k).length ≤ 10000) {N : Nat} (hne : ∀ k, k < N → 0 < (L k).length) (hk : k < N) : IntKind.i64.wrap (((L k).length : Int) - 1) < ((L k).length : Int) := by
 have := hl k; have := hne k hk
 rw [IntWalk.i64_in _ (by omega)]; omega
theorem len_pos {L : Nat → List SD} {k : Nat} {N : Nat} (hne : ∀ k, k < N → 0 < (L k).length) (hk : k < N) : (0 : Int) < ((L k).length : Int) := by have := hne k hk; omega
inductive L57ab.O where
 | e0
 | e1
noncomputable def L57ab.T (N : Nat) (L : Nat → List SD) (a8 : Int) (b5 : Int) : List AV := mkT 32 [(4, AV.sl 14 (L a8.toNat).length fun (q : Nat) => (SD.av ((L a8.toNat).getD q default))), (5, iv b5), (6, AV.sl 1 N fun (j : Nat) => AV.sl 14 (L j).length fun (q : Nat) => (SD.av ((L j).getD q default))), (7, iv (↑N : Int)), (8, iv a8)]
noncomputable def L57ab.H (N : Nat) (L : Nat → List SD) (a8 : Int) (b5 : Int) : AHeap := []
def L57ab.inv (N : Nat) (L : Nat → List SD) (a8 : Int) (b5 : Int) : Prop := 1 ≤ b5 ∧ (b5 ≤ (↑(L a8.toNat).length : Int) ∨ b5 ≤ 1)
noncomputable def L57ab.mu (N : Nat) (L : Nat → List SD) (a8 : Int) (b5 : Int) : Nat := ((↑(L a8.toNat).length : Int) - b5).toNat
noncomputable def L57ab.E : L57ab.O → Exit
 | .e0 => Exit.ret
 | .e1 => Exit.exit 2
noncomputable def L57ab.X (N : Nat) (L : Nat → List SD) (a8 : Int) : L57ab.O → List AV
 | .e0 => mkT 32 [(2, (AV.bool true))]
 | .e1 => mkT 32 [(6, (AV.sl 1 N fun (j : Nat) => AV.sl 14 (L j).length fun (q : Nat) => (SD.av ((L j).getD q default)))), (7, (iv (↑N : Int))), (8, (iv a8))]
noncomputable def L57ab.XH (N : Nat) (L : Nat → List SD) (a8 : Int) : L57ab.O → AHeap
 | .e0 => ([])
 | .e1 => ([])
noncomputable def L57ab.N (L : Nat → List SD) (a8 : Int) : Nat → Int → L57ab.O
 | 0, _ => .e0
 | k_ + 1, b5 => (bif decide (b5 < (↑(L a8.toNat).length : Int)) then (bif decide (((L a8.toNat).getD b5.toNat default).ax < r61.v ((L a8.toNat).getD (IntKind.i64.wrap (b5 - 1)).toNat default)) then (.e0) else (L57ab.N L a8 k_ (IntKind.i64.wrap (b5 + 1)))) else (.e1))
noncomputable def L57ab.run (L : Nat → List SD) (a8 : Int) (b5 : Int) : L57ab.O := L57ab.N L a8 ((((↑(L a8.toNat).length : Int) - b5).toNat) + 1) b5
theorem L57ab.nx (N : Nat) (L : Nat → List SD) (a8 : Int) {k_ : Nat} {z_ : Int} {h_ : AHeap} (s_ : Int) (h1 : L57ab.inv N L a8 s_) (h2 : L57ab.mu N L a8 s_ < L57ab.mu N L a8 z_) (h3 : L57ab.N L a8 k_ s_ = L57ab.N L a8 (k_ + 1) z_) (h4 : PopOk (L57ab.H N L a8 z_) h_ (L57ab.T N L a8 s_) (L57ab.H N L a8 s_)) : LNextP (L57ab.T N L a8) (L57ab.H N L a8) (L57ab.inv N L a8) (L57ab.mu N L a8) (L57ab.N L a8) k_ z_ (L57ab.T N L a8 s_) h_ := LNextP.mk s_ h1 h2 h3 h4
theorem L57ab.en (N : Nat) (L : Nat → List SD) (a8 : Int) {k_ : Nat} {z_ : Int} {h_ : AHeap} (o_ : L57ab.O) (h3 : L57ab.N L a8 (k_ + 1) z_ = o_) (h4 : PopOk (L57ab.H N L a8 z_) h_ (L57ab.X N L a8 o_) (L57ab.XH N L a8 o_)) : LEndP (L57ab.H N L a8) (L57ab.N L a8) L57ab.E (L57ab.X N L a8) (L57ab.XH N L a8) k_ z_ (L57ab.E o_) (L57ab.X N L a8 o_) h_ := LEndP.mk o_ h3 h4
theorem L57ab.spec (N : Nat) (hb : N ≤ 1000) (L : Nat → List SD) (hl : ∀ (k : Nat), (L k).length ≤ 10000) (a8 : Int) (i57a_0 : 0 ≤ a8) (i57a_1 : a8 ≤ (↑N : Int) ∨ a8 ≤ 0) (k1_1 : decide (a8 < (↑N : Int)) = true) (p1_1 : a8 < (↑N : Int)) (k_ : Nat) (z_ : Int) (hi_ : L57ab.inv N L a8 z_) (hm_ : L57ab.mu N L a8 z_ < k_) : LoopTo Try.prog (loopN Try.f57 1) (L57ab.T N L a8 z_) (L57ab.H N L a8 z_) (L57ab.E (L57ab.N L a8 k_ z_)) (L57ab.X N L a8 (L57ab.N L a8 k_ z_)) (L57ab.XH N L a8 (L57ab.N L a8 k_ z_)) := by
 refine LoopTo.fuelP mix (L57ab.T N L a8) (L57ab.H N L a8) (L57ab.inv N L a8) (L57ab.mu N L a8) (L57ab.N L a8) L57ab.E (L57ab.X N L a8) (L57ab.XH N L a8) (others 32 [4, 5, 6, 7, 8]) (others 32 [2]) (others 32 [6, 7, 8]) ?_ k_ z_ hi_ hm_
 clear hm_ hi_ z_ k_
 intro k_ z_ hinv hmu
 revert hinv hmu; revert z_; intro b5 hinv hmu
 have hinv : 1 ≤ b5 ∧ (b5 ≤ (↑(L a8.toNat).length : Int) ∨ b5 ≤ 1) := hinv
 have hmu : (((↑(L a8.toNat).length : Int) - b5).toNat) < k_ + 1 := hmu
 cases h1 : decide (b5 < (↑(L a8.toNat).length : Int)) with
 | true =>
  have h1p := of_decide_eq_true h1
  try have := bd_crs (by assumption) (by assumption)
  have o0 : (0 : Int) ≤ b5 := by omega
  have o1 : b5 < (↑(L a8.toNat).length : Int) := by assumption
  try have := IntWalk.i64_in (b5 - 1) (by omega)
  have o2 : (0 : Int) ≤ IntKind.i64.wrap (b5 - (1 : Int)) := by omega
  have o3 : IntKind.i64.wrap (b5 - (1 : Int)) < (↑(L a8.toNat).length : Int) := by omega
  cases h2 : decide (((L a8.toNat).getD b5.toNat default).ax < r61.v ((L a8.toNat).getD (IntKind.i64.wrap (b5 - 1)).toNat default)) with
  | true =>
   have h2p := of_decide_eq_true h2
   exact ⟨[.b true, .ret (iv (r61.v ((L a8.toNat).getD (IntKind.i64.wrap (b5 - 1)).toNat default))) ([]), .b true], kmp (by kernel_rfl) (Ai h1 (Ai (Ai o0 o1) (Ai (Ai o2 o3) (Ai (r61 ((L a8.toNat).getD (IntKind.i64.wrap (b5 - 1)).toNat default) ([])) (Ai h2 (L57ab.en N L a8 (k_ := k_) (z_ := b5) (.e0 : L57ab.O) (by simp only [L57ab.N, h1, h2, cond_true, cond_false]) PopOk.same))))))⟩
  | false =>
   have h2p := of_decide_eq_false h2
   try have := bd_crs (by assumption) (by assumption)
   try have := IntWalk.i64_in (b5 + 1) (by omega)
   have o4 : (1 : Int) ≤ IntKind.i64.wrap (b5 + (1 : Int)) := by omega
   have o5 : IntKind.i64.wrap (b5 + (1 : Int)) ≤ (↑(L a8.toNat).length : Int) ∨ IntKind.i64.wrap (b5 + (1 : Int)) ≤ (1 : Int) := by omega
   have o6 : ((↑(L a8.toNat).length : Int) - IntKind.i64.wrap (b5 + (1 : Int))).toNat < ((↑(L a8.toNat).length : Int) - b5).toNat := by omega
   exact ⟨[.b true, .ret (iv (r61.v ((L a8.toNat).getD (IntKind.i64.wrap (b5 - 1)).toNat default))) ([]), .b false], kmp (by kernel_rfl) (Ai h1 (Ai (Ai o0 o1) (Ai (Ai o2 o3) (Ai (r61 ((L a8.toNat).getD (IntKind.i64.wrap (b5 - 1)).toNat default) ([])) (Ai h2 (L57ab.nx N L a8 (k_ := k_) (z_ := b5) (IntKind.i64.wrap (b5 + 1)) (Ai o4 o5) o6 (by simp only [L57ab.N, h1, h2, cond_true, cond_false]) PopOk.same))))))⟩
 | false =>
  have h1p := of_decide_eq_false h1
  exact ⟨[.b false], kmp (by kernel_rfl) (Ai h1 (L57ab.en N L a8 (k_ := k_) (z_ := b5) (.e1 : L57ab.O) (by simp only [L57ab.N, h1, cond_true, cond_false]) PopOk.same))⟩
theorem L57ab.e0 (N : Nat) (hb : N ≤ 1000) (L : Nat → List SD) (hl : ∀ (k : Nat), (L k).length ≤ 10000) (a8 : Int) (i57a_0 : 0 ≤ a8) (i57a_1 : a8 ≤ (↑N : Int) ∨ a8 ≤ 0) (k1_1 : decide (a8 < (↑N : Int)) = true) (p1_1 : a8 < (↑N : Int)) (b5 : Int) (hinv : L57ab.inv N L a8 b5) (hN : L57ab.run L a8 b5 = (.e0 : L57ab.O)) : LoopTo Try.prog (loopN Try.f57 1) (L57ab.T N L a8 b5) (L57ab.H N L a8 b5) (Exit.ret) (L57ab.X N L a8 (.e0 : L57ab.O)) (L57ab.XH N L a8 (.e0 : L57ab.O)) := by
 have h_ := L57ab.spec N hb L hl a8 i57a_0 i57a_1 k1_1 p1_1 ((((↑(L a8.toNat).length : Int) - b5).toNat) + 1) b5 hinv (Nat.lt_succ_self _)
 unfold L57ab.run at hN
 simp only [hN] at h_
 exact h_
theorem L57ab.e1 (N : Nat) (hb : N ≤ 1000) (L : Nat → List SD) (hl : ∀ (k : Nat), (L k).length ≤ 10000) (a8 : Int) (i57a_0 : 0 ≤ a8) (i57a_1 : a8 ≤ (↑N : Int) ∨ a8 ≤ 0) (k1_1 : decide (a8 < (↑N : Int)) = true) (p1_1 : a8 < (↑N : Int)) (b5 : Int) (hinv : L57ab.inv N L a8 b5) (hN : L57ab.run L a8 b5 = (.e1 : L57ab.O)) : LoopTo Try.prog (loopN Try.f57 1) (L57ab.T N L a8 b5) (L57ab.H N L a8 b5) (Exit.exit 2) (L57ab.X N L a8 (.e1 : L57ab.O)) (L57ab.XH N L a8 (.e1 : L57ab.O)) := by
 have h_ := L57ab.spec N hb L hl a8 i57a_0 i57a_1 k1_1 p1_1 ((((↑(L a8.toNat).length : Int) - b5).toNat) + 1) b5 hinv (Nat.lt_succ_self _)
 unfold L57ab.run at hN
 simp only [hN] at h_
 exact h_
inductive L57a.O where
 | e0
 | e1
noncomputable def L57a.T (N : Nat) (L : Nat → List SD) (a8 : Int) : List AV := mkT 32 [(6, AV.sl 1 N fun (j : Nat) => AV.sl 14 (L j).length fun (q : Nat) => (SD.av ((L j).getD q default))), (7, iv (↑N : Int)), (8, iv a8)]
noncomputable def L57a.H (N : Nat) (L : Nat → List SD) (a8 : Int) : AHeap := []
def L57a.inv (N : Nat) (L : Nat → List SD) (a8 : Int) : Prop := 0 ≤ a8 ∧ (a8 ≤ (↑N : Int) ∨ a8 ≤ 0)
noncomputable def L57a.mu (N : Nat) (L : Nat → List SD) (a8 : Int) : Nat := ((↑N : Int) - a8).toNat
noncomputable def L57a.E : L57a.O → Exit
 | .e0 => Exit.ret
 | .e1 => Exit.exit 0
noncomputable def L57a.X (N : Nat) (L : Nat → List SD) : L57a.O → List AV
 | .e0 => mkT 32 [(2, (AV.bool true))]
 | .e1 => mkT 32 []
noncomputable def L57a.XH (N : Nat) (L : Nat → List SD) : L57a.O → AHeap
 | .e0 => ([])
 | .e1 => ([])
noncomputable def L57a.N (N : Nat) (L : Nat → List SD) : Nat → Int → L57a.O
 | 0, _ => .e0
 | k_ + 1, a8 => (bif decide (a8 < (↑N : Int)) then (match L57ab.run L a8 1 with | .e0 => (.e0) | .e1 => (L57a.N N L k_ (IntKind.i64.wrap (a8 + 1))) ) else (.e1))
noncomputable def L57a.run (N : Nat) (L : Nat → List SD) (a8 : Int) : L57a.O := L57a.N N L ((((↑N : Int) - a8).toNat) + 1) a8
theorem L57a.nx (N : Nat) (L : Nat → List SD) {k_ : Nat} {z_ : Int} {h_ : AHeap} (s_ : Int) (h1 : L57a.inv N L s_) (h2 : L57a.mu N L s_ < L57a.mu N L z_) (h3 : L57a.N N L k_ s_ = L57a.N N L (k_ + 1) z_) (h4 : PopOk (L57a.H N L z_) h_ (L57a.T N L s_) (L57a.H N L s_)) : LNextP (L57a.T N L) (L57a.H N L) (L57a.inv N L) (L57a.mu N L) (L57a.N N L) k_ z_ (L57a.T N L s_) h_ := LNextP.mk s_ h1 h2 h3 h4
theorem L57a.en (N : Nat) (L : Nat → List SD) {k_ : Nat} {z_ : Int} {h_ : AHeap} (o_ : L57a.O) (h3 : L57a.N N L (k_ + 1) z_ = o_) (h4 : PopOk (L57a.H N L z_) h_ (L57a.X N L o_) (L57a.XH N L o_)) : LEndP (L57a.H N L) (L57a.N N L) L57a.E (L57a.X N L) (L57a.XH N L) k_ z_ (L57a.E o_) (L57a.X N L o_) h_ := LEndP.mk o_ h3 h4
theorem L57a.spec (N : Nat) (hb : N ≤ 1000) (L : Nat → List SD) (hl : ∀ (k : Nat), (L k).length ≤ 10000) (k_ : Nat) (z_ : Int) (hi_ : L57a.inv N L z_) (hm_ : L57a.mu N L z_ < k_) : LoopTo Try.prog (loopN Try.f57 0) (L57a.T N L z_) (L57a.H N L z_) (L57a.E (L57a.N N L k_ z_)) (L57a.X N L (L57a.N N L k_ z_)) (L57a.XH N L (L57a.N N L k_ z_)) := by
 refine LoopTo.fuelP mix (L57a.T N L) (L57a.H N L) (L57a.inv N L) (L57a.mu N L) (L57a.N N L) L57a.E (L57a.X N L) (L57a.XH N L) (others 32 [6, 7, 8]) (others 32 [2]) (others 32 []) ?_ k_ z_ hi_ hm_
 clear hm_ hi_ z_ k_
 intro k_ z_ hinv hmu
 revert hinv hmu; revert z_; intro a8 hinv hmu
 have hinv : 0 ≤ a8 ∧ (a8 ≤ (↑N : Int) ∨ a8 ≤ 0) := hinv
 have hmu : (((↑N : Int) - a8).toNat) < k_ + 1 := hmu
 cases h1 : decide (a8 < (↑N : Int)) with
 | true =>
  have h1p := of_decide_eq_true h1
  try have := bd_crs (by first | assumption | omega) (by first | assumption | omega)
  have o0 : (0 : Int) ≤ a8 := by omega
  have o1 : a8 < (↑N : Int) := by assumption
  have o2 : N ≤ (1000 : Nat) := by assumption
  have o3 : ∀ (k : Nat), (L k).length ≤ (10000 : Nat) := by assumption
  have o4 : a8 ≤ (↑N : Int) ∨ a8 ≤ (0 : Int) := by omega
  have o5 : decide (a8 < (↑N : Int)) = true := by assumption
  have o6 : (1 : Int) ≤ (↑(L a8.toNat).length : Int) ∨ (1 : Int) ≤ (1 : Int) := by omega
  cases h2 : L57ab.run L a8 1 with
  | e0 =>
   exact ⟨[.b true, .loop (others 32 [4, 5, 6, 7, 8]) (Exit.ret) (L57ab.X N L a8 L57ab.O.e0) (L57ab.XH N L a8 L57ab.O.e0)], kmp (by kernel_rfl) (Ai h1 (Ai (Ai o0 o1) (Ai (L57ab.e0 (N) o2 (L) o3 (a8) o0 o4 o5 o1 (1) (Ai (show (1 : Int) ≤ (1 : Int) by decide) o6) h2) (L57a.en N L (k_ := k_) (z_ := a8) (.e0 : L57a.O) (by simp only [L57a.N, h1, h2, cond_true, cond_false]) PopOk.same))))⟩
  | e1 =>
   try have := bd_crs (by first | assumption | omega) (by first | assumption | omega)
   try have := IntWalk.i64_in (a8 + 1) (by omega)
   have o7 : (0 : Int) ≤ IntKind.i64.wrap (a8 + (1 : Int)) := by omega
   have o8 : IntKind.i64.wrap (a8 + (1 : Int)) ≤ (↑N : Int) ∨ IntKind.i64.wrap (a8 + (1 : Int)) ≤ (0 : Int) := by omega
   have o9 : ((↑N : Int) - IntKind.i64.wrap (a8 + (1 : Int))).toNat < ((↑N : Int) - a8).toNat := by omega
   exact ⟨[.b true, .loop (others 32 [4, 5, 6, 7, 8]) (Exit.exit 2) (L57ab.X N L a8 L57ab.O.e1) (L57ab.XH N L a8 L57ab.O.e1)], kmp (by kernel_rfl) (Ai h1 (Ai (Ai o0 o1) (Ai (L57ab.e1 (N) o2 (L) o3 (a8) o0 o4 o5 o1 (1) (Ai (show (1 : Int) ≤ (1 : Int) by decide) o6) h2) (L57a.nx N L (k_ := k_) (z_ := a8) (IntKind.i64.wrap (a8 + 1)) (Ai o7 o8) o9 (by simp only [L57a.N, h1, h2, cond_true, cond_false]) PopOk.same))))⟩
 | false =>
  have h1p := of_decide_eq_false h1
  exact ⟨[.b false], kmp (by kernel_rfl) (Ai h1 (L57a.en N L (k_ := k_) (z_ := a8) (.e1 : L57a.O) (by simp only [L57a.N, h1, cond_true, cond_false]) PopOk.same))⟩
theorem L57a.e0 (N : Nat) (hb : N ≤ 1000) (L : Nat → List SD) (hl : ∀ (k : Nat), (L k).length ≤ 10000) (a8 : Int) (hinv : L57a.inv N L a8) (hN : L57a.run N L a8 = (.e0 : L57a.O)) : LoopTo Try.prog (loopN Try.f57 0) (L57a.T N L a8) (L57a.H N L a8) (Exit.ret) (L57a.X N L (.e0 : L57a.O)) (L57a.XH N L (.e0 : L57a.O)) := by
 have h_ := L57a.spec N hb L hl ((((↑N : Int) - a8).toNat) + 1) a8 hinv (Nat.lt_succ_self _)
 unfold L57a.run at hN
 simp only [hN] at h_
 exact h_
theorem L57a.e1 (N : Nat) (hb : N ≤ 1000) (L : Nat → List SD) (hl : ∀ (k : Nat), (L k).length ≤ 10000) (a8 : Int) (hinv : L57a.inv N L a8) (hN : L57a.run N L a8 = (.e1 : L57a.O)) : LoopTo Try.prog (loopN Try.f57 0) (L57a.T N L a8) (L57a.H N L a8) (Exit.exit 0) (L57a.X N L (.e1 : L57a.O)) (L57a.XH N L (.e1 : L57a.O)) := by
 have h_ := L57a.spec N hb L hl ((((↑N : Int) - a8).toNat) + 1) a8 hinv (Nat.lt_succ_self _)
 unfold L57a.run at hN
 simp only [hN] at h_
 exact h_
noncomputable def r57.v (N : Nat) (L : Nat → List SD) : Bool := (match L57a.run N L 0 with | .e0 => true | .e1 => false )
theorem r57 (N : Nat) (hb : N ≤ 1000) (L : Nat → List SD) (hl : ∀ (k : Nat), (L k).length ≤ 10000) (h : AHeap) : Ret Try.prog 57 ([nsts N L]) h (AV.bool (r57.v N L)) h := by
 try have := bd_crs (by first | assumption | omega) (by first | assumption | omega)
 have o0 : N ≤ (1000 : Nat) := by assumption
 have o1 : ∀ (k : Nat), (L k).length ≤ (10000 : Nat) := by assumption
 have o2 : (0 : Int) ≤ (↑N : Int) ∨ (0 : Int) ≤ (0 : Int) := by omega
 cases h1 : L57a.run N L 0 with
 | e0 =>
  exact Ret.of_run1 mix [(AV.bool (r57.v N L))] Try.func57 rfl [.loop (others 32 [6, 7, 8]) (Exit.ret) (L57a.X N L L57a.O.e0) (L57a.XH N L L57a.O.e0)] (by simp) (by simp) (kmp (by kernel_rfl) (Ai (L57a.e0 (N) o0 (L) o1 (0) (Ai (show (0 : Int) ≤ (0 : Int) by decide) o2) h1) (Ai (show (AV.bool true) = ((AV.bool (r57.v N L))) by simp only [r57.v, h1, cond_true, cond_false]) trivial))) h
 | e1 =>
  exact Ret.of_run1 mix [(AV.bool (r57.v N L))] Try.func57 rfl [.loop (others 32 [6, 7, 8]) (Exit.exit 0) (L57a.X N L L57a.O.e1) (L57a.XH N L L57a.O.e1)] (by simp) (by simp) (kmp (by kernel_rfl) (Ai (L57a.e1 (N) o0 (L) o1 (0) (Ai (show (0 : Int) ≤ (0 : Int) by decide) o2) h1) (Ai (show (AV.bool false) = ((AV.bool (r57.v N L))) by simp only [r57.v, h1, cond_true, cond_false]) trivial))) h
inductive L58ab.O where
 | e0
 | e1
noncomputable def L58ab.T (w : WD) (N : Nat) (L : Nat → List SD) (a10 : Int) (b7 : Int) : List AV := mkT 60 [(2, AV.ptr 0 1 6 0 0), (6, AV.sl 14 (L a10.toNat).length fun (q : Nat) => (SD.av ((L a10.toNat).getD q default))), (7, iv b7), (8, AV.sl 1 N fun (j : Nat) => AV.sl 14 (L j).length fun (q : Nat) => (SD.av ((L j).getD q default))), (9, iv (↑N : Int)), (10, iv a10)]
noncomputable def L58ab.H (w : WD) (N : Nat) (L : Nat → List SD) (a10 : Int) (b7 : Int) : AHeap := [AObj.var (WD.av w)]
def L58ab.inv (w : WD) (N : Nat) (L : Nat → List SD) (a10 : Int) (b7 : Int) : Prop := 1 ≤ b7 ∧ (b7 ≤ (↑(L a10.toNat).length : Int) ∨ b7 ≤ 1)
noncomputable def L58ab.mu (w : WD) (N : Nat) (L : Nat → List SD) (a10 : Int) (b7 : Int) : Nat := ((↑(L a10.toNat).length : Int) - b7).toNat
noncomputable def L58ab.E : L58ab.O → Exit
 | .e0 => Exit.ret
 | .e1 => Exit.exit 2
noncomputable def L58ab.X (w : WD) (N : Nat) (L : Nat → List SD) (a10 : Int) : L58ab.O → List AV
 | .e0 => mkT 60 [(4, (AV.bool false))]
 | .e1 => mkT 60 [(2, (AV.ptr 0 1 6 0 0)), (8, (AV.sl 1 N fun (j : Nat) => AV.sl 14 (L j).length fun (q : Nat) => (SD.av ((L j).getD q default)))), (9, (iv (↑N : Int))), (10, (iv a10))]
noncomputable def L58ab.XH (w : WD) (N : Nat) (L : Nat → List SD) (a10 : Int) : L58ab.O → AHeap
 | .e0 => ([AObj.var (WD.av w)])
 | .e1 => ([AObj.var (WD.av w)])
noncomputable def L58ab.N (w : WD) (L : Nat → List SD) (a10 : Int) : Nat → Int → L58ab.O
 | 0, _ => .e0
 | k_ + 1, b7 => (bif decide (b7 < (↑(L a10.toNat).length : Int)) then (bif r51.v (IntKind.i64.wrap (((L a10.toNat).getD b7.toNat default).ax - r61.v ((L a10.toNat).getD (IntKind.i64.wrap (b7 - 1)).toNat default))) w.jl w.jh then (L58ab.N w L a10 k_ (IntKind.i64.wrap (b7 + 1))) else (.e0)) else (.e1))
noncomputable def L58ab.run (w : WD) (L : Nat → List SD) (a10 : Int) (b7 : Int) : L58ab.O := L58ab.N w L a10 ((((↑(L a10.toNat).length : Int) - b7).toNat) + 1) b7
theorem L58ab.nx (w : WD) (N : Nat) (L : Nat → List SD) (a10 : Int) {k_ : Nat} {z_ : Int} {h_ : AHeap} (s_ : Int) (h1 : L58ab.inv w N L a10 s_) (h2 : L58ab.mu w N L a10 s_ < L58ab.mu w N L a10 z_) (h3 : L58ab.N w L a10 k_ s_ = L58ab.N w L a10 (k_ + 1) z_) (h4 : PopOk (L58ab.H w N L a10 z_) h_ (L58ab.T w N L a10 s_) (L58ab.H w N L a10 s_)) : LNextP (L58ab.T w N L a10) (L58ab.H w N L a10) (L58ab.inv w N L a10) (L58ab.mu w N L a10) (L58ab.N w L a10) k_ z_ (L58ab.T w N L a10 s_) h_ := LNextP.mk s_ h1 h2 h3 h4
theorem L58ab.en (w : WD) (N : Nat) (L : Nat → List SD) (a10 : Int) {k_ : Nat} {z_ : Int} {h_ : AHeap} (o_ : L58ab.O) (h3 : L58ab.N w L a10 (k_ + 1) z_ = o_) (h4 : PopOk (L58ab.H w N L a10 z_) h_ (L58ab.X w N L a10 o_) (L58ab.XH w N L a10 o_)) : LEndP (L58ab.H w N L a10) (L58ab.N w L a10) L58ab.E (L58ab.X w N L a10) (L58ab.XH w N L a10) k_ z_ (L58ab.E o_) (L58ab.X w N L a10 o_) h_ := LEndP.mk o_ h3 h4
noncomputable abbrev L58ab.h0 (w : WD) (N : Nat) (L : Nat → List SD) (a10 : Int) (b7 : Int) : AHeap := ([AObj.var (WD.av w)])
theorem L58ab.spec (w : WD) (N : Nat) (hb : N ≤ 1000) (L : Nat → List SD) (hl : ∀ (k : Nat), (L k).length ≤ 10000) (hne : ∀ (k : Nat), k < N → 0 < (L k).length) (a10 : Int) (i58a_0 : 0 ≤ a10) (i58a_1 : a10 ≤ (↑N : Int) ∨ a10 ≤ 0) (k1_1 : decide (a10 < (↑N : Int)) = true) (p1_1 : a10 < (↑N : Int)) (k1_2 : (((L a10.toNat).getD 0 default).ax == 0) = true) (p1_2 : ((L a10.toNat).getD 0 default).ax = 0) (k1_3 : (r61.v ((L a10.toNat).getD (IntKind.i64.wrap ((↑(L a10.toNat).length : Int) - 1)).toNat default) == w.len) = true) (p1_3 : r61.v ((L a10.toNat).getD (IntKind.i64.wrap ((↑(L a10.toNat).length : Int) - 1)).toNat default) = w.len) (k_ : Nat) (z_ : Int) (hi_ : L58ab.inv w N L a10 z_) (hm_ : L58ab.mu w N L a10 z_ < k_) : LoopTo Try.prog (loopN Try.f58 1) (L58ab.T w N L a10 z_) (L58ab.H w N L a10 z_) (L58ab.E (L58ab.N w L a10 k_ z_)) (L58ab.X w N L a10 (L58ab.N w L a10 k_ z_)) (L58ab.XH w N L a10 (L58ab.N w L a10 k_ z_)) := by
 refine LoopTo.fuelP mix (L58ab.T w N L a10) (L58ab.H w N L a10) (L58ab.inv w N L a10) (L58ab.mu w N L a10) (L58ab.N w L a10) L58ab.E (L58ab.X w N L a10) (L58ab.XH w N L a10) (others 60 [2, 6, 7, 8, 9, 10]) (others 60 [4]) (others 60 [2, 8, 9, 10]) ?_ k_ z_ hi_ hm_
 clear hm_ hi_ z_ k_
 intro k_ z_ hinv hmu
 revert hinv hmu; revert z_; intro b7 hinv hmu
 have hinv : 1 ≤ b7 ∧ (b7 ≤ (↑(L a10.toNat).length : Int) ∨ b7 ≤ 1) := hinv
 have hmu : (((↑(L a10.toNat).length : Int) - b7).toNat) < k_ + 1 := hmu
 cases h1 : decide (b7 < (↑(L a10.toNat).length : Int)) with
 | true =>
  have h1p := of_decide_eq_true h1
  try have := bd_crs (by assumption) (by assumption)
  have o0 : (0 : Int) ≤ b7 := by omega
  have o1 : b7 < (↑(L a10.toNat).length : Int) := by assumption
  try have := IntWalk.i64_in (b7 - 1) (by omega)
  have o2 : (0 : Int) ≤ IntKind.i64.wrap (b7 - (1 : Int)) := by omega
  have o3 : IntKind.i64.wrap (b7 - (1 : Int)) < (↑(L a10.toNat).length : Int) := by omega
  cases h2 : r51.v (IntKind.i64.wrap (((L a10.toNat).getD b7.toNat default).ax - r61.v ((L a10.toNat).getD (IntKind.i64.wrap (b7 - 1)).toNat default))) w.jl w.jh with
  | true =>
   try have := bd_crs (by assumption) (by assumption)
   try have := IntWalk.i64_in (b7 + 1) (by omega)
   have o4 : (1 : Int) ≤ IntKind.i64.wrap (b7 + (1 : Int)) := by omega
   have o5 : IntKind.i64.wrap (b7 + (1 : Int)) ≤ (↑(L a10.toNat).length : Int) ∨ IntKind.i64.wrap (b7 + (1 : Int)) ≤ (1 : Int) := by omega
   have o6 : ((↑(L a10.toNat).length : Int) - IntKind.i64.wrap (b7 + (1 : Int))).toNat < ((↑(L a10.toNat).length : Int) - b7).toNat := by omega
   exact ⟨[.b true, .ret (iv (r61.v ((L a10.toNat).getD (IntKind.i64.wrap (b7 - 1)).toNat default))) (L58ab.h0 w N L a10 b7), .ret (AV.bool (r51.v (IntKind.i64.wrap (((L a10.toNat).getD b7.toNat default).ax - r61.v ((L a10.toNat).getD (IntKind.i64.wrap (b7 - 1)).toNat default))) w.jl w.jh)) (L58ab.h0 w N L a10 b7), .b false], kmp (by kernel_rfl) (Ai h1 (Ai (Ai o0 o1) (Ai (Ai o2 o3) (Ai (r61 ((L a10.toNat).getD (IntKind.i64.wrap (b7 - 1)).toNat default) (L58ab.h0 w N L a10 b7)) (Ai (r51 (IntKind.i64.wrap (((L a10.toNat).getD b7.toNat default).ax - r61.v ((L a10.toNat).getD (IntKind.i64.wrap (b7 - 1)).toNat default))) (w.jl) (w.jh) (L58ab.h0 w N L a10 b7)) (Ai (show (bnot (r51.v (IntKind.i64.wrap (((L a10.toNat).getD b7.toNat default).ax - r61.v ((L a10.toNat).getD (IntKind.i64.wrap (b7 - 1)).toNat default))) w.jl w.jh)) = false by rw [h2]; try rfl) (L58ab.nx w N L a10 (k_ := k_) (z_ := b7) (IntKind.i64.wrap (b7 + 1)) (Ai o4 o5) o6 (by simp only [L58ab.N, h1, h2, cond_true, cond_false]) PopOk.same)))))))⟩
  | false =>
   exact ⟨[.b true, .ret (iv (r61.v ((L a10.toNat).getD (IntKind.i64.wrap (b7 - 1)).toNat default))) (L58ab.h0 w N L a10 b7), .ret (AV.bool (r51.v (IntKind.i64.wrap (((L a10.toNat).getD b7.toNat default).ax - r61.v ((L a10.toNat).getD (IntKind.i64.wrap (b7 - 1)).toNat default))) w.jl w.jh)) (L58ab.h0 w N L a10 b7), .b true], kmp (by kernel_rfl) (Ai h1 (Ai (Ai o0 o1) (Ai (Ai o2 o3) (Ai (r61 ((L a10.toNat).getD (IntKind.i64.wrap (b7 - 1)).toNat default) (L58ab.h0 w N L a10 b7)) (Ai (r51 (IntKind.i64.wrap (((L a10.toNat).getD b7.toNat default).ax - r61.v ((L a10.toNat).getD (IntKind.i64.wrap (b7 - 1)).toNat default))) (w.jl) (w.jh) (L58ab.h0 w N L a10 b7)) (Ai (show (bnot (r51.v (IntKind.i64.wrap (((L a10.toNat).getD b7.toNat default).ax - r61.v ((L a10.toNat).getD (IntKind.i64.wrap (b7 - 1)).toNat default))) w.jl w.jh)) = true by rw [h2]; try rfl) (L58ab.en w N L a10 (k_ := k_) (z_ := b7) (.e0 : L58ab.O) (by simp only [L58ab.N, h1, h2, cond_true, cond_false]) PopOk.same)))))))⟩
 | false =>
  have h1p := of_decide_eq_false h1
  exact ⟨[.b false], kmp (by kernel_rfl) (Ai h1 (L58ab.en w N L a10 (k_ := k_) (z_ := b7) (.e1 : L58ab.O) (by simp only [L58ab.N, h1, cond_true, cond_false]) PopOk.same))⟩
theorem L58ab.e0 (w : WD) (N : Nat) (hb : N ≤ 1000) (L : Nat → List SD) (hl : ∀ (k : Nat), (L k).length ≤ 10000) (hne : ∀ (k : Nat), k < N → 0 < (L k).length) (a10 : Int) (i58a_0 : 0 ≤ a10) (i58a_1 : a10 ≤ (↑N : Int) ∨ a10 ≤ 0) (k1_1 : decide (a10 < (↑N : Int)) = true) (p1_1 : a10 < (↑N : Int)) (k1_2 : (((L a10.toNat).getD 0 default).ax == 0) = true) (p1_2 : ((L a10.toNat).getD 0 default).ax = 0) (k1_3 : (r61.v ((L a10.toNat).getD (IntKind.i64.wrap ((↑(L a10.toNat).length : Int) - 1)).toNat default) == w.len) = true) (p1_3 : r61.v ((L a10.toNat).getD (IntKind.i64.wrap ((↑(L a10.toNat).length : Int) - 1)).toNat default) = w.len) (b7 : Int) (hinv : L58ab.inv w N L a10 b7) (hN : L58ab.run w L a10 b7 = (.e0 : L58ab.O)) : LoopTo Try.prog (loopN Try.f58 1) (L58ab.T w N L a10 b7) (L58ab.H w N L a10 b7) (Exit.ret) (L58ab.X w N L a10 (.e0 : L58ab.O)) (L58ab.XH w N L a10 (.e0 : L58ab.O)) := by
 have h_ := L58ab.spec w N hb L hl hne a10 i58a_0 i58a_1 k1_1 p1_1 k1_2 p1_2 k1_3 p1_3 ((((↑(L a10.toNat).length : Int) - b7).toNat) + 1) b7 hinv (Nat.lt_succ_self _)
 unfold L58ab.run at hN
 simp only [hN] at h_
 exact h_
theorem L58ab.e1 (w : WD) (N : Nat) (hb : N ≤ 1000) (L : Nat → List SD) (hl : ∀ (k : Nat), (L k).length ≤ 10000) (hne : ∀ (k : Nat), k < N → 0 < (L k).length) (a10 : Int) (i58a_0 : 0 ≤ a10) (i58a_1 : a10 ≤ (↑N : Int) ∨ a10 ≤ 0) (k1_1 : decide (a10 < (↑N : Int)) = true) (p1_1 : a10 < (↑N : Int)) (k1_2 : (((L a10.toNat).getD 0 default).ax == 0) = true) (p1_2 : ((L a10.toNat).getD 0 default).ax = 0) (k1_3 : (r61.v ((L a10.toNat).getD (IntKind.i64.wrap ((↑(L a10.toNat).length : Int) - 1)).toNat default) == w.len) = true) (p1_3 : r61.v ((L a10.toNat).getD (IntKind.i64.wrap ((↑(L a10.toNat).length : Int) - 1)).toNat default) = w.len) (b7 : Int) (hinv : L58ab.inv w N L a10 b7) (hN : L58ab.run w L a10 b7 = (.e1 : L58ab.O)) : LoopTo Try.prog (loopN Try.f58 1) (L58ab.T w N L a10 b7) (L58ab.H w N L a10 b7) (Exit.exit 2) (L58ab.X w N L a10 (.e1 : L58ab.O)) (L58ab.XH w N L a10 (.e1 : L58ab.O)) := by
 have h_ := L58ab.spec w N hb L hl hne a10 i58a_0 i58a_1 k1_1 p1_1 k1_2 p1_2 k1_3 p1_3 ((((↑(L a10.toNat).length : Int) - b7).toNat) + 1) b7 hinv (Nat.lt_succ_self _)
 unfold L58ab.run at hN
 simp only [hN] at h_
 exact h_
inductive L58a.O where
 | e0
 | e1
noncomputable def L58a.T (w : WD) (N : Nat) (L : Nat → List SD) (a10 : Int) : List AV := mkT 60 [(2, AV.ptr 0 1 6 0 0), (8, AV.sl 1 N fun (j : Nat) => AV.sl 14 (L j).length fun (q : Nat) => (SD.av ((L j).getD q default))), (9, iv (↑N : Int)), (10, iv a10)]
noncomputable def L58a.H (w : WD) (N : Nat) (L : Nat → List SD) (a10 : Int) : AHeap := [AObj.var (WD.av w)]
def L58a.inv (w : WD) (N : Nat) (L : Nat → List SD) (a10 : Int) : Prop := 0 ≤ a10 ∧ (a10 ≤ (↑N : Int) ∨ a10 ≤ 0)
noncomputable def L58a.mu (w : WD) (N : Nat) (L : Nat → List SD) (a10 : Int) : Nat := ((↑N : Int) - a10).toNat
noncomputable def L58a.E : L58a.O → Exit
 | .e0 => Exit.ret
 | .e1 => Exit.exit 0
noncomputable def L58a.X (w : WD) (N : Nat) (L : Nat → List SD) : L58a.O → List AV
 | .e0 => mkT 60 [(4, (AV.bool false))]
 | .e1 => mkT 60 []
noncomputable def L58a.XH (w : WD) (N : Nat) (L : Nat → List SD) : L58a.O → AHeap
 | .e0 => ([AObj.var (WD.av w)])
 | .e1 => ([AObj.var (WD.av w)])
noncomputable def L58a.N (w : WD) (N : Nat) (L : Nat → List SD) : Nat → Int → L58a.O
 | 0, _ => .e0
 | k_ + 1, a10 => (bif decide (a10 < (↑N : Int)) then (bif ((L a10.toNat).getD 0 default).ax == 0 then (bif r61.v ((L a10.toNat).getD (IntKind.i64.wrap ((↑(L a10.toNat).length : Int) - 1)).toNat default) == w.len then (match L58ab.run w L a10 1 with | .e0 => (.e0) | .e1 => (L58a.N w N L k_ (IntKind.i64.wrap (a10 + 1))) ) else (.e0)) else (.e0)) else (.e1))
noncomputable def L58a.run (w : WD) (N : Nat) (L : Nat → List SD) (a10 : Int) : L58a.O := L58a.N w N L ((((↑N : Int) - a10).toNat) + 1) a10
theorem L58a.nx (w : WD) (N : Nat) (L : Nat → List SD) {k_ : Nat} {z_ : Int} {h_ : AHeap} (s_ : Int) (h1 : L58a.inv w N L s_) (h2 : L58a.mu w N L s_ < L58a.mu w N L z_) (h3 : L58a.N w N L k_ s_ = L58a.N w N L (k_ + 1) z_) (h4 : PopOk (L58a.H w N L z_) h_ (L58a.T w N L s_) (L58a.H w N L s_)) : LNextP (L58a.T w N L) (L58a.H w N L) (L58a.inv w N L) (L58a.mu w N L) (L58a.N w N L) k_ z_ (L58a.T w N L s_) h_ := LNextP.mk s_ h1 h2 h3 h4
theorem L58a.en (w : WD) (N : Nat) (L : Nat → List SD) {k_ : Nat} {z_ : Int} {h_ : AHeap} (o_ : L58a.O) (h3 : L58a.N w N L (k_ + 1) z_ = o_) (h4 : PopOk (L58a.H w N L z_) h_ (L58a.X w N L o_) (L58a.XH w N L o_)) : LEndP (L58a.H w N L) (L58a.N w N L) L58a.E (L58a.X w N L) (L58a.XH w N L) k_ z_ (L58a.E o_) (L58a.X w N L o_) h_ := LEndP.mk o_ h3 h4
noncomputable abbrev L58a.h0 (w : WD) (N : Nat) (L : Nat → List SD) (a10 : Int) : AHeap := ([AObj.var (WD.av w)])
theorem L58a.spec (w : WD) (N : Nat) (hb : N ≤ 1000) (L : Nat → List SD) (hl : ∀ (k : Nat), (L k).length ≤ 10000) (hne : ∀ (k : Nat), k < N → 0 < (L k).length) (k_ : Nat) (z_ : Int) (hi_ : L58a.inv w N L z_) (hm_ : L58a.mu w N L z_ < k_) : LoopTo Try.prog (loopN Try.f58 0) (L58a.T w N L z_) (L58a.H w N L z_) (L58a.E (L58a.N w N L k_ z_)) (L58a.X w N L (L58a.N w N L k_ z_)) (L58a.XH w N L (L58a.N w N L k_ z_)) := by
 refine LoopTo.fuelP mix (L58a.T w N L) (L58a.H w N L) (L58a.inv w N L) (L58a.mu w N L) (L58a.N w N L) L58a.E (L58a.X w N L) (L58a.XH w N L) (others 60 [2, 8, 9, 10]) (others 60 [4]) (others 60 []) ?_ k_ z_ hi_ hm_
 clear hm_ hi_ z_ k_
 intro k_ z_ hinv hmu
 revert hinv hmu; revert z_; intro a10 hinv hmu
 have hinv : 0 ≤ a10 ∧ (a10 ≤ (↑N : Int) ∨ a10 ≤ 0) := hinv
 have hmu : (((↑N : Int) - a10).toNat) < k_ + 1 := hmu
 cases h1 : decide (a10 < (↑N : Int)) with
 | true =>
  have h1p := of_decide_eq_true h1
  try have := bd_crs (by first | assumption | omega) (by first | assumption | omega)
  have o0 : (0 : Int) ≤ a10 := by omega
  have o1 : a10 < (↑N : Int) := by assumption
  have o2 : (0 : Int) < (↑(L a10.toNat).length : Int) := by first | assumption | omega | (simp only [List.length_append, List.length_cons, List.length_nil, List.length_map]; omega) | (apply len_pos <;> first | assumption | omega) | (exact hl _) | (exact hl _ (by omega)) | (exact hne _) | (exact hne _ (by omega)) | (simp_all; done)
  cases h2 : ((L a10.toNat).getD 0 default).ax == 0 with
  | true =>
   have h2p := eq_of_beq h2
   try have := bd_crs (by assumption) (by assumption)
   try have := IntWalk.i64_in ((↑(L a10.toNat).length : Int) - 1) (by omega)
   have o3 : (0 : Int) ≤ IntKind.i64.wrap ((↑(L a10.toNat).length : Int) - (1 : Int)) := by first | assumption | omega | (simp only [List.length_append, List.length_cons, List.length_nil, List.length_map]; omega) | (apply last_lo <;> first | assumption | omega) | (exact hl _) | (exact hl _ (by omega)) | (exact hne _) | (exact hne _ (by omega)) | (simp_all; done)
   have o4 : IntKind.i64.wrap ((↑(L a10.toNat).length : Int) - (1 : Int)) < (↑(L a10.toNat).length : Int) := by first | assumption | omega | (simp only [List.length_append, List.length_cons, List.length_nil, List.length_map]; omega) | (apply last_hi <;> first | assumption | omega) | (exact hl _) | (exact hl _ (by omega)) | (exact hne _) | (exact hne _ (by omega)) | (simp_all; done)
   cases h3 : r61.v ((L a10.toNat).getD (IntKind.i64.wrap ((↑(L a10.toNat).length : Int) - 1)).toNat default) == w.len with
   | true =>
    have h3p := eq_of_beq h3
    try have := bd_crs (by assumption) (by assumption)
    have o5 : N ≤ (1000 : Nat) := by assumption
    have o6 : ∀ (k : Nat), (L k).length ≤ (10000 : Nat) := by assumption
    have o7 : ∀ (k : Nat), k < N → (0 : Nat) < (L k).length := by assumption
    have o8 : a10 ≤ (↑N : Int) ∨ a10 ≤ (0 : Int) := by omega
    have o9 : decide (a10 < (↑N : Int)) = true := by assumption
    have o10 : (((L a10.toNat).getD (0 : Nat) default).ax == (0 : Int)) = true := by assumption
    have o11 : ((L a10.toNat).getD (0 : Nat) default).ax = (0 : Int) := by assumption
    try have := IntWalk.i64_in ((↑(L a10.toNat).length : Int) - 1) (by omega)
    have o12 : (r61.v ((L a10.toNat).getD (IntKind.i64.wrap ((↑(L a10.toNat).length : Int) - (1 : Int))).toNat default) == w.len) = true := by assumption
    have o13 : r61.v ((L a10.toNat).getD (IntKind.i64.wrap ((↑(L a10.toNat).length : Int) - (1 : Int))).toNat default) = w.len := by assumption
    have o14 : (1 : Int) ≤ (↑(L a10.toNat).length : Int) ∨ (1 : Int) ≤ (1 : Int) := by omega
    cases h4 : L58ab.run w L a10 1 with
    | e0 =>
     exact ⟨[.b true, .b false, .b false, .b false, .b false, .b false, .b false, .b false, .ret (iv (r61.v ((L a10.toNat).getD (IntKind.i64.wrap ((↑(L a10.toNat).length : Int) - 1)).toNat default))) (L58a.h0 w N L a10), .b false, .b false, .b false, .b false, .b false, .loop (others 60 [2, 6, 7, 8, 9, 10]) (Exit.ret) (L58ab.X w N L a10 L58ab.O.e0) (L58ab.XH w N L a10 L58ab.O.e0)], kmp (by kernel_rfl) (Ai h1 (Ai (Ai o0 o1) (Ai (Ai (show (0 : Int) ≤ (0 : Int) by decide) o2) (Ai (show (bnot (((L a10.toNat).getD 0 default).ax == 0)) = false by rw [h2]; try rfl) (Ai (show (bnot (((L a10.toNat).getD 0 default).ax == 0)) = false by rw [h2]; try rfl) (Ai (show (bnot (((L a10.toNat).getD 0 default).ax == 0)) = false by rw [h2]; try rfl) (Ai (show (bnot (((L a10.toNat).getD 0 default).ax == 0)) = false by rw [h2]; try rfl) (Ai (show (bnot (((L a10.toNat).getD 0 default).ax == 0)) = false by rw [h2]; try rfl) (Ai (Ai o3 o4) (Ai (show (bnot (((L a10.toNat).getD 0 default).ax == 0)) = false by rw [h2]; try rfl) (Ai (show (bnot (((L a10.toNat).getD 0 default).ax == 0)) = false by rw [h2]; try rfl) (Ai (r61 ((L a10.toNat).getD (IntKind.i64.wrap ((↑(L a10.toNat).length : Int) - 1)).toNat default) (L58a.h0 w N L a10)) (Ai (show (bnot (((L a10.toNat).getD 0 default).ax == 0)) = false by rw [h2]; try rfl) (Ai (show (bnot (((L a10.toNat).getD 0 default).ax == 0)) = false by rw [h2]; try rfl) (Ai (show (bnot (((L a10.toNat).getD 0 default).ax == 0)) = false by rw [h2]; try rfl) (Ai (show (bnot (((L a10.toNat).getD 0 default).ax == 0)) = false by rw [h2]; try rfl) (Ai (show (bnot (r61.v ((L a10.toNat).getD (IntKind.i64.wrap ((↑(L a10.toNat).length : Int) - 1)).toNat default) == w.len)) = false by rw [h3]; try rfl) (Ai (L58ab.e0 (w) (N) o5 (L) o6 o7 (a10) o0 o8 o9 o1 o10 o11 o12 o13 (1) (Ai (show (1 : Int) ≤ (1 : Int) by decide) o14) h4) (L58a.en w N L (k_ := k_) (z_ := a10) (.e0 : L58a.O) (by simp only [L58a.N, h1, h2, h3, h4, cond_true, cond_false]) PopOk.same)))))))))))))))))))⟩
    | e1 =>
     try have := bd_crs (by assumption) (by assumption)
     try have := IntWalk.i64_in (a10 + 1) (by omega)
     have o15 : (0 : Int) ≤ IntKind.i64.wrap (a10 + (1 : Int)) := by omega
     have o16 : IntKind.i64.wrap (a10 + (1 : Int)) ≤ (↑N : Int) ∨ IntKind.i64.wrap (a10 + (1 : Int)) ≤ (0 : Int) := by omega
     have o17 : ((↑N : Int) - IntKind.i64.wrap (a10 + (1 : Int))).toNat < ((↑N : Int) - a10).toNat := by omega
     exact ⟨[.b true, .b false, .b false, .b false, .b false, .b false, .b false, .b false, .ret (iv (r61.v ((L a10.toNat).getD (IntKind.i64.wrap ((↑(L a10.toNat).length : Int) - 1)).toNat default))) (L58a.h0 w N L a10), .b false, .b false, .b false, .b false, .b false, .loop (others 60 [2, 6, 7, 8, 9, 10]) (Exit.exit 2) (L58ab.X w N L a10 L58ab.O.e1) (L58ab.XH w N L a10 L58ab.O.e1)], kmp (by kernel_rfl) (Ai h1 (Ai (Ai o0 o1) (Ai (Ai (show (0 : Int) ≤ (0 : Int) by decide) o2) (Ai (show (bnot (((L a10.toNat).getD 0 default).ax == 0)) = false by rw [h2]; try rfl) (Ai (show (bnot (((L a10.toNat).getD 0 default).ax == 0)) = false by rw [h2]; try rfl) (Ai (show (bnot (((L a10.toNat).getD 0 default).ax == 0)) = false by rw [h2]; try rfl) (Ai (show (bnot (((L a10.toNat).getD 0 default).ax == 0)) = false by rw [h2]; try rfl) (Ai (show (bnot (((L a10.toNat).getD 0 default).ax == 0)) = false by rw [h2]; try rfl) (Ai (Ai o3 o4) (Ai (show (bnot (((L a10.toNat).getD 0 default).ax == 0)) = false by rw [h2]; try rfl) (Ai (show (bnot (((L a10.toNat).getD 0 default).ax == 0)) = false by rw [h2]; try rfl) (Ai (r61 ((L a10.toNat).getD (IntKind.i64.wrap ((↑(L a10.toNat).length : Int) - 1)).toNat default) (L58a.h0 w N L a10)) (Ai (show (bnot (((L a10.toNat).getD 0 default).ax == 0)) = false by rw [h2]; try rfl) (Ai (show (bnot (((L a10.toNat).getD 0 default).ax == 0)) = false by rw [h2]; try rfl) (Ai (show (bnot (((L a10.toNat).getD 0 default).ax == 0)) = false by rw [h2]; try rfl) (Ai (show (bnot (((L a10.toNat).getD 0 default).ax == 0)) = false by rw [h2]; try rfl) (Ai (show (bnot (r61.v ((L a10.toNat).getD (IntKind.i64.wrap ((↑(L a10.toNat).length : Int) - 1)).toNat default) == w.len)) = false by rw [h3]; try rfl) (Ai (L58ab.e1 (w) (N) o5 (L) o6 o7 (a10) o0 o8 o9 o1 o10 o11 o12 o13 (1) (Ai (show (1 : Int) ≤ (1 : Int) by decide) o14) h4) (L58a.nx w N L (k_ := k_) (z_ := a10) (IntKind.i64.wrap (a10 + 1)) (Ai o15 o16) o17 (by simp only [L58a.N, h1, h2, h3, h4, cond_true, cond_false]) PopOk.same)))))))))))))))))))⟩
   | false =>
    have h3p := ne_of_beq_false h3
    exact ⟨[.b true, .b false, .b false, .b false, .b false, .b false, .b false, .b false, .ret (iv (r61.v ((L a10.toNat).getD (IntKind.i64.wrap ((↑(L a10.toNat).length : Int) - 1)).toNat default))) (L58a.h0 w N L a10), .b false, .b false, .b false, .b false, .b true], kmp (by kernel_rfl) (Ai h1 (Ai (Ai o0 o1) (Ai (Ai (show (0 : Int) ≤ (0 : Int) by decide) o2) (Ai (show (bnot (((L a10.toNat).getD 0 default).ax == 0)) = false by rw [h2]; try rfl) (Ai (show (bnot (((L a10.toNat).getD 0 default).ax == 0)) = false by rw [h2]; try rfl) (Ai (show (bnot (((L a10.toNat).getD 0 default).ax == 0)) = false by rw [h2]; try rfl) (Ai (show (bnot (((L a10.toNat).getD 0 default).ax == 0)) = false by rw [h2]; try rfl) (Ai (show (bnot (((L a10.toNat).getD 0 default).ax == 0)) = false by rw [h2]; try rfl) (Ai (Ai o3 o4) (Ai (show (bnot (((L a10.toNat).getD 0 default).ax == 0)) = false by rw [h2]; try rfl) (Ai (show (bnot (((L a10.toNat).getD 0 default).ax == 0)) = false by rw [h2]; try rfl) (Ai (r61 ((L a10.toNat).getD (IntKind.i64.wrap ((↑(L a10.toNat).length : Int) - 1)).toNat default) (L58a.h0 w N L a10)) (Ai (show (bnot (((L a10.toNat).getD 0 default).ax == 0)) = false by rw [h2]; try rfl) (Ai (show (bnot (((L a10.toNat).getD 0 default).ax == 0)) = false by rw [h2]; try rfl) (Ai (show (bnot (((L a10.toNat).getD 0 default).ax == 0)) = false by rw [h2]; try rfl) (Ai (show (bnot (((L a10.toNat).getD 0 default).ax == 0)) = false by rw [h2]; try rfl) (Ai (show (bnot (r61.v ((L a10.toNat).getD (IntKind.i64.wrap ((↑(L a10.toNat).length : Int) - 1)).toNat default) == w.len)) = true by rw [h3]; try rfl) (L58a.en w N L (k_ := k_) (z_ := a10) (.e0 : L58a.O) (by simp only [L58a.N, h1, h2, h3, cond_true, cond_false]) PopOk.same))))))))))))))))))⟩
  | false =>
   have h2p := ne_of_beq_false h2
   exact ⟨[.b true, .b true, .b true, .b true, .b true, .b true, .b true, .b true, .b true, .b true, .b true, .b true, .b true], kmp (by kernel_rfl) (Ai h1 (Ai (Ai o0 o1) (Ai (Ai (show (0 : Int) ≤ (0 : Int) by decide) o2) (Ai (show (bnot (((L a10.toNat).getD 0 default).ax == 0)) = true by rw [h2]; try rfl) (Ai (show (bnot (((L a10.toNat).getD 0 default).ax == 0)) = true by rw [h2]; try rfl) (Ai (show (bnot (((L a10.toNat).getD 0 default).ax == 0)) = true by rw [h2]; try rfl) (Ai (show (bnot (((L a10.toNat).getD 0 default).ax == 0)) = true by rw [h2]; try rfl) (Ai (show (bnot (((L a10.toNat).getD 0 default).ax == 0)) = true by rw [h2]; try rfl) (Ai (show (bnot (((L a10.toNat).getD 0 default).ax == 0)) = true by rw [h2]; try rfl) (Ai (show (bnot (((L a10.toNat).getD 0 default).ax == 0)) = true by rw [h2]; try rfl) (Ai (show (bnot (((L a10.toNat).getD 0 default).ax == 0)) = true by rw [h2]; try rfl) (Ai (show (bnot (((L a10.toNat).getD 0 default).ax == 0)) = true by rw [h2]; try rfl) (Ai (show (bnot (((L a10.toNat).getD 0 default).ax == 0)) = true by rw [h2]; try rfl) (Ai (show (bnot (((L a10.toNat).getD 0 default).ax == 0)) = true by rw [h2]; try rfl) (Ai (rfl : true = true) (L58a.en w N L (k_ := k_) (z_ := a10) (.e0 : L58a.O) (by simp only [L58a.N, h1, h2, cond_true, cond_false]) PopOk.same))))))))))))))))⟩
 | false =>
  have h1p := of_decide_eq_false h1
  exact ⟨[.b false], kmp (by kernel_rfl) (Ai h1 (L58a.en w N L (k_ := k_) (z_ := a10) (.e1 : L58a.O) (by simp only [L58a.N, h1, cond_true, cond_false]) PopOk.same))⟩
theorem L58a.e0 (w : WD) (N : Nat) (hb : N ≤ 1000) (L : Nat → List SD) (hl : ∀ (k : Nat), (L k).length ≤ 10000) (hne : ∀ (k : Nat), k < N → 0 < (L k).length) (a10 : Int) (hinv : L58a.inv w N L a10) (hN : L58a.run w N L a10 = (.e0 : L58a.O)) : LoopTo Try.prog (loopN Try.f58 0) (L58a.T w N L a10) (L58a.H w N L a10) (Exit.ret) (L58a.X w N L (.e0 : L58a.O)) (L58a.XH w N L (.e0 : L58a.O)) := by
 have h_ := L58a.spec w N hb L hl hne ((((↑N : Int) - a10).toNat) + 1) a10 hinv (Nat.lt_succ_self _)
 unfold L58a.run at hN
 simp only [hN] at h_
 exact h_
theorem L58a.e1 (w : WD) (N : Nat) (hb : N ≤ 1000) (L : Nat → List SD) (hl : ∀ (k : Nat), (L k).length ≤ 10000) (hne : ∀ (k : Nat), k < N → 0 < (L k).length) (a10 : Int) (hinv : L58a.inv w N L a10) (hN : L58a.run w N L a10 = (.e1 : L58a.O)) : LoopTo Try.prog (loopN Try.f58 0) (L58a.T w N L a10) (L58a.H w N L a10) (Exit.exit 0) (L58a.X w N L (.e1 : L58a.O)) (L58a.XH w N L (.e1 : L58a.O)) := by
 have h_ := L58a.spec w N hb L hl hne ((((↑N : Int) - a10).toNat) + 1) a10 hinv (Nat.lt_succ_self _)
 unfold L58a.run at hN
 simp only [hN] at h_
 exact h_
noncomputable def r58.v (w : WD) (N : Nat) (L : Nat → List SD) : Bool := (match L58a.run w N L 0 with | .e0 => false | .e1 => true )
theorem r58 (w : WD) (N : Nat) (hb : N ≤ 1000) (L : Nat → List SD) (hl : ∀ (k : Nat), (L k).length ≤ 10000) (hne : ∀ (k : Nat), k < N → 0 < (L k).length) (h : AHeap) : Ret Try.prog 58 ([w.av, nsts N L]) h (AV.bool (r58.v w N L)) h := by
 try have := bd_crs (by first | assumption | omega) (by first | assumption | omega)
 have o0 : N ≤ (1000 : Nat) := by assumption
 have o1 : ∀ (k : Nat), (L k).length ≤ (10000 : Nat) := by assumption
 have o2 : ∀ (k : Nat), k < N → (0 : Nat) < (L k).length := by assumption
 have o3 : (0 : Int) ≤ (↑N : Int) ∨ (0 : Int) ≤ (0 : Int) := by omega
 cases h1 : L58a.run w N L 0 with
 | e0 =>
  exact Ret.of_run1 mix [(AV.bool (r58.v w N L))] Try.func58 rfl [.loop (others 60 [2, 8, 9, 10]) (Exit.ret) (L58a.X w N L L58a.O.e0) (L58a.XH w N L L58a.O.e0)] (by simp) (by simp) (kmp (by kernel_rfl) (Ai (L58a.e0 (w) (N) o0 (L) o1 o2 (0) (Ai (show (0 : Int) ≤ (0 : Int) by decide) o3) h1) (Ai (show (AV.bool false) = ((AV.bool (r58.v w N L))) by simp only [r58.v, h1, cond_true, cond_false]) trivial))) h
 | e1 =>
  exact Ret.of_run1 mix [(AV.bool (r58.v w N L))] Try.func58 rfl [.loop (others 60 [2, 8, 9, 10]) (Exit.exit 0) (L58a.X w N L L58a.O.e1) (L58a.XH w N L L58a.O.e1)] (by simp) (by simp) (kmp (by kernel_rfl) (Ai (L58a.e1 (w) (N) o0 (L) o1 o2 (0) (Ai (show (0 : Int) ≤ (0 : Int) by decide) o3) h1) (Ai (show (AV.bool true) = ((AV.bool (r58.v w N L))) by simp only [r58.v, h1, cond_true, cond_false]) trivial))) h
inductive L45a.O where
 | e0 (a0 : Nat) (a1 : List Int)
noncomputable def L45a.T (n : Nat) (g : Nat → SD) (av3 : Nat) (al3 : List Int) (a4 : Int) : List AV := mkT 28 [(0, AV.sl 14 n fun (i : Nat) => (SD.av (g i))), (3, AV.ms 0 av3 1 0 al3.length), (4, iv a4)]
noncomputable def L45a.H (n : Nat) (g : Nat → SD) (av3 : Nat) (al3 : List Int) (a4 : Int) : AHeap := [AObj.row 1 av3 (Col.ints IntKind.i64 al3)]
def L45a.inv (n : Nat) (g : Nat → SD) (av3 : Nat) (al3 : List Int) (a4 : Int) : Prop := 1 ≤ a4 ∧ (a4 ≤ (↑n : Int) ∨ a4 ≤ 1) ∧ (↑al3.length : Int) ≤ a4 - 1
noncomputable def L45a.mu (n : Nat) (g : Nat → SD) (av3 : Nat) (al3 : List Int) (a4 : Int) : Nat := ((↑n : Int) - a4).toNat
noncomputable def L45a.E : L45a.O → Exit
 | .e0 a0 a1 => Exit.exit 0
noncomputable def L45a.X (n : Nat) (g : Nat → SD) : L45a.O → List AV
 | .e0 a0 a1 => mkT 28 [(3, (AV.ms 0 a0 1 0 (List.length a1)))]
noncomputable def L45a.XH (n : Nat) (g : Nat → SD) : L45a.O → AHeap
 | .e0 a0 a1 => ((AObj.row 1 a0 (Col.ints IntKind.i64 a1)) :: ([]))
noncomputable def L45a.N (n : Nat) (g : Nat → SD) : Nat → Nat → (List Int) → Int → L45a.O
 | 0, av3, al3, _ => .e0 av3 al3
 | k_ + 1, av3, al3, a4 => (bif decide (a4 < (↑n : Int)) then (L45a.N n g k_ (av3 + 1) (al3 ++ [IntKind.i64.wrap (r61.v (g (IntKind.i64.wrap (a4 - 1)).toNat) + (g a4.toNat).ax)]) (IntKind.i64.wrap (a4 + 1))) else (.e0 (av3) (al3)))
noncomputable def L45a.run (n : Nat) (g : Nat → SD) (av3 : Nat) (al3 : List Int) (a4 : Int) : L45a.O := L45a.N n g ((((↑n : Int) - a4).toNat) + 1) av3 al3 a4
theorem L45a.nx (n : Nat) (g : Nat → SD) {k_ : Nat} {z_ : Nat × (List Int) × Int} {h_ : AHeap} (s_ : Nat × (List Int) × Int) (h1 : L45a.inv n g s_.1 s_.2.1 s_.2.2) (h2 : L45a.mu n g s_.1 s_.2.1 s_.2.2 < L45a.mu n g z_.1 z_.2.1 z_.2.2) (h3 : L45a.N n g k_ s_.1 s_.2.1 s_.2.2 = L45a.N n g (k_ + 1) z_.1 z_.2.1 z_.2.2) (h4 : PopOk (L45a.H n g z_.1 z_.2.1 z_.2.2) h_ (L45a.T n g s_.1 s_.2.1 s_.2.2) (L45a.H n g s_.1 s_.2.1 s_.2.2)) : LNextP (fun (z_ : Nat × (List Int) × Int) => L45a.T n g z_.1 z_.2.1 z_.2.2) (fun (z_ : Nat × (List Int) × Int) => L45a.H n g z_.1 z_.2.1 z_.2.2) (fun (z_ : Nat × (List Int) × Int) => L45a.inv n g z_.1 z_.2.1 z_.2.2) (fun (z_ : Nat × (List Int) × Int) => L45a.mu n g z_.1 z_.2.1 z_.2.2) (fun (k_ : Nat) (z_ : Nat × (List Int) × Int) => L45a.N n g k_ z_.1 z_.2.1 z_.2.2) k_ z_ (L45a.T n g s_.1 s_.2.1 s_.2.2) h_ := LNextP.mk s_ h1 h2 h3 h4
theorem L45a.en (n : Nat) (g : Nat → SD) {k_ : Nat} {z_ : Nat × (List Int) × Int} {h_ : AHeap} (o_ : L45a.O) (h3 : L45a.N n g (k_ + 1) z_.1 z_.2.1 z_.2.2 = o_) (h4 : PopOk (L45a.H n g z_.1 z_.2.1 z_.2.2) h_ (L45a.X n g o_) (L45a.XH n g o_)) : LEndP (fun (z_ : Nat × (List Int) × Int) => L45a.H n g z_.1 z_.2.1 z_.2.2) (fun (k_ : Nat) (z_ : Nat × (List Int) × Int) => L45a.N n g k_ z_.1 z_.2.1 z_.2.2) L45a.E (L45a.X n g) (L45a.XH n g) k_ z_ (L45a.E o_) (L45a.X n g o_) h_ := LEndP.mk o_ h3 h4
theorem L45a.spec (n : Nat) (hn : n ≤ 10000) (g : Nat → SD) (k_ : Nat) (z_ : Nat × (List Int) × Int) (hi_ : L45a.inv n g z_.1 z_.2.1 z_.2.2) (hm_ : L45a.mu n g z_.1 z_.2.1 z_.2.2 < k_) : LoopTo Try.prog (loopN Try.f45 0) (L45a.T n g z_.1 z_.2.1 z_.2.2) (L45a.H n g z_.1 z_.2.1 z_.2.2) (L45a.E (L45a.N n g k_ z_.1 z_.2.1 z_.2.2)) (L45a.X n g (L45a.N n g k_ z_.1 z_.2.1 z_.2.2)) (L45a.XH n g (L45a.N n g k_ z_.1 z_.2.1 z_.2.2)) := by
 refine LoopTo.fuelP mix (fun (z_ : Nat × (List Int) × Int) => L45a.T n g z_.1 z_.2.1 z_.2.2) (fun (z_ : Nat × (List Int) × Int) => L45a.H n g z_.1 z_.2.1 z_.2.2) (fun (z_ : Nat × (List Int) × Int) => L45a.inv n g z_.1 z_.2.1 z_.2.2) (fun (z_ : Nat × (List Int) × Int) => L45a.mu n g z_.1 z_.2.1 z_.2.2) (fun (k_ : Nat) (z_ : Nat × (List Int) × Int) => L45a.N n g k_ z_.1 z_.2.1 z_.2.2) L45a.E (L45a.X n g) (L45a.XH n g) (others 28 [0, 3, 4]) (others 28 [2]) (others 28 [3]) ?_ k_ z_ hi_ hm_
 clear hm_ hi_ z_ k_
 intro k_ z_ hinv hmu
 obtain ⟨av3, al3, a4⟩ := z_
 have hinv : 1 ≤ a4 ∧ (a4 ≤ (↑n : Int) ∨ a4 ≤ 1) ∧ (↑al3.length : Int) ≤ a4 - 1 := hinv
 have hmu : (((↑n : Int) - a4).toNat) < k_ + 1 := hmu
 cases h1 : decide (a4 < (↑n : Int)) with
 | true =>
  have h1p := of_decide_eq_true h1
  try have := IntWalk.i64_in (a4 - 1) (by omega)
  have o0 : (0 : Int) ≤ IntKind.i64.wrap (a4 - (1 : Int)) := by omega
  have o1 : IntKind.i64.wrap (a4 - (1 : Int)) < (↑n : Int) := by omega
  have o2 : (0 : Int) ≤ a4 := by omega
  have o3 : a4 < (↑n : Int) := by assumption
  have o4 : (al3.length + (1 : Nat)) * (8 : Nat) ≤ (140737488355328 : Nat) := by omega
  have o5 : al3.length = (Col.ints IntKind.i64 al3).len := by rfl
  try have := IntWalk.i64_in (a4 + 1) (by omega)
  have o6 : (1 : Int) ≤ IntKind.i64.wrap (a4 + (1 : Int)) := by omega
  have o7 : IntKind.i64.wrap (a4 + (1 : Int)) ≤ (↑n : Int) ∨ IntKind.i64.wrap (a4 + (1 : Int)) ≤ (1 : Int) := by omega
  try have := IntWalk.i64_in (r61.v (g (IntKind.i64.wrap (a4 - 1)).toNat) + (g a4.toNat).ax) (by omega)
  have o8 : (↑(al3 ++ [IntKind.i64.wrap (r61.v (g (IntKind.i64.wrap (a4 - (1 : Int))).toNat) + (g a4.toNat).ax)]).length : Int) ≤ IntKind.i64.wrap (a4 + (1 : Int)) - (1 : Int) := by simp only [List.length_append, List.length_cons, List.length_nil, List.length_map]; omega
  have o9 : ((↑n : Int) - IntKind.i64.wrap (a4 + (1 : Int))).toNat < ((↑n : Int) - a4).toNat := by omega
  exact ⟨[.b true, .ret (iv (r61.v (g (IntKind.i64.wrap (a4 - 1)).toNat))) ([AObj.row 1 av3 (Col.ints IntKind.i64 al3)]), .app .one false], kmp (by kernel_rfl) (Ai h1 (Ai (Ai o0 o1) (Ai (r61 (g (IntKind.i64.wrap (a4 - 1)).toNat) ([AObj.row 1 av3 (Col.ints IntKind.i64 al3)])) (Ai (Ai o2 o3) (Ai (Ai (show (1 : Nat) = (1 : Nat) by decide) (Ai (show AppMode.one.needs 1 fun (a : Nat) => (Col.ofList [iv (IntKind.i64.wrap (r61.v (g (IntKind.i64.wrap (a4 - 1)).toNat) + (g a4.toNat).ax))]).get a by exact ⟨rfl, rfl⟩) (Ai o4 (Ai (rfl : av3 = av3) (Ai (show (0 : Nat) = (0 : Nat) by decide) o5))))) (L45a.nx n g (k_ := k_) (z_ := (av3, al3, a4)) ((av3 + 1, al3 ++ [IntKind.i64.wrap (r61.v (g (IntKind.i64.wrap (a4 - 1)).toNat) + (g a4.toNat).ax)], IntKind.i64.wrap (a4 + 1))) (Ai o6 (Ai o7 o8)) o9 (by simp only [L45a.N, h1, cond_true, cond_false]) PopOk.same))))))⟩
 | false =>
  have h1p := of_decide_eq_false h1
  exact ⟨[.b false], kmp (by kernel_rfl) (Ai h1 (L45a.en n g (k_ := k_) (z_ := (av3, al3, a4)) (.e0 (av3) (al3) : L45a.O) (by simp only [L45a.N, h1, cond_true, cond_false]) PopOk.same))⟩
theorem L45a.e0 (n : Nat) (hn : n ≤ 10000) (g : Nat → SD) (av3 : Nat) (al3 : List Int) (a4 : Int) (hinv : L45a.inv n g av3 al3 a4) (a0 : Nat) (a1 : List Int) (hN : L45a.run n g av3 al3 a4 = (.e0 a0 a1 : L45a.O)) : LoopTo Try.prog (loopN Try.f45 0) (L45a.T n g av3 al3 a4) (L45a.H n g av3 al3 a4) (Exit.exit 0) (L45a.X n g (.e0 a0 a1 : L45a.O)) (L45a.XH n g (.e0 a0 a1 : L45a.O)) := by
 have h_ := L45a.spec n hn g ((((↑n : Int) - a4).toNat) + 1) (av3, al3, a4) hinv (Nat.lt_succ_self _)
 unfold L45a.run at hN
 simp only [hN] at h_
 exact h_
theorem L45a.len0_1 (n : Nat) (g : Nat → SD) : ∀ (m_ : Nat) (av3 : Nat) (al3 : List Int) (a4 : Int) (a0_ : Nat) (a1_ : List Int), L45a.N n g m_ av3 al3 a4 = (.e0 a0_ a1_ : L45a.O) → (a1_).length ≤ (al3).length + m_ := by
 intro m_
 induction m_ with
 | zero =>
  intro av3 al3 a4 a0_ a1_ h_
  simp only [L45a.N] at h_
  first | (cases h_; done) | (cases h_; first | exact Nat.zero_le _ | omega)
 | succ m_ ih_ =>
  intro av3 al3 a4 a0_ a1_ h_
  cases h1 : decide (a4 < (↑n : Int)) with
  | true =>
   have h1p := of_decide_eq_true h1
   (simp only [L45a.N, h1, cond_true, cond_false] at h_; first | (have := ih_ _ _ _ _ _ h_; (try simp only [List.length_append, List.length_cons, List.length_nil, List.length_set] at this); omega) | (cases h_; done) | (cases h_; omega))
  | false =>
   have h1p := of_decide_eq_false h1
   (simp only [L45a.N, h1, cond_true, cond_false] at h_; first | (have := ih_ _ _ _ _ _ h_; (try simp only [List.length_append, List.length_cons, List.length_nil, List.length_set] at this); omega) | (cases h_; done) | (cases h_; omega))
theorem L45a.lenR0_1 (n : Nat) (g : Nat → SD) {av3 : Nat} {al3 : List Int} {a4 : Int} {a0_ : Nat} {a1_ : List Int} (h_ : L45a.run n g av3 al3 a4 = (.e0 a0_ a1_ : L45a.O)) : (a1_).length ≤ (al3).length + ((((↑n : Int) - a4).toNat) + 1) := L45a.len0_1 n g _ av3 al3 a4 a0_ a1_ h_
noncomputable def r45.v (n : Nat) (g : Nat → SD) : List Int := (match L45a.run n g 0 [] 1 with | .e0 h1d0 h1d1 => h1d1 )
theorem r45 (n : Nat) (hn : n ≤ 10000) (g : Nat → SD) (h : AHeap) : Ret Try.prog 45 ([sds n g]) h (avInts IntKind.i64 (r45.v n g)) h := by
 have o0 : n ≤ (10000 : Nat) := by assumption
 have o1 : (1 : Int) ≤ (↑n : Int) ∨ (1 : Int) ≤ (1 : Int) := by omega
 cases h1 : L45a.run n g 0 [] 1 with
 | e0 h1d0 h1d1 =>
  try have := L45a.lenR0_1 _ _ (by assumption); (try simp only [List.length_nil] at this)
  have o2 : (0 : Nat) + h1d1.length ≤ (Col.ints IntKind.i64 h1d1).len := by simp [Col.len]
  exact Ret.of_run1 mix [(avInts IntKind.i64 (r45.v n g))] Try.func45 rfl [.virt [] [(none, 3, 1, Col.ints IntKind.i64 [])], .loop (others 28 [0, 3, 4]) (Exit.exit 0) (L45a.X n g (L45a.O.e0 h1d0 h1d1)) (L45a.XH n g (L45a.O.e0 h1d0 h1d1))] (by simp) (by simp) (kmp (by kernel_rfl) (Ai (Ai (rfl : AV.snil = AV.snil) (Ai (rfl : (0 : Nat) = 0) trivial)) (Ai (L45a.e0 (n) o0 (g) (0) ([]) (1) (Ai (show (1 : Int) ≤ (1 : Int) by decide) (Ai o1 (show (0 : Int) ≤ (0 : Int) by decide))) h1d0 h1d1 h1) (Ai (Ai (rfl : h1d0 = h1d0) (Ai (show (1 : Nat) = (1 : Nat) by decide) (Ai o2 (show ((avInts IntKind.i64 h1d1)) = ((avInts IntKind.i64 (r45.v n g))) by simp only [r45.v, h1, cond_true, cond_false])))) trivial)))) h
end Go.Proofs.Ytjdbmmilcihpoaa
open Go
namespace Go.Proofs.Ytjdbmmilcihpoaa
set_option linter.unusedSimpArgs false
set_option linter.unusedVariables false
set_option maxHeartbeats 0
set_option maxRecDepth 100000
noncomputable def r78.v (g : Nat → SD) (s : SD) : Bool := (bif s.az == (g 0).az then s.sz != (g 0).sz else true)
theorem r78 (w : WD) (n : Nat) (hp : 0 < n) (g : Nat → SD) (s : SD) : Ret Try.prog 78 ([s.av, AV.ptr 1 1 1 0 0]) ([AObj.var w.av, AObj.var (sds n g)]) (AV.bool (r78.v g s)) ( [AObj.var w.av, AObj.var (sds n g)]) := by
 have o0 : (0 : Int) < (↑n : Int) := by omega
 cases h1 : s.az == (g 0).az with
 | true =>
  have h1p := eq_of_beq h1
  exact Ret.of_runH mix [(AV.bool (r78.v g s))] ([AObj.var w.av, AObj.var (sds n g)]) Try.func78 rfl [.b false, .b false, .b false, .b false, .b false, .b false, .b false, .b false, .b false, .b false] (by simp) (kmp (by kernel_rfl) (Ai (Ai (show (0 : Int) ≤ (0 : Int) by decide) o0) (Ai (show (bnot (s.az == (g 0).az)) = false by rw [h1]; try rfl) (Ai (show (bnot (s.az == (g 0).az)) = false by rw [h1]; try rfl) (Ai (show (bnot (s.az == (g 0).az)) = false by rw [h1]; try rfl) (Ai (show (bnot (s.az == (g 0).az)) = false by rw [h1]; try rfl) (Ai (show (bnot (s.az == (g 0).az)) = false by rw [h1]; try rfl) (Ai (Ai (show (0 : Int) ≤ (0 : Int) by decide) o0) (Ai (show (bnot (s.az == (g 0).az)) = false by rw [h1]; try rfl) (Ai (show (bnot (s.az == (g 0).az)) = false by rw [h1]; try rfl) (Ai (show (bnot (s.az == (g 0).az)) = false by rw [h1]; try rfl) (Ai (show (bnot (s.az == (g 0).az)) = false by rw [h1]; try rfl) (Ai (show (bnot (s.az == (g 0).az)) = false by rw [h1]; try rfl) (Ai (Ai (show (AV.bool (s.sz != (g 0).sz)) = ((AV.bool (r78.v g s))) by simp only [r78.v, h1, cond_true, cond_false]) trivial) (rfl : ([AObj.var w.av, AObj.var (sds n g)] : AHeap) = [AObj.var w.av, AObj.var (sds n g)])))))))))))))))
 | false =>
  have h1p := ne_of_beq_false h1
  exact Ret.of_runH mix [(AV.bool (r78.v g s))] ([AObj.var w.av, AObj.var (sds n g)]) Try.func78 rfl [.b true, .b true, .b true, .b true, .b true, .b true, .b true, .b true, .b true, .b true] (by simp) (kmp (by kernel_rfl) (Ai (Ai (show (0 : Int) ≤ (0 : Int) by decide) o0) (Ai (show (bnot (s.az == (g 0).az)) = true by rw [h1]; try rfl) (Ai (show (bnot (s.az == (g 0).az)) = true by rw [h1]; try rfl) (Ai (show (bnot (s.az == (g 0).az)) = true by rw [h1]; try rfl) (Ai (show (bnot (s.az == (g 0).az)) = true by rw [h1]; try rfl) (Ai (show (bnot (s.az == (g 0).az)) = true by rw [h1]; try rfl) (Ai (show (bnot (s.az == (g 0).az)) = true by rw [h1]; try rfl) (Ai (show (bnot (s.az == (g 0).az)) = true by rw [h1]; try rfl) (Ai (show (bnot (s.az == (g 0).az)) = true by rw [h1]; try rfl) (Ai (show (bnot (s.az == (g 0).az)) = true by rw [h1]; try rfl) (Ai (show (bnot (s.az == (g 0).az)) = true by rw [h1]; try rfl) (Ai (Ai (show (AV.bool true) = ((AV.bool (r78.v g s))) by simp only [r78.v, h1, cond_true, cond_false]) trivial) (rfl : ([AObj.var w.av, AObj.var (sds n g)] : AHeap) = [AObj.var w.av, AObj.var (sds n g)]))))))))))))))
inductive L59c.O where
 | e0 (a0 : Int)
 | e1
noncomputable def L59c.T (w : WD) (n : Nat) (g : Nat → SD) (i : Int) : List AV := mkT 19 [(0, sds n g), (1, AV.fn 78 [AV.ptr 1 1 1 0 0]), (7, iv (↑n : Int)), (8, iv i)]
noncomputable def L59c.H (w : WD) (n : Nat) (g : Nat → SD) (i : Int) : AHeap := [AObj.var w.av, AObj.var (sds n g)]
def L59c.inv (w : WD) (n : Nat) (g : Nat → SD) (i : Int) : Prop := 0 ≤ i ∧ i ≤ (↑n : Int)
noncomputable def L59c.mu (w : WD) (n : Nat) (g : Nat → SD) (i : Int) : Nat := ((↑n : Int) - i).toNat
noncomputable def L59c.E : L59c.O → Exit
 | .e0 a0 => Exit.ret
 | .e1 => Exit.exit 0
noncomputable def L59c.X (w : WD) (n : Nat) (g : Nat → SD) : L59c.O → List AV
 | .e0 a0 => mkT 19 [(4, (iv a0))]
 | .e1 => mkT 19 []
noncomputable def L59c.XH (w : WD) (n : Nat) (g : Nat → SD) : L59c.O → AHeap
 | .e0 a0 => ([AObj.var (WD.av w), AObj.var (AV.sl 14 n fun (i : Nat) => (SD.av (g i)))])
 | .e1 => ([AObj.var (WD.av w), AObj.var (AV.sl 14 n fun (i : Nat) => (SD.av (g i)))])
noncomputable def L59c.N (n : Nat) (g : Nat → SD) : Nat → Int → L59c.O
 | 0, i => .e0 i
 | k_ + 1, i => (bif decide (i < (↑n : Int)) then (bif r78.v g (g i.toNat) then (.e0 (i)) else (L59c.N n g k_ (IntKind.i64.wrap (i + 1)))) else (.e1))
noncomputable def L59c.run (n : Nat) (g : Nat → SD) (i : Int) : L59c.O := L59c.N n g ((((↑n : Int) - i).toNat) + 1) i
theorem L59c.nx (w : WD) (n : Nat) (g : Nat → SD) {k_ : Nat} {z_ : Int} {h_ : AHeap} (s_ : Int) (h1 : L59c.inv w n g s_) (h2 : L59c.mu w n g s_ < L59c.mu w n g z_) (h3 : L59c.N n g k_ s_ = L59c.N n g (k_ + 1) z_) (h4 : PopOk (L59c.H w n g z_) h_ (L59c.T w n g s_) (L59c.H w n g s_)) : LNextP (L59c.T w n g) (L59c.H w n g) (L59c.inv w n g) (L59c.mu w n g) (L59c.N n g) k_ z_ (L59c.T w n g s_) h_ := LNextP.mk s_ h1 h2 h3 h4
theorem L59c.en (w : WD) (n : Nat) (g : Nat → SD) {k_ : Nat} {z_ : Int} {h_ : AHeap} (o_ : L59c.O) (h3 : L59c.N n g (k_ + 1) z_ = o_) (h4 : PopOk (L59c.H w n g z_) h_ (L59c.X w n g o_) (L59c.XH w n g o_)) : LEndP (L59c.H w n g) (L59c.N n g) L59c.E (L59c.X w n g) (L59c.XH w n g) k_ z_ (L59c.E o_) (L59c.X w n g o_) h_ := LEndP.mk o_ h3 h4
theorem L59c.spec (w : WD) (n : Nat) (hp : 0 < n) (hn : n ≤ 10000) (g : Nat → SD) (k_ : Nat) (z_ : Int) (hi_ : L59c.inv w n g z_) (hm_ : L59c.mu w n g z_ < k_) : LoopTo Try.prog (loopN Try.f59 0) (L59c.T w n g z_) (L59c.H w n g z_) (L59c.E (L59c.N n g k_ z_)) (L59c.X w n g (L59c.N n g k_ z_)) (L59c.XH w n g (L59c.N n g k_ z_)) := by
 refine LoopTo.fuelP mix (L59c.T w n g) (L59c.H w n g) (L59c.inv w n g) (L59c.mu w n g) (L59c.N n g) L59c.E (L59c.X w n g) (L59c.XH w n g) (others 19 [0, 1, 7, 8]) (others 19 [4]) (others 19 []) ?_ k_ z_ hi_ hm_
 clear hm_ hi_ z_ k_
 intro k_ z_ hinv hmu
 revert hinv hmu; revert z_; intro i hinv hmu
 have hinv : 0 ≤ i ∧ i ≤ (↑n : Int) := hinv
 have hmu : (((↑n : Int) - i).toNat) < k_ + 1 := hmu
 cases h1 : decide (i < (↑n : Int)) with
 | true =>
  have h1p := of_decide_eq_true h1
  have o0 : (0 : Int) ≤ i := by omega
  have o1 : i < (↑n : Int) := by assumption
  have o2 : (0 : Nat) < n := by assumption
  cases h2 : r78.v g (g i.toNat) with
  | true =>
   exact ⟨[.b true, .ret (AV.bool (r78.v g (g i.toNat))) ([AObj.var (WD.av w), AObj.var (AV.sl 14 n fun (i : Nat) => (SD.av (g i)))]), .b true], kmp (by kernel_rfl) (Ai h1 (Ai (Ai o0 o1) (Ai (r78 (w) (n) o2 (g) (g i.toNat)) (Ai h2 (L59c.en w n g (k_ := k_) (z_ := i) (.e0 (i) : L59c.O) (by simp only [L59c.N, h1, h2, cond_true, cond_false]) PopOk.same)))))⟩
  | false =>
   try have := IntWalk.i64_in (i + 1) (by omega)
   have o3 : (0 : Int) ≤ IntKind.i64.wrap (i + (1 : Int)) := by omega
   have o4 : IntKind.i64.wrap (i + (1 : Int)) ≤ (↑n : Int) := by omega
   have o5 : ((↑n : Int) - IntKind.i64.wrap (i + (1 : Int))).toNat < ((↑n : Int) - i).toNat := by omega
   exact ⟨[.b true, .ret (AV.bool (r78.v g (g i.toNat))) ([AObj.var (WD.av w), AObj.var (AV.sl 14 n fun (i : Nat) => (SD.av (g i)))]), .b false], kmp (by kernel_rfl) (Ai h1 (Ai (Ai o0 o1) (Ai (r78 (w) (n) o2 (g) (g i.toNat)) (Ai h2 (L59c.nx w n g (k_ := k_) (z_ := i) (IntKind.i64.wrap (i + 1)) (Ai o3 o4) o5 (by simp only [L59c.N, h1, h2, cond_true, cond_false]) PopOk.same)))))⟩
 | false =>
  have h1p := of_decide_eq_false h1
  exact ⟨[.b false], kmp (by kernel_rfl) (Ai h1 (L59c.en w n g (k_ := k_) (z_ := i) (.e1 : L59c.O) (by simp only [L59c.N, h1, cond_true, cond_false]) PopOk.same))⟩
theorem L59c.e0 (w : WD) (n : Nat) (hp : 0 < n) (hn : n ≤ 10000) (g : Nat → SD) (i : Int) (hinv : L59c.inv w n g i) (a0 : Int) (hN : L59c.run n g i = (.e0 a0 : L59c.O)) : LoopTo Try.prog (loopN Try.f59 0) (L59c.T w n g i) (L59c.H w n g i) (Exit.ret) (L59c.X w n g (.e0 a0 : L59c.O)) (L59c.XH w n g (.e0 a0 : L59c.O)) := by
 have h_ := L59c.spec w n hp hn g ((((↑n : Int) - i).toNat) + 1) i hinv (Nat.lt_succ_self _)
 unfold L59c.run at hN
 simp only [hN] at h_
 exact h_
theorem L59c.e1 (w : WD) (n : Nat) (hp : 0 < n) (hn : n ≤ 10000) (g : Nat → SD) (i : Int) (hinv : L59c.inv w n g i) (hN : L59c.run n g i = (.e1 : L59c.O)) : LoopTo Try.prog (loopN Try.f59 0) (L59c.T w n g i) (L59c.H w n g i) (Exit.exit 0) (L59c.X w n g (.e1 : L59c.O)) (L59c.XH w n g (.e1 : L59c.O)) := by
 have h_ := L59c.spec w n hp hn g ((((↑n : Int) - i).toNat) + 1) i hinv (Nat.lt_succ_self _)
 unfold L59c.run at hN
 simp only [hN] at h_
 exact h_
noncomputable def r59c.v (n : Nat) (g : Nat → SD) : Int := (match L59c.run n g 0 with | .e0 h1d0 => h1d0 | .e1 => -1 )
theorem r59c (w : WD) (n : Nat) (hp : 0 < n) (hn : n ≤ 10000) (g : Nat → SD) : Ret Try.prog 59 ([sds n g, AV.fn 78 [AV.ptr 1 1 1 0 0]]) ([AObj.var w.av, AObj.var (sds n g)]) (iv (r59c.v n g)) ( [AObj.var w.av, AObj.var (sds n g)]) := by
 have o0 : (0 : Nat) < n := by assumption
 have o1 : n ≤ (10000 : Nat) := by assumption
 have o2 : (0 : Int) ≤ (↑n : Int) := by omega
 cases h1 : L59c.run n g 0 with
 | e0 h1d0 =>
  exact Ret.of_runH mix [(iv (r59c.v n g))] ([AObj.var w.av, AObj.var (sds n g)]) Try.func59 rfl [.loop (others 19 [0, 1, 7, 8]) (Exit.ret) (L59c.X w n g (L59c.O.e0 h1d0)) (L59c.XH w n g (L59c.O.e0 h1d0))] (by simp) (kmp (by kernel_rfl) (Ai (L59c.e0 (w) (n) o0 o1 (g) (0) (Ai (show (0 : Int) ≤ (0 : Int) by decide) o2) h1d0 h1) (Ai (Ai (show (iv h1d0) = ((iv (r59c.v n g))) by simp only [r59c.v, h1, cond_true, cond_false]) trivial) (rfl : ([AObj.var w.av, AObj.var (sds n g)] : AHeap) = [AObj.var w.av, AObj.var (sds n g)]))))
 | e1 =>
  exact Ret.of_runH mix [(iv (r59c.v n g))] ([AObj.var w.av, AObj.var (sds n g)]) Try.func59 rfl [.loop (others 19 [0, 1, 7, 8]) (Exit.exit 0) (L59c.X w n g L59c.O.e1) (L59c.XH w n g L59c.O.e1)] (by simp) (kmp (by kernel_rfl) (Ai (L59c.e1 (w) (n) o0 o1 (g) (0) (Ai (show (0 : Int) ≤ (0 : Int) by decide) o2) h1) (Ai (Ai (show (iv (-1)) = ((iv (r59c.v n g))) by simp only [r59c.v, h1, cond_true, cond_false]) trivial) (rfl : ([AObj.var w.av, AObj.var (sds n g)] : AHeap) = [AObj.var w.av, AObj.var (sds n g)]))))
noncomputable def r49c.v (n : Nat) (g : Nat → SD) : Bool := decide (r59c.v n g ≥ 0)
theorem r49c (w : WD) (n : Nat) (hp : 0 < n) (hn : n ≤ 10000) (g : Nat → SD) : Ret Try.prog 49 ([sds n g, AV.fn 78 [AV.ptr 1 1 1 0 0]]) ([AObj.var w.av, AObj.var (sds n g)]) (AV.bool (r49c.v n g)) ( [AObj.var w.av, AObj.var (sds n g)]) := by
 have o0 : (0 : Nat) < n := by assumption
 have o1 : n ≤ (10000 : Nat) := by assumption
 exact Ret.of_runH mix [(AV.bool (r49c.v n g))] ([AObj.var w.av, AObj.var (sds n g)]) Try.func49 rfl [.ret (iv (r59c.v n g)) ([AObj.var (WD.av w), AObj.var (AV.sl 14 n fun (i : Nat) => (SD.av (g i)))])] (by simp) (kmp (by kernel_rfl) (Ai (r59c (w) (n) o0 o1 (g)) (Ai (Ai (show (AV.bool (decide (r59c.v n g ≥ 0))) = ((AV.bool (r49c.v n g))) by simp only [r49c.v, cond_true, cond_false]) trivial) (rfl : ([AObj.var w.av, AObj.var (sds n g)] : AHeap) = [AObj.var w.av, AObj.var (sds n g)]))))
theorem len_ps {L : Nat → List SD} {k : Nat} {N : Nat} (hne : ∀ k, k < N → 0 < (L k).length) (hk : k < N) : 0 < (L k).length := hne k hk
inductive L56a.O where
 | e0
 | e1
noncomputable def L56a.T (w : WD) (N : Nat) (L : Nat → List SD) (a9 : Int) : List AV := mkT 55 [(1, AV.sl 1 N fun (j : Nat) => AV.sl 14 (L j).length fun (q : Nat) => (SD.av ((L j).getD q default))), (2, AV.ptr 0 1 6 0 0), (7, AV.sl 1 N fun (j : Nat) => AV.sl 14 (L j).length fun (q : Nat) => (SD.av ((L j).getD q default))), (8, iv (↑N : Int)), (9, iv a9)]
noncomputable def L56a.H (w : WD) (N : Nat) (L : Nat → List SD) (a9 : Int) : AHeap := [AObj.var (WD.av w)]
def L56a.inv (w : WD) (N : Nat) (L : Nat → List SD) (a9 : Int) : Prop := 0 ≤ a9 ∧ (a9 ≤ (↑N : Int) ∨ a9 ≤ 0)
noncomputable def L56a.mu (w : WD) (N : Nat) (L : Nat → List SD) (a9 : Int) : Nat := ((↑N : Int) - a9).toNat
noncomputable def L56a.E : L56a.O → Exit
 | .e0 => Exit.ret
 | .e1 => Exit.exit 0
noncomputable def L56a.X (w : WD) (N : Nat) (L : Nat → List SD) : L56a.O → List AV
 | .e0 => mkT 55 [(4, (AV.bool false))]
 | .e1 => mkT 55 []
noncomputable def L56a.XH (w : WD) (N : Nat) (L : Nat → List SD) : L56a.O → AHeap
 | .e0 => ([AObj.var (WD.av w)])
 | .e1 => ([AObj.var (WD.av w)])
noncomputable def L56a.N (w : WD) (N : Nat) (L : Nat → List SD) : Nat → Int → L56a.O
 | 0, _ => .e0
 | k_ + 1, a9 => (bif decide (a9 < (↑N : Int)) then (bif r49c.v (L a9.toNat).length fun (i : Nat) => (L a9.toNat).getD i default then (.e0) else (bif decide (a9 > 0) then (bif r51.v (IntKind.i64.wrap (IntKind.i64.wrap (((L a9.toNat).getD 0 default).az - ((L (IntKind.i64.wrap (a9 - 1)).toNat).getD 0 default).az) - ((L (IntKind.i64.wrap (a9 - 1)).toNat).getD 0 default).sz)) w.jl w.jh then (L56a.N w N L k_ (IntKind.i64.wrap (a9 + 1))) else (.e0)) else (L56a.N w N L k_ (IntKind.i64.wrap (a9 + 1))))) else (.e1))
noncomputable def L56a.run (w : WD) (N : Nat) (L : Nat → List SD) (a9 : Int) : L56a.O := L56a.N w N L ((((↑N : Int) - a9).toNat) + 1) a9
theorem L56a.nx (w : WD) (N : Nat) (L : Nat → List SD) {k_ : Nat} {z_ : Int} {h_ : AHeap} (s_ : Int) (h1 : L56a.inv w N L s_) (h2 : L56a.mu w N L s_ < L56a.mu w N L z_) (h3 : L56a.N w N L k_ s_ = L56a.N w N L (k_ + 1) z_) (h4 : PopOk (L56a.H w N L z_) h_ (L56a.T w N L s_) (L56a.H w N L s_)) : LNextP (L56a.T w N L) (L56a.H w N L) (L56a.inv w N L) (L56a.mu w N L) (L56a.N w N L) k_ z_ (L56a.T w N L s_) h_ := LNextP.mk s_ h1 h2 h3 h4
theorem L56a.en (w : WD) (N : Nat) (L : Nat → List SD) {k_ : Nat} {z_ : Int} {h_ : AHeap} (o_ : L56a.O) (h3 : L56a.N w N L (k_ + 1) z_ = o_) (h4 : PopOk (L56a.H w N L z_) h_ (L56a.X w N L o_) (L56a.XH w N L o_)) : LEndP (L56a.H w N L) (L56a.N w N L) L56a.E (L56a.X w N L) (L56a.XH w N L) k_ z_ (L56a.E o_) (L56a.X w N L o_) h_ := LEndP.mk o_ h3 h4
noncomputable abbrev L56a.h0 (w : WD) (N : Nat) (L : Nat → List SD) (a9 : Int) : AHeap := ([AObj.var (WD.av w), AObj.var (AV.sl 14 (L a9.toNat).length fun (i : Nat) => (SD.av ((fun (i : Nat) => (L a9.toNat).getD i default) i)))])
theorem L56a.spec (w : WD) (N : Nat) (hb : N ≤ 1000) (L : Nat → List SD) (hl : ∀ (k : Nat), (L k).length ≤ 10000) (hne : ∀ (k : Nat), k < N → 0 < (L k).length) (k_ : Nat) (z_ : Int) (hi_ : L56a.inv w N L z_) (hm_ : L56a.mu w N L z_ < k_) : LoopTo Try.prog (loopN Try.f56 0) (L56a.T w N L z_) (L56a.H w N L z_) (L56a.E (L56a.N w N L k_ z_)) (L56a.X w N L (L56a.N w N L k_ z_)) (L56a.XH w N L (L56a.N w N L k_ z_)) := by
 refine LoopTo.fuelP mix (L56a.T w N L) (L56a.H w N L) (L56a.inv w N L) (L56a.mu w N L) (L56a.N w N L) L56a.E (L56a.X w N L) (L56a.XH w N L) (others 55 [1, 2, 7, 8, 9]) (others 55 [4]) (others 55 []) ?_ k_ z_ hi_ hm_
 clear hm_ hi_ z_ k_
 intro k_ z_ hinv hmu
 revert hinv hmu; revert z_; intro a9 hinv hmu
 have hinv : 0 ≤ a9 ∧ (a9 ≤ (↑N : Int) ∨ a9 ≤ 0) := hinv
 have hmu : (((↑N : Int) - a9).toNat) < k_ + 1 := hmu
 cases h1 : decide (a9 < (↑N : Int)) with
 | true =>
  have h1p := of_decide_eq_true h1
  have o0 : (0 : Int) ≤ a9 := by omega
  have o1 : a9 < (↑N : Int) := by assumption
  have o2 : (0 : Nat) < (L a9.toNat).length := by first | assumption | omega | (simp only [List.length_append, List.length_cons, List.length_nil, List.length_map]; omega) | (apply len_ps <;> first | assumption | omega) | (exact hl _) | (exact hl _ (by omega)) | (exact hne _) | (exact hne _ (by omega)) | (simp_all; done)
  have o3 : (L a9.toNat).length ≤ (10000 : Nat) := by exact hl _
  cases h2 : r49c.v (L a9.toNat).length fun (i : Nat) => (L a9.toNat).getD i default with
  | true =>
   exact ⟨[.b true, .ret (AV.bool (r49c.v (L a9.toNat).length fun (i : Nat) => (L a9.toNat).getD i default)) (L56a.h0 w N L a9), .b true], kmp (by kernel_rfl) (Ai h1 (Ai (Ai o0 o1) (Ai (r49c (w) ((L a9.toNat).length) o2 o3 (fun (i : Nat) => (L a9.toNat).getD i default)) (Ai h2 (L56a.en w N L (k_ := k_) (z_ := a9) (h_ := [AObj.var (WD.av w), AObj.var (AV.sl 14 (L a9.toNat).length fun (i : Nat) => (SD.av ((fun (i : Nat) => (L a9.toNat).getD i default) i)))]) (.e0 : L56a.O) (by simp only [L56a.N, h1, h2, cond_true, cond_false]) (PopOk.pop rfl (by simp [L56a.T, L56a.X, L56a.H, L56a.XH])))))))⟩
  | false =>
   cases h3 : decide (a9 > 0) with
   | true =>
    have h3p := of_decide_eq_true h3
    have o4 : (0 : Int) < (↑(L a9.toNat).length : Int) := by first | assumption | omega | (simp only [List.length_append, List.length_cons, List.length_nil, List.length_map]; omega) | (apply len_pos <;> first | assumption | omega) | (exact hl _) | (exact hl _ (by omega)) | (exact hne _) | (exact hne _ (by omega)) | (simp_all; done)
    try have := IntWalk.i64_in (a9 - 1) (by omega)
    have o5 : (0 : Int) ≤ IntKind.i64.wrap (a9 - (1 : Int)) := by omega
    have o6 : IntKind.i64.wrap (a9 - (1 : Int)) < (↑N : Int) := by omega
    have o7 : (0 : Int) < (↑(L (IntKind.i64.wrap (a9 - (1 : Int))).toNat).length : Int) := by first | assumption | omega | (simp only [List.length_append, List.length_cons, List.length_nil, List.length_map]; omega) | (apply len_pos <;> first | assumption | omega) | (exact hl _) | (exact hl _ (by omega)) | (exact hne _) | (exact hne _ (by omega)) | (simp_all; done)
    cases h4 : r51.v (IntKind.i64.wrap (IntKind.i64.wrap (((L a9.toNat).getD 0 default).az - ((L (IntKind.i64.wrap (a9 - 1)).toNat).getD 0 default).az) - ((L (IntKind.i64.wrap (a9 - 1)).toNat).getD 0 default).sz)) w.jl w.jh with
    | true =>
     try have := IntWalk.i64_in (a9 + 1) (by omega)
     have o8 : (0 : Int) ≤ IntKind.i64.wrap (a9 + (1 : Int)) := by omega
     have o9 : IntKind.i64.wrap (a9 + (1 : Int)) ≤ (↑N : Int) ∨ IntKind.i64.wrap (a9 + (1 : Int)) ≤ (0 : Int) := by omega
     have o10 : ((↑N : Int) - IntKind.i64.wrap (a9 + (1 : Int))).toNat < ((↑N : Int) - a9).toNat := by omega
     exact ⟨[.b true, .ret (AV.bool (r49c.v (L a9.toNat).length fun (i : Nat) => (L a9.toNat).getD i default)) (L56a.h0 w N L a9), .b false, .b true, .b true, .b true, .b true, .b true, .b true, .b true, .b true, .b true, .b true, .b true, .b true, .b true, .b true, .b true, .b true, .b true, .b true, .b true, .b true, .b true, .b true, .b true, .b true, .b true, .b true, .b true, .b true, .b true, .b true, .b true, .b true, .ret (AV.bool (r51.v (IntKind.i64.wrap (IntKind.i64.wrap (((fun (i : Nat) => (L a9.toNat).getD i default) 0).az - ((L (IntKind.i64.wrap (a9 - 1)).toNat).getD 0 default).az) - ((L (IntKind.i64.wrap (a9 - 1)).toNat).getD 0 default).sz)) w.jl w.jh)) (L56a.h0 w N L a9), .b true, .b true, .b false], kmp (by kernel_rfl) (Ai h1 (Ai (Ai o0 o1) (Ai (r49c (w) ((L a9.toNat).length) o2 o3 (fun (i : Nat) => (L a9.toNat).getD i default)) (Ai h2 (Ai h3 (Ai h3 (Ai (Ai (show (0 : Int) ≤ (0 : Int) by decide) o4) (Ai h3 (Ai h3 (Ai h3 (Ai h3 (Ai h3 (Ai h3 (Ai h3 (Ai (Ai o5 o6) (Ai h3 (Ai h3 (Ai (Ai (show (0 : Int) ≤ (0 : Int) by decide) o7) (Ai h3 (Ai h3 (Ai h3 (Ai h3 (Ai h3 (Ai h3 (Ai h3 (Ai h3 (Ai (Ai o5 o6) (Ai h3 (Ai h3 (Ai (Ai (show (0 : Int) ≤ (0 : Int) by decide) o7) (Ai h3 (Ai h3 (Ai h3 (Ai h3 (Ai h3 (Ai h3 (Ai h3 (Ai h3 (Ai h3 (Ai h3 (Ai h3 (Ai (r51 (IntKind.i64.wrap (IntKind.i64.wrap (((fun (i : Nat) => (L a9.toNat).getD i default) 0).az - ((L (IntKind.i64.wrap (a9 - 1)).toNat).getD 0 default).az) - ((L (IntKind.i64.wrap (a9 - 1)).toNat).getD 0 default).sz)) (w.jl) (w.jh) (L56a.h0 w N L a9)) (Ai h3 (Ai h3 (Ai (show (bnot (r51.v (IntKind.i64.wrap (IntKind.i64.wrap (((L a9.toNat).getD 0 default).az - ((L (IntKind.i64.wrap (a9 - 1)).toNat).getD 0 default).az) - ((L (IntKind.i64.wrap (a9 - 1)).toNat).getD 0 default).sz)) w.jl w.jh)) = false by rw [h4]; try rfl) (L56a.nx w N L (k_ := k_) (z_ := a9) (h_ := [AObj.var (WD.av w), AObj.var (AV.sl 14 (L a9.toNat).length fun (i : Nat) => (SD.av ((fun (i : Nat) => (L a9.toNat).getD i default) i)))]) (IntKind.i64.wrap (a9 + 1)) (Ai o8 o9) o10 (by simp only [L56a.N, h1, h2, h3, h4, cond_true, cond_false]) (PopOk.pop rfl (by simp [L56a.T, L56a.X, L56a.H, L56a.XH]))))))))))))))))))))))))))))))))))))))))))))))))⟩
    | false =>
     exact ⟨[.b true, .ret (AV.bool (r49c.v (L a9.toNat).length fun (i : Nat) => (L a9.toNat).getD i default)) (L56a.h0 w N L a9), .b false, .b true, .b true, .b true, .b true, .b true, .b true, .b true, .b true, .b true, .b true, .b true, .b true, .b true, .b true, .b true, .b true, .b true, .b true, .b true, .b true, .b true, .b true, .b true, .b true, .b true, .b true, .b true, .b true, .b true, .b true, .b true, .b true, .ret (AV.bool (r51.v (IntKind.i64.wrap (IntKind.i64.wrap (((fun (i : Nat) => (L a9.toNat).getD i default) 0).az - ((L (IntKind.i64.wrap (a9 - 1)).toNat).getD 0 default).az) - ((L (IntKind.i64.wrap (a9 - 1)).toNat).getD 0 default).sz)) w.jl w.jh)) (L56a.h0 w N L a9), .b true, .b true, .b true], kmp (by kernel_rfl) (Ai h1 (Ai (Ai o0 o1) (Ai (r49c (w) ((L a9.toNat).length) o2 o3 (fun (i : Nat) => (L a9.toNat).getD i default)) (Ai h2 (Ai h3 (Ai h3 (Ai (Ai (show (0 : Int) ≤ (0 : Int) by decide) o4) (Ai h3 (Ai h3 (Ai h3 (Ai h3 (Ai h3 (Ai h3 (Ai h3 (Ai (Ai o5 o6) (Ai h3 (Ai h3 (Ai (Ai (show (0 : Int) ≤ (0 : Int) by decide) o7) (Ai h3 (Ai h3 (Ai h3 (Ai h3 (Ai h3 (Ai h3 (Ai h3 (Ai h3 (Ai (Ai o5 o6) (Ai h3 (Ai h3 (Ai (Ai (show (0 : Int) ≤ (0 : Int) by decide) o7) (Ai h3 (Ai h3 (Ai h3 (Ai h3 (Ai h3 (Ai h3 (Ai h3 (Ai h3 (Ai h3 (Ai h3 (Ai h3 (Ai (r51 (IntKind.i64.wrap (IntKind.i64.wrap (((fun (i : Nat) => (L a9.toNat).getD i default) 0).az - ((L (IntKind.i64.wrap (a9 - 1)).toNat).getD 0 default).az) - ((L (IntKind.i64.wrap (a9 - 1)).toNat).getD 0 default).sz)) (w.jl) (w.jh) (L56a.h0 w N L a9)) (Ai h3 (Ai h3 (Ai (show (bnot (r51.v (IntKind.i64.wrap (IntKind.i64.wrap (((L a9.toNat).getD 0 default).az - ((L (IntKind.i64.wrap (a9 - 1)).toNat).getD 0 default).az) - ((L (IntKind.i64.wrap (a9 - 1)).toNat).getD 0 default).sz)) w.jl w.jh)) = true by rw [h4]; try rfl) (L56a.en w N L (k_ := k_) (z_ := a9) (h_ := [AObj.var (WD.av w), AObj.var (AV.sl 14 (L a9.toNat).length fun (i : Nat) => (SD.av ((fun (i : Nat) => (L a9.toNat).getD i default) i)))]) (.e0 : L56a.O) (by simp only [L56a.N, h1, h2, h3, h4, cond_true, cond_false]) (PopOk.pop rfl (by simp [L56a.T, L56a.X, L56a.H, L56a.XH]))))))))))))))))))))))))))))))))))))))))))))))))⟩
   | false =>
    have h3p := of_decide_eq_false h3
    try have := IntWalk.i64_in (a9 + 1) (by omega)
    have o8 : (0 : Int) ≤ IntKind.i64.wrap (a9 + (1 : Int)) := by omega
    have o9 : IntKind.i64.wrap (a9 + (1 : Int)) ≤ (↑N : Int) ∨ IntKind.i64.wrap (a9 + (1 : Int)) ≤ (0 : Int) := by omega
    have o10 : ((↑N : Int) - IntKind.i64.wrap (a9 + (1 : Int))).toNat < ((↑N : Int) - a9).toNat := by omega
    exact ⟨[.b true, .ret (AV.bool (r49c.v (L a9.toNat).length fun (i : Nat) => (L a9.toNat).getD i default)) (L56a.h0 w N L a9), .b false, .b false, .b false, .b false, .b false, .b false, .b false, .b false, .b false, .b false, .b false, .b false, .b false, .b false, .b false, .b false, .b false, .b false, .b false, .b false, .b false, .b false, .b false, .b false, .b false, .b false, .b false, .b false, .b false, .b false, .b false, .b false, .b false, .b false, .b false, .b false], kmp (by kernel_rfl) (Ai h1 (Ai (Ai o0 o1) (Ai (r49c (w) ((L a9.toNat).length) o2 o3 (fun (i : Nat) => (L a9.toNat).getD i default)) (Ai h2 (Ai h3 (Ai h3 (Ai h3 (Ai h3 (Ai h3 (Ai h3 (Ai h3 (Ai h3 (Ai h3 (Ai h3 (Ai h3 (Ai h3 (Ai h3 (Ai h3 (Ai h3 (Ai h3 (Ai h3 (Ai h3 (Ai h3 (Ai h3 (Ai h3 (Ai h3 (Ai h3 (Ai h3 (Ai h3 (Ai h3 (Ai h3 (Ai h3 (Ai h3 (Ai h3 (Ai h3 (Ai h3 (Ai h3 (Ai h3 (Ai (rfl : false = false) (L56a.nx w N L (k_ := k_) (z_ := a9) (h_ := [AObj.var (WD.av w), AObj.var (AV.sl 14 (L a9.toNat).length fun (i : Nat) => (SD.av ((fun (i : Nat) => (L a9.toNat).getD i default) i)))]) (IntKind.i64.wrap (a9 + 1)) (Ai o8 o9) o10 (by simp only [L56a.N, h1, h2, h3, cond_true, cond_false]) (PopOk.pop rfl (by simp [L56a.T, L56a.X, L56a.H, L56a.XH]))))))))))))))))))))))))))))))))))))))))))⟩
 | false =>
  have h1p := of_decide_eq_false h1
  exact ⟨[.b false], kmp (by kernel_rfl) (Ai h1 (L56a.en w N L (k_ := k_) (z_ := a9) (.e1 : L56a.O) (by simp only [L56a.N, h1, cond_true, cond_false]) PopOk.same))⟩
theorem L56a.e0 (w : WD) (N : Nat) (hb : N ≤ 1000) (L : Nat → List SD) (hl : ∀ (k : Nat), (L k).length ≤ 10000) (hne : ∀ (k : Nat), k < N → 0 < (L k).length) (a9 : Int) (hinv : L56a.inv w N L a9) (hN : L56a.run w N L a9 = (.e0 : L56a.O)) : LoopTo Try.prog (loopN Try.f56 0) (L56a.T w N L a9) (L56a.H w N L a9) (Exit.ret) (L56a.X w N L (.e0 : L56a.O)) (L56a.XH w N L (.e0 : L56a.O)) := by
 have h_ := L56a.spec w N hb L hl hne ((((↑N : Int) - a9).toNat) + 1) a9 hinv (Nat.lt_succ_self _)
 unfold L56a.run at hN
 simp only [hN] at h_
 exact h_
theorem L56a.e1 (w : WD) (N : Nat) (hb : N ≤ 1000) (L : Nat → List SD) (hl : ∀ (k : Nat), (L k).length ≤ 10000) (hne : ∀ (k : Nat), k < N → 0 < (L k).length) (a9 : Int) (hinv : L56a.inv w N L a9) (hN : L56a.run w N L a9 = (.e1 : L56a.O)) : LoopTo Try.prog (loopN Try.f56 0) (L56a.T w N L a9) (L56a.H w N L a9) (Exit.exit 0) (L56a.X w N L (.e1 : L56a.O)) (L56a.XH w N L (.e1 : L56a.O)) := by
 have h_ := L56a.spec w N hb L hl hne ((((↑N : Int) - a9).toNat) + 1) a9 hinv (Nat.lt_succ_self _)
 unfold L56a.run at hN
 simp only [hN] at h_
 exact h_
noncomputable def r56.v (w : WD) (N : Nat) (L : Nat → List SD) : Bool := (match L56a.run w N L 0 with | .e0 => false | .e1 => true )
theorem r56 (w : WD) (N : Nat) (hb : N ≤ 1000) (L : Nat → List SD) (hl : ∀ (k : Nat), (L k).length ≤ 10000) (hne : ∀ (k : Nat), k < N → 0 < (L k).length) (h : AHeap) : Ret Try.prog 56 ([w.av, nsts N L]) h (AV.bool (r56.v w N L)) h := by
 have o0 : N ≤ (1000 : Nat) := by assumption
 have o1 : ∀ (k : Nat), (L k).length ≤ (10000 : Nat) := by assumption
 have o2 : ∀ (k : Nat), k < N → (0 : Nat) < (L k).length := by first | assumption | omega | (simp only [List.length_append, List.length_cons, List.length_nil, List.length_map]; omega) | (apply len_ps <;> first | assumption | omega) | (exact hl _) | (exact hl _ (by omega)) | (exact hne _) | (exact hne _ (by omega)) | (simp_all; done)
 have o3 : (0 : Int) ≤ (↑N : Int) ∨ (0 : Int) ≤ (0 : Int) := by omega
 cases h1 : L56a.run w N L 0 with
 | e0 =>
  exact Ret.of_run1 mix [(AV.bool (r56.v w N L))] Try.func56 rfl [.loop (others 55 [1, 2, 7, 8, 9]) (Exit.ret) (L56a.X w N L L56a.O.e0) (L56a.XH w N L L56a.O.e0)] (by simp) (by simp) (kmp (by kernel_rfl) (Ai (L56a.e0 (w) (N) o0 (L) o1 o2 (0) (Ai (show (0 : Int) ≤ (0 : Int) by decide) o3) h1) (Ai (show (AV.bool false) = ((AV.bool (r56.v w N L))) by simp only [r56.v, h1, cond_true, cond_false]) trivial))) h
 | e1 =>
  exact Ret.of_run1 mix [(AV.bool (r56.v w N L))] Try.func56 rfl [.loop (others 55 [1, 2, 7, 8, 9]) (Exit.exit 0) (L56a.X w N L L56a.O.e1) (L56a.XH w N L L56a.O.e1)] (by simp) (by simp) (kmp (by kernel_rfl) (Ai (L56a.e1 (w) (N) o0 (L) o1 o2 (0) (Ai (show (0 : Int) ≤ (0 : Int) by decide) o3) h1) (Ai (show (AV.bool true) = ((AV.bool (r56.v w N L))) by simp only [r56.v, h1, cond_true, cond_false]) trivial))) h
end Go.Proofs.Ytjdbmmilcihpoaa
open Go
namespace Go.Proofs.Ytjdbmmilcihpoaa
set_option linter.unusedSimpArgs false
set_option linter.unusedVariables false
set_option maxHeartbeats 0
set_option maxRecDepth 100000
inductive L24a.O where
 | e0
 | e1
noncomputable def L24a.T (w : WD) (a3 : Int) : List AV := mkT 97 [(1, AV.ptr 0 1 6 0 0), (3, iv a3)]
noncomputable def L24a.H (w : WD) (a3 : Int) : AHeap := [AObj.var w.av]
def L24a.inv (w : WD) (a3 : Int) : Prop := 1 ≤ a3 ∧ (a3 ≤ (↑w.n : Int) ∨ a3 ≤ 1)
noncomputable def L24a.mu (w : WD) (a3 : Int) : Nat := ((↑w.n : Int) - a3).toNat
noncomputable def L24a.E : L24a.O → Exit
 | .e0 => Exit.ret
 | .e1 => Exit.exit 1
noncomputable def L24a.X (w : WD) : L24a.O → List AV
 | .e0 => mkT 97 [(2, (iv 5))]
 | .e1 => mkT 97 [(1, (AV.ptr 0 1 6 0 0))]
noncomputable def L24a.XH (w : WD) : L24a.O → AHeap
 | .e0 => ([AObj.var (WD.av w)])
 | .e1 => ([AObj.var (WD.av w)])
noncomputable def L24a.N (w : WD) : Nat → Int → L24a.O
 | 0, _ => .e0
 | k_ + 1, a3 => (bif decide (a3 < (↑w.n : Int)) then (bif Op.bytesLess (w.g (IntKind.i64.wrap (a3 - 1)).toNat).nm.toList (w.g a3.toNat).nm.toList then (L24a.N w k_ (IntKind.i64.wrap (a3 + 1))) else (.e0)) else (.e1))
noncomputable def L24a.run (w : WD) (a3 : Int) : L24a.O := L24a.N w ((((↑w.n : Int) - a3).toNat) + 1) a3
theorem L24a.nx (w : WD) {k_ : Nat} {z_ : Int} {h_ : AHeap} (s_ : Int) (h1 : L24a.inv w s_) (h2 : L24a.mu w s_ < L24a.mu w z_) (h3 : L24a.N w k_ s_ = L24a.N w (k_ + 1) z_) (h4 : PopOk (L24a.H w z_) h_ (L24a.T w s_) (L24a.H w s_)) : LNextP (L24a.T w) (L24a.H w) (L24a.inv w) (L24a.mu w) (L24a.N w) k_ z_ (L24a.T w s_) h_ := LNextP.mk s_ h1 h2 h3 h4
theorem L24a.en (w : WD) {k_ : Nat} {z_ : Int} {h_ : AHeap} (o_ : L24a.O) (h3 : L24a.N w (k_ + 1) z_ = o_) (h4 : PopOk (L24a.H w z_) h_ (L24a.X w o_) (L24a.XH w o_)) : LEndP (L24a.H w) (L24a.N w) L24a.E (L24a.X w) (L24a.XH w) k_ z_ (L24a.E o_) (L24a.X w o_) h_ := LEndP.mk o_ h3 h4
theorem L24a.spec (w : WD) (hn : w.n ≤ 10000) (k_ : Nat) (z_ : Int) (hi_ : L24a.inv w z_) (hm_ : L24a.mu w z_ < k_) : LoopTo Try.prog (loopN Try.f24 0) (L24a.T w z_) (L24a.H w z_) (L24a.E (L24a.N w k_ z_)) (L24a.X w (L24a.N w k_ z_)) (L24a.XH w (L24a.N w k_ z_)) := by
 refine LoopTo.fuelP mix (L24a.T w) (L24a.H w) (L24a.inv w) (L24a.mu w) (L24a.N w) L24a.E (L24a.X w) (L24a.XH w) (others 97 [1, 3]) (others 97 [2]) (others 97 [1]) ?_ k_ z_ hi_ hm_
 clear hm_ hi_ z_ k_
 intro k_ z_ hinv hmu
 revert hinv hmu; revert z_; intro a3 hinv hmu
 have hinv : 1 ≤ a3 ∧ (a3 ≤ (↑w.n : Int) ∨ a3 ≤ 1) := hinv
 have hmu : (((↑w.n : Int) - a3).toNat) < k_ + 1 := hmu
 cases h1 : decide (a3 < (↑w.n : Int)) with
 | true =>
  have h1p := of_decide_eq_true h1
  try have := IntWalk.i64_in (a3 - 1) (by omega)
  have o0 : (0 : Int) ≤ IntKind.i64.wrap (a3 - (1 : Int)) := by omega
  have o1 : IntKind.i64.wrap (a3 - (1 : Int)) < (↑w.n : Int) := by omega
  have o2 : (0 : Int) ≤ a3 := by omega
  have o3 : a3 < (↑w.n : Int) := by assumption
  cases h2 : Op.bytesLess (w.g (IntKind.i64.wrap (a3 - 1)).toNat).nm.toList (w.g a3.toNat).nm.toList with
  | true =>
   try have := IntWalk.i64_in (a3 + 1) (by omega)
   have o4 : (1 : Int) ≤ IntKind.i64.wrap (a3 + (1 : Int)) := by omega
   have o5 : IntKind.i64.wrap (a3 + (1 : Int)) ≤ (↑w.n : Int) ∨ IntKind.i64.wrap (a3 + (1 : Int)) ≤ (1 : Int) := by omega
   have o6 : ((↑w.n : Int) - IntKind.i64.wrap (a3 + (1 : Int))).toNat < ((↑w.n : Int) - a3).toNat := by omega
   exact ⟨[.b true, .b false], kmp (by kernel_rfl) (Ai h1 (Ai (Ai o0 o1) (Ai (Ai o2 o3) (Ai (show (bnot (Op.bytesLess (w.g (IntKind.i64.wrap (a3 - 1)).toNat).nm.toList (w.g a3.toNat).nm.toList)) = false by rw [h2]; try rfl) (L24a.nx w (k_ := k_) (z_ := a3) (IntKind.i64.wrap (a3 + 1)) (Ai o4 o5) o6 (by simp only [L24a.N, h1, h2, cond_true, cond_false]) PopOk.same)))))⟩
  | false =>
   exact ⟨[.b true, .b true], kmp (by kernel_rfl) (Ai h1 (Ai (Ai o0 o1) (Ai (Ai o2 o3) (Ai (show (bnot (Op.bytesLess (w.g (IntKind.i64.wrap (a3 - 1)).toNat).nm.toList (w.g a3.toNat).nm.toList)) = true by rw [h2]; try rfl) (L24a.en w (k_ := k_) (z_ := a3) (.e0 : L24a.O) (by simp only [L24a.N, h1, h2, cond_true, cond_false]) PopOk.same)))))⟩
 | false =>
  have h1p := of_decide_eq_false h1
  exact ⟨[.b false], kmp (by kernel_rfl) (Ai h1 (L24a.en w (k_ := k_) (z_ := a3) (.e1 : L24a.O) (by simp only [L24a.N, h1, cond_true, cond_false]) PopOk.same))⟩
theorem L24a.e0 (w : WD) (hn : w.n ≤ 10000) (a3 : Int) (hinv : L24a.inv w a3) (hN : L24a.run w a3 = (.e0 : L24a.O)) : LoopTo Try.prog (loopN Try.f24 0) (L24a.T w a3) (L24a.H w a3) (Exit.ret) (L24a.X w (.e0 : L24a.O)) (L24a.XH w (.e0 : L24a.O)) := by
 have h_ := L24a.spec w hn ((((↑w.n : Int) - a3).toNat) + 1) a3 hinv (Nat.lt_succ_self _)
 unfold L24a.run at hN
 simp only [hN] at h_
 exact h_
theorem L24a.e1 (w : WD) (hn : w.n ≤ 10000) (a3 : Int) (hinv : L24a.inv w a3) (hN : L24a.run w a3 = (.e1 : L24a.O)) : LoopTo Try.prog (loopN Try.f24 0) (L24a.T w a3) (L24a.H w a3) (Exit.exit 1) (L24a.X w (.e1 : L24a.O)) (L24a.XH w (.e1 : L24a.O)) := by
 have h_ := L24a.spec w hn ((((↑w.n : Int) - a3).toNat) + 1) a3 hinv (Nat.lt_succ_self _)
 unfold L24a.run at hN
 simp only [hN] at h_
 exact h_
end Go.Proofs.Ytjdbmmilcihpoaa
open Go
namespace Go.Proofs.Ytjdbmmilcihpoaa
set_option maxHeartbeats 0
set_option maxRecDepth 100000
set_option linter.unusedVariables false
set_option linter.unusedSimpArgs false
theorem idx_any (p : Nat → Bool) (n : Nat) (O : Type) (f : O → Int) (hit : Nat → O) (miss : O) (h1 : ∀ i : Nat, f (hit i) = i) (h2 : f miss = -1) :
 decide (f (srch p hit miss 0 n) ≥ 0) = anyN n p := by
 rcases srch_cases p hit miss n 0 with ⟨a1, a2⟩ | ⟨j, a1, a2, a3, a4, a5⟩
 · rw [a2, h2, anyN_false.2 fun i hi => a1 i (Nat.zero_le _) (by omega)]; rfl
 · rw [a5, h1, anyN_true.2 ⟨j, by omega, a3⟩, decide_eq_true (by omega)]
theorem r49a_v {n : Nat} {g : Nat → SD} (hn : n ≤ 9223372036854775807) : r49a.v n g = anyN n (fun i => r50.v (g i)) := by
 have := search_eq (n := n) (fun i => r50.v (g i)) (fun i => L59aa.O.e0 i) .e1 (N := L59aa.N n g) (fun k i h => by
  simp only [L59aa.N, wrap_succ hn h, Int.toNat_natCast]; rw [decide_eq_true (by omega)]; rfl) (fun k => by simp [L59aa.N]) (n + 1) 0 (Nat.zero_le _) (by omega)
 have e : L59aa.run n g 0 = srch (fun i => r50.v (g i)) (fun i => L59aa.O.e0 i) .e1 0 n := by simpa [L59aa.run] using this
 unfold r49a.v r59a.v
 rw [e]
 exact idx_any _ n L59aa.O (fun o => match o with | .e0 a => a | .e1 => -1) _ _ (fun i => rfl) rfl
theorem r49b_v {n : Nat} {g : Nat → SD} (hn : n ≤ 9223372036854775807) : r49b.v n g = anyN n (fun i => r52.v (g i)) := by
 have := search_eq (n := n) (fun i => r52.v (g i)) (fun i => L59ba.O.e0 i) .e1 (N := L59ba.N n g) (fun k i h => by
  simp only [L59ba.N, wrap_succ hn h, Int.toNat_natCast]; rw [decide_eq_true (by omega)]; rfl) (fun k => by simp [L59ba.N]) (n + 1) 0 (Nat.zero_le _) (by omega)
 have e : L59ba.run n g 0 = srch (fun i => r52.v (g i)) (fun i => L59ba.O.e0 i) .e1 0 n := by simpa [L59ba.run] using this
 unfold r49b.v r59b.v
 rw [e]
 exact idx_any _ n L59ba.O (fun o => match o with | .e0 a => a | .e1 => -1) _ _ (fun i => rfl) rfl
theorem r54_v {n : Nat} {L : Nat → List SD} (hn : n ≤ 9223372036854775807) : r54.v n L = anyN n (fun i => r55.v (L i).length) := by
 have := search_eq (n := n) (fun i => r55.v (L i).length) (fun i => L77a.O.e0 i) .e1 (N := L77a.N n L) (fun k i h => by
  simp only [L77a.N, wrap_succ hn h, Int.toNat_natCast]; rw [decide_eq_true (by omega)]; rfl) (fun k => by simp [L77a.N]) (n + 1) 0 (Nat.zero_le _) (by omega)
 have e : L77a.run n L 0 = srch (fun i => r55.v (L i).length) (fun i => L77a.O.e0 i) .e1 0 n := by simpa [L77a.run] using this
 unfold r54.v r77.v
 rw [e]
 exact idx_any _ n L77a.O (fun o => match o with | .e0 a => a | .e1 => -1) _ _ (fun i => rfl) rfl
theorem in51 {x a b : Int} (h : r51.v x a b = true) : a ≤ x ∧ x ≤ b := by
 unfold r51.v at h
 by_cases q : x ≥ a
 · rw [decide_eq_true q, cond_true] at h; exact ⟨q, of_decide_eq_true h⟩
 · rw [decide_eq_false q] at h; cases h
/-- The numbers of a stone. -/
structure SOk (s : SD) : Prop where
 sx : 1 ≤ s.sx ∧ s.sx ≤ 1000000
 sz : 1 ≤ s.sz ∧ s.sz ≤ 1000000
 ax : 0 ≤ s.ax ∧ s.ax ≤ 1000000
 az : 0 ≤ s.az ∧ s.az ≤ 1000000
 tl : 0 ≤ s.tl ∧ s.tl ≤ 100
 co : 0 ≤ s.co ∧ s.co ≤ 99
theorem sok {s : SD} (h : r52.v s = false) : SOk s := by
 unfold r52.v at h
 have h : r53.v s = true := by cases q : r53.v s with | true => rfl | false => rw [q] at h; cases h
 unfold r53.v at h
 have st : ∀ {b x : Bool}, (bif b then x else false) = true → b = true ∧ x = true := by
  intro b x h; cases b
  · cases h
  · exact ⟨rfl, h⟩
 obtain ⟨h1, h⟩ := st h
 obtain ⟨h2, h⟩ := st h
 obtain ⟨h3, h⟩ := st h
 obtain ⟨h4, h⟩ := st h
 obtain ⟨h5, h6⟩ := st h
 exact ⟨in51 h1, in51 h2, in51 h3, in51 h4, in51 h5, in51 h6⟩
theorem sok_all {n : Nat} {g : Nat → SD} (hn : n ≤ 10000) (h : r49b.v n g = false) : ∀ i, i < n → SOk (g i) := by
 rw [r49b_v (by omega)] at h
 exact fun i hi => sok (anyN_false.1 h i hi)
theorem co_of {w : WD} (hn : w.n ≤ 10000) (h : r49b.v w.n w.g = false) : ∀ i, i < w.n → 0 ≤ (w.g i).co ∧ (w.g i).co ≤ 99 := fun i hi => (sok_all hn h i hi).co
/-- Names rise. -/
theorem rise_N {w : WD} (hn : w.n ≤ 10000) : ∀ (m i : Nat), 1 ≤ i → L24a.N w m (i : Int) = .e1 → ∀ j, i ≤ j → j < w.n → (w.g (j - 1)).nm.toList < (w.g j).nm.toList := by
 intro m
 induction m with
 | zero => intro i h1 h; cases h
 | succ m ih =>
  intro i h1 h j hj hjn
  simp only [L24a.N, Int.toNat_natCast] at h
  have hi : i < w.n := by omega
  rw [decide_eq_true (show (i : Int) < (w.n : Int) by omega), cond_true, show IntKind.i64.wrap ((i : Int) - 1) = ((i - 1 : Nat) : Int) by rw [IntWalk.i64_in _ (by omega)]; omega, show IntKind.i64.wrap ((i : Int) + 1) = ((i + 1 : Nat) : Int) by rw [IntWalk.i64_in _ (by omega)]; omega, Int.toNat_natCast] at h
  rw [Go.Proofs.bytesLess_eq] at h
  by_cases q : (w.g (i - 1)).nm.toList < (w.g i).nm.toList
  · rw [decide_eq_true q, cond_true] at h
    by_cases e : j = i
    · subst e; exact q
    · exact ih (i + 1) (by omega) h j (by omega) hjn
  · rw [decide_eq_false q] at h; cases h
theorem rise_lt {g : Nat → SD} {n : Nat} (h : ∀ j, 1 ≤ j → j < n → (g (j - 1)).nm.toList < (g j).nm.toList) : ∀ (d i : Nat), i + d + 1 < n → (g i).nm.toList < (g (i + d + 1)).nm.toList := by
 intro d
 induction d with
 | zero => intro i hi; have := h (i + 1) (by omega) hi; rwa [Nat.add_sub_cancel] at this
 | succ d ih =>
  intro i hi
  have h1 := ih i (by omega)
  have h2 := h (i + d + 1 + 1) (by omega) (by omega)
  rw [Nat.add_sub_cancel] at h2
  exact List.lt_trans h1 h2
theorem rise {w : WD} (hn : w.n ≤ 10000) (h : L24a.run w 1 = .e1) : ∀ i j, i < j → j < w.n → (w.g i).nm.toList < (w.g j).nm.toList := by
 have hr := rise_N hn _ 1 (Nat.le_refl _) h
 intro i j hij hj
 have := rise_lt (g := w.g) (n := w.n) (fun j h1 h2 => hr j h1 h2) (j - i - 1) i (by omega)
 rwa [show i + (j - i - 1) + 1 = j by omega] at this
theorem nm_of {w : WD} (hn : w.n ≤ 10000) (h : L24a.run w 1 = .e1) : ∀ i j, i < w.n → j < w.n → (w.g i).nm.toList = (w.g j).nm.toList → i = j := by
 intro i j hi hj e
 rcases Nat.lt_trichotomy i j with q | q | q
 · have := rise hn h i j q hj; rw [e] at this; exact absurd this (List.lt_irrefl _)
 · exact q
 · have := rise hn h j i q hi; rw [e] at this; exact absurd this (List.lt_irrefl _)
theorem cC_len {w : WD} (hn : w.n ≤ 10000) : ∀ k, (cC w k).length ≤ 10000 := fun k => by
 unfold cC
 rw [srtS_len]
 have := crs_lt w.g k w.n
 omega
theorem nC_le {w : WD} (hn : w.n ≤ 10000) (h : r49b.v w.n w.g = false) : nC w ≤ 1000 := by
 obtain ⟨_, t2⟩ := top_le w.g 99 (by decide) w.n fun i hi => (co_of hn h i hi).2
 unfold nC; omega
theorem cC_pos {w : WD} (hn : w.n ≤ 10000) (hN : nC w ≤ 1000) (h : r54.v (nC w) (cC w) = false) : ∀ k, k < nC w → 0 < (cC w k).length := by
 rw [r54_v (by omega)] at h
 intro k hk
 have := anyN_false.1 h k hk
 unfold r55.v at this
 have h0 : ((cC w k).length : Int) ≠ 0 := by simpa using this
 omega
end Go.Proofs.Ytjdbmmilcihpoaa
