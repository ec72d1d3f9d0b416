/- Contracts of the functions and plain laws, part 2. Conditions: none. -/
import Derived.Test.Ytngpbfocjgikaaa81

open Go

namespace Go.Proofs.Ytngpbfocjgikaaa

set_option linter.unusedSimpArgs false

set_option linter.unusedVariables false

set_option maxHeartbeats 0

set_option maxRecDepth 100000

inductive L33a.O where
  | e0 (a0 : Int) (a1 : Int)

noncomputable def L33a.T (n : Nat) (g : Nat → LD) (fr : Int) (a6 : Int) (a7 : Int) (a12 : Int) : List AV := mkT 37 [(1, AV.int IntKind.i64 fr), (6, AV.int IntKind.i64 a6), (7, AV.int IntKind.i64 a7), (10, AV.sl 4 n fun (i : Nat) => AV.agg [AV.str (g i).nm, AV.int IntKind.i64 (g i).lo, AV.int IntKind.i64 (g i).ln, AV.int IntKind.i64 (g i).ms]), (11, AV.int IntKind.i64 (↑n : Int)), (12, AV.int IntKind.i64 a12)]

noncomputable def L33a.H (n : Nat) (g : Nat → LD) (fr : Int) (a6 : Int) (a7 : Int) (a12 : Int) : AHeap := []

def L33a.inv (n : Nat) (g : Nat → LD) (fr : Int) (a6 : Int) (a7 : Int) (a12 : Int) : Prop := 0 ≤ a12 ∧ (a12 ≤ (↑n : Int) ∨ a12 ≤ 0)

noncomputable def L33a.mu (n : Nat) (g : Nat → LD) (fr : Int) (a6 : Int) (a7 : Int) (a12 : Int) : Nat := ((↑n : Int) - a12).toNat

noncomputable def L33a.E : L33a.O → Exit
  | .e0 a0 a1 => Exit.exit 0

noncomputable def L33a.X (n : Nat) (g : Nat → LD) (fr : Int) : L33a.O → List AV
  | .e0 a0 a1 => mkT 37 [(6, (AV.int IntKind.i64 a0)), (7, (AV.int IntKind.i64 a1))]

noncomputable def L33a.XH (n : Nat) (g : Nat → LD) (fr : Int) : L33a.O → AHeap
  | .e0 a0 a1 => ([])

noncomputable def L33a.N (n : Nat) (g : Nat → LD) (fr : Int) : Nat → Int → Int → Int → L33a.O
  | 0, a6, a7, _ => .e0 a6 a7
  | k_ + 1, a6, a7, a12 => (bif decide (a12 < (↑n : Int)) then (L33a.N n g fr k_ (IntKind.i64.wrap (a6 + (g a12.toNat).ms)) (IntKind.i64.wrap (a7 + IntKind.i64.wrap ((g a12.toNat).ms * IntKind.i64.wrap (IntKind.i64.wrap (IntKind.i64.wrap (2 * (g a12.toNat).lo) + (g a12.toNat).ln) - IntKind.i64.wrap (2 * fr))))) (IntKind.i64.wrap (a12 + 1))) else (.e0 (a6) (a7)))

noncomputable def L33a.run (n : Nat) (g : Nat → LD) (fr : Int) (a6 : Int) (a7 : Int) (a12 : Int) : L33a.O := L33a.N n g fr ((((↑n : Int) - a12).toNat) + 1) a6 a7 a12

theorem L33a.nx (n : Nat) (g : Nat → LD) (fr : Int) {k_ : Nat} {z_ : Int × Int × Int} {h_ : AHeap} (s_ : Int × Int × Int) (h1 : L33a.inv n g fr s_.1 s_.2.1 s_.2.2) (h2 : L33a.mu n g fr s_.1 s_.2.1 s_.2.2 < L33a.mu n g fr z_.1 z_.2.1 z_.2.2) (h3 : L33a.N n g fr k_ s_.1 s_.2.1 s_.2.2 = L33a.N n g fr (k_ + 1) z_.1 z_.2.1 z_.2.2) (h4 : PopOk (L33a.H n g fr z_.1 z_.2.1 z_.2.2) h_ (L33a.T n g fr s_.1 s_.2.1 s_.2.2) (L33a.H n g fr s_.1 s_.2.1 s_.2.2)) : LNextP (fun (z_ : Int × Int × Int) => L33a.T n g fr z_.1 z_.2.1 z_.2.2) (fun (z_ : Int × Int × Int) => L33a.H n g fr z_.1 z_.2.1 z_.2.2) (fun (z_ : Int × Int × Int) => L33a.inv n g fr z_.1 z_.2.1 z_.2.2) (fun (z_ : Int × Int × Int) => L33a.mu n g fr z_.1 z_.2.1 z_.2.2) (fun (k_ : Nat) (z_ : Int × Int × Int) => L33a.N n g fr k_ z_.1 z_.2.1 z_.2.2) k_ z_ (L33a.T n g fr s_.1 s_.2.1 s_.2.2) h_ := LNextP.mk (Tm := (fun (z_ : Int × Int × Int) => L33a.T n g fr z_.1 z_.2.1 z_.2.2)) (Hp := (fun (z_ : Int × Int × Int) => L33a.H n g fr z_.1 z_.2.1 z_.2.2)) (inv := (fun (z_ : Int × Int × Int) => L33a.inv n g fr z_.1 z_.2.1 z_.2.2)) (mu := (fun (z_ : Int × Int × Int) => L33a.mu n g fr z_.1 z_.2.1 z_.2.2)) (l := (fun (k_ : Nat) (z_ : Int × Int × Int) => L33a.N n g fr k_ z_.1 z_.2.1 z_.2.2)) s_ h1 h2 h3 h4

theorem L33a.en (n : Nat) (g : Nat → LD) (fr : Int) {k_ : Nat} {z_ : Int × Int × Int} {h_ : AHeap} (o_ : L33a.O) (h3 : L33a.N n g fr (k_ + 1) z_.1 z_.2.1 z_.2.2 = o_) (h4 : PopOk (L33a.H n g fr z_.1 z_.2.1 z_.2.2) h_ (L33a.X n g fr o_) (L33a.XH n g fr o_)) : LEndP (fun (z_ : Int × Int × Int) => L33a.H n g fr z_.1 z_.2.1 z_.2.2) (fun (k_ : Nat) (z_ : Int × Int × Int) => L33a.N n g fr k_ z_.1 z_.2.1 z_.2.2) L33a.E (L33a.X n g fr) (L33a.XH n g fr) k_ z_ (L33a.E o_) (L33a.X n g fr o_) h_ := LEndP.mk (Hp := (fun (z_ : Int × Int × Int) => L33a.H n g fr z_.1 z_.2.1 z_.2.2)) (l := (fun (k_ : Nat) (z_ : Int × Int × Int) => L33a.N n g fr k_ z_.1 z_.2.1 z_.2.2)) (oE := L33a.E) (oT := L33a.X n g fr) (oH := L33a.XH n g fr) o_ h3 h4

theorem L33a.spec (n : Nat) (g : Nat → LD) (hn : n ≤ 9223372036854775807) (fr : Int) (k_ : Nat) (z_ : Int × Int × Int) (hi_ : L33a.inv n g fr z_.1 z_.2.1 z_.2.2) (hm_ : L33a.mu n g fr z_.1 z_.2.1 z_.2.2 < k_) : LoopTo Try.prog (loopN Try.f33 0) (L33a.T n g fr z_.1 z_.2.1 z_.2.2) (L33a.H n g fr z_.1 z_.2.1 z_.2.2) (L33a.E (L33a.N n g fr k_ z_.1 z_.2.1 z_.2.2)) (L33a.X n g fr (L33a.N n g fr k_ z_.1 z_.2.1 z_.2.2)) (L33a.XH n g fr (L33a.N n g fr k_ z_.1 z_.2.1 z_.2.2)) := by
  refine LoopTo.fuelP mix (fun (z_ : Int × Int × Int) => L33a.T n g fr z_.1 z_.2.1 z_.2.2) (fun (z_ : Int × Int × Int) => L33a.H n g fr z_.1 z_.2.1 z_.2.2) (fun (z_ : Int × Int × Int) => L33a.inv n g fr z_.1 z_.2.1 z_.2.2) (fun (z_ : Int × Int × Int) => L33a.mu n g fr z_.1 z_.2.1 z_.2.2) (fun (k_ : Nat) (z_ : Int × Int × Int) => L33a.N n g fr k_ z_.1 z_.2.1 z_.2.2) L33a.E (L33a.X n g fr) (L33a.XH n g fr) (others 37 [1, 6, 7, 10, 11, 12]) (others 37 [4, 5]) (others 37 [6, 7]) ?_ k_ z_ hi_ hm_
  clear hm_ hi_ z_ k_
  intro k_ z_ hinv hmu
  obtain ⟨a6, a7, a12⟩ := z_
  have hinv : 0 ≤ a12 ∧ (a12 ≤ (↑n : Int) ∨ a12 ≤ 0) := hinv
  have hmu : (((↑n : Int) - a12).toNat) < k_ + 1 := hmu
  cases h1 : decide (a12 < (↑n : Int)) with
  | true =>
    have h1p := of_decide_eq_true h1
    have o0 : (0 : Int) ≤ a12 := by first | assumption | omega | (simp_all; done)
    have o1 : a12 < (↑n : Int) := by first | assumption | omega | (simp_all; done)
    try have := IntWalk.i64_in (a12 + 1) (by omega)
    have o2 : (0 : Int) ≤ IntKind.i64.wrap (a12 + (1 : Int)) := by first | assumption | omega | (simp_all; done)
    have o3 : IntKind.i64.wrap (a12 + (1 : Int)) ≤ (↑n : Int) ∨ IntKind.i64.wrap (a12 + (1 : Int)) ≤ (0 : Int) := by first | assumption | omega | (simp_all; done)
    have o4 : ((↑n : Int) - IntKind.i64.wrap (a12 + (1 : Int))).toNat < ((↑n : Int) - a12).toNat := by first | assumption | omega | (simp_all; done)
    exact ⟨[.b true], kmp (by kernel_rfl) (And.intro h1 (And.intro (And.intro o0 o1) (L33a.nx n g fr (k_ := k_) (z_ := (a6, a7, a12)) (h_ := [AObj.var (AV.agg [AV.str (g a12.toNat).nm, AV.int IntKind.i64 (g a12.toNat).lo, AV.int IntKind.i64 (g a12.toNat).ln, AV.int IntKind.i64 (g a12.toNat).ms])]) ((IntKind.i64.wrap (a6 + (g a12.toNat).ms), IntKind.i64.wrap (a7 + IntKind.i64.wrap ((g a12.toNat).ms * IntKind.i64.wrap (IntKind.i64.wrap (IntKind.i64.wrap (2 * (g a12.toNat).lo) + (g a12.toNat).ln) - IntKind.i64.wrap (2 * fr)))), IntKind.i64.wrap (a12 + 1))) (And.intro o2 o3) o4 (by first | (simp only [L33a.N, h1, cond_true, cond_false]; done) | (try unfold L33a.N; try simp only [h1, cond_true, cond_false]; try rfl; done)) (PopOk.pop rfl (by simp [L33a.T, L33a.X, L33a.H, L33a.XH])))))⟩
  | false =>
    have h1p := of_decide_eq_false h1
    exact ⟨[.b false], kmp (by kernel_rfl) (And.intro h1 (L33a.en n g fr (k_ := k_) (z_ := (a6, a7, a12)) (.e0 (a6) (a7) : L33a.O) (by first | (simp only [L33a.N, h1, cond_true, cond_false]; done) | (try unfold L33a.N; try simp only [h1, cond_true, cond_false]; try rfl; done)) PopOk.same))⟩

theorem L33a.e0 (n : Nat) (g : Nat → LD) (hn : n ≤ 9223372036854775807) (fr : Int) (a6 : Int) (a7 : Int) (a12 : Int) (hinv : L33a.inv n g fr a6 a7 a12) (a0 : Int) (a1 : Int) (hN : L33a.run n g fr a6 a7 a12 = (.e0 a0 a1 : L33a.O)) : LoopTo Try.prog (loopN Try.f33 0) (L33a.T n g fr a6 a7 a12) (L33a.H n g fr a6 a7 a12) (Exit.exit 0) (L33a.X n g fr (.e0 a0 a1 : L33a.O)) (L33a.XH n g fr (.e0 a0 a1 : L33a.O)) := by
  have h_ := L33a.spec n g hn fr ((((↑n : Int) - a12).toNat) + 1) (a6, a7, a12) hinv (Nat.lt_succ_self _)
  unfold L33a.run at hN
  simp only [hN] at h_
  exact h_

noncomputable def r33.v0 (n : Nat) (g : Nat → LD) (fr : Int) : Int := (match L33a.run n g fr 0 0 0 with | .e0 h1d0 h1d1 => h1d0 )

noncomputable def r33.v1 (n : Nat) (g : Nat → LD) (fr : Int) : Int := (match L33a.run n g fr 0 0 0 with | .e0 h1d0 h1d1 => h1d1 )

theorem r33 (n : Nat) (g : Nat → LD) (hn : n ≤ 9223372036854775807) (fr : Int) (h : AHeap) : Ret Try.prog 33 ([lds n g, AV.int IntKind.i64 fr]) h (AV.tup [(AV.int IntKind.i64 (r33.v0 n g fr)), (AV.int IntKind.i64 (r33.v1 n g fr))]) h := by
  have o0 : n ≤ (9223372036854775807 : Nat) := by first | assumption | omega | (simp_all; done)
  have o1 : (0 : Int) ≤ (↑n : Int) ∨ (0 : Int) ≤ (0 : Int) := by first | assumption | omega | (simp_all; done)
  cases h1 : L33a.run n g fr 0 0 0 with
  | e0 h1d0 h1d1 =>
    exact Ret.of_run1 mix [(AV.int IntKind.i64 (r33.v0 n g fr)), (AV.int IntKind.i64 (r33.v1 n g fr))] Try.func33 rfl [.loop (others 37 [1, 6, 7, 10, 11, 12]) (Exit.exit 0) (L33a.X n g fr (L33a.O.e0 h1d0 h1d1)) (L33a.XH n g fr (L33a.O.e0 h1d0 h1d1))] (by simp) (by simp) (kmp (by kernel_rfl) (And.intro (L33a.e0 (n) (g) o0 (fr) (0) (0) (0) (And.intro (show (0 : Int) ≤ (0 : Int) by first | decide | exact Int.NonNeg.mk _) o1) h1d0 h1d1 h1) (And.intro (show (AV.int IntKind.i64 h1d0) = ((AV.int IntKind.i64 (r33.v0 n g fr))) by first | (simp only [r33.v0, r33.v1, h1, cond_true, cond_false]; done) | (try unfold r33.v0; try unfold r33.v1; try simp only [h1, cond_true, cond_false]; try rfl; done) | rfl) (And.intro (show (AV.int IntKind.i64 h1d1) = ((AV.int IntKind.i64 (r33.v1 n g fr))) by first | (simp only [r33.v0, r33.v1, h1, cond_true, cond_false]; done) | (try unfold r33.v0; try unfold r33.v1; try simp only [h1, cond_true, cond_false]; try rfl; done) | rfl) trivial)))) h

inductive L11a.O where
  | e0
  | e1

noncomputable def L11a.T (t : TD) (n : Nat) (g : Nat → LD) (a5 : Int) : List AV := mkT 38 [(1, AV.sl 4 n fun (i : Nat) => AV.agg [AV.str (g i).nm, AV.int IntKind.i64 (g i).lo, AV.int IntKind.i64 (g i).ln, AV.int IntKind.i64 (g i).ms]), (5, AV.int IntKind.i64 a5)]

noncomputable def L11a.H (t : TD) (n : Nat) (g : Nat → LD) (a5 : Int) : AHeap := [AObj.dead]

def L11a.inv (t : TD) (n : Nat) (g : Nat → LD) (a5 : Int) : Prop := 0 ≤ a5 ∧ (a5 ≤ (↑n : Int) ∨ a5 ≤ 0)

noncomputable def L11a.mu (t : TD) (n : Nat) (g : Nat → LD) (a5 : Int) : Nat := ((↑n : Int) - a5).toNat

noncomputable def L11a.E : L11a.O → Exit
  | .e0 => Exit.ret
  | .e1 => Exit.exit 0

noncomputable def L11a.X (t : TD) (n : Nat) (g : Nat → LD) : L11a.O → List AV
  | .e0 => mkT 38 [(4, (AV.bool false))]
  | .e1 => mkT 38 []

noncomputable def L11a.XH (t : TD) (n : Nat) (g : Nat → LD) : L11a.O → AHeap
  | .e0 => ([AObj.dead])
  | .e1 => ([AObj.dead])

noncomputable def L11a.N (n : Nat) (g : Nat → LD) : Nat → Int → L11a.O
  | 0, _ => .e0
  | k_ + 1, a5 => (bif decide (a5 < (↑n : Int)) then (bif decide ((↑(g a5.toNat).nm.size : Int) > 100) then (.e0) else (L11a.N n g k_ (IntKind.i64.wrap (a5 + 1)))) else (.e1))

noncomputable def L11a.run (n : Nat) (g : Nat → LD) (a5 : Int) : L11a.O := L11a.N n g ((((↑n : Int) - a5).toNat) + 1) a5

theorem L11a.nx (t : TD) (n : Nat) (g : Nat → LD) {k_ : Nat} {z_ : Int} {h_ : AHeap} (s_ : Int) (h1 : L11a.inv t n g s_) (h2 : L11a.mu t n g s_ < L11a.mu t n g z_) (h3 : L11a.N n g k_ s_ = L11a.N n g (k_ + 1) z_) (h4 : PopOk (L11a.H t n g z_) h_ (L11a.T t n g s_) (L11a.H t n g s_)) : LNextP (fun (z_ : Int) => L11a.T t n g z_) (fun (z_ : Int) => L11a.H t n g z_) (fun (z_ : Int) => L11a.inv t n g z_) (fun (z_ : Int) => L11a.mu t n g z_) (fun (k_ : Nat) (z_ : Int) => L11a.N n g k_ z_) k_ z_ (L11a.T t n g s_) h_ := LNextP.mk (Tm := (fun (z_ : Int) => L11a.T t n g z_)) (Hp := (fun (z_ : Int) => L11a.H t n g z_)) (inv := (fun (z_ : Int) => L11a.inv t n g z_)) (mu := (fun (z_ : Int) => L11a.mu t n g z_)) (l := (fun (k_ : Nat) (z_ : Int) => L11a.N n g k_ z_)) s_ h1 h2 h3 h4

theorem L11a.en (t : TD) (n : Nat) (g : Nat → LD) {k_ : Nat} {z_ : Int} {h_ : AHeap} (o_ : L11a.O) (h3 : L11a.N n g (k_ + 1) z_ = o_) (h4 : PopOk (L11a.H t n g z_) h_ (L11a.X t n g o_) (L11a.XH t n g o_)) : LEndP (fun (z_ : Int) => L11a.H t n g z_) (fun (k_ : Nat) (z_ : Int) => L11a.N n g k_ z_) L11a.E (L11a.X t n g) (L11a.XH t n g) k_ z_ (L11a.E o_) (L11a.X t n g o_) h_ := LEndP.mk (Hp := (fun (z_ : Int) => L11a.H t n g z_)) (l := (fun (k_ : Nat) (z_ : Int) => L11a.N n g k_ z_)) (oE := L11a.E) (oT := L11a.X t n g) (oH := L11a.XH t n g) o_ h3 h4

theorem L11a.spec (t : TD) (n : Nat) (g : Nat → LD) (hn : n ≤ 9223372036854775807) (k0_1 : decide ((↑t.nm.size : Int) > 100) = false) (p0_1 : ¬(↑t.nm.size : Int) > 100) (k0_2 : decide ((↑n : Int) > 10) = true) (p0_2 : (↑n : Int) > 10) (k0_3 : decide ((↑n : Int) ≤ 64) = false) (p0_3 : ¬(↑n : Int) ≤ 64) (k0_4 : decide ((↑n : Int) > 70) = false) (p0_4 : ¬(↑n : Int) > 70) (k_ : Nat) (z_ : Int) (hi_ : L11a.inv t n g z_) (hm_ : L11a.mu t n g z_ < k_) : LoopTo Try.prog (loopN Try.f11 0) (L11a.T t n g z_) (L11a.H t n g z_) (L11a.E (L11a.N n g k_ z_)) (L11a.X t n g (L11a.N n g k_ z_)) (L11a.XH t n g (L11a.N n g k_ z_)) := by
  refine LoopTo.fuelP mix (fun (z_ : Int) => L11a.T t n g z_) (fun (z_ : Int) => L11a.H t n g z_) (fun (z_ : Int) => L11a.inv t n g z_) (fun (z_ : Int) => L11a.mu t n g z_) (fun (k_ : Nat) (z_ : Int) => L11a.N n g k_ z_) L11a.E (L11a.X t n g) (L11a.XH t n g) (others 38 [1, 5]) (others 38 [4]) (others 38 []) ?_ k_ z_ hi_ hm_
  clear hm_ hi_ z_ k_
  intro k_ z_ hinv hmu
  revert hinv hmu; revert z_; intro a5 hinv hmu
  have hinv : 0 ≤ a5 ∧ (a5 ≤ (↑n : Int) ∨ a5 ≤ 0) := hinv
  have hmu : (((↑n : Int) - a5).toNat) < k_ + 1 := hmu
  cases h1 : decide (a5 < (↑n : Int)) with
  | true =>
    have h1p := of_decide_eq_true h1
    have o0 : (0 : Int) ≤ a5 := by first | assumption | omega | (simp_all; done)
    have o1 : a5 < (↑n : Int) := by first | assumption | omega | (simp_all; done)
    cases h2 : decide ((↑(g a5.toNat).nm.size : Int) > 100) with
    | true =>
      have h2p := of_decide_eq_true h2
      exact ⟨[.b true, .b true], kmp (by kernel_rfl) (And.intro h1 (And.intro (And.intro o0 o1) (And.intro h2 (L11a.en t n g (k_ := k_) (z_ := a5) (.e0 : L11a.O) (by first | (simp only [L11a.N, h1, h2, cond_true, cond_false]; done) | (try unfold L11a.N; try simp only [h1, cond_true, cond_false]; try simp only [h2, cond_true, cond_false]; try rfl; done)) PopOk.same))))⟩
    | false =>
      have h2p := of_decide_eq_false h2
      try have := IntWalk.i64_in (a5 + 1) (by omega)
      have o2 : (0 : Int) ≤ IntKind.i64.wrap (a5 + (1 : Int)) := by first | assumption | omega | (simp_all; done)
      have o3 : IntKind.i64.wrap (a5 + (1 : Int)) ≤ (↑n : Int) ∨ IntKind.i64.wrap (a5 + (1 : Int)) ≤ (0 : Int) := by first | assumption | omega | (simp_all; done)
      have o4 : ((↑n : Int) - IntKind.i64.wrap (a5 + (1 : Int))).toNat < ((↑n : Int) - a5).toNat := by first | assumption | omega | (simp_all; done)
      exact ⟨[.b true, .b false], kmp (by kernel_rfl) (And.intro h1 (And.intro (And.intro o0 o1) (And.intro h2 (L11a.nx t n g (k_ := k_) (z_ := a5) (IntKind.i64.wrap (a5 + 1)) (And.intro o2 o3) o4 (by first | (simp only [L11a.N, h1, h2, cond_true, cond_false]; done) | (try unfold L11a.N; try simp only [h1, cond_true, cond_false]; try simp only [h2, cond_true, cond_false]; try rfl; done)) PopOk.same))))⟩
  | false =>
    have h1p := of_decide_eq_false h1
    exact ⟨[.b false], kmp (by kernel_rfl) (And.intro h1 (L11a.en t n g (k_ := k_) (z_ := a5) (.e1 : L11a.O) (by first | (simp only [L11a.N, h1, cond_true, cond_false]; done) | (try unfold L11a.N; try simp only [h1, cond_true, cond_false]; try rfl; done)) PopOk.same))⟩

theorem L11a.e0 (t : TD) (n : Nat) (g : Nat → LD) (hn : n ≤ 9223372036854775807) (k0_1 : decide ((↑t.nm.size : Int) > 100) = false) (p0_1 : ¬(↑t.nm.size : Int) > 100) (k0_2 : decide ((↑n : Int) > 10) = true) (p0_2 : (↑n : Int) > 10) (k0_3 : decide ((↑n : Int) ≤ 64) = false) (p0_3 : ¬(↑n : Int) ≤ 64) (k0_4 : decide ((↑n : Int) > 70) = false) (p0_4 : ¬(↑n : Int) > 70) (a5 : Int) (hinv : L11a.inv t n g a5) (hN : L11a.run n g a5 = (.e0 : L11a.O)) : LoopTo Try.prog (loopN Try.f11 0) (L11a.T t n g a5) (L11a.H t n g a5) (Exit.ret) (L11a.X t n g (.e0 : L11a.O)) (L11a.XH t n g (.e0 : L11a.O)) := by
  have h_ := L11a.spec t n g hn k0_1 p0_1 k0_2 p0_2 k0_3 p0_3 k0_4 p0_4 ((((↑n : Int) - a5).toNat) + 1) a5 hinv (Nat.lt_succ_self _)
  unfold L11a.run at hN
  simp only [hN] at h_
  exact h_

theorem L11a.e1 (t : TD) (n : Nat) (g : Nat → LD) (hn : n ≤ 9223372036854775807) (k0_1 : decide ((↑t.nm.size : Int) > 100) = false) (p0_1 : ¬(↑t.nm.size : Int) > 100) (k0_2 : decide ((↑n : Int) > 10) = true) (p0_2 : (↑n : Int) > 10) (k0_3 : decide ((↑n : Int) ≤ 64) = false) (p0_3 : ¬(↑n : Int) ≤ 64) (k0_4 : decide ((↑n : Int) > 70) = false) (p0_4 : ¬(↑n : Int) > 70) (a5 : Int) (hinv : L11a.inv t n g a5) (hN : L11a.run n g a5 = (.e1 : L11a.O)) : LoopTo Try.prog (loopN Try.f11 0) (L11a.T t n g a5) (L11a.H t n g a5) (Exit.exit 0) (L11a.X t n g (.e1 : L11a.O)) (L11a.XH t n g (.e1 : L11a.O)) := by
  have h_ := L11a.spec t n g hn k0_1 p0_1 k0_2 p0_2 k0_3 p0_3 k0_4 p0_4 ((((↑n : Int) - a5).toNat) + 1) a5 hinv (Nat.lt_succ_self _)
  unfold L11a.run at hN
  simp only [hN] at h_
  exact h_

inductive L11ax.O where
  | e0
  | e1

noncomputable def L11ax.T (t : TD) (n : Nat) (g : Nat → LD) (a5 : Int) : List AV := mkT 38 [(1, AV.sl 4 n fun (i : Nat) => AV.agg [AV.str (g i).nm, AV.int IntKind.i64 (g i).lo, AV.int IntKind.i64 (g i).ln, AV.int IntKind.i64 (g i).ms]), (5, AV.int IntKind.i64 a5)]

noncomputable def L11ax.H (t : TD) (n : Nat) (g : Nat → LD) (a5 : Int) : AHeap := [AObj.dead]

def L11ax.inv (t : TD) (n : Nat) (g : Nat → LD) (a5 : Int) : Prop := 0 ≤ a5 ∧ (a5 ≤ (↑n : Int) ∨ a5 ≤ 0)

noncomputable def L11ax.mu (t : TD) (n : Nat) (g : Nat → LD) (a5 : Int) : Nat := ((↑n : Int) - a5).toNat

noncomputable def L11ax.E : L11ax.O → Exit
  | .e0 => Exit.ret
  | .e1 => Exit.exit 0

noncomputable def L11ax.X (t : TD) (n : Nat) (g : Nat → LD) : L11ax.O → List AV
  | .e0 => mkT 38 [(4, (AV.bool false))]
  | .e1 => mkT 38 []

noncomputable def L11ax.XH (t : TD) (n : Nat) (g : Nat → LD) : L11ax.O → AHeap
  | .e0 => ([AObj.dead])
  | .e1 => ([AObj.dead])

noncomputable def L11ax.N (n : Nat) (g : Nat → LD) : Nat → Int → L11ax.O
  | 0, _ => .e0
  | k_ + 1, a5 => (bif decide (a5 < (↑n : Int)) then (bif decide ((↑(g a5.toNat).nm.size : Int) > 100) then (.e0) else (L11ax.N n g k_ (IntKind.i64.wrap (a5 + 1)))) else (.e1))

noncomputable def L11ax.run (n : Nat) (g : Nat → LD) (a5 : Int) : L11ax.O := L11ax.N n g ((((↑n : Int) - a5).toNat) + 1) a5

theorem L11ax.nx (t : TD) (n : Nat) (g : Nat → LD) {k_ : Nat} {z_ : Int} {h_ : AHeap} (s_ : Int) (h1 : L11ax.inv t n g s_) (h2 : L11ax.mu t n g s_ < L11ax.mu t n g z_) (h3 : L11ax.N n g k_ s_ = L11ax.N n g (k_ + 1) z_) (h4 : PopOk (L11ax.H t n g z_) h_ (L11ax.T t n g s_) (L11ax.H t n g s_)) : LNextP (fun (z_ : Int) => L11ax.T t n g z_) (fun (z_ : Int) => L11ax.H t n g z_) (fun (z_ : Int) => L11ax.inv t n g z_) (fun (z_ : Int) => L11ax.mu t n g z_) (fun (k_ : Nat) (z_ : Int) => L11ax.N n g k_ z_) k_ z_ (L11ax.T t n g s_) h_ := LNextP.mk (Tm := (fun (z_ : Int) => L11ax.T t n g z_)) (Hp := (fun (z_ : Int) => L11ax.H t n g z_)) (inv := (fun (z_ : Int) => L11ax.inv t n g z_)) (mu := (fun (z_ : Int) => L11ax.mu t n g z_)) (l := (fun (k_ : Nat) (z_ : Int) => L11ax.N n g k_ z_)) s_ h1 h2 h3 h4

theorem L11ax.en (t : TD) (n : Nat) (g : Nat → LD) {k_ : Nat} {z_ : Int} {h_ : AHeap} (o_ : L11ax.O) (h3 : L11ax.N n g (k_ + 1) z_ = o_) (h4 : PopOk (L11ax.H t n g z_) h_ (L11ax.X t n g o_) (L11ax.XH t n g o_)) : LEndP (fun (z_ : Int) => L11ax.H t n g z_) (fun (k_ : Nat) (z_ : Int) => L11ax.N n g k_ z_) L11ax.E (L11ax.X t n g) (L11ax.XH t n g) k_ z_ (L11ax.E o_) (L11ax.X t n g o_) h_ := LEndP.mk (Hp := (fun (z_ : Int) => L11ax.H t n g z_)) (l := (fun (k_ : Nat) (z_ : Int) => L11ax.N n g k_ z_)) (oE := L11ax.E) (oT := L11ax.X t n g) (oH := L11ax.XH t n g) o_ h3 h4

theorem L11ax.spec (t : TD) (n : Nat) (g : Nat → LD) (hn : n ≤ 9223372036854775807) (k0_1 : decide ((↑t.nm.size : Int) > 100) = false) (p0_1 : ¬(↑t.nm.size : Int) > 100) (k0_2 : decide ((↑n : Int) > 10) = false) (p0_2 : ¬(↑n : Int) > 10) (k_ : Nat) (z_ : Int) (hi_ : L11ax.inv t n g z_) (hm_ : L11ax.mu t n g z_ < k_) : LoopTo Try.prog (loopN Try.f11 0) (L11ax.T t n g z_) (L11ax.H t n g z_) (L11ax.E (L11ax.N n g k_ z_)) (L11ax.X t n g (L11ax.N n g k_ z_)) (L11ax.XH t n g (L11ax.N n g k_ z_)) := by
  refine LoopTo.fuelP mix (fun (z_ : Int) => L11ax.T t n g z_) (fun (z_ : Int) => L11ax.H t n g z_) (fun (z_ : Int) => L11ax.inv t n g z_) (fun (z_ : Int) => L11ax.mu t n g z_) (fun (k_ : Nat) (z_ : Int) => L11ax.N n g k_ z_) L11ax.E (L11ax.X t n g) (L11ax.XH t n g) (others 38 [1, 5]) (others 38 [4]) (others 38 []) ?_ k_ z_ hi_ hm_
  clear hm_ hi_ z_ k_
  intro k_ z_ hinv hmu
  revert hinv hmu; revert z_; intro a5 hinv hmu
  have hinv : 0 ≤ a5 ∧ (a5 ≤ (↑n : Int) ∨ a5 ≤ 0) := hinv
  have hmu : (((↑n : Int) - a5).toNat) < k_ + 1 := hmu
  cases h1 : decide (a5 < (↑n : Int)) with
  | true =>
    have h1p := of_decide_eq_true h1
    have o0 : (0 : Int) ≤ a5 := by first | assumption | omega | (simp_all; done)
    have o1 : a5 < (↑n : Int) := by first | assumption | omega | (simp_all; done)
    cases h2 : decide ((↑(g a5.toNat).nm.size : Int) > 100) with
    | true =>
      have h2p := of_decide_eq_true h2
      exact ⟨[.b true, .b true], kmp (by kernel_rfl) (And.intro h1 (And.intro (And.intro o0 o1) (And.intro h2 (L11ax.en t n g (k_ := k_) (z_ := a5) (.e0 : L11ax.O) (by first | (simp only [L11ax.N, h1, h2, cond_true, cond_false]; done) | (try unfold L11ax.N; try simp only [h1, cond_true, cond_false]; try simp only [h2, cond_true, cond_false]; try rfl; done)) PopOk.same))))⟩
    | false =>
      have h2p := of_decide_eq_false h2
      try have := IntWalk.i64_in (a5 + 1) (by omega)
      have o2 : (0 : Int) ≤ IntKind.i64.wrap (a5 + (1 : Int)) := by first | assumption | omega | (simp_all; done)
      have o3 : IntKind.i64.wrap (a5 + (1 : Int)) ≤ (↑n : Int) ∨ IntKind.i64.wrap (a5 + (1 : Int)) ≤ (0 : Int) := by first | assumption | omega | (simp_all; done)
      have o4 : ((↑n : Int) - IntKind.i64.wrap (a5 + (1 : Int))).toNat < ((↑n : Int) - a5).toNat := by first | assumption | omega | (simp_all; done)
      exact ⟨[.b true, .b false], kmp (by kernel_rfl) (And.intro h1 (And.intro (And.intro o0 o1) (And.intro h2 (L11ax.nx t n g (k_ := k_) (z_ := a5) (IntKind.i64.wrap (a5 + 1)) (And.intro o2 o3) o4 (by first | (simp only [L11ax.N, h1, h2, cond_true, cond_false]; done) | (try unfold L11ax.N; try simp only [h1, cond_true, cond_false]; try simp only [h2, cond_true, cond_false]; try rfl; done)) PopOk.same))))⟩
  | false =>
    have h1p := of_decide_eq_false h1
    exact ⟨[.b false], kmp (by kernel_rfl) (And.intro h1 (L11ax.en t n g (k_ := k_) (z_ := a5) (.e1 : L11ax.O) (by first | (simp only [L11ax.N, h1, cond_true, cond_false]; done) | (try unfold L11ax.N; try simp only [h1, cond_true, cond_false]; try rfl; done)) PopOk.same))⟩

theorem L11ax.e0 (t : TD) (n : Nat) (g : Nat → LD) (hn : n ≤ 9223372036854775807) (k0_1 : decide ((↑t.nm.size : Int) > 100) = false) (p0_1 : ¬(↑t.nm.size : Int) > 100) (k0_2 : decide ((↑n : Int) > 10) = false) (p0_2 : ¬(↑n : Int) > 10) (a5 : Int) (hinv : L11ax.inv t n g a5) (hN : L11ax.run n g a5 = (.e0 : L11ax.O)) : LoopTo Try.prog (loopN Try.f11 0) (L11ax.T t n g a5) (L11ax.H t n g a5) (Exit.ret) (L11ax.X t n g (.e0 : L11ax.O)) (L11ax.XH t n g (.e0 : L11ax.O)) := by
  have h_ := L11ax.spec t n g hn k0_1 p0_1 k0_2 p0_2 ((((↑n : Int) - a5).toNat) + 1) a5 hinv (Nat.lt_succ_self _)
  unfold L11ax.run at hN
  simp only [hN] at h_
  exact h_

theorem L11ax.e1 (t : TD) (n : Nat) (g : Nat → LD) (hn : n ≤ 9223372036854775807) (k0_1 : decide ((↑t.nm.size : Int) > 100) = false) (p0_1 : ¬(↑t.nm.size : Int) > 100) (k0_2 : decide ((↑n : Int) > 10) = false) (p0_2 : ¬(↑n : Int) > 10) (a5 : Int) (hinv : L11ax.inv t n g a5) (hN : L11ax.run n g a5 = (.e1 : L11ax.O)) : LoopTo Try.prog (loopN Try.f11 0) (L11ax.T t n g a5) (L11ax.H t n g a5) (Exit.exit 0) (L11ax.X t n g (.e1 : L11ax.O)) (L11ax.XH t n g (.e1 : L11ax.O)) := by
  have h_ := L11ax.spec t n g hn k0_1 p0_1 k0_2 p0_2 ((((↑n : Int) - a5).toNat) + 1) a5 hinv (Nat.lt_succ_self _)
  unfold L11ax.run at hN
  simp only [hN] at h_
  exact h_

noncomputable def r11.v (t : TD) (n : Nat) (g : Nat → LD) : Bool := (bif decide ((↑t.nm.size : Int) > 100) then false else (bif decide ((↑n : Int) > 10) then (bif decide ((↑n : Int) ≤ 64) then false else (bif decide ((↑n : Int) > 70) then false else (match L11a.run n g 0 with | .e0 => false | .e1 => true ))) else (match L11ax.run n g 0 with | .e0 => false | .e1 => true )))

theorem r11 (t : TD) (n : Nat) (g : Nat → LD) (hn : n ≤ 9223372036854775807) (h : AHeap) : Ret Try.prog 11 ([t.av, lds n g]) h (AV.bool (r11.v t n g)) h := by
  cases h1 : decide ((↑t.nm.size : Int) > 100) with
  | true =>
    have h1p := of_decide_eq_true h1
    exact Ret.of_run1 mix [(AV.bool (r11.v t n g))] Try.func11 rfl [.b true, .b true, .b true, .b true, .b true, .b true, .b true] (by simp) (by simp) (kmp (by kernel_rfl) (And.intro h1 (And.intro h1 (And.intro h1 (And.intro h1 (And.intro h1 (And.intro h1 (And.intro (rfl : true = true) (And.intro (show (AV.bool false) = ((AV.bool (r11.v t n g))) by first | (simp only [r11.v, h1, cond_true, cond_false]; done) | (try unfold r11.v; try simp only [h1, cond_true, cond_false]; try rfl; done) | rfl) trivial))))))))) h
  | false =>
    have h1p := of_decide_eq_false h1
    cases h2 : decide ((↑n : Int) > 10) with
    | true =>
      have h2p := of_decide_eq_true h2
      cases h3 : decide ((↑n : Int) ≤ 64) with
      | true =>
        have h3p := of_decide_eq_true h3
        exact Ret.of_run1 mix [(AV.bool (r11.v t n g))] Try.func11 rfl [.b false, .b false, .b false, .b false, .b true, .b true, .b true, .b true, .b true, .b true, .b true, .b true, .b true, .b false, .b true, .b false, .b true] (by simp) (by simp) (kmp (by kernel_rfl) (And.intro h1 (And.intro h1 (And.intro h1 (And.intro h1 (And.intro h2 (And.intro h2 (And.intro h2 (And.intro h2 (And.intro h3 (And.intro h3 (And.intro h3 (And.intro h2 (And.intro h3 (And.intro h1 (And.intro h2 (And.intro h1 (And.intro (rfl : true = true) (And.intro (show (AV.bool false) = ((AV.bool (r11.v t n g))) by first | (simp only [r11.v, h1, h2, h3, cond_true, cond_false]; done) | (try unfold r11.v; try simp only [h1, cond_true, cond_false]; try simp only [h2, cond_true, cond_false]; try simp only [h3, cond_true, cond_false]; try rfl; done) | rfl) trivial))))))))))))))))))) h
      | false =>
        have h3p := of_decide_eq_false h3
        cases h4 : decide ((↑n : Int) > 70) with
        | true =>
          have h4p := of_decide_eq_true h4
          exact Ret.of_run1 mix [(AV.bool (r11.v t n g))] Try.func11 rfl [.b false, .b false, .b false, .b false, .b true, .b true, .b true, .b true, .b false, .b false, .b false, .b true, .b false, .b false, .b true, .b false, .b true] (by simp) (by simp) (kmp (by kernel_rfl) (And.intro h1 (And.intro h1 (And.intro h1 (And.intro h1 (And.intro h2 (And.intro h2 (And.intro h2 (And.intro h2 (And.intro h3 (And.intro h3 (And.intro h3 (And.intro h2 (And.intro h3 (And.intro h1 (And.intro h2 (And.intro h1 (And.intro h4 (And.intro (show (AV.bool false) = ((AV.bool (r11.v t n g))) by first | (simp only [r11.v, h1, h2, h3, h4, cond_true, cond_false]; done) | (try unfold r11.v; try simp only [h1, cond_true, cond_false]; try simp only [h2, cond_true, cond_false]; try simp only [h3, cond_true, cond_false]; try simp only [h4, cond_true, cond_false]; try rfl; done) | rfl) trivial))))))))))))))))))) h
        | false =>
          have h4p := of_decide_eq_false h4
          have o0 : n ≤ (9223372036854775807 : Nat) := by first | assumption | omega | (simp_all; done)
          have o1 : decide ((↑t.nm.size : Int) > (100 : Int)) = false := by first | assumption | omega | (simp_all; done)
          have o2 : ¬(↑t.nm.size : Int) > (100 : Int) := by first | assumption | (simp_all; done)
          have o3 : decide ((↑n : Int) > (10 : Int)) = true := by first | assumption | omega | (simp_all; done)
          have o4 : (↑n : Int) > (10 : Int) := by first | assumption | omega | (simp_all; done)
          have o5 : decide ((↑n : Int) ≤ (64 : Int)) = false := by first | assumption | omega | (simp_all; done)
          have o6 : ¬(↑n : Int) ≤ (64 : Int) := by first | assumption | (simp_all; done)
          have o7 : decide ((↑n : Int) > (70 : Int)) = false := by first | assumption | omega | (simp_all; done)
          have o8 : ¬(↑n : Int) > (70 : Int) := by first | assumption | (simp_all; done)
          have o9 : (0 : Int) ≤ (↑n : Int) ∨ (0 : Int) ≤ (0 : Int) := by first | assumption | omega | (simp_all; done)
          cases h5 : L11a.run n g 0 with
          | e0 =>
            exact Ret.of_run1 mix [(AV.bool (r11.v t n g))] Try.func11 rfl [.b false, .b false, .b false, .b false, .b true, .b true, .b true, .b true, .b false, .b false, .b false, .b true, .b false, .b false, .b true, .b false, .b false, .virt [0] [], .loop (others 38 [1, 5]) (Exit.ret) (L11a.X t n g L11a.O.e0) (L11a.XH t n g L11a.O.e0)] (by simp) (by simp) (kmp (by kernel_rfl) (And.intro h1 (And.intro h1 (And.intro h1 (And.intro h1 (And.intro h2 (And.intro h2 (And.intro h2 (And.intro h2 (And.intro h3 (And.intro h3 (And.intro h3 (And.intro h2 (And.intro h3 (And.intro h1 (And.intro h2 (And.intro h1 (And.intro h4 (And.intro trivial (And.intro (L11a.e0 (t) (n) (g) o0 o1 o2 o3 o4 o5 o6 o7 o8 (0) (And.intro (show (0 : Int) ≤ (0 : Int) by first | decide | exact Int.NonNeg.mk _) o9) h5) (And.intro (show (AV.bool false) = ((AV.bool (r11.v t n g))) by first | (simp only [r11.v, h1, h2, h3, h4, h5, cond_true, cond_false]; done) | (try unfold r11.v; try simp only [h1, cond_true, cond_false]; try simp only [h2, cond_true, cond_false]; try simp only [h3, cond_true, cond_false]; try simp only [h4, cond_true, cond_false]; try simp only [h5, cond_true, cond_false]; try rfl; done) | rfl) trivial))))))))))))))))))))) h
          | e1 =>
            exact Ret.of_run1 mix [(AV.bool (r11.v t n g))] Try.func11 rfl [.b false, .b false, .b false, .b false, .b true, .b true, .b true, .b true, .b false, .b false, .b false, .b true, .b false, .b false, .b true, .b false, .b false, .virt [0] [], .loop (others 38 [1, 5]) (Exit.exit 0) (L11a.X t n g L11a.O.e1) (L11a.XH t n g L11a.O.e1)] (by simp) (by simp) (kmp (by kernel_rfl) (And.intro h1 (And.intro h1 (And.intro h1 (And.intro h1 (And.intro h2 (And.intro h2 (And.intro h2 (And.intro h2 (And.intro h3 (And.intro h3 (And.intro h3 (And.intro h2 (And.intro h3 (And.intro h1 (And.intro h2 (And.intro h1 (And.intro h4 (And.intro trivial (And.intro (L11a.e1 (t) (n) (g) o0 o1 o2 o3 o4 o5 o6 o7 o8 (0) (And.intro (show (0 : Int) ≤ (0 : Int) by first | decide | exact Int.NonNeg.mk _) o9) h5) (And.intro (show (AV.bool true) = ((AV.bool (r11.v t n g))) by first | (simp only [r11.v, h1, h2, h3, h4, h5, cond_true, cond_false]; done) | (try unfold r11.v; try simp only [h1, cond_true, cond_false]; try simp only [h2, cond_true, cond_false]; try simp only [h3, cond_true, cond_false]; try simp only [h4, cond_true, cond_false]; try simp only [h5, cond_true, cond_false]; try rfl; done) | rfl) trivial))))))))))))))))))))) h
    | false =>
      have h2p := of_decide_eq_false h2
      have o0 : n ≤ (9223372036854775807 : Nat) := by first | assumption | omega | (simp_all; done)
      have o1 : decide ((↑t.nm.size : Int) > (100 : Int)) = false := by first | assumption | omega | (simp_all; done)
      have o2 : ¬(↑t.nm.size : Int) > (100 : Int) := by first | assumption | (simp_all; done)
      have o10 : decide ((↑n : Int) > (10 : Int)) = false := by first | assumption | omega | (simp_all; done)
      have o11 : ¬(↑n : Int) > (10 : Int) := by first | assumption | (simp_all; done)
      have o9 : (0 : Int) ≤ (↑n : Int) ∨ (0 : Int) ≤ (0 : Int) := by first | assumption | omega | (simp_all; done)
      cases h3 : L11ax.run n g 0 with
      | e0 =>
        exact Ret.of_run1 mix [(AV.bool (r11.v t n g))] Try.func11 rfl [.b false, .b false, .b false, .b false, .b false, .b false, .b false, .b false, .b false, .b false, .b false, .b false, .b false, .virt [0] [], .loop (others 38 [1, 5]) (Exit.ret) (L11ax.X t n g L11ax.O.e0) (L11ax.XH t n g L11ax.O.e0)] (by simp) (by simp) (kmp (by kernel_rfl) (And.intro h1 (And.intro h1 (And.intro h1 (And.intro h1 (And.intro h2 (And.intro h2 (And.intro h2 (And.intro h2 (And.intro h2 (And.intro h1 (And.intro h2 (And.intro h1 (And.intro (rfl : false = false) (And.intro trivial (And.intro (L11ax.e0 (t) (n) (g) o0 o1 o2 o10 o11 (0) (And.intro (show (0 : Int) ≤ (0 : Int) by first | decide | exact Int.NonNeg.mk _) o9) h3) (And.intro (show (AV.bool false) = ((AV.bool (r11.v t n g))) by first | (simp only [r11.v, h1, h2, h3, cond_true, cond_false]; done) | (try unfold r11.v; try simp only [h1, cond_true, cond_false]; try simp only [h2, cond_true, cond_false]; try simp only [h3, cond_true, cond_false]; try rfl; done) | rfl) trivial))))))))))))))))) h
      | e1 =>
        exact Ret.of_run1 mix [(AV.bool (r11.v t n g))] Try.func11 rfl [.b false, .b false, .b false, .b false, .b false, .b false, .b false, .b false, .b false, .b false, .b false, .b false, .b false, .virt [0] [], .loop (others 38 [1, 5]) (Exit.exit 0) (L11ax.X t n g L11ax.O.e1) (L11ax.XH t n g L11ax.O.e1)] (by simp) (by simp) (kmp (by kernel_rfl) (And.intro h1 (And.intro h1 (And.intro h1 (And.intro h1 (And.intro h2 (And.intro h2 (And.intro h2 (And.intro h2 (And.intro h2 (And.intro h1 (And.intro h2 (And.intro h1 (And.intro (rfl : false = false) (And.intro trivial (And.intro (L11ax.e1 (t) (n) (g) o0 o1 o2 o10 o11 (0) (And.intro (show (0 : Int) ≤ (0 : Int) by first | decide | exact Int.NonNeg.mk _) o9) h3) (And.intro (show (AV.bool true) = ((AV.bool (r11.v t n g))) by first | (simp only [r11.v, h1, h2, h3, cond_true, cond_false]; done) | (try unfold r11.v; try simp only [h1, cond_true, cond_false]; try simp only [h2, cond_true, cond_false]; try simp only [h3, cond_true, cond_false]; try rfl; done) | rfl) trivial))))))))))))))))) h

inductive L74aa.O where
  | e0 (a0 : Int)
  | e1

noncomputable def L74aa.T (n : Nat) (g : Nat → LD) (a8 : Int) : List AV := mkT 19 [(0, AV.sl 4 n fun (i : Nat) => AV.agg [AV.str (g i).nm, AV.int IntKind.i64 (g i).lo, AV.int IntKind.i64 (g i).ln, AV.int IntKind.i64 (g i).ms]), (1, AV.fn 48 []), (7, AV.int IntKind.i64 (↑n : Int)), (8, AV.int IntKind.i64 a8)]

noncomputable def L74aa.H (n : Nat) (g : Nat → LD) (a8 : Int) : AHeap := []

def L74aa.inv (n : Nat) (g : Nat → LD) (a8 : Int) : Prop := 0 ≤ a8 ∧ (a8 ≤ (↑n : Int) ∨ a8 ≤ 0)

noncomputable def L74aa.mu (n : Nat) (g : Nat → LD) (a8 : Int) : Nat := ((↑n : Int) - a8).toNat

noncomputable def L74aa.E : L74aa.O → Exit
  | .e0 a0 => Exit.ret
  | .e1 => Exit.exit 0

noncomputable def L74aa.X (n : Nat) (g : Nat → LD) : L74aa.O → List AV
  | .e0 a0 => mkT 19 [(4, (AV.int IntKind.i64 a0))]
  | .e1 => mkT 19 []

noncomputable def L74aa.XH (n : Nat) (g : Nat → LD) : L74aa.O → AHeap
  | .e0 a0 => ([])
  | .e1 => ([])

noncomputable def L74aa.N (n : Nat) (g : Nat → LD) : Nat → Int → L74aa.O
  | 0, a8 => .e0 a8
  | k_ + 1, a8 => (bif decide (a8 < (↑n : Int)) then (bif r48.v (g a8.toNat) then (.e0 (a8)) else (L74aa.N n g k_ (IntKind.i64.wrap (a8 + 1)))) else (.e1))

noncomputable def L74aa.run (n : Nat) (g : Nat → LD) (a8 : Int) : L74aa.O := L74aa.N n g ((((↑n : Int) - a8).toNat) + 1) a8

theorem L74aa.nx (n : Nat) (g : Nat → LD) {k_ : Nat} {z_ : Int} {h_ : AHeap} (s_ : Int) (h1 : L74aa.inv n g s_) (h2 : L74aa.mu n g s_ < L74aa.mu n g z_) (h3 : L74aa.N n g k_ s_ = L74aa.N n g (k_ + 1) z_) (h4 : PopOk (L74aa.H n g z_) h_ (L74aa.T n g s_) (L74aa.H n g s_)) : LNextP (fun (z_ : Int) => L74aa.T n g z_) (fun (z_ : Int) => L74aa.H n g z_) (fun (z_ : Int) => L74aa.inv n g z_) (fun (z_ : Int) => L74aa.mu n g z_) (fun (k_ : Nat) (z_ : Int) => L74aa.N n g k_ z_) k_ z_ (L74aa.T n g s_) h_ := LNextP.mk (Tm := (fun (z_ : Int) => L74aa.T n g z_)) (Hp := (fun (z_ : Int) => L74aa.H n g z_)) (inv := (fun (z_ : Int) => L74aa.inv n g z_)) (mu := (fun (z_ : Int) => L74aa.mu n g z_)) (l := (fun (k_ : Nat) (z_ : Int) => L74aa.N n g k_ z_)) s_ h1 h2 h3 h4

theorem L74aa.en (n : Nat) (g : Nat → LD) {k_ : Nat} {z_ : Int} {h_ : AHeap} (o_ : L74aa.O) (h3 : L74aa.N n g (k_ + 1) z_ = o_) (h4 : PopOk (L74aa.H n g z_) h_ (L74aa.X n g o_) (L74aa.XH n g o_)) : LEndP (fun (z_ : Int) => L74aa.H n g z_) (fun (k_ : Nat) (z_ : Int) => L74aa.N n g k_ z_) L74aa.E (L74aa.X n g) (L74aa.XH n g) k_ z_ (L74aa.E o_) (L74aa.X n g o_) h_ := LEndP.mk (Hp := (fun (z_ : Int) => L74aa.H n g z_)) (l := (fun (k_ : Nat) (z_ : Int) => L74aa.N n g k_ z_)) (oE := L74aa.E) (oT := L74aa.X n g) (oH := L74aa.XH n g) o_ h3 h4

theorem L74aa.spec (n : Nat) (g : Nat → LD) (hn : n ≤ 9223372036854775807) (hg : ∀ (i : Nat), (g i).nm.size ≤ 9223372036854775807) (k_ : Nat) (z_ : Int) (hi_ : L74aa.inv n g z_) (hm_ : L74aa.mu n g z_ < k_) : LoopTo Try.prog (loopN Try.f74 0) (L74aa.T n g z_) (L74aa.H n g z_) (L74aa.E (L74aa.N n g k_ z_)) (L74aa.X n g (L74aa.N n g k_ z_)) (L74aa.XH n g (L74aa.N n g k_ z_)) := by
  refine LoopTo.fuelP mix (fun (z_ : Int) => L74aa.T n g z_) (fun (z_ : Int) => L74aa.H n g z_) (fun (z_ : Int) => L74aa.inv n g z_) (fun (z_ : Int) => L74aa.mu n g z_) (fun (k_ : Nat) (z_ : Int) => L74aa.N n g k_ z_) L74aa.E (L74aa.X n g) (L74aa.XH n g) (others 19 [0, 1, 7, 8]) (others 19 [4]) (others 19 []) ?_ k_ z_ hi_ hm_
  clear hm_ hi_ z_ k_
  intro k_ z_ hinv hmu
  revert hinv hmu; revert z_; intro a8 hinv hmu
  have hinv : 0 ≤ a8 ∧ (a8 ≤ (↑n : Int) ∨ a8 ≤ 0) := hinv
  have hmu : (((↑n : Int) - a8).toNat) < k_ + 1 := hmu
  cases h1 : decide (a8 < (↑n : Int)) with
  | true =>
    have h1p := of_decide_eq_true h1
    have o0 : (0 : Int) ≤ a8 := by first | assumption | omega | (exact hg _) | (exact hg _ (by omega)) | (simp_all; done)
    have o1 : a8 < (↑n : Int) := by first | assumption | omega | (exact hg _) | (exact hg _ (by omega)) | (simp_all; done)
    have o2 : (g a8.toNat).nm.size ≤ (9223372036854775807 : Nat) := by first | assumption | omega | (exact hg _) | (exact hg _ (by omega)) | (simp_all; done)
    cases h2 : r48.v (g a8.toNat) with
    | true =>
      exact ⟨[.b true, .ret (AV.bool (r48.v (g a8.toNat))) ([]), .b true], kmp (by kernel_rfl) (And.intro h1 (And.intro (And.intro o0 o1) (And.intro (r48 (g a8.toNat) o2 ([])) (And.intro h2 (L74aa.en n g (k_ := k_) (z_ := a8) (.e0 (a8) : L74aa.O) (by first | (simp only [L74aa.N, h1, h2, cond_true, cond_false]; done) | (try unfold L74aa.N; try simp only [h1, cond_true, cond_false]; try simp only [h2, cond_true, cond_false]; try rfl; done)) PopOk.same)))))⟩
    | false =>
      try have := IntWalk.i64_in (a8 + 1) (by omega)
      have o3 : (0 : Int) ≤ IntKind.i64.wrap (a8 + (1 : Int)) := by first | assumption | omega | (exact hg _) | (exact hg _ (by omega)) | (simp_all; done)
      have o4 : IntKind.i64.wrap (a8 + (1 : Int)) ≤ (↑n : Int) ∨ IntKind.i64.wrap (a8 + (1 : Int)) ≤ (0 : Int) := by first | assumption | omega | (exact hg _) | (exact hg _ (by omega)) | (simp_all; done)
      have o5 : ((↑n : Int) - IntKind.i64.wrap (a8 + (1 : Int))).toNat < ((↑n : Int) - a8).toNat := by first | assumption | omega | (exact hg _) | (exact hg _ (by omega)) | (simp_all; done)
      exact ⟨[.b true, .ret (AV.bool (r48.v (g a8.toNat))) ([]), .b false], kmp (by kernel_rfl) (And.intro h1 (And.intro (And.intro o0 o1) (And.intro (r48 (g a8.toNat) o2 ([])) (And.intro h2 (L74aa.nx n g (k_ := k_) (z_ := a8) (IntKind.i64.wrap (a8 + 1)) (And.intro o3 o4) o5 (by first | (simp only [L74aa.N, h1, h2, cond_true, cond_false]; done) | (try unfold L74aa.N; try simp only [h1, cond_true, cond_false]; try simp only [h2, cond_true, cond_false]; try rfl; done)) PopOk.same)))))⟩
  | false =>
    have h1p := of_decide_eq_false h1
    exact ⟨[.b false], kmp (by kernel_rfl) (And.intro h1 (L74aa.en n g (k_ := k_) (z_ := a8) (.e1 : L74aa.O) (by first | (simp only [L74aa.N, h1, cond_true, cond_false]; done) | (try unfold L74aa.N; try simp only [h1, cond_true, cond_false]; try rfl; done)) PopOk.same))⟩

theorem L74aa.e0 (n : Nat) (g : Nat → LD) (hn : n ≤ 9223372036854775807) (hg : ∀ (i : Nat), (g i).nm.size ≤ 9223372036854775807) (a8 : Int) (hinv : L74aa.inv n g a8) (a0 : Int) (hN : L74aa.run n g a8 = (.e0 a0 : L74aa.O)) : LoopTo Try.prog (loopN Try.f74 0) (L74aa.T n g a8) (L74aa.H n g a8) (Exit.ret) (L74aa.X n g (.e0 a0 : L74aa.O)) (L74aa.XH n g (.e0 a0 : L74aa.O)) := by
  have h_ := L74aa.spec n g hn hg ((((↑n : Int) - a8).toNat) + 1) a8 hinv (Nat.lt_succ_self _)
  unfold L74aa.run at hN
  simp only [hN] at h_
  exact h_

theorem L74aa.e1 (n : Nat) (g : Nat → LD) (hn : n ≤ 9223372036854775807) (hg : ∀ (i : Nat), (g i).nm.size ≤ 9223372036854775807) (a8 : Int) (hinv : L74aa.inv n g a8) (hN : L74aa.run n g a8 = (.e1 : L74aa.O)) : LoopTo Try.prog (loopN Try.f74 0) (L74aa.T n g a8) (L74aa.H n g a8) (Exit.exit 0) (L74aa.X n g (.e1 : L74aa.O)) (L74aa.XH n g (.e1 : L74aa.O)) := by
  have h_ := L74aa.spec n g hn hg ((((↑n : Int) - a8).toNat) + 1) a8 hinv (Nat.lt_succ_self _)
  unfold L74aa.run at hN
  simp only [hN] at h_
  exact h_

noncomputable def r74a.v (n : Nat) (g : Nat → LD) : Int := (match L74aa.run n g 0 with | .e0 h1d0 => h1d0 | .e1 => -1 )

theorem r74a (n : Nat) (g : Nat → LD) (hn : n ≤ 9223372036854775807) (hg : ∀ (i : Nat), (g i).nm.size ≤ 9223372036854775807) (h : AHeap) : Ret Try.prog 74 ([lds n g, AV.fn 48 []]) h (AV.int IntKind.i64 (r74a.v n g)) h := by
  have o0 : n ≤ (9223372036854775807 : Nat) := by first | assumption | omega | (exact hg _) | (exact hg _ (by omega)) | (simp_all; done)
  have o1 : ∀ (i : Nat), (g i).nm.size ≤ (9223372036854775807 : Nat) := by first | assumption | omega | (exact hg _) | (exact hg _ (by omega)) | (simp_all; done)
  have o2 : (0 : Int) ≤ (↑n : Int) ∨ (0 : Int) ≤ (0 : Int) := by first | assumption | omega | (exact hg _) | (exact hg _ (by omega)) | (simp_all; done)
  cases h1 : L74aa.run n g 0 with
  | e0 h1d0 =>
    exact Ret.of_run1 mix [(AV.int IntKind.i64 (r74a.v n g))] Try.func74 rfl [.loop (others 19 [0, 1, 7, 8]) (Exit.ret) (L74aa.X n g (L74aa.O.e0 h1d0)) (L74aa.XH n g (L74aa.O.e0 h1d0))] (by simp) (by simp) (kmp (by kernel_rfl) (And.intro (L74aa.e0 (n) (g) o0 o1 (0) (And.intro (show (0 : Int) ≤ (0 : Int) by first | decide | exact Int.NonNeg.mk _) o2) h1d0 h1) (And.intro (show (AV.int IntKind.i64 h1d0) = ((AV.int IntKind.i64 (r74a.v n g))) by first | (simp only [r74a.v, h1, cond_true, cond_false]; done) | (try unfold r74a.v; try simp only [h1, cond_true, cond_false]; try rfl; done) | rfl) trivial))) h
  | e1 =>
    exact Ret.of_run1 mix [(AV.int IntKind.i64 (r74a.v n g))] Try.func74 rfl [.loop (others 19 [0, 1, 7, 8]) (Exit.exit 0) (L74aa.X n g L74aa.O.e1) (L74aa.XH n g L74aa.O.e1)] (by simp) (by simp) (kmp (by kernel_rfl) (And.intro (L74aa.e1 (n) (g) o0 o1 (0) (And.intro (show (0 : Int) ≤ (0 : Int) by first | decide | exact Int.NonNeg.mk _) o2) h1) (And.intro (show (AV.int IntKind.i64 (-1)) = ((AV.int IntKind.i64 (r74a.v n g))) by first | (simp only [r74a.v, h1, cond_true, cond_false]; done) | (try unfold r74a.v; try simp only [h1, cond_true, cond_false]; try rfl; done) | rfl) trivial))) h

noncomputable def r47a.v (n : Nat) (g : Nat → LD) : Bool := decide (r74a.v n g ≥ 0)

theorem r47a (n : Nat) (g : Nat → LD) (hn : n ≤ 9223372036854775807) (hg : ∀ (i : Nat), (g i).nm.size ≤ 9223372036854775807) (h : AHeap) : Ret Try.prog 47 ([lds n g, AV.fn 48 []]) h (AV.bool (r47a.v n g)) h := by
  have o0 : n ≤ (9223372036854775807 : Nat) := by first | assumption | omega | (exact hg _) | (exact hg _ (by omega)) | (simp_all; done)
  have o1 : ∀ (i : Nat), (g i).nm.size ≤ (9223372036854775807 : Nat) := by first | assumption | omega | (exact hg _) | (exact hg _ (by omega)) | (simp_all; done)
  exact Ret.of_run1 mix [(AV.bool (r47a.v n g))] Try.func47 rfl [.ret (AV.int IntKind.i64 (r74a.v n g)) ([])] (by simp) (by simp) (kmp (by kernel_rfl) (And.intro (r74a (n) (g) o0 o1 ([])) (And.intro (show (AV.bool (decide (r74a.v n g ≥ 0))) = ((AV.bool (r47a.v n g))) by first | (simp only [r47a.v, cond_true, cond_false]; done) | (try unfold r47a.v; try rfl; done) | rfl) trivial))) h

inductive L74ba.O where
  | e0 (a0 : Int)
  | e1

noncomputable def L74ba.T (n : Nat) (g : Nat → LD) (a8 : Int) : List AV := mkT 19 [(0, AV.sl 4 n fun (i : Nat) => AV.agg [AV.str (g i).nm, AV.int IntKind.i64 (g i).lo, AV.int IntKind.i64 (g i).ln, AV.int IntKind.i64 (g i).ms]), (1, AV.fn 49 []), (7, AV.int IntKind.i64 (↑n : Int)), (8, AV.int IntKind.i64 a8)]

noncomputable def L74ba.H (n : Nat) (g : Nat → LD) (a8 : Int) : AHeap := []

def L74ba.inv (n : Nat) (g : Nat → LD) (a8 : Int) : Prop := 0 ≤ a8 ∧ (a8 ≤ (↑n : Int) ∨ a8 ≤ 0)

noncomputable def L74ba.mu (n : Nat) (g : Nat → LD) (a8 : Int) : Nat := ((↑n : Int) - a8).toNat

noncomputable def L74ba.E : L74ba.O → Exit
  | .e0 a0 => Exit.ret
  | .e1 => Exit.exit 0

noncomputable def L74ba.X (n : Nat) (g : Nat → LD) : L74ba.O → List AV
  | .e0 a0 => mkT 19 [(4, (AV.int IntKind.i64 a0))]
  | .e1 => mkT 19 []

noncomputable def L74ba.XH (n : Nat) (g : Nat → LD) : L74ba.O → AHeap
  | .e0 a0 => ([])
  | .e1 => ([])

noncomputable def L74ba.N (n : Nat) (g : Nat → LD) : Nat → Int → L74ba.O
  | 0, a8 => .e0 a8
  | k_ + 1, a8 => (bif decide (a8 < (↑n : Int)) then (bif r49.v (g a8.toNat) then (.e0 (a8)) else (L74ba.N n g k_ (IntKind.i64.wrap (a8 + 1)))) else (.e1))

noncomputable def L74ba.run (n : Nat) (g : Nat → LD) (a8 : Int) : L74ba.O := L74ba.N n g ((((↑n : Int) - a8).toNat) + 1) a8

theorem L74ba.nx (n : Nat) (g : Nat → LD) {k_ : Nat} {z_ : Int} {h_ : AHeap} (s_ : Int) (h1 : L74ba.inv n g s_) (h2 : L74ba.mu n g s_ < L74ba.mu n g z_) (h3 : L74ba.N n g k_ s_ = L74ba.N n g (k_ + 1) z_) (h4 : PopOk (L74ba.H n g z_) h_ (L74ba.T n g s_) (L74ba.H n g s_)) : LNextP (fun (z_ : Int) => L74ba.T n g z_) (fun (z_ : Int) => L74ba.H n g z_) (fun (z_ : Int) => L74ba.inv n g z_) (fun (z_ : Int) => L74ba.mu n g z_) (fun (k_ : Nat) (z_ : Int) => L74ba.N n g k_ z_) k_ z_ (L74ba.T n g s_) h_ := LNextP.mk (Tm := (fun (z_ : Int) => L74ba.T n g z_)) (Hp := (fun (z_ : Int) => L74ba.H n g z_)) (inv := (fun (z_ : Int) => L74ba.inv n g z_)) (mu := (fun (z_ : Int) => L74ba.mu n g z_)) (l := (fun (k_ : Nat) (z_ : Int) => L74ba.N n g k_ z_)) s_ h1 h2 h3 h4

theorem L74ba.en (n : Nat) (g : Nat → LD) {k_ : Nat} {z_ : Int} {h_ : AHeap} (o_ : L74ba.O) (h3 : L74ba.N n g (k_ + 1) z_ = o_) (h4 : PopOk (L74ba.H n g z_) h_ (L74ba.X n g o_) (L74ba.XH n g o_)) : LEndP (fun (z_ : Int) => L74ba.H n g z_) (fun (k_ : Nat) (z_ : Int) => L74ba.N n g k_ z_) L74ba.E (L74ba.X n g) (L74ba.XH n g) k_ z_ (L74ba.E o_) (L74ba.X n g o_) h_ := LEndP.mk (Hp := (fun (z_ : Int) => L74ba.H n g z_)) (l := (fun (k_ : Nat) (z_ : Int) => L74ba.N n g k_ z_)) (oE := L74ba.E) (oT := L74ba.X n g) (oH := L74ba.XH n g) o_ h3 h4

theorem L74ba.spec (n : Nat) (g : Nat → LD) (hn : n ≤ 9223372036854775807) (k_ : Nat) (z_ : Int) (hi_ : L74ba.inv n g z_) (hm_ : L74ba.mu n g z_ < k_) : LoopTo Try.prog (loopN Try.f74 0) (L74ba.T n g z_) (L74ba.H n g z_) (L74ba.E (L74ba.N n g k_ z_)) (L74ba.X n g (L74ba.N n g k_ z_)) (L74ba.XH n g (L74ba.N n g k_ z_)) := by
  refine LoopTo.fuelP mix (fun (z_ : Int) => L74ba.T n g z_) (fun (z_ : Int) => L74ba.H n g z_) (fun (z_ : Int) => L74ba.inv n g z_) (fun (z_ : Int) => L74ba.mu n g z_) (fun (k_ : Nat) (z_ : Int) => L74ba.N n g k_ z_) L74ba.E (L74ba.X n g) (L74ba.XH n g) (others 19 [0, 1, 7, 8]) (others 19 [4]) (others 19 []) ?_ k_ z_ hi_ hm_
  clear hm_ hi_ z_ k_
  intro k_ z_ hinv hmu
  revert hinv hmu; revert z_; intro a8 hinv hmu
  have hinv : 0 ≤ a8 ∧ (a8 ≤ (↑n : Int) ∨ a8 ≤ 0) := hinv
  have hmu : (((↑n : Int) - a8).toNat) < k_ + 1 := hmu
  cases h1 : decide (a8 < (↑n : Int)) with
  | true =>
    have h1p := of_decide_eq_true h1
    have o0 : (0 : Int) ≤ a8 := by first | assumption | omega | (simp_all; done)
    have o1 : a8 < (↑n : Int) := by first | assumption | omega | (simp_all; done)
    cases h2 : r49.v (g a8.toNat) with
    | true =>
      exact ⟨[.b true, .ret (AV.bool (r49.v (g a8.toNat))) ([]), .b true], kmp (by kernel_rfl) (And.intro h1 (And.intro (And.intro o0 o1) (And.intro (r49 (g a8.toNat) ([])) (And.intro h2 (L74ba.en n g (k_ := k_) (z_ := a8) (.e0 (a8) : L74ba.O) (by first | (simp only [L74ba.N, h1, h2, cond_true, cond_false]; done) | (try unfold L74ba.N; try simp only [h1, cond_true, cond_false]; try simp only [h2, cond_true, cond_false]; try rfl; done)) PopOk.same)))))⟩
    | false =>
      try have := IntWalk.i64_in (a8 + 1) (by omega)
      have o2 : (0 : Int) ≤ IntKind.i64.wrap (a8 + (1 : Int)) := by first | assumption | omega | (simp_all; done)
      have o3 : IntKind.i64.wrap (a8 + (1 : Int)) ≤ (↑n : Int) ∨ IntKind.i64.wrap (a8 + (1 : Int)) ≤ (0 : Int) := by first | assumption | omega | (simp_all; done)
      have o4 : ((↑n : Int) - IntKind.i64.wrap (a8 + (1 : Int))).toNat < ((↑n : Int) - a8).toNat := by first | assumption | omega | (simp_all; done)
      exact ⟨[.b true, .ret (AV.bool (r49.v (g a8.toNat))) ([]), .b false], kmp (by kernel_rfl) (And.intro h1 (And.intro (And.intro o0 o1) (And.intro (r49 (g a8.toNat) ([])) (And.intro h2 (L74ba.nx n g (k_ := k_) (z_ := a8) (IntKind.i64.wrap (a8 + 1)) (And.intro o2 o3) o4 (by first | (simp only [L74ba.N, h1, h2, cond_true, cond_false]; done) | (try unfold L74ba.N; try simp only [h1, cond_true, cond_false]; try simp only [h2, cond_true, cond_false]; try rfl; done)) PopOk.same)))))⟩
  | false =>
    have h1p := of_decide_eq_false h1
    exact ⟨[.b false], kmp (by kernel_rfl) (And.intro h1 (L74ba.en n g (k_ := k_) (z_ := a8) (.e1 : L74ba.O) (by first | (simp only [L74ba.N, h1, cond_true, cond_false]; done) | (try unfold L74ba.N; try simp only [h1, cond_true, cond_false]; try rfl; done)) PopOk.same))⟩

theorem L74ba.e0 (n : Nat) (g : Nat → LD) (hn : n ≤ 9223372036854775807) (a8 : Int) (hinv : L74ba.inv n g a8) (a0 : Int) (hN : L74ba.run n g a8 = (.e0 a0 : L74ba.O)) : LoopTo Try.prog (loopN Try.f74 0) (L74ba.T n g a8) (L74ba.H n g a8) (Exit.ret) (L74ba.X n g (.e0 a0 : L74ba.O)) (L74ba.XH n g (.e0 a0 : L74ba.O)) := by
  have h_ := L74ba.spec n g hn ((((↑n : Int) - a8).toNat) + 1) a8 hinv (Nat.lt_succ_self _)
  unfold L74ba.run at hN
  simp only [hN] at h_
  exact h_

theorem L74ba.e1 (n : Nat) (g : Nat → LD) (hn : n ≤ 9223372036854775807) (a8 : Int) (hinv : L74ba.inv n g a8) (hN : L74ba.run n g a8 = (.e1 : L74ba.O)) : LoopTo Try.prog (loopN Try.f74 0) (L74ba.T n g a8) (L74ba.H n g a8) (Exit.exit 0) (L74ba.X n g (.e1 : L74ba.O)) (L74ba.XH n g (.e1 : L74ba.O)) := by
  have h_ := L74ba.spec n g hn ((((↑n : Int) - a8).toNat) + 1) a8 hinv (Nat.lt_succ_self _)
  unfold L74ba.run at hN
  simp only [hN] at h_
  exact h_

noncomputable def r74b.v (n : Nat) (g : Nat → LD) : Int := (match L74ba.run n g 0 with | .e0 h1d0 => h1d0 | .e1 => -1 )

theorem r74b (n : Nat) (g : Nat → LD) (hn : n ≤ 9223372036854775807) (h : AHeap) : Ret Try.prog 74 ([lds n g, AV.fn 49 []]) h (AV.int IntKind.i64 (r74b.v n g)) h := by
  have o0 : n ≤ (9223372036854775807 : Nat) := by first | assumption | omega | (simp_all; done)
  have o1 : (0 : Int) ≤ (↑n : Int) ∨ (0 : Int) ≤ (0 : Int) := by first | assumption | omega | (simp_all; done)
  cases h1 : L74ba.run n g 0 with
  | e0 h1d0 =>
    exact Ret.of_run1 mix [(AV.int IntKind.i64 (r74b.v n g))] Try.func74 rfl [.loop (others 19 [0, 1, 7, 8]) (Exit.ret) (L74ba.X n g (L74ba.O.e0 h1d0)) (L74ba.XH n g (L74ba.O.e0 h1d0))] (by simp) (by simp) (kmp (by kernel_rfl) (And.intro (L74ba.e0 (n) (g) o0 (0) (And.intro (show (0 : Int) ≤ (0 : Int) by first | decide | exact Int.NonNeg.mk _) o1) h1d0 h1) (And.intro (show (AV.int IntKind.i64 h1d0) = ((AV.int IntKind.i64 (r74b.v n g))) by first | (simp only [r74b.v, h1, cond_true, cond_false]; done) | (try unfold r74b.v; try simp only [h1, cond_true, cond_false]; try rfl; done) | rfl) trivial))) h
  | e1 =>
    exact Ret.of_run1 mix [(AV.int IntKind.i64 (r74b.v n g))] Try.func74 rfl [.loop (others 19 [0, 1, 7, 8]) (Exit.exit 0) (L74ba.X n g L74ba.O.e1) (L74ba.XH n g L74ba.O.e1)] (by simp) (by simp) (kmp (by kernel_rfl) (And.intro (L74ba.e1 (n) (g) o0 (0) (And.intro (show (0 : Int) ≤ (0 : Int) by first | decide | exact Int.NonNeg.mk _) o1) h1) (And.intro (show (AV.int IntKind.i64 (-1)) = ((AV.int IntKind.i64 (r74b.v n g))) by first | (simp only [r74b.v, h1, cond_true, cond_false]; done) | (try unfold r74b.v; try simp only [h1, cond_true, cond_false]; try rfl; done) | rfl) trivial))) h

noncomputable def r47b.v (n : Nat) (g : Nat → LD) : Bool := decide (r74b.v n g ≥ 0)

theorem r47b (n : Nat) (g : Nat → LD) (hn : n ≤ 9223372036854775807) (h : AHeap) : Ret Try.prog 47 ([lds n g, AV.fn 49 []]) h (AV.bool (r47b.v n g)) h := by
  have o0 : n ≤ (9223372036854775807 : Nat) := by first | assumption | omega | (simp_all; done)
  exact Ret.of_run1 mix [(AV.bool (r47b.v n g))] Try.func47 rfl [.ret (AV.int IntKind.i64 (r74b.v n g)) ([])] (by simp) (by simp) (kmp (by kernel_rfl) (And.intro (r74b (n) (g) o0 ([])) (And.intro (show (AV.bool (decide (r74b.v n g ≥ 0))) = ((AV.bool (r47b.v n g))) by first | (simp only [r47b.v, cond_true, cond_false]; done) | (try unfold r47b.v; try rfl; done) | rfl) trivial))) h

noncomputable def r46a.v (n : Nat) (g : Nat → LD) : Bool := r47a.v n g

theorem r46a (n : Nat) (g : Nat → LD) (hn : n ≤ 9223372036854775807) (hg : ∀ (i : Nat), (g i).nm.size ≤ 9223372036854775807) (bed : Int) : Ret Try.prog 46 ([AV.fn 48 [], AV.ptr 0 1 1 0 0]) ([AObj.var (lds n g), AObj.var (AV.int IntKind.i64 bed)]) (AV.bool (r46a.v n g)) ([AObj.var (lds n g), AObj.var (AV.int IntKind.i64 bed)]) := by
  have o0 : n ≤ (9223372036854775807 : Nat) := by first | assumption | omega | (exact hg _) | (exact hg _ (by omega)) | (simp_all; done)
  have o1 : ∀ (i : Nat), (g i).nm.size ≤ (9223372036854775807 : Nat) := by first | assumption | omega | (exact hg _) | (exact hg _ (by omega)) | (simp_all; done)
  exact Ret.of_runH mix [(AV.bool (r46a.v n g))] ([AObj.var (lds n g), AObj.var (AV.int IntKind.i64 bed)]) Try.func46 rfl [.ret (AV.bool (r47a.v n g)) ([AObj.var (AV.sl 4 n fun (i : Nat) => AV.agg [AV.str (g i).nm, AV.int IntKind.i64 (g i).lo, AV.int IntKind.i64 (g i).ln, AV.int IntKind.i64 (g i).ms]), AObj.var (AV.int IntKind.i64 bed)])] (by simp) (kmp (by kernel_rfl) (And.intro (r47a (n) (g) o0 o1 ([AObj.var (AV.sl 4 n fun (i : Nat) => AV.agg [AV.str (g i).nm, AV.int IntKind.i64 (g i).lo, AV.int IntKind.i64 (g i).ln, AV.int IntKind.i64 (g i).ms]), AObj.var (AV.int IntKind.i64 bed)])) (And.intro (And.intro (show (AV.bool (r47a.v n g)) = ((AV.bool (r46a.v n g))) by first | (simp only [r46a.v, cond_true, cond_false]; done) | (try unfold r46a.v; try rfl; done) | rfl) trivial) (rfl : ([AObj.var (lds n g), AObj.var (AV.int IntKind.i64 bed)] : AHeap) = [AObj.var (lds n g), AObj.var (AV.int IntKind.i64 bed)]))))

noncomputable def r46b.v (n : Nat) (g : Nat → LD) : Bool := r47b.v n g

theorem r46b (n : Nat) (g : Nat → LD) (hn : n ≤ 9223372036854775807) (bed : Int) : Ret Try.prog 46 ([AV.fn 49 [], AV.ptr 0 1 1 0 0]) ([AObj.var (lds n g), AObj.var (AV.int IntKind.i64 bed)]) (AV.bool (r46b.v n g)) ([AObj.var (lds n g), AObj.var (AV.int IntKind.i64 bed)]) := by
  have o0 : n ≤ (9223372036854775807 : Nat) := by first | assumption | omega | (simp_all; done)
  exact Ret.of_runH mix [(AV.bool (r46b.v n g))] ([AObj.var (lds n g), AObj.var (AV.int IntKind.i64 bed)]) Try.func46 rfl [.ret (AV.bool (r47b.v n g)) ([AObj.var (AV.sl 4 n fun (i : Nat) => AV.agg [AV.str (g i).nm, AV.int IntKind.i64 (g i).lo, AV.int IntKind.i64 (g i).ln, AV.int IntKind.i64 (g i).ms]), AObj.var (AV.int IntKind.i64 bed)])] (by simp) (kmp (by kernel_rfl) (And.intro (r47b (n) (g) o0 ([AObj.var (AV.sl 4 n fun (i : Nat) => AV.agg [AV.str (g i).nm, AV.int IntKind.i64 (g i).lo, AV.int IntKind.i64 (g i).ln, AV.int IntKind.i64 (g i).ms]), AObj.var (AV.int IntKind.i64 bed)])) (And.intro (And.intro (show (AV.bool (r47b.v n g)) = ((AV.bool (r46b.v n g))) by first | (simp only [r46b.v, cond_true, cond_false]; done) | (try unfold r46b.v; try rfl; done) | rfl) trivial) (rfl : ([AObj.var (lds n g), AObj.var (AV.int IntKind.i64 bed)] : AHeap) = [AObj.var (lds n g), AObj.var (AV.int IntKind.i64 bed)]))))

noncomputable def r50.v (bed : Int) (s : LD) : Bool := decide (IntKind.i64.wrap (s.lo + s.ln) > bed)

noncomputable abbrev r50.h0 (n : Nat) (g : Nat → LD) (bed : Int) (ks : List ByteArray) (s : LD) : AHeap := ([AObj.var (lds n g), AObj.var (AV.int IntKind.i64 bed), AObj.map (MCol.sset ks)])

theorem r50 (n : Nat) (g : Nat → LD) (bed : Int) (ks : List ByteArray) (s : LD) : Ret Try.prog 50 ([s.av, AV.ptr 1 1 1 0 0]) (r50.h0 n g bed ks s) (AV.bool (r50.v bed s)) (r50.h0 n g bed ks s) := by
  exact Ret.of_runH mix [(AV.bool (r50.v bed s))] (r50.h0 n g bed ks s) Try.func50 rfl [] (by simp) (kmp (by kernel_rfl) (And.intro (And.intro (show (AV.bool (decide (IntKind.i64.wrap (s.lo + s.ln) > bed))) = ((AV.bool (r50.v bed s))) by first | (simp only [r50.v, cond_true, cond_false]; done) | (try unfold r50.v; try rfl; done) | rfl) trivial) (rfl : ([AObj.var (lds n g), AObj.var (AV.int IntKind.i64 bed), AObj.map (MCol.sset ks)] : AHeap) = [AObj.var (lds n g), AObj.var (AV.int IntKind.i64 bed), AObj.map (MCol.sset ks)])))

inductive L74c.O where
  | e0 (a0 : Int)
  | e1

noncomputable def L74c.T (n : Nat) (g : Nat → LD) (bed : Int) (ks : List ByteArray) (i : Int) : List AV := mkT 19 [(0, lds n g), (1, AV.fn 50 [AV.ptr 1 1 1 0 0]), (7, AV.int IntKind.i64 (↑n : Int)), (8, AV.int IntKind.i64 i)]

noncomputable def L74c.H (n : Nat) (g : Nat → LD) (bed : Int) (ks : List ByteArray) (i : Int) : AHeap := [AObj.var (lds n g), AObj.var (AV.int IntKind.i64 bed), AObj.map (MCol.sset ks)]

def L74c.inv (n : Nat) (g : Nat → LD) (bed : Int) (ks : List ByteArray) (i : Int) : Prop := 0 ≤ i ∧ i ≤ (↑n : Int)

noncomputable def L74c.mu (n : Nat) (g : Nat → LD) (bed : Int) (ks : List ByteArray) (i : Int) : Nat := ((↑n : Int) - i).toNat

noncomputable def L74c.E : L74c.O → Exit
  | .e0 a0 => Exit.ret
  | .e1 => Exit.exit 0

noncomputable def L74c.X (n : Nat) (g : Nat → LD) (bed : Int) (ks : List ByteArray) : L74c.O → List AV
  | .e0 a0 => mkT 19 [(4, (AV.int IntKind.i64 a0))]
  | .e1 => mkT 19 []

noncomputable def L74c.XH (n : Nat) (g : Nat → LD) (bed : Int) (ks : List ByteArray) : L74c.O → AHeap
  | .e0 a0 => ([AObj.var (AV.sl 4 n fun (i : Nat) => AV.agg [AV.str (g i).nm, AV.int IntKind.i64 (g i).lo, AV.int IntKind.i64 (g i).ln, AV.int IntKind.i64 (g i).ms]), AObj.var (AV.int IntKind.i64 bed), AObj.map (MCol.sset ks)])
  | .e1 => ([AObj.var (AV.sl 4 n fun (i : Nat) => AV.agg [AV.str (g i).nm, AV.int IntKind.i64 (g i).lo, AV.int IntKind.i64 (g i).ln, AV.int IntKind.i64 (g i).ms]), AObj.var (AV.int IntKind.i64 bed), AObj.map (MCol.sset ks)])

noncomputable def L74c.N (n : Nat) (g : Nat → LD) (bed : Int) : Nat → Int → L74c.O
  | 0, i => .e0 i
  | k_ + 1, i => (bif decide (i < (↑n : Int)) then (bif r50.v bed (g i.toNat) then (.e0 (i)) else (L74c.N n g bed k_ (IntKind.i64.wrap (i + 1)))) else (.e1))

noncomputable def L74c.run (n : Nat) (g : Nat → LD) (bed : Int) (i : Int) : L74c.O := L74c.N n g bed ((((↑n : Int) - i).toNat) + 1) i

theorem L74c.nx (n : Nat) (g : Nat → LD) (bed : Int) (ks : List ByteArray) {k_ : Nat} {z_ : Int} {h_ : AHeap} (s_ : Int) (h1 : L74c.inv n g bed ks s_) (h2 : L74c.mu n g bed ks s_ < L74c.mu n g bed ks z_) (h3 : L74c.N n g bed k_ s_ = L74c.N n g bed (k_ + 1) z_) (h4 : PopOk (L74c.H n g bed ks z_) h_ (L74c.T n g bed ks s_) (L74c.H n g bed ks s_)) : LNextP (fun (z_ : Int) => L74c.T n g bed ks z_) (fun (z_ : Int) => L74c.H n g bed ks z_) (fun (z_ : Int) => L74c.inv n g bed ks z_) (fun (z_ : Int) => L74c.mu n g bed ks z_) (fun (k_ : Nat) (z_ : Int) => L74c.N n g bed k_ z_) k_ z_ (L74c.T n g bed ks s_) h_ := LNextP.mk (Tm := (fun (z_ : Int) => L74c.T n g bed ks z_)) (Hp := (fun (z_ : Int) => L74c.H n g bed ks z_)) (inv := (fun (z_ : Int) => L74c.inv n g bed ks z_)) (mu := (fun (z_ : Int) => L74c.mu n g bed ks z_)) (l := (fun (k_ : Nat) (z_ : Int) => L74c.N n g bed k_ z_)) s_ h1 h2 h3 h4

theorem L74c.en (n : Nat) (g : Nat → LD) (bed : Int) (ks : List ByteArray) {k_ : Nat} {z_ : Int} {h_ : AHeap} (o_ : L74c.O) (h3 : L74c.N n g bed (k_ + 1) z_ = o_) (h4 : PopOk (L74c.H n g bed ks z_) h_ (L74c.X n g bed ks o_) (L74c.XH n g bed ks o_)) : LEndP (fun (z_ : Int) => L74c.H n g bed ks z_) (fun (k_ : Nat) (z_ : Int) => L74c.N n g bed k_ z_) L74c.E (L74c.X n g bed ks) (L74c.XH n g bed ks) k_ z_ (L74c.E o_) (L74c.X n g bed ks o_) h_ := LEndP.mk (Hp := (fun (z_ : Int) => L74c.H n g bed ks z_)) (l := (fun (k_ : Nat) (z_ : Int) => L74c.N n g bed k_ z_)) (oE := L74c.E) (oT := L74c.X n g bed ks) (oH := L74c.XH n g bed ks) o_ h3 h4

theorem L74c.spec (n : Nat) (g : Nat → LD) (bed : Int) (ks : List ByteArray) (hn : n ≤ 9223372036854775807) (k_ : Nat) (z_ : Int) (hi_ : L74c.inv n g bed ks z_) (hm_ : L74c.mu n g bed ks z_ < k_) : LoopTo Try.prog (loopN Try.f74 0) (L74c.T n g bed ks z_) (L74c.H n g bed ks z_) (L74c.E (L74c.N n g bed k_ z_)) (L74c.X n g bed ks (L74c.N n g bed k_ z_)) (L74c.XH n g bed ks (L74c.N n g bed k_ z_)) := by
  refine LoopTo.fuelP mix (fun (z_ : Int) => L74c.T n g bed ks z_) (fun (z_ : Int) => L74c.H n g bed ks z_) (fun (z_ : Int) => L74c.inv n g bed ks z_) (fun (z_ : Int) => L74c.mu n g bed ks z_) (fun (k_ : Nat) (z_ : Int) => L74c.N n g bed k_ z_) L74c.E (L74c.X n g bed ks) (L74c.XH n g bed ks) (others 19 [0, 1, 7, 8]) (others 19 [4]) (others 19 []) ?_ k_ z_ hi_ hm_
  clear hm_ hi_ z_ k_
  intro k_ z_ hinv hmu
  revert hinv hmu; revert z_; intro i hinv hmu
  have hinv : 0 ≤ i ∧ i ≤ (↑n : Int) := hinv
  have hmu : (((↑n : Int) - i).toNat) < k_ + 1 := hmu
  cases h1 : decide (i < (↑n : Int)) with
  | true =>
    have h1p := of_decide_eq_true h1
    have o0 : (0 : Int) ≤ i := by first | assumption | omega | (simp_all; done)
    have o1 : i < (↑n : Int) := by first | assumption | omega | (simp_all; done)
    cases h2 : r50.v bed (g i.toNat) with
    | true =>
      exact ⟨[.b true, .ret (AV.bool (r50.v bed (g i.toNat))) ([AObj.var (AV.sl 4 n fun (i : Nat) => AV.agg [AV.str (g i).nm, AV.int IntKind.i64 (g i).lo, AV.int IntKind.i64 (g i).ln, AV.int IntKind.i64 (g i).ms]), AObj.var (AV.int IntKind.i64 bed), AObj.map (MCol.sset ks)]), .b true], kmp (by kernel_rfl) (And.intro h1 (And.intro (And.intro o0 o1) (And.intro (r50 (n) (g) (bed) (ks) (g i.toNat)) (And.intro h2 (L74c.en n g bed ks (k_ := k_) (z_ := i) (.e0 (i) : L74c.O) (by first | (simp only [L74c.N, h1, h2, cond_true, cond_false]; done) | (try unfold L74c.N; try simp only [h1, cond_true, cond_false]; try simp only [h2, cond_true, cond_false]; try rfl; done)) PopOk.same)))))⟩
    | false =>
      try have := IntWalk.i64_in (i + 1) (by omega)
      have o2 : (0 : Int) ≤ IntKind.i64.wrap (i + (1 : Int)) := by first | assumption | omega | (simp_all; done)
      have o3 : IntKind.i64.wrap (i + (1 : Int)) ≤ (↑n : Int) := by first | assumption | omega | (simp_all; done)
      have o4 : ((↑n : Int) - IntKind.i64.wrap (i + (1 : Int))).toNat < ((↑n : Int) - i).toNat := by first | assumption | omega | (simp_all; done)
      exact ⟨[.b true, .ret (AV.bool (r50.v bed (g i.toNat))) ([AObj.var (AV.sl 4 n fun (i : Nat) => AV.agg [AV.str (g i).nm, AV.int IntKind.i64 (g i).lo, AV.int IntKind.i64 (g i).ln, AV.int IntKind.i64 (g i).ms]), AObj.var (AV.int IntKind.i64 bed), AObj.map (MCol.sset ks)]), .b false], kmp (by kernel_rfl) (And.intro h1 (And.intro (And.intro o0 o1) (And.intro (r50 (n) (g) (bed) (ks) (g i.toNat)) (And.intro h2 (L74c.nx n g bed ks (k_ := k_) (z_ := i) (IntKind.i64.wrap (i + 1)) (And.intro o2 o3) o4 (by first | (simp only [L74c.N, h1, h2, cond_true, cond_false]; done) | (try unfold L74c.N; try simp only [h1, cond_true, cond_false]; try simp only [h2, cond_true, cond_false]; try rfl; done)) PopOk.same)))))⟩
  | false =>
    have h1p := of_decide_eq_false h1
    exact ⟨[.b false], kmp (by kernel_rfl) (And.intro h1 (L74c.en n g bed ks (k_ := k_) (z_ := i) (.e1 : L74c.O) (by first | (simp only [L74c.N, h1, cond_true, cond_false]; done) | (try unfold L74c.N; try simp only [h1, cond_true, cond_false]; try rfl; done)) PopOk.same))⟩

theorem L74c.e0 (n : Nat) (g : Nat → LD) (bed : Int) (ks : List ByteArray) (hn : n ≤ 9223372036854775807) (i : Int) (hinv : L74c.inv n g bed ks i) (a0 : Int) (hN : L74c.run n g bed i = (.e0 a0 : L74c.O)) : LoopTo Try.prog (loopN Try.f74 0) (L74c.T n g bed ks i) (L74c.H n g bed ks i) (Exit.ret) (L74c.X n g bed ks (.e0 a0 : L74c.O)) (L74c.XH n g bed ks (.e0 a0 : L74c.O)) := by
  have h_ := L74c.spec n g bed ks hn ((((↑n : Int) - i).toNat) + 1) i hinv (Nat.lt_succ_self _)
  unfold L74c.run at hN
  simp only [hN] at h_
  exact h_

theorem L74c.e1 (n : Nat) (g : Nat → LD) (bed : Int) (ks : List ByteArray) (hn : n ≤ 9223372036854775807) (i : Int) (hinv : L74c.inv n g bed ks i) (hN : L74c.run n g bed i = (.e1 : L74c.O)) : LoopTo Try.prog (loopN Try.f74 0) (L74c.T n g bed ks i) (L74c.H n g bed ks i) (Exit.exit 0) (L74c.X n g bed ks (.e1 : L74c.O)) (L74c.XH n g bed ks (.e1 : L74c.O)) := by
  have h_ := L74c.spec n g bed ks hn ((((↑n : Int) - i).toNat) + 1) i hinv (Nat.lt_succ_self _)
  unfold L74c.run at hN
  simp only [hN] at h_
  exact h_

noncomputable def r74c.v (n : Nat) (g : Nat → LD) (bed : Int) : Int := (match L74c.run n g bed 0 with | .e0 h1d0 => h1d0 | .e1 => -1 )

noncomputable abbrev r74c.h0 (n : Nat) (g : Nat → LD) (bed : Int) (ks : List ByteArray) : AHeap := ([AObj.var (lds n g), AObj.var (AV.int IntKind.i64 bed), AObj.map (MCol.sset ks)])

theorem r74c (n : Nat) (g : Nat → LD) (bed : Int) (ks : List ByteArray) (hn : n ≤ 9223372036854775807) : Ret Try.prog 74 ([lds n g, AV.fn 50 [AV.ptr 1 1 1 0 0]]) (r74c.h0 n g bed ks) (AV.int IntKind.i64 (r74c.v n g bed)) (r74c.h0 n g bed ks) := by
  have o0 : n ≤ (9223372036854775807 : Nat) := by first | assumption | omega | (simp_all; done)
  have o1 : (0 : Int) ≤ (↑n : Int) := by first | assumption | omega | (simp_all; done)
  cases h1 : L74c.run n g bed 0 with
  | e0 h1d0 =>
    exact Ret.of_runH mix [(AV.int IntKind.i64 (r74c.v n g bed))] (r74c.h0 n g bed ks) Try.func74 rfl [.loop (others 19 [0, 1, 7, 8]) (Exit.ret) (L74c.X n g bed ks (L74c.O.e0 h1d0)) (L74c.XH n g bed ks (L74c.O.e0 h1d0))] (by simp) (kmp (by kernel_rfl) (And.intro (L74c.e0 (n) (g) (bed) (ks) o0 (0) (And.intro (show (0 : Int) ≤ (0 : Int) by first | decide | exact Int.NonNeg.mk _) o1) h1d0 h1) (And.intro (And.intro (show (AV.int IntKind.i64 h1d0) = ((AV.int IntKind.i64 (r74c.v n g bed))) by first | (simp only [r74c.v, h1, cond_true, cond_false]; done) | (try unfold r74c.v; try simp only [h1, cond_true, cond_false]; try rfl; done) | rfl) trivial) (rfl : ([AObj.var (lds n g), AObj.var (AV.int IntKind.i64 bed), AObj.map (MCol.sset ks)] : AHeap) = [AObj.var (lds n g), AObj.var (AV.int IntKind.i64 bed), AObj.map (MCol.sset ks)]))))
  | e1 =>
    exact Ret.of_runH mix [(AV.int IntKind.i64 (r74c.v n g bed))] (r74c.h0 n g bed ks) Try.func74 rfl [.loop (others 19 [0, 1, 7, 8]) (Exit.exit 0) (L74c.X n g bed ks L74c.O.e1) (L74c.XH n g bed ks L74c.O.e1)] (by simp) (kmp (by kernel_rfl) (And.intro (L74c.e1 (n) (g) (bed) (ks) o0 (0) (And.intro (show (0 : Int) ≤ (0 : Int) by first | decide | exact Int.NonNeg.mk _) o1) h1) (And.intro (And.intro (show (AV.int IntKind.i64 (-1)) = ((AV.int IntKind.i64 (r74c.v n g bed))) by first | (simp only [r74c.v, h1, cond_true, cond_false]; done) | (try unfold r74c.v; try simp only [h1, cond_true, cond_false]; try rfl; done) | rfl) trivial) (rfl : ([AObj.var (lds n g), AObj.var (AV.int IntKind.i64 bed), AObj.map (MCol.sset ks)] : AHeap) = [AObj.var (lds n g), AObj.var (AV.int IntKind.i64 bed), AObj.map (MCol.sset ks)]))))

noncomputable def r47c.v (n : Nat) (g : Nat → LD) (bed : Int) : Bool := decide (r74c.v n g bed ≥ 0)

noncomputable abbrev r47c.h0 (n : Nat) (g : Nat → LD) (bed : Int) (ks : List ByteArray) : AHeap := ([AObj.var (lds n g), AObj.var (AV.int IntKind.i64 bed), AObj.map (MCol.sset ks)])

theorem r47c (n : Nat) (g : Nat → LD) (bed : Int) (ks : List ByteArray) (hn : n ≤ 9223372036854775807) : Ret Try.prog 47 ([lds n g, AV.fn 50 [AV.ptr 1 1 1 0 0]]) (r47c.h0 n g bed ks) (AV.bool (r47c.v n g bed)) (r47c.h0 n g bed ks) := by
  have o0 : n ≤ (9223372036854775807 : Nat) := by first | assumption | omega | (simp_all; done)
  exact Ret.of_runH mix [(AV.bool (r47c.v n g bed))] (r47c.h0 n g bed ks) Try.func47 rfl [.ret (AV.int IntKind.i64 (r74c.v n g bed)) ([AObj.var (AV.sl 4 n fun (i : Nat) => AV.agg [AV.str (g i).nm, AV.int IntKind.i64 (g i).lo, AV.int IntKind.i64 (g i).ln, AV.int IntKind.i64 (g i).ms]), AObj.var (AV.int IntKind.i64 bed), AObj.map (MCol.sset ks)])] (by simp) (kmp (by kernel_rfl) (And.intro (r74c (n) (g) (bed) (ks) o0) (And.intro (And.intro (show (AV.bool (decide (r74c.v n g bed ≥ 0))) = ((AV.bool (r47c.v n g bed))) by first | (simp only [r47c.v, cond_true, cond_false]; done) | (try unfold r47c.v; try rfl; done) | rfl) trivial) (rfl : ([AObj.var (lds n g), AObj.var (AV.int IntKind.i64 bed), AObj.map (MCol.sset ks)] : AHeap) = [AObj.var (lds n g), AObj.var (AV.int IntKind.i64 bed), AObj.map (MCol.sset ks)]))))

noncomputable def r46c.v (n : Nat) (g : Nat → LD) (bed : Int) : Bool := r47c.v n g bed

noncomputable abbrev r46c.h0 (n : Nat) (g : Nat → LD) (bed : Int) (ks : List ByteArray) : AHeap := ([AObj.var (lds n g), AObj.var (AV.int IntKind.i64 bed), AObj.map (MCol.sset ks)])

theorem r46c (n : Nat) (g : Nat → LD) (bed : Int) (ks : List ByteArray) (hn : n ≤ 9223372036854775807) : Ret Try.prog 46 ([AV.fn 50 [AV.ptr 1 1 1 0 0], AV.ptr 0 1 1 0 0]) (r46c.h0 n g bed ks) (AV.bool (r46c.v n g bed)) (r46c.h0 n g bed ks) := by
  have o0 : n ≤ (9223372036854775807 : Nat) := by first | assumption | omega | (simp_all; done)
  exact Ret.of_runH mix [(AV.bool (r46c.v n g bed))] (r46c.h0 n g bed ks) Try.func46 rfl [.ret (AV.bool (r47c.v n g bed)) ([AObj.var (AV.sl 4 n fun (i : Nat) => AV.agg [AV.str (g i).nm, AV.int IntKind.i64 (g i).lo, AV.int IntKind.i64 (g i).ln, AV.int IntKind.i64 (g i).ms]), AObj.var (AV.int IntKind.i64 bed), AObj.map (MCol.sset ks)])] (by simp) (kmp (by kernel_rfl) (And.intro (r47c (n) (g) (bed) (ks) o0) (And.intro (And.intro (show (AV.bool (r47c.v n g bed)) = ((AV.bool (r46c.v n g bed))) by first | (simp only [r46c.v, cond_true, cond_false]; done) | (try unfold r46c.v; try rfl; done) | rfl) trivial) (rfl : ([AObj.var (lds n g), AObj.var (AV.int IntKind.i64 bed), AObj.map (MCol.sset ks)] : AHeap) = [AObj.var (lds n g), AObj.var (AV.int IntKind.i64 bed), AObj.map (MCol.sset ks)]))))

inductive L15a.O where
  | e0
  | e1

noncomputable def L15a.T (n : Nat) (g : Nat → LD) (e : Int) (a5 : Int) : List AV := mkT 151 [(0, AV.sl 4 n fun (i : Nat) => AV.agg [AV.str (g i).nm, AV.int IntKind.i64 (g i).lo, AV.int IntKind.i64 (g i).ln, AV.int IntKind.i64 (g i).ms]), (1, AV.int IntKind.i64 e), (5, AV.int IntKind.i64 a5)]

noncomputable def L15a.H (n : Nat) (g : Nat → LD) (e : Int) (a5 : Int) : AHeap := []

def L15a.inv (n : Nat) (g : Nat → LD) (e : Int) (a5 : Int) : Prop := 0 ≤ a5 ∧ (a5 ≤ (↑n : Int) ∨ a5 ≤ 0)

noncomputable def L15a.mu (n : Nat) (g : Nat → LD) (e : Int) (a5 : Int) : Nat := ((↑n : Int) - a5).toNat

noncomputable def L15a.E : L15a.O → Exit
  | .e0 => Exit.ret
  | .e1 => Exit.exit 0

noncomputable def L15a.X (n : Nat) (g : Nat → LD) (e : Int) : L15a.O → List AV
  | .e0 => mkT 151 [(4, (AV.int IntKind.i64 4))]
  | .e1 => mkT 151 [(0, (AV.sl 4 n fun (i : Nat) => AV.agg [AV.str (g i).nm, AV.int IntKind.i64 (g i).lo, AV.int IntKind.i64 (g i).ln, AV.int IntKind.i64 (g i).ms])), (1, (AV.int IntKind.i64 e))]

noncomputable def L15a.XH (n : Nat) (g : Nat → LD) (e : Int) : L15a.O → AHeap
  | .e0 => ([])
  | .e1 => ([])

noncomputable def L15a.N (n : Nat) (g : Nat → LD) : Nat → Int → L15a.O
  | 0, _ => .e0
  | k_ + 1, a5 => (bif decide (a5 < (↑n : Int)) then (bif r36.v (g a5.toNat).nm then (L15a.N n g k_ (IntKind.i64.wrap (a5 + 1))) else (.e0)) else (.e1))

noncomputable def L15a.run (n : Nat) (g : Nat → LD) (a5 : Int) : L15a.O := L15a.N n g ((((↑n : Int) - a5).toNat) + 1) a5

theorem L15a.nx (n : Nat) (g : Nat → LD) (e : Int) {k_ : Nat} {z_ : Int} {h_ : AHeap} (s_ : Int) (h1 : L15a.inv n g e s_) (h2 : L15a.mu n g e s_ < L15a.mu n g e z_) (h3 : L15a.N n g k_ s_ = L15a.N n g (k_ + 1) z_) (h4 : PopOk (L15a.H n g e z_) h_ (L15a.T n g e s_) (L15a.H n g e s_)) : LNextP (fun (z_ : Int) => L15a.T n g e z_) (fun (z_ : Int) => L15a.H n g e z_) (fun (z_ : Int) => L15a.inv n g e z_) (fun (z_ : Int) => L15a.mu n g e z_) (fun (k_ : Nat) (z_ : Int) => L15a.N n g k_ z_) k_ z_ (L15a.T n g e s_) h_ := LNextP.mk (Tm := (fun (z_ : Int) => L15a.T n g e z_)) (Hp := (fun (z_ : Int) => L15a.H n g e z_)) (inv := (fun (z_ : Int) => L15a.inv n g e z_)) (mu := (fun (z_ : Int) => L15a.mu n g e z_)) (l := (fun (k_ : Nat) (z_ : Int) => L15a.N n g k_ z_)) s_ h1 h2 h3 h4

theorem L15a.en (n : Nat) (g : Nat → LD) (e : Int) {k_ : Nat} {z_ : Int} {h_ : AHeap} (o_ : L15a.O) (h3 : L15a.N n g (k_ + 1) z_ = o_) (h4 : PopOk (L15a.H n g e z_) h_ (L15a.X n g e o_) (L15a.XH n g e o_)) : LEndP (fun (z_ : Int) => L15a.H n g e z_) (fun (k_ : Nat) (z_ : Int) => L15a.N n g k_ z_) L15a.E (L15a.X n g e) (L15a.XH n g e) k_ z_ (L15a.E o_) (L15a.X n g e o_) h_ := LEndP.mk (Hp := (fun (z_ : Int) => L15a.H n g e z_)) (l := (fun (k_ : Nat) (z_ : Int) => L15a.N n g k_ z_)) (oE := L15a.E) (oT := L15a.X n g e) (oH := L15a.XH n g e) o_ h3 h4

theorem L15a.spec (n : Nat) (g : Nat → LD) (hn : n ≤ 9223372036854775807) (hg : ∀ (i : Nat), (g i).nm.size ≤ 9223372036854775807) (e : Int) (k0_1 : decide ((↑n : Int) > 64) = false) (p0_1 : ¬(↑n : Int) > 64) (k_ : Nat) (z_ : Int) (hi_ : L15a.inv n g e z_) (hm_ : L15a.mu n g e z_ < k_) : LoopTo Try.prog (loopN Try.f15 0) (L15a.T n g e z_) (L15a.H n g e z_) (L15a.E (L15a.N n g k_ z_)) (L15a.X n g e (L15a.N n g k_ z_)) (L15a.XH n g e (L15a.N n g k_ z_)) := by
  refine LoopTo.fuelP mix (fun (z_ : Int) => L15a.T n g e z_) (fun (z_ : Int) => L15a.H n g e z_) (fun (z_ : Int) => L15a.inv n g e z_) (fun (z_ : Int) => L15a.mu n g e z_) (fun (k_ : Nat) (z_ : Int) => L15a.N n g k_ z_) L15a.E (L15a.X n g e) (L15a.XH n g e) (others 151 [0, 1, 5]) (others 151 [4]) (others 151 [0, 1]) ?_ k_ z_ hi_ hm_
  clear hm_ hi_ z_ k_
  intro k_ z_ hinv hmu
  revert hinv hmu; revert z_; intro a5 hinv hmu
  have hinv : 0 ≤ a5 ∧ (a5 ≤ (↑n : Int) ∨ a5 ≤ 0) := hinv
  have hmu : (((↑n : Int) - a5).toNat) < k_ + 1 := hmu
  cases h1 : decide (a5 < (↑n : Int)) with
  | true =>
    have h1p := of_decide_eq_true h1
    have o0 : (0 : Int) ≤ a5 := by first | assumption | omega | (exact hg _) | (exact hg _ (by omega)) | (simp_all; done)
    have o1 : a5 < (↑n : Int) := by first | assumption | omega | (exact hg _) | (exact hg _ (by omega)) | (simp_all; done)
    have o2 : (g a5.toNat).nm.size ≤ (9223372036854775807 : Nat) := by first | assumption | omega | (exact hg _) | (exact hg _ (by omega)) | (simp_all; done)
    cases h2 : r36.v (g a5.toNat).nm with
    | true =>
      try have := IntWalk.i64_in (a5 + 1) (by omega)
      have o3 : (0 : Int) ≤ IntKind.i64.wrap (a5 + (1 : Int)) := by first | assumption | omega | (exact hg _) | (exact hg _ (by omega)) | (simp_all; done)
      have o4 : IntKind.i64.wrap (a5 + (1 : Int)) ≤ (↑n : Int) ∨ IntKind.i64.wrap (a5 + (1 : Int)) ≤ (0 : Int) := by first | assumption | omega | (exact hg _) | (exact hg _ (by omega)) | (simp_all; done)
      have o5 : ((↑n : Int) - IntKind.i64.wrap (a5 + (1 : Int))).toNat < ((↑n : Int) - a5).toNat := by first | assumption | omega | (exact hg _) | (exact hg _ (by omega)) | (simp_all; done)
      exact ⟨[.b true, .ret (AV.bool (r36.v (g a5.toNat).nm)) ([]), .b false], kmp (by kernel_rfl) (And.intro h1 (And.intro (And.intro o0 o1) (And.intro (r36 ((g a5.toNat).nm) o2 ([])) (And.intro (show (bnot (r36.v (g a5.toNat).nm)) = false by rw [h2]; try rfl) (L15a.nx n g e (k_ := k_) (z_ := a5) (IntKind.i64.wrap (a5 + 1)) (And.intro o3 o4) o5 (by first | (simp only [L15a.N, h1, h2, cond_true, cond_false]; done) | (try unfold L15a.N; try simp only [h1, cond_true, cond_false]; try simp only [h2, cond_true, cond_false]; try rfl; done)) PopOk.same)))))⟩
    | false =>
      exact ⟨[.b true, .ret (AV.bool (r36.v (g a5.toNat).nm)) ([]), .b true], kmp (by kernel_rfl) (And.intro h1 (And.intro (And.intro o0 o1) (And.intro (r36 ((g a5.toNat).nm) o2 ([])) (And.intro (show (bnot (r36.v (g a5.toNat).nm)) = true by rw [h2]; try rfl) (L15a.en n g e (k_ := k_) (z_ := a5) (.e0 : L15a.O) (by first | (simp only [L15a.N, h1, h2, cond_true, cond_false]; done) | (try unfold L15a.N; try simp only [h1, cond_true, cond_false]; try simp only [h2, cond_true, cond_false]; try rfl; done)) PopOk.same)))))⟩
  | false =>
    have h1p := of_decide_eq_false h1
    exact ⟨[.b false], kmp (by kernel_rfl) (And.intro h1 (L15a.en n g e (k_ := k_) (z_ := a5) (.e1 : L15a.O) (by first | (simp only [L15a.N, h1, cond_true, cond_false]; done) | (try unfold L15a.N; try simp only [h1, cond_true, cond_false]; try rfl; done)) PopOk.same))⟩

theorem L15a.e0 (n : Nat) (g : Nat → LD) (hn : n ≤ 9223372036854775807) (hg : ∀ (i : Nat), (g i).nm.size ≤ 9223372036854775807) (e : Int) (k0_1 : decide ((↑n : Int) > 64) = false) (p0_1 : ¬(↑n : Int) > 64) (a5 : Int) (hinv : L15a.inv n g e a5) (hN : L15a.run n g a5 = (.e0 : L15a.O)) : LoopTo Try.prog (loopN Try.f15 0) (L15a.T n g e a5) (L15a.H n g e a5) (Exit.ret) (L15a.X n g e (.e0 : L15a.O)) (L15a.XH n g e (.e0 : L15a.O)) := by
  have h_ := L15a.spec n g hn hg e k0_1 p0_1 ((((↑n : Int) - a5).toNat) + 1) a5 hinv (Nat.lt_succ_self _)
  unfold L15a.run at hN
  simp only [hN] at h_
  exact h_

theorem L15a.e1 (n : Nat) (g : Nat → LD) (hn : n ≤ 9223372036854775807) (hg : ∀ (i : Nat), (g i).nm.size ≤ 9223372036854775807) (e : Int) (k0_1 : decide ((↑n : Int) > 64) = false) (p0_1 : ¬(↑n : Int) > 64) (a5 : Int) (hinv : L15a.inv n g e a5) (hN : L15a.run n g a5 = (.e1 : L15a.O)) : LoopTo Try.prog (loopN Try.f15 0) (L15a.T n g e a5) (L15a.H n g e a5) (Exit.exit 0) (L15a.X n g e (.e1 : L15a.O)) (L15a.XH n g e (.e1 : L15a.O)) := by
  have h_ := L15a.spec n g hn hg e k0_1 p0_1 ((((↑n : Int) - a5).toNat) + 1) a5 hinv (Nat.lt_succ_self _)
  unfold L15a.run at hN
  simp only [hN] at h_
  exact h_

inductive L15b.O where
  | e0
  | e1

noncomputable def L15b.T (n : Nat) (g : Nat → LD) (e : Int) (b6 : Int) : List AV := mkT 151 [(0, AV.sl 4 n fun (i : Nat) => AV.agg [AV.str (g i).nm, AV.int IntKind.i64 (g i).lo, AV.int IntKind.i64 (g i).ln, AV.int IntKind.i64 (g i).ms]), (1, AV.int IntKind.i64 e), (6, AV.int IntKind.i64 b6)]

noncomputable def L15b.H (n : Nat) (g : Nat → LD) (e : Int) (b6 : Int) : AHeap := []

def L15b.inv (n : Nat) (g : Nat → LD) (e : Int) (b6 : Int) : Prop := 0 ≤ b6 ∧ (b6 ≤ (↑n : Int) ∨ b6 ≤ 0)

noncomputable def L15b.mu (n : Nat) (g : Nat → LD) (e : Int) (b6 : Int) : Nat := ((↑n : Int) - b6).toNat

noncomputable def L15b.E : L15b.O → Exit
  | .e0 => Exit.ret
  | .e1 => Exit.exit 2

noncomputable def L15b.X (n : Nat) (g : Nat → LD) (e : Int) : L15b.O → List AV
  | .e0 => mkT 151 [(4, (AV.int IntKind.i64 6))]
  | .e1 => mkT 151 [(0, (AV.sl 4 n fun (i : Nat) => AV.agg [AV.str (g i).nm, AV.int IntKind.i64 (g i).lo, AV.int IntKind.i64 (g i).ln, AV.int IntKind.i64 (g i).ms])), (1, (AV.int IntKind.i64 e))]

noncomputable def L15b.XH (n : Nat) (g : Nat → LD) (e : Int) : L15b.O → AHeap
  | .e0 => ([])
  | .e1 => ([])

noncomputable def L15b.N (n : Nat) (g : Nat → LD) : Nat → Int → L15b.O
  | 0, _ => .e0
  | k_ + 1, b6 => (bif decide (b6 < (↑n : Int)) then (bif r37.v (g b6.toNat).lo 0 50000 then (bif r37.v (g b6.toNat).ln 1 50000 then (bif r37.v (g b6.toNat).ms 1 100000000 then (L15b.N n g k_ (IntKind.i64.wrap (b6 + 1))) else (.e0)) else (.e0)) else (.e0)) else (.e1))

noncomputable def L15b.run (n : Nat) (g : Nat → LD) (b6 : Int) : L15b.O := L15b.N n g ((((↑n : Int) - b6).toNat) + 1) b6

theorem L15b.nx (n : Nat) (g : Nat → LD) (e : Int) {k_ : Nat} {z_ : Int} {h_ : AHeap} (s_ : Int) (h1 : L15b.inv n g e s_) (h2 : L15b.mu n g e s_ < L15b.mu n g e z_) (h3 : L15b.N n g k_ s_ = L15b.N n g (k_ + 1) z_) (h4 : PopOk (L15b.H n g e z_) h_ (L15b.T n g e s_) (L15b.H n g e s_)) : LNextP (fun (z_ : Int) => L15b.T n g e z_) (fun (z_ : Int) => L15b.H n g e z_) (fun (z_ : Int) => L15b.inv n g e z_) (fun (z_ : Int) => L15b.mu n g e z_) (fun (k_ : Nat) (z_ : Int) => L15b.N n g k_ z_) k_ z_ (L15b.T n g e s_) h_ := LNextP.mk (Tm := (fun (z_ : Int) => L15b.T n g e z_)) (Hp := (fun (z_ : Int) => L15b.H n g e z_)) (inv := (fun (z_ : Int) => L15b.inv n g e z_)) (mu := (fun (z_ : Int) => L15b.mu n g e z_)) (l := (fun (k_ : Nat) (z_ : Int) => L15b.N n g k_ z_)) s_ h1 h2 h3 h4

theorem L15b.en (n : Nat) (g : Nat → LD) (e : Int) {k_ : Nat} {z_ : Int} {h_ : AHeap} (o_ : L15b.O) (h3 : L15b.N n g (k_ + 1) z_ = o_) (h4 : PopOk (L15b.H n g e z_) h_ (L15b.X n g e o_) (L15b.XH n g e o_)) : LEndP (fun (z_ : Int) => L15b.H n g e z_) (fun (k_ : Nat) (z_ : Int) => L15b.N n g k_ z_) L15b.E (L15b.X n g e) (L15b.XH n g e) k_ z_ (L15b.E o_) (L15b.X n g e o_) h_ := LEndP.mk (Hp := (fun (z_ : Int) => L15b.H n g e z_)) (l := (fun (k_ : Nat) (z_ : Int) => L15b.N n g k_ z_)) (oE := L15b.E) (oT := L15b.X n g e) (oH := L15b.XH n g e) o_ h3 h4

theorem L15b.spec (n : Nat) (g : Nat → LD) (hn : n ≤ 9223372036854775807) (hg : ∀ (i : Nat), (g i).nm.size ≤ 9223372036854775807) (e : Int) (k1_1 : decide ((↑n : Int) > 64) = false) (p1_1 : ¬(↑n : Int) > 64) (k_ : Nat) (z_ : Int) (hi_ : L15b.inv n g e z_) (hm_ : L15b.mu n g e z_ < k_) : LoopTo Try.prog (loopN Try.f15 1) (L15b.T n g e z_) (L15b.H n g e z_) (L15b.E (L15b.N n g k_ z_)) (L15b.X n g e (L15b.N n g k_ z_)) (L15b.XH n g e (L15b.N n g k_ z_)) := by
  refine LoopTo.fuelP mix (fun (z_ : Int) => L15b.T n g e z_) (fun (z_ : Int) => L15b.H n g e z_) (fun (z_ : Int) => L15b.inv n g e z_) (fun (z_ : Int) => L15b.mu n g e z_) (fun (k_ : Nat) (z_ : Int) => L15b.N n g k_ z_) L15b.E (L15b.X n g e) (L15b.XH n g e) (others 151 [0, 1, 6]) (others 151 [4]) (others 151 [0, 1]) ?_ k_ z_ hi_ hm_
  clear hm_ hi_ z_ k_
  intro k_ z_ hinv hmu
  revert hinv hmu; revert z_; intro b6 hinv hmu
  have hinv : 0 ≤ b6 ∧ (b6 ≤ (↑n : Int) ∨ b6 ≤ 0) := hinv
  have hmu : (((↑n : Int) - b6).toNat) < k_ + 1 := hmu
  cases h1 : decide (b6 < (↑n : Int)) with
  | true =>
    have h1p := of_decide_eq_true h1
    have o0 : (0 : Int) ≤ b6 := by first | assumption | omega | (exact hg _) | (exact hg _ (by omega)) | (simp_all; done)
    have o1 : b6 < (↑n : Int) := by first | assumption | omega | (exact hg _) | (exact hg _ (by omega)) | (simp_all; done)
    cases h2 : r37.v (g b6.toNat).lo 0 50000 with
    | true =>
      cases h3 : r37.v (g b6.toNat).ln 1 50000 with
      | true =>
        cases h4 : r37.v (g b6.toNat).ms 1 100000000 with
        | true =>
          try have := IntWalk.i64_in (b6 + 1) (by omega)
          have o2 : (0 : Int) ≤ IntKind.i64.wrap (b6 + (1 : Int)) := by first | assumption | omega | (exact hg _) | (exact hg _ (by omega)) | (simp_all; done)
          have o3 : IntKind.i64.wrap (b6 + (1 : Int)) ≤ (↑n : Int) ∨ IntKind.i64.wrap (b6 + (1 : Int)) ≤ (0 : Int) := by first | assumption | omega | (exact hg _) | (exact hg _ (by omega)) | (simp_all; done)
          have o4 : ((↑n : Int) - IntKind.i64.wrap (b6 + (1 : Int))).toNat < ((↑n : Int) - b6).toNat := by first | assumption | omega | (exact hg _) | (exact hg _ (by omega)) | (simp_all; done)
          exact ⟨[.b true, .ret (AV.bool (r37.v (g b6.toNat).lo 0 50000)) ([]), .b false, .b false, .b false, .b false, .b false, .b false, .ret (AV.bool (r37.v (g b6.toNat).ln 1 50000)) ([]), .b false, .b false, .b false, .b false, .b false, .b false, .b false, .b false, .ret (AV.bool (r37.v (g b6.toNat).ms 1 100000000)) ([]), .b false, .b false, .b false], kmp (by kernel_rfl) (And.intro h1 (And.intro (And.intro o0 o1) (And.intro (r37 ((g b6.toNat).lo) (0) (50000) ([])) (And.intro (show (bnot (r37.v (g b6.toNat).lo 0 50000)) = false by rw [h2]; try rfl) (And.intro (show (bnot (r37.v (g b6.toNat).lo 0 50000)) = false by rw [h2]; try rfl) (And.intro (show (bnot (r37.v (g b6.toNat).lo 0 50000)) = false by rw [h2]; try rfl) (And.intro (And.intro o0 o1) (And.intro (show (bnot (r37.v (g b6.toNat).lo 0 50000)) = false by rw [h2]; try rfl) (And.intro (show (bnot (r37.v (g b6.toNat).lo 0 50000)) = false by rw [h2]; try rfl) (And.intro (show (bnot (r37.v (g b6.toNat).lo 0 50000)) = false by rw [h2]; try rfl) (And.intro (r37 ((g b6.toNat).ln) (1) (50000) ([])) (And.intro (show (bnot (r37.v (g b6.toNat).lo 0 50000)) = false by rw [h2]; try rfl) (And.intro (show (bnot (r37.v (g b6.toNat).lo 0 50000)) = false by rw [h2]; try rfl) (And.intro (show (bnot (r37.v (g b6.toNat).ln 1 50000)) = false by rw [h3]; try rfl) (And.intro (show (bnot (r37.v (g b6.toNat).ln 1 50000)) = false by rw [h3]; try rfl) (And.intro (show (bnot (r37.v (g b6.toNat).ln 1 50000)) = false by rw [h3]; try rfl) (And.intro (And.intro o0 o1) (And.intro (show (bnot (r37.v (g b6.toNat).ln 1 50000)) = false by rw [h3]; try rfl) (And.intro (show (bnot (r37.v (g b6.toNat).ln 1 50000)) = false by rw [h3]; try rfl) (And.intro (show (bnot (r37.v (g b6.toNat).ln 1 50000)) = false by rw [h3]; try rfl) (And.intro (r37 ((g b6.toNat).ms) (1) (100000000) ([])) (And.intro (show (bnot (r37.v (g b6.toNat).ln 1 50000)) = false by rw [h3]; try rfl) (And.intro (show (bnot (r37.v (g b6.toNat).ln 1 50000)) = false by rw [h3]; try rfl) (And.intro (show (bnot (r37.v (g b6.toNat).ms 1 100000000)) = false by rw [h4]; try rfl) (L15b.nx n g e (k_ := k_) (z_ := b6) (IntKind.i64.wrap (b6 + 1)) (And.intro o2 o3) o4 (by first | (simp only [L15b.N, h1, h2, h3, h4, cond_true, cond_false]; done) | (try unfold L15b.N; try simp only [h1, cond_true, cond_false]; try simp only [h2, cond_true, cond_false]; try simp only [h3, cond_true, cond_false]; try simp only [h4, cond_true, cond_false]; try rfl; done)) PopOk.same)))))))))))))))))))))))))⟩
        | false =>
          exact ⟨[.b true, .ret (AV.bool (r37.v (g b6.toNat).lo 0 50000)) ([]), .b false, .b false, .b false, .b false, .b false, .b false, .ret (AV.bool (r37.v (g b6.toNat).ln 1 50000)) ([]), .b false, .b false, .b false, .b false, .b false, .b false, .b false, .b false, .ret (AV.bool (r37.v (g b6.toNat).ms 1 100000000)) ([]), .b false, .b false, .b true], kmp (by kernel_rfl) (And.intro h1 (And.intro (And.intro o0 o1) (And.intro (r37 ((g b6.toNat).lo) (0) (50000) ([])) (And.intro (show (bnot (r37.v (g b6.toNat).lo 0 50000)) = false by rw [h2]; try rfl) (And.intro (show (bnot (r37.v (g b6.toNat).lo 0 50000)) = false by rw [h2]; try rfl) (And.intro (show (bnot (r37.v (g b6.toNat).lo 0 50000)) = false by rw [h2]; try rfl) (And.intro (And.intro o0 o1) (And.intro (show (bnot (r37.v (g b6.toNat).lo 0 50000)) = false by rw [h2]; try rfl) (And.intro (show (bnot (r37.v (g b6.toNat).lo 0 50000)) = false by rw [h2]; try rfl) (And.intro (show (bnot (r37.v (g b6.toNat).lo 0 50000)) = false by rw [h2]; try rfl) (And.intro (r37 ((g b6.toNat).ln) (1) (50000) ([])) (And.intro (show (bnot (r37.v (g b6.toNat).lo 0 50000)) = false by rw [h2]; try rfl) (And.intro (show (bnot (r37.v (g b6.toNat).lo 0 50000)) = false by rw [h2]; try rfl) (And.intro (show (bnot (r37.v (g b6.toNat).ln 1 50000)) = false by rw [h3]; try rfl) (And.intro (show (bnot (r37.v (g b6.toNat).ln 1 50000)) = false by rw [h3]; try rfl) (And.intro (show (bnot (r37.v (g b6.toNat).ln 1 50000)) = false by rw [h3]; try rfl) (And.intro (And.intro o0 o1) (And.intro (show (bnot (r37.v (g b6.toNat).ln 1 50000)) = false by rw [h3]; try rfl) (And.intro (show (bnot (r37.v (g b6.toNat).ln 1 50000)) = false by rw [h3]; try rfl) (And.intro (show (bnot (r37.v (g b6.toNat).ln 1 50000)) = false by rw [h3]; try rfl) (And.intro (r37 ((g b6.toNat).ms) (1) (100000000) ([])) (And.intro (show (bnot (r37.v (g b6.toNat).ln 1 50000)) = false by rw [h3]; try rfl) (And.intro (show (bnot (r37.v (g b6.toNat).ln 1 50000)) = false by rw [h3]; try rfl) (And.intro (show (bnot (r37.v (g b6.toNat).ms 1 100000000)) = true by rw [h4]; try rfl) (L15b.en n g e (k_ := k_) (z_ := b6) (.e0 : L15b.O) (by first | (simp only [L15b.N, h1, h2, h3, h4, cond_true, cond_false]; done) | (try unfold L15b.N; try simp only [h1, cond_true, cond_false]; try simp only [h2, cond_true, cond_false]; try simp only [h3, cond_true, cond_false]; try simp only [h4, cond_true, cond_false]; try rfl; done)) PopOk.same)))))))))))))))))))))))))⟩
      | false =>
        exact ⟨[.b true, .ret (AV.bool (r37.v (g b6.toNat).lo 0 50000)) ([]), .b false, .b false, .b false, .b false, .b false, .b false, .ret (AV.bool (r37.v (g b6.toNat).ln 1 50000)) ([]), .b false, .b false, .b true, .b true, .b true, .b true, .b true, .b true, .b true, .b true, .b true], kmp (by kernel_rfl) (And.intro h1 (And.intro (And.intro o0 o1) (And.intro (r37 ((g b6.toNat).lo) (0) (50000) ([])) (And.intro (show (bnot (r37.v (g b6.toNat).lo 0 50000)) = false by rw [h2]; try rfl) (And.intro (show (bnot (r37.v (g b6.toNat).lo 0 50000)) = false by rw [h2]; try rfl) (And.intro (show (bnot (r37.v (g b6.toNat).lo 0 50000)) = false by rw [h2]; try rfl) (And.intro (And.intro o0 o1) (And.intro (show (bnot (r37.v (g b6.toNat).lo 0 50000)) = false by rw [h2]; try rfl) (And.intro (show (bnot (r37.v (g b6.toNat).lo 0 50000)) = false by rw [h2]; try rfl) (And.intro (show (bnot (r37.v (g b6.toNat).lo 0 50000)) = false by rw [h2]; try rfl) (And.intro (r37 ((g b6.toNat).ln) (1) (50000) ([])) (And.intro (show (bnot (r37.v (g b6.toNat).lo 0 50000)) = false by rw [h2]; try rfl) (And.intro (show (bnot (r37.v (g b6.toNat).lo 0 50000)) = false by rw [h2]; try rfl) (And.intro (show (bnot (r37.v (g b6.toNat).ln 1 50000)) = true by rw [h3]; try rfl) (And.intro (show (bnot (r37.v (g b6.toNat).ln 1 50000)) = true by rw [h3]; try rfl) (And.intro (show (bnot (r37.v (g b6.toNat).ln 1 50000)) = true by rw [h3]; try rfl) (And.intro (show (bnot (r37.v (g b6.toNat).ln 1 50000)) = true by rw [h3]; try rfl) (And.intro (show (bnot (r37.v (g b6.toNat).ln 1 50000)) = true by rw [h3]; try rfl) (And.intro (show (bnot (r37.v (g b6.toNat).ln 1 50000)) = true by rw [h3]; try rfl) (And.intro (show (bnot (r37.v (g b6.toNat).ln 1 50000)) = true by rw [h3]; try rfl) (And.intro (show (bnot (r37.v (g b6.toNat).ln 1 50000)) = true by rw [h3]; try rfl) (And.intro (rfl : true = true) (L15b.en n g e (k_ := k_) (z_ := b6) (.e0 : L15b.O) (by first | (simp only [L15b.N, h1, h2, h3, cond_true, cond_false]; done) | (try unfold L15b.N; try simp only [h1, cond_true, cond_false]; try simp only [h2, cond_true, cond_false]; try simp only [h3, cond_true, cond_false]; try rfl; done)) PopOk.same)))))))))))))))))))))))⟩
    | false =>
      exact ⟨[.b true, .ret (AV.bool (r37.v (g b6.toNat).lo 0 50000)) ([]), .b true, .b true, .b true, .b true, .b true, .b true, .b true, .b true, .b true, .b true, .b true, .b true, .b true, .b true, .b true, .b true, .b true], kmp (by kernel_rfl) (And.intro h1 (And.intro (And.intro o0 o1) (And.intro (r37 ((g b6.toNat).lo) (0) (50000) ([])) (And.intro (show (bnot (r37.v (g b6.toNat).lo 0 50000)) = true by rw [h2]; try rfl) (And.intro (show (bnot (r37.v (g b6.toNat).lo 0 50000)) = true by rw [h2]; try rfl) (And.intro (show (bnot (r37.v (g b6.toNat).lo 0 50000)) = true by rw [h2]; try rfl) (And.intro (show (bnot (r37.v (g b6.toNat).lo 0 50000)) = true by rw [h2]; try rfl) (And.intro (show (bnot (r37.v (g b6.toNat).lo 0 50000)) = true by rw [h2]; try rfl) (And.intro (show (bnot (r37.v (g b6.toNat).lo 0 50000)) = true by rw [h2]; try rfl) (And.intro (show (bnot (r37.v (g b6.toNat).lo 0 50000)) = true by rw [h2]; try rfl) (And.intro (show (bnot (r37.v (g b6.toNat).lo 0 50000)) = true by rw [h2]; try rfl) (And.intro (rfl : true = true) (And.intro (rfl : true = true) (And.intro (rfl : true = true) (And.intro (rfl : true = true) (And.intro (rfl : true = true) (And.intro (rfl : true = true) (And.intro (rfl : true = true) (And.intro (rfl : true = true) (And.intro (rfl : true = true) (L15b.en n g e (k_ := k_) (z_ := b6) (.e0 : L15b.O) (by first | (simp only [L15b.N, h1, h2, cond_true, cond_false]; done) | (try unfold L15b.N; try simp only [h1, cond_true, cond_false]; try simp only [h2, cond_true, cond_false]; try rfl; done)) PopOk.same)))))))))))))))))))))⟩
  | false =>
    have h1p := of_decide_eq_false h1
    exact ⟨[.b false], kmp (by kernel_rfl) (And.intro h1 (L15b.en n g e (k_ := k_) (z_ := b6) (.e1 : L15b.O) (by first | (simp only [L15b.N, h1, cond_true, cond_false]; done) | (try unfold L15b.N; try simp only [h1, cond_true, cond_false]; try rfl; done)) PopOk.same))⟩

theorem L15b.e0 (n : Nat) (g : Nat → LD) (hn : n ≤ 9223372036854775807) (hg : ∀ (i : Nat), (g i).nm.size ≤ 9223372036854775807) (e : Int) (k1_1 : decide ((↑n : Int) > 64) = false) (p1_1 : ¬(↑n : Int) > 64) (b6 : Int) (hinv : L15b.inv n g e b6) (hN : L15b.run n g b6 = (.e0 : L15b.O)) : LoopTo Try.prog (loopN Try.f15 1) (L15b.T n g e b6) (L15b.H n g e b6) (Exit.ret) (L15b.X n g e (.e0 : L15b.O)) (L15b.XH n g e (.e0 : L15b.O)) := by
  have h_ := L15b.spec n g hn hg e k1_1 p1_1 ((((↑n : Int) - b6).toNat) + 1) b6 hinv (Nat.lt_succ_self _)
  unfold L15b.run at hN
  simp only [hN] at h_
  exact h_

theorem L15b.e1 (n : Nat) (g : Nat → LD) (hn : n ≤ 9223372036854775807) (hg : ∀ (i : Nat), (g i).nm.size ≤ 9223372036854775807) (e : Int) (k1_1 : decide ((↑n : Int) > 64) = false) (p1_1 : ¬(↑n : Int) > 64) (b6 : Int) (hinv : L15b.inv n g e b6) (hN : L15b.run n g b6 = (.e1 : L15b.O)) : LoopTo Try.prog (loopN Try.f15 1) (L15b.T n g e b6) (L15b.H n g e b6) (Exit.exit 2) (L15b.X n g e (.e1 : L15b.O)) (L15b.XH n g e (.e1 : L15b.O)) := by
  have h_ := L15b.spec n g hn hg e k1_1 p1_1 ((((↑n : Int) - b6).toNat) + 1) b6 hinv (Nat.lt_succ_self _)
  unfold L15b.run at hN
  simp only [hN] at h_
  exact h_

inductive L15cd.O where
  | e0
  | e1

noncomputable def L15cd.T (n : Nat) (g : Nat → LD) (e : Int) (c7 : Int) (d8 : Int) : List AV := mkT 151 [(0, AV.sl 4 n fun (i : Nat) => AV.agg [AV.str (g i).nm, AV.int IntKind.i64 (g i).lo, AV.int IntKind.i64 (g i).ln, AV.int IntKind.i64 (g i).ms]), (1, AV.int IntKind.i64 e), (7, AV.int IntKind.i64 c7), (8, AV.int IntKind.i64 d8)]

noncomputable def L15cd.H (n : Nat) (g : Nat → LD) (e : Int) (c7 : Int) (d8 : Int) : AHeap := []

def L15cd.inv (n : Nat) (g : Nat → LD) (e : Int) (c7 : Int) (d8 : Int) : Prop := 0 ≤ d8 ∧ (d8 ≤ c7 ∨ d8 ≤ 0)

noncomputable def L15cd.mu (n : Nat) (g : Nat → LD) (e : Int) (c7 : Int) (d8 : Int) : Nat := (c7 - d8).toNat

noncomputable def L15cd.E : L15cd.O → Exit
  | .e0 => Exit.ret
  | .e1 => Exit.exit 6

noncomputable def L15cd.X (n : Nat) (g : Nat → LD) (e : Int) (c7 : Int) : L15cd.O → List AV
  | .e0 => mkT 151 [(4, (AV.int IntKind.i64 5))]
  | .e1 => mkT 151 [(0, (AV.sl 4 n fun (i : Nat) => AV.agg [AV.str (g i).nm, AV.int IntKind.i64 (g i).lo, AV.int IntKind.i64 (g i).ln, AV.int IntKind.i64 (g i).ms])), (1, (AV.int IntKind.i64 e)), (7, (AV.int IntKind.i64 c7))]

noncomputable def L15cd.XH (n : Nat) (g : Nat → LD) (e : Int) (c7 : Int) : L15cd.O → AHeap
  | .e0 => ([])
  | .e1 => ([])

noncomputable def L15cd.N (g : Nat → LD) (c7 : Int) : Nat → Int → L15cd.O
  | 0, _ => .e0
  | k_ + 1, d8 => (bif decide (d8 < c7) then (bif (g c7.toNat).nm.toList == (g d8.toNat).nm.toList then (.e0) else (L15cd.N g c7 k_ (IntKind.i64.wrap (d8 + 1)))) else (.e1))

noncomputable def L15cd.run (g : Nat → LD) (c7 : Int) (d8 : Int) : L15cd.O := L15cd.N g c7 (((c7 - d8).toNat) + 1) d8

theorem L15cd.nx (n : Nat) (g : Nat → LD) (e : Int) (c7 : Int) {k_ : Nat} {z_ : Int} {h_ : AHeap} (s_ : Int) (h1 : L15cd.inv n g e c7 s_) (h2 : L15cd.mu n g e c7 s_ < L15cd.mu n g e c7 z_) (h3 : L15cd.N g c7 k_ s_ = L15cd.N g c7 (k_ + 1) z_) (h4 : PopOk (L15cd.H n g e c7 z_) h_ (L15cd.T n g e c7 s_) (L15cd.H n g e c7 s_)) : LNextP (fun (z_ : Int) => L15cd.T n g e c7 z_) (fun (z_ : Int) => L15cd.H n g e c7 z_) (fun (z_ : Int) => L15cd.inv n g e c7 z_) (fun (z_ : Int) => L15cd.mu n g e c7 z_) (fun (k_ : Nat) (z_ : Int) => L15cd.N g c7 k_ z_) k_ z_ (L15cd.T n g e c7 s_) h_ := LNextP.mk (Tm := (fun (z_ : Int) => L15cd.T n g e c7 z_)) (Hp := (fun (z_ : Int) => L15cd.H n g e c7 z_)) (inv := (fun (z_ : Int) => L15cd.inv n g e c7 z_)) (mu := (fun (z_ : Int) => L15cd.mu n g e c7 z_)) (l := (fun (k_ : Nat) (z_ : Int) => L15cd.N g c7 k_ z_)) s_ h1 h2 h3 h4

theorem L15cd.en (n : Nat) (g : Nat → LD) (e : Int) (c7 : Int) {k_ : Nat} {z_ : Int} {h_ : AHeap} (o_ : L15cd.O) (h3 : L15cd.N g c7 (k_ + 1) z_ = o_) (h4 : PopOk (L15cd.H n g e c7 z_) h_ (L15cd.X n g e c7 o_) (L15cd.XH n g e c7 o_)) : LEndP (fun (z_ : Int) => L15cd.H n g e c7 z_) (fun (k_ : Nat) (z_ : Int) => L15cd.N g c7 k_ z_) L15cd.E (L15cd.X n g e c7) (L15cd.XH n g e c7) k_ z_ (L15cd.E o_) (L15cd.X n g e c7 o_) h_ := LEndP.mk (Hp := (fun (z_ : Int) => L15cd.H n g e c7 z_)) (l := (fun (k_ : Nat) (z_ : Int) => L15cd.N g c7 k_ z_)) (oE := L15cd.E) (oT := L15cd.X n g e c7) (oH := L15cd.XH n g e c7) o_ h3 h4

theorem L15cd.spec (n : Nat) (g : Nat → LD) (hn : n ≤ 9223372036854775807) (hg : ∀ (i : Nat), (g i).nm.size ≤ 9223372036854775807) (e : Int) (k2_1 : decide ((↑n : Int) > 64) = false) (p2_1 : ¬(↑n : Int) > 64) (c7 : Int) (i15c_0 : 0 ≤ c7) (i15c_1 : c7 ≤ (↑n : Int) ∨ c7 ≤ 0) (k3_1 : decide (c7 < (↑n : Int)) = true) (p3_1 : c7 < (↑n : Int)) (k_ : Nat) (z_ : Int) (hi_ : L15cd.inv n g e c7 z_) (hm_ : L15cd.mu n g e c7 z_ < k_) : LoopTo Try.prog (loopN Try.f15 3) (L15cd.T n g e c7 z_) (L15cd.H n g e c7 z_) (L15cd.E (L15cd.N g c7 k_ z_)) (L15cd.X n g e c7 (L15cd.N g c7 k_ z_)) (L15cd.XH n g e c7 (L15cd.N g c7 k_ z_)) := by
  refine LoopTo.fuelP mix (fun (z_ : Int) => L15cd.T n g e c7 z_) (fun (z_ : Int) => L15cd.H n g e c7 z_) (fun (z_ : Int) => L15cd.inv n g e c7 z_) (fun (z_ : Int) => L15cd.mu n g e c7 z_) (fun (k_ : Nat) (z_ : Int) => L15cd.N g c7 k_ z_) L15cd.E (L15cd.X n g e c7) (L15cd.XH n g e c7) (others 151 [0, 1, 7, 8]) (others 151 [4]) (others 151 [0, 1, 7]) ?_ k_ z_ hi_ hm_
  clear hm_ hi_ z_ k_
  intro k_ z_ hinv hmu
  revert hinv hmu; revert z_; intro d8 hinv hmu
  have hinv : 0 ≤ d8 ∧ (d8 ≤ c7 ∨ d8 ≤ 0) := hinv
  have hmu : ((c7 - d8).toNat) < k_ + 1 := hmu
  cases h1 : decide (d8 < c7) with
  | true =>
    have h1p := of_decide_eq_true h1
    have o0 : (0 : Int) ≤ c7 := by first | assumption | omega | (exact hg _) | (exact hg _ (by omega)) | (simp_all; done)
    have o1 : c7 < (↑n : Int) := by first | assumption | omega | (exact hg _) | (exact hg _ (by omega)) | (simp_all; done)
    have o2 : (0 : Int) ≤ d8 := by first | assumption | omega | (exact hg _) | (exact hg _ (by omega)) | (simp_all; done)
    have o3 : d8 < (↑n : Int) := by first | assumption | omega | (exact hg _) | (exact hg _ (by omega)) | (simp_all; done)
    cases h2 : (g c7.toNat).nm.toList == (g d8.toNat).nm.toList with
    | true =>
      have h2p := str_eq h2
      exact ⟨[.b true, .b true], kmp (by kernel_rfl) (And.intro h1 (And.intro (And.intro o0 o1) (And.intro (And.intro o2 o3) (And.intro h2 (L15cd.en n g e c7 (k_ := k_) (z_ := d8) (.e0 : L15cd.O) (by first | (simp only [L15cd.N, h1, h2, cond_true, cond_false]; done) | (try unfold L15cd.N; try simp only [h1, cond_true, cond_false]; try simp only [h2, cond_true, cond_false]; try rfl; done)) PopOk.same)))))⟩
    | false =>
      have h2p := str_ne h2
      try have := IntWalk.i64_in (d8 + 1) (by omega)
      have o4 : (0 : Int) ≤ IntKind.i64.wrap (d8 + (1 : Int)) := by first | assumption | omega | (exact hg _) | (exact hg _ (by omega)) | (simp_all; done)
      have o5 : IntKind.i64.wrap (d8 + (1 : Int)) ≤ c7 ∨ IntKind.i64.wrap (d8 + (1 : Int)) ≤ (0 : Int) := by first | assumption | omega | (exact hg _) | (exact hg _ (by omega)) | (simp_all; done)
      have o6 : (c7 - IntKind.i64.wrap (d8 + (1 : Int))).toNat < (c7 - d8).toNat := by first | assumption | omega | (exact hg _) | (exact hg _ (by omega)) | (simp_all; done)
      exact ⟨[.b true, .b false], kmp (by kernel_rfl) (And.intro h1 (And.intro (And.intro o0 o1) (And.intro (And.intro o2 o3) (And.intro h2 (L15cd.nx n g e c7 (k_ := k_) (z_ := d8) (IntKind.i64.wrap (d8 + 1)) (And.intro o4 o5) o6 (by first | (simp only [L15cd.N, h1, h2, cond_true, cond_false]; done) | (try unfold L15cd.N; try simp only [h1, cond_true, cond_false]; try simp only [h2, cond_true, cond_false]; try rfl; done)) PopOk.same)))))⟩
  | false =>
    have h1p := of_decide_eq_false h1
    exact ⟨[.b false], kmp (by kernel_rfl) (And.intro h1 (L15cd.en n g e c7 (k_ := k_) (z_ := d8) (.e1 : L15cd.O) (by first | (simp only [L15cd.N, h1, cond_true, cond_false]; done) | (try unfold L15cd.N; try simp only [h1, cond_true, cond_false]; try rfl; done)) PopOk.same))⟩

theorem L15cd.e0 (n : Nat) (g : Nat → LD) (hn : n ≤ 9223372036854775807) (hg : ∀ (i : Nat), (g i).nm.size ≤ 9223372036854775807) (e : Int) (k2_1 : decide ((↑n : Int) > 64) = false) (p2_1 : ¬(↑n : Int) > 64) (c7 : Int) (i15c_0 : 0 ≤ c7) (i15c_1 : c7 ≤ (↑n : Int) ∨ c7 ≤ 0) (k3_1 : decide (c7 < (↑n : Int)) = true) (p3_1 : c7 < (↑n : Int)) (d8 : Int) (hinv : L15cd.inv n g e c7 d8) (hN : L15cd.run g c7 d8 = (.e0 : L15cd.O)) : LoopTo Try.prog (loopN Try.f15 3) (L15cd.T n g e c7 d8) (L15cd.H n g e c7 d8) (Exit.ret) (L15cd.X n g e c7 (.e0 : L15cd.O)) (L15cd.XH n g e c7 (.e0 : L15cd.O)) := by
  have h_ := L15cd.spec n g hn hg e k2_1 p2_1 c7 i15c_0 i15c_1 k3_1 p3_1 (((c7 - d8).toNat) + 1) d8 hinv (Nat.lt_succ_self _)
  unfold L15cd.run at hN
  simp only [hN] at h_
  exact h_

theorem L15cd.e1 (n : Nat) (g : Nat → LD) (hn : n ≤ 9223372036854775807) (hg : ∀ (i : Nat), (g i).nm.size ≤ 9223372036854775807) (e : Int) (k2_1 : decide ((↑n : Int) > 64) = false) (p2_1 : ¬(↑n : Int) > 64) (c7 : Int) (i15c_0 : 0 ≤ c7) (i15c_1 : c7 ≤ (↑n : Int) ∨ c7 ≤ 0) (k3_1 : decide (c7 < (↑n : Int)) = true) (p3_1 : c7 < (↑n : Int)) (d8 : Int) (hinv : L15cd.inv n g e c7 d8) (hN : L15cd.run g c7 d8 = (.e1 : L15cd.O)) : LoopTo Try.prog (loopN Try.f15 3) (L15cd.T n g e c7 d8) (L15cd.H n g e c7 d8) (Exit.exit 6) (L15cd.X n g e c7 (.e1 : L15cd.O)) (L15cd.XH n g e c7 (.e1 : L15cd.O)) := by
  have h_ := L15cd.spec n g hn hg e k2_1 p2_1 c7 i15c_0 i15c_1 k3_1 p3_1 (((c7 - d8).toNat) + 1) d8 hinv (Nat.lt_succ_self _)
  unfold L15cd.run at hN
  simp only [hN] at h_
  exact h_

inductive L15c.O where
  | e0
  | e1

noncomputable def L15c.T (n : Nat) (g : Nat → LD) (e : Int) (c7 : Int) : List AV := mkT 151 [(0, AV.sl 4 n fun (i : Nat) => AV.agg [AV.str (g i).nm, AV.int IntKind.i64 (g i).lo, AV.int IntKind.i64 (g i).ln, AV.int IntKind.i64 (g i).ms]), (1, AV.int IntKind.i64 e), (7, AV.int IntKind.i64 c7)]

noncomputable def L15c.H (n : Nat) (g : Nat → LD) (e : Int) (c7 : Int) : AHeap := []

def L15c.inv (n : Nat) (g : Nat → LD) (e : Int) (c7 : Int) : Prop := 0 ≤ c7 ∧ (c7 ≤ (↑n : Int) ∨ c7 ≤ 0)

noncomputable def L15c.mu (n : Nat) (g : Nat → LD) (e : Int) (c7 : Int) : Nat := ((↑n : Int) - c7).toNat

noncomputable def L15c.E : L15c.O → Exit
  | .e0 => Exit.ret
  | .e1 => Exit.exit 4

noncomputable def L15c.X (n : Nat) (g : Nat → LD) (e : Int) : L15c.O → List AV
  | .e0 => mkT 151 [(4, (AV.int IntKind.i64 5))]
  | .e1 => mkT 151 [(0, (AV.sl 4 n fun (i : Nat) => AV.agg [AV.str (g i).nm, AV.int IntKind.i64 (g i).lo, AV.int IntKind.i64 (g i).ln, AV.int IntKind.i64 (g i).ms])), (1, (AV.int IntKind.i64 e))]

noncomputable def L15c.XH (n : Nat) (g : Nat → LD) (e : Int) : L15c.O → AHeap
  | .e0 => ([])
  | .e1 => ([])

noncomputable def L15c.N (n : Nat) (g : Nat → LD) : Nat → Int → L15c.O
  | 0, _ => .e0
  | k_ + 1, c7 => (bif decide (c7 < (↑n : Int)) then (match L15cd.run g c7 0 with | .e0 => (.e0) | .e1 => (L15c.N n g k_ (IntKind.i64.wrap (c7 + 1))) ) else (.e1))

noncomputable def L15c.run (n : Nat) (g : Nat → LD) (c7 : Int) : L15c.O := L15c.N n g ((((↑n : Int) - c7).toNat) + 1) c7

theorem L15c.nx (n : Nat) (g : Nat → LD) (e : Int) {k_ : Nat} {z_ : Int} {h_ : AHeap} (s_ : Int) (h1 : L15c.inv n g e s_) (h2 : L15c.mu n g e s_ < L15c.mu n g e z_) (h3 : L15c.N n g k_ s_ = L15c.N n g (k_ + 1) z_) (h4 : PopOk (L15c.H n g e z_) h_ (L15c.T n g e s_) (L15c.H n g e s_)) : LNextP (fun (z_ : Int) => L15c.T n g e z_) (fun (z_ : Int) => L15c.H n g e z_) (fun (z_ : Int) => L15c.inv n g e z_) (fun (z_ : Int) => L15c.mu n g e z_) (fun (k_ : Nat) (z_ : Int) => L15c.N n g k_ z_) k_ z_ (L15c.T n g e s_) h_ := LNextP.mk (Tm := (fun (z_ : Int) => L15c.T n g e z_)) (Hp := (fun (z_ : Int) => L15c.H n g e z_)) (inv := (fun (z_ : Int) => L15c.inv n g e z_)) (mu := (fun (z_ : Int) => L15c.mu n g e z_)) (l := (fun (k_ : Nat) (z_ : Int) => L15c.N n g k_ z_)) s_ h1 h2 h3 h4

theorem L15c.en (n : Nat) (g : Nat → LD) (e : Int) {k_ : Nat} {z_ : Int} {h_ : AHeap} (o_ : L15c.O) (h3 : L15c.N n g (k_ + 1) z_ = o_) (h4 : PopOk (L15c.H n g e z_) h_ (L15c.X n g e o_) (L15c.XH n g e o_)) : LEndP (fun (z_ : Int) => L15c.H n g e z_) (fun (k_ : Nat) (z_ : Int) => L15c.N n g k_ z_) L15c.E (L15c.X n g e) (L15c.XH n g e) k_ z_ (L15c.E o_) (L15c.X n g e o_) h_ := LEndP.mk (Hp := (fun (z_ : Int) => L15c.H n g e z_)) (l := (fun (k_ : Nat) (z_ : Int) => L15c.N n g k_ z_)) (oE := L15c.E) (oT := L15c.X n g e) (oH := L15c.XH n g e) o_ h3 h4

theorem L15c.spec (n : Nat) (g : Nat → LD) (hn : n ≤ 9223372036854775807) (hg : ∀ (i : Nat), (g i).nm.size ≤ 9223372036854775807) (e : Int) (k2_1 : decide ((↑n : Int) > 64) = false) (p2_1 : ¬(↑n : Int) > 64) (k_ : Nat) (z_ : Int) (hi_ : L15c.inv n g e z_) (hm_ : L15c.mu n g e z_ < k_) : LoopTo Try.prog (loopN Try.f15 2) (L15c.T n g e z_) (L15c.H n g e z_) (L15c.E (L15c.N n g k_ z_)) (L15c.X n g e (L15c.N n g k_ z_)) (L15c.XH n g e (L15c.N n g k_ z_)) := by
  refine LoopTo.fuelP mix (fun (z_ : Int) => L15c.T n g e z_) (fun (z_ : Int) => L15c.H n g e z_) (fun (z_ : Int) => L15c.inv n g e z_) (fun (z_ : Int) => L15c.mu n g e z_) (fun (k_ : Nat) (z_ : Int) => L15c.N n g k_ z_) L15c.E (L15c.X n g e) (L15c.XH n g e) (others 151 [0, 1, 7]) (others 151 [4]) (others 151 [0, 1]) ?_ k_ z_ hi_ hm_
  clear hm_ hi_ z_ k_
  intro k_ z_ hinv hmu
  revert hinv hmu; revert z_; intro c7 hinv hmu
  have hinv : 0 ≤ c7 ∧ (c7 ≤ (↑n : Int) ∨ c7 ≤ 0) := hinv
  have hmu : (((↑n : Int) - c7).toNat) < k_ + 1 := hmu
  cases h1 : decide (c7 < (↑n : Int)) with
  | true =>
    have h1p := of_decide_eq_true h1
    have o0 : n ≤ (9223372036854775807 : Nat) := by first | assumption | omega | (exact hg _) | (exact hg _ (by omega)) | (simp_all; done)
    have o1 : ∀ (i : Nat), (g i).nm.size ≤ (9223372036854775807 : Nat) := by first | assumption | omega | (exact hg _) | (exact hg _ (by omega)) | (simp_all; done)
    have o2 : decide ((↑n : Int) > (64 : Int)) = false := by first | assumption | omega | (exact hg _) | (exact hg _ (by omega)) | (simp_all; done)
    have o3 : ¬(↑n : Int) > (64 : Int) := by first | assumption | (exact hg _) | (exact hg _ (by omega)) | (simp_all; done)
    have o4 : (0 : Int) ≤ c7 := by first | assumption | omega | (exact hg _) | (exact hg _ (by omega)) | (simp_all; done)
    have o5 : c7 ≤ (↑n : Int) ∨ c7 ≤ (0 : Int) := by first | assumption | omega | (exact hg _) | (exact hg _ (by omega)) | (simp_all; done)
    have o6 : decide (c7 < (↑n : Int)) = true := by first | assumption | omega | (exact hg _) | (exact hg _ (by omega)) | (simp_all; done)
    have o7 : c7 < (↑n : Int) := by first | assumption | omega | (exact hg _) | (exact hg _ (by omega)) | (simp_all; done)
    have o8 : (0 : Int) ≤ c7 ∨ (0 : Int) ≤ (0 : Int) := by first | assumption | omega | (exact hg _) | (exact hg _ (by omega)) | (simp_all; done)
    cases h2 : L15cd.run g c7 0 with
    | e0 =>
      exact ⟨[.b true, .loop (others 151 [0, 1, 7, 8]) (Exit.ret) (L15cd.X n g e c7 L15cd.O.e0) (L15cd.XH n g e c7 L15cd.O.e0)], kmp (by kernel_rfl) (And.intro h1 (And.intro (L15cd.e0 (n) (g) o0 o1 (e) o2 o3 (c7) o4 o5 o6 o7 (0) (And.intro (show (0 : Int) ≤ (0 : Int) by first | decide | exact Int.NonNeg.mk _) o8) h2) (L15c.en n g e (k_ := k_) (z_ := c7) (.e0 : L15c.O) (by first | (simp only [L15c.N, h1, h2, cond_true, cond_false]; done) | (try unfold L15c.N; try simp only [h1, cond_true, cond_false]; try simp only [h2, cond_true, cond_false]; try rfl; done)) PopOk.same)))⟩
    | e1 =>
      try have := IntWalk.i64_in (c7 + 1) (by omega)
      have o9 : (0 : Int) ≤ IntKind.i64.wrap (c7 + (1 : Int)) := by first | assumption | omega | (exact hg _) | (exact hg _ (by omega)) | (simp_all; done)
      have o10 : IntKind.i64.wrap (c7 + (1 : Int)) ≤ (↑n : Int) ∨ IntKind.i64.wrap (c7 + (1 : Int)) ≤ (0 : Int) := by first | assumption | omega | (exact hg _) | (exact hg _ (by omega)) | (simp_all; done)
      have o11 : ((↑n : Int) - IntKind.i64.wrap (c7 + (1 : Int))).toNat < ((↑n : Int) - c7).toNat := by first | assumption | omega | (exact hg _) | (exact hg _ (by omega)) | (simp_all; done)
      exact ⟨[.b true, .loop (others 151 [0, 1, 7, 8]) (Exit.exit 6) (L15cd.X n g e c7 L15cd.O.e1) (L15cd.XH n g e c7 L15cd.O.e1)], kmp (by kernel_rfl) (And.intro h1 (And.intro (L15cd.e1 (n) (g) o0 o1 (e) o2 o3 (c7) o4 o5 o6 o7 (0) (And.intro (show (0 : Int) ≤ (0 : Int) by first | decide | exact Int.NonNeg.mk _) o8) h2) (L15c.nx n g e (k_ := k_) (z_ := c7) (IntKind.i64.wrap (c7 + 1)) (And.intro o9 o10) o11 (by first | (simp only [L15c.N, h1, h2, cond_true, cond_false]; done) | (try unfold L15c.N; try simp only [h1, cond_true, cond_false]; try simp only [h2, cond_true, cond_false]; try rfl; done)) PopOk.same)))⟩
  | false =>
    have h1p := of_decide_eq_false h1
    exact ⟨[.b false], kmp (by kernel_rfl) (And.intro h1 (L15c.en n g e (k_ := k_) (z_ := c7) (.e1 : L15c.O) (by first | (simp only [L15c.N, h1, cond_true, cond_false]; done) | (try unfold L15c.N; try simp only [h1, cond_true, cond_false]; try rfl; done)) PopOk.same))⟩

theorem L15c.e0 (n : Nat) (g : Nat → LD) (hn : n ≤ 9223372036854775807) (hg : ∀ (i : Nat), (g i).nm.size ≤ 9223372036854775807) (e : Int) (k2_1 : decide ((↑n : Int) > 64) = false) (p2_1 : ¬(↑n : Int) > 64) (c7 : Int) (hinv : L15c.inv n g e c7) (hN : L15c.run n g c7 = (.e0 : L15c.O)) : LoopTo Try.prog (loopN Try.f15 2) (L15c.T n g e c7) (L15c.H n g e c7) (Exit.ret) (L15c.X n g e (.e0 : L15c.O)) (L15c.XH n g e (.e0 : L15c.O)) := by
  have h_ := L15c.spec n g hn hg e k2_1 p2_1 ((((↑n : Int) - c7).toNat) + 1) c7 hinv (Nat.lt_succ_self _)
  unfold L15c.run at hN
  simp only [hN] at h_
  exact h_

theorem L15c.e1 (n : Nat) (g : Nat → LD) (hn : n ≤ 9223372036854775807) (hg : ∀ (i : Nat), (g i).nm.size ≤ 9223372036854775807) (e : Int) (k2_1 : decide ((↑n : Int) > 64) = false) (p2_1 : ¬(↑n : Int) > 64) (c7 : Int) (hinv : L15c.inv n g e c7) (hN : L15c.run n g c7 = (.e1 : L15c.O)) : LoopTo Try.prog (loopN Try.f15 2) (L15c.T n g e c7) (L15c.H n g e c7) (Exit.exit 4) (L15c.X n g e (.e1 : L15c.O)) (L15c.XH n g e (.e1 : L15c.O)) := by
  have h_ := L15c.spec n g hn hg e k2_1 p2_1 ((((↑n : Int) - c7).toNat) + 1) c7 hinv (Nat.lt_succ_self _)
  unfold L15c.run at hN
  simp only [hN] at h_
  exact h_

inductive L15e.O where
  | e0
  | e1

noncomputable def L15e.T (n : Nat) (g : Nat → LD) (e : Int) (e9 : Int) : List AV := mkT 151 [(0, AV.sl 4 n fun (i : Nat) => AV.agg [AV.str (g i).nm, AV.int IntKind.i64 (g i).lo, AV.int IntKind.i64 (g i).ln, AV.int IntKind.i64 (g i).ms]), (1, AV.int IntKind.i64 e), (9, AV.int IntKind.i64 e9)]

noncomputable def L15e.H (n : Nat) (g : Nat → LD) (e : Int) (e9 : Int) : AHeap := []

def L15e.inv (n : Nat) (g : Nat → LD) (e : Int) (e9 : Int) : Prop := 0 ≤ e9 ∧ (e9 ≤ (↑n : Int) ∨ e9 ≤ 0)

noncomputable def L15e.mu (n : Nat) (g : Nat → LD) (e : Int) (e9 : Int) : Nat := ((↑n : Int) - e9).toNat

noncomputable def L15e.E : L15e.O → Exit
  | .e0 => Exit.ret
  | .e1 => Exit.exit 8

noncomputable def L15e.X (n : Nat) (g : Nat → LD) (e : Int) : L15e.O → List AV
  | .e0 => mkT 151 [(4, (AV.int IntKind.i64 12))]
  | .e1 => mkT 151 [(0, (AV.sl 4 n fun (i : Nat) => AV.agg [AV.str (g i).nm, AV.int IntKind.i64 (g i).lo, AV.int IntKind.i64 (g i).ln, AV.int IntKind.i64 (g i).ms]))]

noncomputable def L15e.XH (n : Nat) (g : Nat → LD) (e : Int) : L15e.O → AHeap
  | .e0 => ([])
  | .e1 => ([])

noncomputable def L15e.N (n : Nat) (g : Nat → LD) (e : Int) : Nat → Int → L15e.O
  | 0, _ => .e0
  | k_ + 1, e9 => (bif decide (e9 < (↑n : Int)) then (bif decide (e ≥ 0) then (bif decide (IntKind.i64.wrap ((g e9.toNat).lo + (g e9.toNat).ln) > e) then (.e0) else (L15e.N n g e k_ (IntKind.i64.wrap (e9 + 1)))) else (L15e.N n g e k_ (IntKind.i64.wrap (e9 + 1)))) else (.e1))

noncomputable def L15e.run (n : Nat) (g : Nat → LD) (e : Int) (e9 : Int) : L15e.O := L15e.N n g e ((((↑n : Int) - e9).toNat) + 1) e9

theorem L15e.nx (n : Nat) (g : Nat → LD) (e : Int) {k_ : Nat} {z_ : Int} {h_ : AHeap} (s_ : Int) (h1 : L15e.inv n g e s_) (h2 : L15e.mu n g e s_ < L15e.mu n g e z_) (h3 : L15e.N n g e k_ s_ = L15e.N n g e (k_ + 1) z_) (h4 : PopOk (L15e.H n g e z_) h_ (L15e.T n g e s_) (L15e.H n g e s_)) : LNextP (fun (z_ : Int) => L15e.T n g e z_) (fun (z_ : Int) => L15e.H n g e z_) (fun (z_ : Int) => L15e.inv n g e z_) (fun (z_ : Int) => L15e.mu n g e z_) (fun (k_ : Nat) (z_ : Int) => L15e.N n g e k_ z_) k_ z_ (L15e.T n g e s_) h_ := LNextP.mk (Tm := (fun (z_ : Int) => L15e.T n g e z_)) (Hp := (fun (z_ : Int) => L15e.H n g e z_)) (inv := (fun (z_ : Int) => L15e.inv n g e z_)) (mu := (fun (z_ : Int) => L15e.mu n g e z_)) (l := (fun (k_ : Nat) (z_ : Int) => L15e.N n g e k_ z_)) s_ h1 h2 h3 h4

theorem L15e.en (n : Nat) (g : Nat → LD) (e : Int) {k_ : Nat} {z_ : Int} {h_ : AHeap} (o_ : L15e.O) (h3 : L15e.N n g e (k_ + 1) z_ = o_) (h4 : PopOk (L15e.H n g e z_) h_ (L15e.X n g e o_) (L15e.XH n g e o_)) : LEndP (fun (z_ : Int) => L15e.H n g e z_) (fun (k_ : Nat) (z_ : Int) => L15e.N n g e k_ z_) L15e.E (L15e.X n g e) (L15e.XH n g e) k_ z_ (L15e.E o_) (L15e.X n g e o_) h_ := LEndP.mk (Hp := (fun (z_ : Int) => L15e.H n g e z_)) (l := (fun (k_ : Nat) (z_ : Int) => L15e.N n g e k_ z_)) (oE := L15e.E) (oT := L15e.X n g e) (oH := L15e.XH n g e) o_ h3 h4

theorem L15e.spec (n : Nat) (g : Nat → LD) (hn : n ≤ 9223372036854775807) (hg : ∀ (i : Nat), (g i).nm.size ≤ 9223372036854775807) (e : Int) (k4_1 : decide ((↑n : Int) > 64) = false) (p4_1 : ¬(↑n : Int) > 64) (k_ : Nat) (z_ : Int) (hi_ : L15e.inv n g e z_) (hm_ : L15e.mu n g e z_ < k_) : LoopTo Try.prog (loopN Try.f15 4) (L15e.T n g e z_) (L15e.H n g e z_) (L15e.E (L15e.N n g e k_ z_)) (L15e.X n g e (L15e.N n g e k_ z_)) (L15e.XH n g e (L15e.N n g e k_ z_)) := by
  refine LoopTo.fuelP mix (fun (z_ : Int) => L15e.T n g e z_) (fun (z_ : Int) => L15e.H n g e z_) (fun (z_ : Int) => L15e.inv n g e z_) (fun (z_ : Int) => L15e.mu n g e z_) (fun (k_ : Nat) (z_ : Int) => L15e.N n g e k_ z_) L15e.E (L15e.X n g e) (L15e.XH n g e) (others 151 [0, 1, 9]) (others 151 [4]) (others 151 [0]) ?_ k_ z_ hi_ hm_
  clear hm_ hi_ z_ k_
  intro k_ z_ hinv hmu
  revert hinv hmu; revert z_; intro e9 hinv hmu
  have hinv : 0 ≤ e9 ∧ (e9 ≤ (↑n : Int) ∨ e9 ≤ 0) := hinv
  have hmu : (((↑n : Int) - e9).toNat) < k_ + 1 := hmu
  cases h1 : decide (e9 < (↑n : Int)) with
  | true =>
    have h1p := of_decide_eq_true h1
    cases h2 : decide (e ≥ 0) with
    | true =>
      have h2p := of_decide_eq_true h2
      have o0 : (0 : Int) ≤ e9 := by first | assumption | omega | (exact hg _) | (exact hg _ (by omega)) | (simp_all; done)
      have o1 : e9 < (↑n : Int) := by first | assumption | omega | (exact hg _) | (exact hg _ (by omega)) | (simp_all; done)
      cases h3 : decide (IntKind.i64.wrap ((g e9.toNat).lo + (g e9.toNat).ln) > e) with
      | true =>
        have h3p := of_decide_eq_true h3
        exact ⟨[.b true, .b true, .b true, .b true, .b true, .b true, .b true, .b true, .b true, .b true, .b true, .b true, .b true, .b true, .b true, .b true], kmp (by kernel_rfl) (And.intro h1 (And.intro h2 (And.intro h2 (And.intro h2 (And.intro (And.intro o0 o1) (And.intro h2 (And.intro h2 (And.intro h2 (And.intro h2 (And.intro h2 (And.intro (And.intro o0 o1) (And.intro h2 (And.intro h2 (And.intro h2 (And.intro h2 (And.intro h2 (And.intro h2 (And.intro h3 (L15e.en n g e (k_ := k_) (z_ := e9) (.e0 : L15e.O) (by first | (simp only [L15e.N, h1, h2, h3, cond_true, cond_false]; done) | (try unfold L15e.N; try simp only [h1, cond_true, cond_false]; try simp only [h2, cond_true, cond_false]; try simp only [h3, cond_true, cond_false]; try rfl; done)) PopOk.same)))))))))))))))))))⟩
      | false =>
        have h3p := of_decide_eq_false h3
        try have := IntWalk.i64_in (e9 + 1) (by omega)
        have o2 : (0 : Int) ≤ IntKind.i64.wrap (e9 + (1 : Int)) := by first | assumption | omega | (exact hg _) | (exact hg _ (by omega)) | (simp_all; done)
        have o3 : IntKind.i64.wrap (e9 + (1 : Int)) ≤ (↑n : Int) ∨ IntKind.i64.wrap (e9 + (1 : Int)) ≤ (0 : Int) := by first | assumption | omega | (exact hg _) | (exact hg _ (by omega)) | (simp_all; done)
        have o4 : ((↑n : Int) - IntKind.i64.wrap (e9 + (1 : Int))).toNat < ((↑n : Int) - e9).toNat := by first | assumption | omega | (exact hg _) | (exact hg _ (by omega)) | (simp_all; done)
        exact ⟨[.b true, .b true, .b true, .b true, .b true, .b true, .b true, .b true, .b true, .b true, .b true, .b true, .b true, .b true, .b true, .b false], kmp (by kernel_rfl) (And.intro h1 (And.intro h2 (And.intro h2 (And.intro h2 (And.intro (And.intro o0 o1) (And.intro h2 (And.intro h2 (And.intro h2 (And.intro h2 (And.intro h2 (And.intro (And.intro o0 o1) (And.intro h2 (And.intro h2 (And.intro h2 (And.intro h2 (And.intro h2 (And.intro h2 (And.intro h3 (L15e.nx n g e (k_ := k_) (z_ := e9) (IntKind.i64.wrap (e9 + 1)) (And.intro o2 o3) o4 (by first | (simp only [L15e.N, h1, h2, h3, cond_true, cond_false]; done) | (try unfold L15e.N; try simp only [h1, cond_true, cond_false]; try simp only [h2, cond_true, cond_false]; try simp only [h3, cond_true, cond_false]; try rfl; done)) PopOk.same)))))))))))))))))))⟩
    | false =>
      have h2p := of_decide_eq_false h2
      try have := IntWalk.i64_in (e9 + 1) (by omega)
      have o2 : (0 : Int) ≤ IntKind.i64.wrap (e9 + (1 : Int)) := by first | assumption | omega | (exact hg _) | (exact hg _ (by omega)) | (simp_all; done)
      have o3 : IntKind.i64.wrap (e9 + (1 : Int)) ≤ (↑n : Int) ∨ IntKind.i64.wrap (e9 + (1 : Int)) ≤ (0 : Int) := by first | assumption | omega | (exact hg _) | (exact hg _ (by omega)) | (simp_all; done)
      have o4 : ((↑n : Int) - IntKind.i64.wrap (e9 + (1 : Int))).toNat < ((↑n : Int) - e9).toNat := by first | assumption | omega | (exact hg _) | (exact hg _ (by omega)) | (simp_all; done)
      exact ⟨[.b true, .b false, .b false, .b false, .b false, .b false, .b false, .b false, .b false, .b false, .b false, .b false, .b false, .b false, .b false, .b false], kmp (by kernel_rfl) (And.intro h1 (And.intro h2 (And.intro h2 (And.intro h2 (And.intro h2 (And.intro h2 (And.intro h2 (And.intro h2 (And.intro h2 (And.intro h2 (And.intro h2 (And.intro h2 (And.intro h2 (And.intro h2 (And.intro h2 (And.intro (rfl : false = false) (L15e.nx n g e (k_ := k_) (z_ := e9) (IntKind.i64.wrap (e9 + 1)) (And.intro o2 o3) o4 (by first | (simp only [L15e.N, h1, h2, cond_true, cond_false]; done) | (try unfold L15e.N; try simp only [h1, cond_true, cond_false]; try simp only [h2, cond_true, cond_false]; try rfl; done)) PopOk.same)))))))))))))))))⟩
  | false =>
    have h1p := of_decide_eq_false h1
    exact ⟨[.b false], kmp (by kernel_rfl) (And.intro h1 (L15e.en n g e (k_ := k_) (z_ := e9) (.e1 : L15e.O) (by first | (simp only [L15e.N, h1, cond_true, cond_false]; done) | (try unfold L15e.N; try simp only [h1, cond_true, cond_false]; try rfl; done)) PopOk.same))⟩

theorem L15e.e0 (n : Nat) (g : Nat → LD) (hn : n ≤ 9223372036854775807) (hg : ∀ (i : Nat), (g i).nm.size ≤ 9223372036854775807) (e : Int) (k4_1 : decide ((↑n : Int) > 64) = false) (p4_1 : ¬(↑n : Int) > 64) (e9 : Int) (hinv : L15e.inv n g e e9) (hN : L15e.run n g e e9 = (.e0 : L15e.O)) : LoopTo Try.prog (loopN Try.f15 4) (L15e.T n g e e9) (L15e.H n g e e9) (Exit.ret) (L15e.X n g e (.e0 : L15e.O)) (L15e.XH n g e (.e0 : L15e.O)) := by
  have h_ := L15e.spec n g hn hg e k4_1 p4_1 ((((↑n : Int) - e9).toNat) + 1) e9 hinv (Nat.lt_succ_self _)
  unfold L15e.run at hN
  simp only [hN] at h_
  exact h_

theorem L15e.e1 (n : Nat) (g : Nat → LD) (hn : n ≤ 9223372036854775807) (hg : ∀ (i : Nat), (g i).nm.size ≤ 9223372036854775807) (e : Int) (k4_1 : decide ((↑n : Int) > 64) = false) (p4_1 : ¬(↑n : Int) > 64) (e9 : Int) (hinv : L15e.inv n g e e9) (hN : L15e.run n g e e9 = (.e1 : L15e.O)) : LoopTo Try.prog (loopN Try.f15 4) (L15e.T n g e e9) (L15e.H n g e e9) (Exit.exit 8) (L15e.X n g e (.e1 : L15e.O)) (L15e.XH n g e (.e1 : L15e.O)) := by
  have h_ := L15e.spec n g hn hg e k4_1 p4_1 ((((↑n : Int) - e9).toNat) + 1) e9 hinv (Nat.lt_succ_self _)
  unfold L15e.run at hN
  simp only [hN] at h_
  exact h_

inductive L15fg.O where
  | e0
  | e1

noncomputable def L15fg.T (n : Nat) (g : Nat → LD) (f10 : Int) (g11 : Int) : List AV := mkT 151 [(0, AV.sl 4 n fun (i : Nat) => AV.agg [AV.str (g i).nm, AV.int IntKind.i64 (g i).lo, AV.int IntKind.i64 (g i).ln, AV.int IntKind.i64 (g i).ms]), (10, AV.int IntKind.i64 f10), (11, AV.int IntKind.i64 g11)]

noncomputable def L15fg.H (n : Nat) (g : Nat → LD) (f10 : Int) (g11 : Int) : AHeap := []

def L15fg.inv (n : Nat) (g : Nat → LD) (f10 : Int) (g11 : Int) : Prop := 0 ≤ g11 ∧ (g11 ≤ f10 ∨ g11 ≤ 0)

noncomputable def L15fg.mu (n : Nat) (g : Nat → LD) (f10 : Int) (g11 : Int) : Nat := (f10 - g11).toNat

noncomputable def L15fg.E : L15fg.O → Exit
  | .e0 => Exit.ret
  | .e1 => Exit.exit 12

noncomputable def L15fg.X (n : Nat) (g : Nat → LD) (f10 : Int) : L15fg.O → List AV
  | .e0 => mkT 151 [(4, (AV.int IntKind.i64 11))]
  | .e1 => mkT 151 [(0, (AV.sl 4 n fun (i : Nat) => AV.agg [AV.str (g i).nm, AV.int IntKind.i64 (g i).lo, AV.int IntKind.i64 (g i).ln, AV.int IntKind.i64 (g i).ms])), (10, (AV.int IntKind.i64 f10))]

noncomputable def L15fg.XH (n : Nat) (g : Nat → LD) (f10 : Int) : L15fg.O → AHeap
  | .e0 => ([])
  | .e1 => ([])

noncomputable def L15fg.N (g : Nat → LD) (f10 : Int) : Nat → Int → L15fg.O
  | 0, _ => .e0
  | k_ + 1, g11 => (bif decide (g11 < f10) then (bif decide ((g f10.toNat).lo < IntKind.i64.wrap ((g g11.toNat).lo + (g g11.toNat).ln)) then (bif decide ((g g11.toNat).lo < IntKind.i64.wrap ((g f10.toNat).lo + (g f10.toNat).ln)) then (.e0) else (L15fg.N g f10 k_ (IntKind.i64.wrap (g11 + 1)))) else (L15fg.N g f10 k_ (IntKind.i64.wrap (g11 + 1)))) else (.e1))

noncomputable def L15fg.run (g : Nat → LD) (f10 : Int) (g11 : Int) : L15fg.O := L15fg.N g f10 (((f10 - g11).toNat) + 1) g11

theorem L15fg.nx (n : Nat) (g : Nat → LD) (f10 : Int) {k_ : Nat} {z_ : Int} {h_ : AHeap} (s_ : Int) (h1 : L15fg.inv n g f10 s_) (h2 : L15fg.mu n g f10 s_ < L15fg.mu n g f10 z_) (h3 : L15fg.N g f10 k_ s_ = L15fg.N g f10 (k_ + 1) z_) (h4 : PopOk (L15fg.H n g f10 z_) h_ (L15fg.T n g f10 s_) (L15fg.H n g f10 s_)) : LNextP (fun (z_ : Int) => L15fg.T n g f10 z_) (fun (z_ : Int) => L15fg.H n g f10 z_) (fun (z_ : Int) => L15fg.inv n g f10 z_) (fun (z_ : Int) => L15fg.mu n g f10 z_) (fun (k_ : Nat) (z_ : Int) => L15fg.N g f10 k_ z_) k_ z_ (L15fg.T n g f10 s_) h_ := LNextP.mk (Tm := (fun (z_ : Int) => L15fg.T n g f10 z_)) (Hp := (fun (z_ : Int) => L15fg.H n g f10 z_)) (inv := (fun (z_ : Int) => L15fg.inv n g f10 z_)) (mu := (fun (z_ : Int) => L15fg.mu n g f10 z_)) (l := (fun (k_ : Nat) (z_ : Int) => L15fg.N g f10 k_ z_)) s_ h1 h2 h3 h4

theorem L15fg.en (n : Nat) (g : Nat → LD) (f10 : Int) {k_ : Nat} {z_ : Int} {h_ : AHeap} (o_ : L15fg.O) (h3 : L15fg.N g f10 (k_ + 1) z_ = o_) (h4 : PopOk (L15fg.H n g f10 z_) h_ (L15fg.X n g f10 o_) (L15fg.XH n g f10 o_)) : LEndP (fun (z_ : Int) => L15fg.H n g f10 z_) (fun (k_ : Nat) (z_ : Int) => L15fg.N g f10 k_ z_) L15fg.E (L15fg.X n g f10) (L15fg.XH n g f10) k_ z_ (L15fg.E o_) (L15fg.X n g f10 o_) h_ := LEndP.mk (Hp := (fun (z_ : Int) => L15fg.H n g f10 z_)) (l := (fun (k_ : Nat) (z_ : Int) => L15fg.N g f10 k_ z_)) (oE := L15fg.E) (oT := L15fg.X n g f10) (oH := L15fg.XH n g f10) o_ h3 h4

theorem L15fg.spec (n : Nat) (g : Nat → LD) (hn : n ≤ 9223372036854775807) (hg : ∀ (i : Nat), (g i).nm.size ≤ 9223372036854775807) (k5_1 : decide ((↑n : Int) > 64) = false) (p5_1 : ¬(↑n : Int) > 64) (f10 : Int) (i15f_0 : 0 ≤ f10) (i15f_1 : f10 ≤ (↑n : Int) ∨ f10 ≤ 0) (k6_1 : decide (f10 < (↑n : Int)) = true) (p6_1 : f10 < (↑n : Int)) (k_ : Nat) (z_ : Int) (hi_ : L15fg.inv n g f10 z_) (hm_ : L15fg.mu n g f10 z_ < k_) : LoopTo Try.prog (loopN Try.f15 6) (L15fg.T n g f10 z_) (L15fg.H n g f10 z_) (L15fg.E (L15fg.N g f10 k_ z_)) (L15fg.X n g f10 (L15fg.N g f10 k_ z_)) (L15fg.XH n g f10 (L15fg.N g f10 k_ z_)) := by
  refine LoopTo.fuelP mix (fun (z_ : Int) => L15fg.T n g f10 z_) (fun (z_ : Int) => L15fg.H n g f10 z_) (fun (z_ : Int) => L15fg.inv n g f10 z_) (fun (z_ : Int) => L15fg.mu n g f10 z_) (fun (k_ : Nat) (z_ : Int) => L15fg.N g f10 k_ z_) L15fg.E (L15fg.X n g f10) (L15fg.XH n g f10) (others 151 [0, 10, 11]) (others 151 [4]) (others 151 [0, 10]) ?_ k_ z_ hi_ hm_
  clear hm_ hi_ z_ k_
  intro k_ z_ hinv hmu
  revert hinv hmu; revert z_; intro g11 hinv hmu
  have hinv : 0 ≤ g11 ∧ (g11 ≤ f10 ∨ g11 ≤ 0) := hinv
  have hmu : ((f10 - g11).toNat) < k_ + 1 := hmu
  cases h1 : decide (g11 < f10) with
  | true =>
    have h1p := of_decide_eq_true h1
    have o0 : (0 : Int) ≤ f10 := by first | assumption | omega | (exact hg _) | (exact hg _ (by omega)) | (simp_all; done)
    have o1 : f10 < (↑n : Int) := by first | assumption | omega | (exact hg _) | (exact hg _ (by omega)) | (simp_all; done)
    have o2 : (0 : Int) ≤ g11 := by first | assumption | omega | (exact hg _) | (exact hg _ (by omega)) | (simp_all; done)
    have o3 : g11 < (↑n : Int) := by first | assumption | omega | (exact hg _) | (exact hg _ (by omega)) | (simp_all; done)
    cases h2 : decide ((g f10.toNat).lo < IntKind.i64.wrap ((g g11.toNat).lo + (g g11.toNat).ln)) with
    | true =>
      have h2p := of_decide_eq_true h2
      cases h3 : decide ((g g11.toNat).lo < IntKind.i64.wrap ((g f10.toNat).lo + (g f10.toNat).ln)) with
      | true =>
        have h3p := of_decide_eq_true h3
        exact ⟨[.b true, .b true, .b true, .b true, .b true, .b true, .b true, .b true, .b true, .b true, .b true, .b true, .b true, .b true, .b true, .b true, .b true, .b true, .b true, .b true], kmp (by kernel_rfl) (And.intro h1 (And.intro (And.intro o0 o1) (And.intro (And.intro o2 o3) (And.intro (And.intro o2 o3) (And.intro h2 (And.intro h2 (And.intro h2 (And.intro (And.intro o2 o3) (And.intro h2 (And.intro h2 (And.intro h2 (And.intro h2 (And.intro h2 (And.intro (And.intro o0 o1) (And.intro h2 (And.intro h2 (And.intro h2 (And.intro h2 (And.intro h2 (And.intro (And.intro o0 o1) (And.intro h2 (And.intro h2 (And.intro h2 (And.intro h2 (And.intro h2 (And.intro h3 (L15fg.en n g f10 (k_ := k_) (z_ := g11) (.e0 : L15fg.O) (by first | (simp only [L15fg.N, h1, h2, h3, cond_true, cond_false]; done) | (try unfold L15fg.N; try simp only [h1, cond_true, cond_false]; try simp only [h2, cond_true, cond_false]; try simp only [h3, cond_true, cond_false]; try rfl; done)) PopOk.same)))))))))))))))))))))))))))⟩
      | false =>
        have h3p := of_decide_eq_false h3
        try have := IntWalk.i64_in (g11 + 1) (by omega)
        have o4 : (0 : Int) ≤ IntKind.i64.wrap (g11 + (1 : Int)) := by first | assumption | omega | (exact hg _) | (exact hg _ (by omega)) | (simp_all; done)
        have o5 : IntKind.i64.wrap (g11 + (1 : Int)) ≤ f10 ∨ IntKind.i64.wrap (g11 + (1 : Int)) ≤ (0 : Int) := by first | assumption | omega | (exact hg _) | (exact hg _ (by omega)) | (simp_all; done)
        have o6 : (f10 - IntKind.i64.wrap (g11 + (1 : Int))).toNat < (f10 - g11).toNat := by first | assumption | omega | (exact hg _) | (exact hg _ (by omega)) | (simp_all; done)
        exact ⟨[.b true, .b true, .b true, .b true, .b true, .b true, .b true, .b true, .b true, .b true, .b true, .b true, .b true, .b true, .b true, .b true, .b true, .b true, .b true, .b false], kmp (by kernel_rfl) (And.intro h1 (And.intro (And.intro o0 o1) (And.intro (And.intro o2 o3) (And.intro (And.intro o2 o3) (And.intro h2 (And.intro h2 (And.intro h2 (And.intro (And.intro o2 o3) (And.intro h2 (And.intro h2 (And.intro h2 (And.intro h2 (And.intro h2 (And.intro (And.intro o0 o1) (And.intro h2 (And.intro h2 (And.intro h2 (And.intro h2 (And.intro h2 (And.intro (And.intro o0 o1) (And.intro h2 (And.intro h2 (And.intro h2 (And.intro h2 (And.intro h2 (And.intro h3 (L15fg.nx n g f10 (k_ := k_) (z_ := g11) (IntKind.i64.wrap (g11 + 1)) (And.intro o4 o5) o6 (by first | (simp only [L15fg.N, h1, h2, h3, cond_true, cond_false]; done) | (try unfold L15fg.N; try simp only [h1, cond_true, cond_false]; try simp only [h2, cond_true, cond_false]; try simp only [h3, cond_true, cond_false]; try rfl; done)) PopOk.same)))))))))))))))))))))))))))⟩
    | false =>
      have h2p := of_decide_eq_false h2
      try have := IntWalk.i64_in (g11 + 1) (by omega)
      have o4 : (0 : Int) ≤ IntKind.i64.wrap (g11 + (1 : Int)) := by first | assumption | omega | (exact hg _) | (exact hg _ (by omega)) | (simp_all; done)
      have o5 : IntKind.i64.wrap (g11 + (1 : Int)) ≤ f10 ∨ IntKind.i64.wrap (g11 + (1 : Int)) ≤ (0 : Int) := by first | assumption | omega | (exact hg _) | (exact hg _ (by omega)) | (simp_all; done)
      have o6 : (f10 - IntKind.i64.wrap (g11 + (1 : Int))).toNat < (f10 - g11).toNat := by first | assumption | omega | (exact hg _) | (exact hg _ (by omega)) | (simp_all; done)
      exact ⟨[.b true, .b false, .b false, .b false, .b false, .b false, .b false, .b false, .b false, .b false, .b false, .b false, .b false, .b false, .b false, .b false, .b false, .b false, .b false, .b false], kmp (by kernel_rfl) (And.intro h1 (And.intro (And.intro o0 o1) (And.intro (And.intro o2 o3) (And.intro (And.intro o2 o3) (And.intro h2 (And.intro h2 (And.intro h2 (And.intro h2 (And.intro h2 (And.intro h2 (And.intro h2 (And.intro h2 (And.intro h2 (And.intro h2 (And.intro h2 (And.intro h2 (And.intro h2 (And.intro h2 (And.intro h2 (And.intro h2 (And.intro h2 (And.intro h2 (And.intro (rfl : false = false) (L15fg.nx n g f10 (k_ := k_) (z_ := g11) (IntKind.i64.wrap (g11 + 1)) (And.intro o4 o5) o6 (by first | (simp only [L15fg.N, h1, h2, cond_true, cond_false]; done) | (try unfold L15fg.N; try simp only [h1, cond_true, cond_false]; try simp only [h2, cond_true, cond_false]; try rfl; done)) PopOk.same))))))))))))))))))))))))⟩
  | false =>
    have h1p := of_decide_eq_false h1
    exact ⟨[.b false], kmp (by kernel_rfl) (And.intro h1 (L15fg.en n g f10 (k_ := k_) (z_ := g11) (.e1 : L15fg.O) (by first | (simp only [L15fg.N, h1, cond_true, cond_false]; done) | (try unfold L15fg.N; try simp only [h1, cond_true, cond_false]; try rfl; done)) PopOk.same))⟩

theorem L15fg.e0 (n : Nat) (g : Nat → LD) (hn : n ≤ 9223372036854775807) (hg : ∀ (i : Nat), (g i).nm.size ≤ 9223372036854775807) (k5_1 : decide ((↑n : Int) > 64) = false) (p5_1 : ¬(↑n : Int) > 64) (f10 : Int) (i15f_0 : 0 ≤ f10) (i15f_1 : f10 ≤ (↑n : Int) ∨ f10 ≤ 0) (k6_1 : decide (f10 < (↑n : Int)) = true) (p6_1 : f10 < (↑n : Int)) (g11 : Int) (hinv : L15fg.inv n g f10 g11) (hN : L15fg.run g f10 g11 = (.e0 : L15fg.O)) : LoopTo Try.prog (loopN Try.f15 6) (L15fg.T n g f10 g11) (L15fg.H n g f10 g11) (Exit.ret) (L15fg.X n g f10 (.e0 : L15fg.O)) (L15fg.XH n g f10 (.e0 : L15fg.O)) := by
  have h_ := L15fg.spec n g hn hg k5_1 p5_1 f10 i15f_0 i15f_1 k6_1 p6_1 (((f10 - g11).toNat) + 1) g11 hinv (Nat.lt_succ_self _)
  unfold L15fg.run at hN
  simp only [hN] at h_
  exact h_

theorem L15fg.e1 (n : Nat) (g : Nat → LD) (hn : n ≤ 9223372036854775807) (hg : ∀ (i : Nat), (g i).nm.size ≤ 9223372036854775807) (k5_1 : decide ((↑n : Int) > 64) = false) (p5_1 : ¬(↑n : Int) > 64) (f10 : Int) (i15f_0 : 0 ≤ f10) (i15f_1 : f10 ≤ (↑n : Int) ∨ f10 ≤ 0) (k6_1 : decide (f10 < (↑n : Int)) = true) (p6_1 : f10 < (↑n : Int)) (g11 : Int) (hinv : L15fg.inv n g f10 g11) (hN : L15fg.run g f10 g11 = (.e1 : L15fg.O)) : LoopTo Try.prog (loopN Try.f15 6) (L15fg.T n g f10 g11) (L15fg.H n g f10 g11) (Exit.exit 12) (L15fg.X n g f10 (.e1 : L15fg.O)) (L15fg.XH n g f10 (.e1 : L15fg.O)) := by
  have h_ := L15fg.spec n g hn hg k5_1 p5_1 f10 i15f_0 i15f_1 k6_1 p6_1 (((f10 - g11).toNat) + 1) g11 hinv (Nat.lt_succ_self _)
  unfold L15fg.run at hN
  simp only [hN] at h_
  exact h_

inductive L15f.O where
  | e0
  | e1

noncomputable def L15f.T (n : Nat) (g : Nat → LD) (f10 : Int) : List AV := mkT 151 [(0, AV.sl 4 n fun (i : Nat) => AV.agg [AV.str (g i).nm, AV.int IntKind.i64 (g i).lo, AV.int IntKind.i64 (g i).ln, AV.int IntKind.i64 (g i).ms]), (10, AV.int IntKind.i64 f10)]

noncomputable def L15f.H (n : Nat) (g : Nat → LD) (f10 : Int) : AHeap := []

def L15f.inv (n : Nat) (g : Nat → LD) (f10 : Int) : Prop := 0 ≤ f10 ∧ (f10 ≤ (↑n : Int) ∨ f10 ≤ 0)

noncomputable def L15f.mu (n : Nat) (g : Nat → LD) (f10 : Int) : Nat := ((↑n : Int) - f10).toNat

noncomputable def L15f.E : L15f.O → Exit
  | .e0 => Exit.ret
  | .e1 => Exit.exit 10

noncomputable def L15f.X (n : Nat) (g : Nat → LD) : L15f.O → List AV
  | .e0 => mkT 151 [(4, (AV.int IntKind.i64 11))]
  | .e1 => mkT 151 []

noncomputable def L15f.XH (n : Nat) (g : Nat → LD) : L15f.O → AHeap
  | .e0 => ([])
  | .e1 => ([])

noncomputable def L15f.N (n : Nat) (g : Nat → LD) : Nat → Int → L15f.O
  | 0, _ => .e0
  | k_ + 1, f10 => (bif decide (f10 < (↑n : Int)) then (match L15fg.run g f10 0 with | .e0 => (.e0) | .e1 => (L15f.N n g k_ (IntKind.i64.wrap (f10 + 1))) ) else (.e1))

noncomputable def L15f.run (n : Nat) (g : Nat → LD) (f10 : Int) : L15f.O := L15f.N n g ((((↑n : Int) - f10).toNat) + 1) f10

theorem L15f.nx (n : Nat) (g : Nat → LD) {k_ : Nat} {z_ : Int} {h_ : AHeap} (s_ : Int) (h1 : L15f.inv n g s_) (h2 : L15f.mu n g s_ < L15f.mu n g z_) (h3 : L15f.N n g k_ s_ = L15f.N n g (k_ + 1) z_) (h4 : PopOk (L15f.H n g z_) h_ (L15f.T n g s_) (L15f.H n g s_)) : LNextP (fun (z_ : Int) => L15f.T n g z_) (fun (z_ : Int) => L15f.H n g z_) (fun (z_ : Int) => L15f.inv n g z_) (fun (z_ : Int) => L15f.mu n g z_) (fun (k_ : Nat) (z_ : Int) => L15f.N n g k_ z_) k_ z_ (L15f.T n g s_) h_ := LNextP.mk (Tm := (fun (z_ : Int) => L15f.T n g z_)) (Hp := (fun (z_ : Int) => L15f.H n g z_)) (inv := (fun (z_ : Int) => L15f.inv n g z_)) (mu := (fun (z_ : Int) => L15f.mu n g z_)) (l := (fun (k_ : Nat) (z_ : Int) => L15f.N n g k_ z_)) s_ h1 h2 h3 h4

theorem L15f.en (n : Nat) (g : Nat → LD) {k_ : Nat} {z_ : Int} {h_ : AHeap} (o_ : L15f.O) (h3 : L15f.N n g (k_ + 1) z_ = o_) (h4 : PopOk (L15f.H n g z_) h_ (L15f.X n g o_) (L15f.XH n g o_)) : LEndP (fun (z_ : Int) => L15f.H n g z_) (fun (k_ : Nat) (z_ : Int) => L15f.N n g k_ z_) L15f.E (L15f.X n g) (L15f.XH n g) k_ z_ (L15f.E o_) (L15f.X n g o_) h_ := LEndP.mk (Hp := (fun (z_ : Int) => L15f.H n g z_)) (l := (fun (k_ : Nat) (z_ : Int) => L15f.N n g k_ z_)) (oE := L15f.E) (oT := L15f.X n g) (oH := L15f.XH n g) o_ h3 h4

theorem L15f.spec (n : Nat) (g : Nat → LD) (hn : n ≤ 9223372036854775807) (hg : ∀ (i : Nat), (g i).nm.size ≤ 9223372036854775807) (k5_1 : decide ((↑n : Int) > 64) = false) (p5_1 : ¬(↑n : Int) > 64) (k_ : Nat) (z_ : Int) (hi_ : L15f.inv n g z_) (hm_ : L15f.mu n g z_ < k_) : LoopTo Try.prog (loopN Try.f15 5) (L15f.T n g z_) (L15f.H n g z_) (L15f.E (L15f.N n g k_ z_)) (L15f.X n g (L15f.N n g k_ z_)) (L15f.XH n g (L15f.N n g k_ z_)) := by
  refine LoopTo.fuelP mix (fun (z_ : Int) => L15f.T n g z_) (fun (z_ : Int) => L15f.H n g z_) (fun (z_ : Int) => L15f.inv n g z_) (fun (z_ : Int) => L15f.mu n g z_) (fun (k_ : Nat) (z_ : Int) => L15f.N n g k_ z_) L15f.E (L15f.X n g) (L15f.XH n g) (others 151 [0, 10]) (others 151 [4]) (others 151 []) ?_ k_ z_ hi_ hm_
  clear hm_ hi_ z_ k_
  intro k_ z_ hinv hmu
  revert hinv hmu; revert z_; intro f10 hinv hmu
  have hinv : 0 ≤ f10 ∧ (f10 ≤ (↑n : Int) ∨ f10 ≤ 0) := hinv
  have hmu : (((↑n : Int) - f10).toNat) < k_ + 1 := hmu
  cases h1 : decide (f10 < (↑n : Int)) with
  | true =>
    have h1p := of_decide_eq_true h1
    have o0 : n ≤ (9223372036854775807 : Nat) := by first | assumption | omega | (exact hg _) | (exact hg _ (by omega)) | (simp_all; done)
    have o1 : ∀ (i : Nat), (g i).nm.size ≤ (9223372036854775807 : Nat) := by first | assumption | omega | (exact hg _) | (exact hg _ (by omega)) | (simp_all; done)
    have o2 : decide ((↑n : Int) > (64 : Int)) = false := by first | assumption | omega | (exact hg _) | (exact hg _ (by omega)) | (simp_all; done)
    have o3 : ¬(↑n : Int) > (64 : Int) := by first | assumption | (exact hg _) | (exact hg _ (by omega)) | (simp_all; done)
    have o4 : (0 : Int) ≤ f10 := by first | assumption | omega | (exact hg _) | (exact hg _ (by omega)) | (simp_all; done)
    have o5 : f10 ≤ (↑n : Int) ∨ f10 ≤ (0 : Int) := by first | assumption | omega | (exact hg _) | (exact hg _ (by omega)) | (simp_all; done)
    have o6 : decide (f10 < (↑n : Int)) = true := by first | assumption | omega | (exact hg _) | (exact hg _ (by omega)) | (simp_all; done)
    have o7 : f10 < (↑n : Int) := by first | assumption | omega | (exact hg _) | (exact hg _ (by omega)) | (simp_all; done)
    have o8 : (0 : Int) ≤ f10 ∨ (0 : Int) ≤ (0 : Int) := by first | assumption | omega | (exact hg _) | (exact hg _ (by omega)) | (simp_all; done)
    cases h2 : L15fg.run g f10 0 with
    | e0 =>
      exact ⟨[.b true, .loop (others 151 [0, 10, 11]) (Exit.ret) (L15fg.X n g f10 L15fg.O.e0) (L15fg.XH n g f10 L15fg.O.e0)], kmp (by kernel_rfl) (And.intro h1 (And.intro (L15fg.e0 (n) (g) o0 o1 o2 o3 (f10) o4 o5 o6 o7 (0) (And.intro (show (0 : Int) ≤ (0 : Int) by first | decide | exact Int.NonNeg.mk _) o8) h2) (L15f.en n g (k_ := k_) (z_ := f10) (.e0 : L15f.O) (by first | (simp only [L15f.N, h1, h2, cond_true, cond_false]; done) | (try unfold L15f.N; try simp only [h1, cond_true, cond_false]; try simp only [h2, cond_true, cond_false]; try rfl; done)) PopOk.same)))⟩
    | e1 =>
      try have := IntWalk.i64_in (f10 + 1) (by omega)
      have o9 : (0 : Int) ≤ IntKind.i64.wrap (f10 + (1 : Int)) := by first | assumption | omega | (exact hg _) | (exact hg _ (by omega)) | (simp_all; done)
      have o10 : IntKind.i64.wrap (f10 + (1 : Int)) ≤ (↑n : Int) ∨ IntKind.i64.wrap (f10 + (1 : Int)) ≤ (0 : Int) := by first | assumption | omega | (exact hg _) | (exact hg _ (by omega)) | (simp_all; done)
      have o11 : ((↑n : Int) - IntKind.i64.wrap (f10 + (1 : Int))).toNat < ((↑n : Int) - f10).toNat := by first | assumption | omega | (exact hg _) | (exact hg _ (by omega)) | (simp_all; done)
      exact ⟨[.b true, .loop (others 151 [0, 10, 11]) (Exit.exit 12) (L15fg.X n g f10 L15fg.O.e1) (L15fg.XH n g f10 L15fg.O.e1)], kmp (by kernel_rfl) (And.intro h1 (And.intro (L15fg.e1 (n) (g) o0 o1 o2 o3 (f10) o4 o5 o6 o7 (0) (And.intro (show (0 : Int) ≤ (0 : Int) by first | decide | exact Int.NonNeg.mk _) o8) h2) (L15f.nx n g (k_ := k_) (z_ := f10) (IntKind.i64.wrap (f10 + 1)) (And.intro o9 o10) o11 (by first | (simp only [L15f.N, h1, h2, cond_true, cond_false]; done) | (try unfold L15f.N; try simp only [h1, cond_true, cond_false]; try simp only [h2, cond_true, cond_false]; try rfl; done)) PopOk.same)))⟩
  | false =>
    have h1p := of_decide_eq_false h1
    exact ⟨[.b false], kmp (by kernel_rfl) (And.intro h1 (L15f.en n g (k_ := k_) (z_ := f10) (.e1 : L15f.O) (by first | (simp only [L15f.N, h1, cond_true, cond_false]; done) | (try unfold L15f.N; try simp only [h1, cond_true, cond_false]; try rfl; done)) PopOk.same))⟩

theorem L15f.e0 (n : Nat) (g : Nat → LD) (hn : n ≤ 9223372036854775807) (hg : ∀ (i : Nat), (g i).nm.size ≤ 9223372036854775807) (k5_1 : decide ((↑n : Int) > 64) = false) (p5_1 : ¬(↑n : Int) > 64) (f10 : Int) (hinv : L15f.inv n g f10) (hN : L15f.run n g f10 = (.e0 : L15f.O)) : LoopTo Try.prog (loopN Try.f15 5) (L15f.T n g f10) (L15f.H n g f10) (Exit.ret) (L15f.X n g (.e0 : L15f.O)) (L15f.XH n g (.e0 : L15f.O)) := by
  have h_ := L15f.spec n g hn hg k5_1 p5_1 ((((↑n : Int) - f10).toNat) + 1) f10 hinv (Nat.lt_succ_self _)
  unfold L15f.run at hN
  simp only [hN] at h_
  exact h_

theorem L15f.e1 (n : Nat) (g : Nat → LD) (hn : n ≤ 9223372036854775807) (hg : ∀ (i : Nat), (g i).nm.size ≤ 9223372036854775807) (k5_1 : decide ((↑n : Int) > 64) = false) (p5_1 : ¬(↑n : Int) > 64) (f10 : Int) (hinv : L15f.inv n g f10) (hN : L15f.run n g f10 = (.e1 : L15f.O)) : LoopTo Try.prog (loopN Try.f15 5) (L15f.T n g f10) (L15f.H n g f10) (Exit.exit 10) (L15f.X n g (.e1 : L15f.O)) (L15f.XH n g (.e1 : L15f.O)) := by
  have h_ := L15f.spec n g hn hg k5_1 p5_1 ((((↑n : Int) - f10).toNat) + 1) f10 hinv (Nat.lt_succ_self _)
  unfold L15f.run at hN
  simp only [hN] at h_
  exact h_

noncomputable def r15.v (n : Nat) (g : Nat → LD) (e : Int) : Int := (bif decide ((↑n : Int) > 64) then 7 else (match L15a.run n g 0 with | .e0 => 4 | .e1 => (match L15b.run n g 0 with | .e0 => 6 | .e1 => (match L15c.run n g 0 with | .e0 => 5 | .e1 => (match L15e.run n g e 0 with | .e0 => 12 | .e1 => (match L15f.run n g 0 with | .e0 => 11 | .e1 => 0 ) ) ) ) ))

theorem r15 (n : Nat) (g : Nat → LD) (hn : n ≤ 9223372036854775807) (hg : ∀ (i : Nat), (g i).nm.size ≤ 9223372036854775807) (e : Int) (h : AHeap) : Ret Try.prog 15 ([lds n g, AV.int IntKind.i64 e]) h (AV.int IntKind.i64 (r15.v n g e)) h := by
  cases h1 : decide ((↑n : Int) > 64) with
  | true =>
    have h1p := of_decide_eq_true h1
    exact Ret.of_run1 mix [(AV.int IntKind.i64 (r15.v n g e))] Try.func15 rfl [.b true] (by simp) (by simp) (kmp (by kernel_rfl) (And.intro h1 (And.intro (show (AV.int IntKind.i64 7) = ((AV.int IntKind.i64 (r15.v n g e))) by first | (simp only [r15.v, h1, cond_true, cond_false]; done) | (try unfold r15.v; try simp only [h1, cond_true, cond_false]; try rfl; done) | rfl) trivial))) h
  | false =>
    have h1p := of_decide_eq_false h1
    have o0 : n ≤ (9223372036854775807 : Nat) := by first | assumption | omega | (exact hg _) | (exact hg _ (by omega)) | (simp_all; done)
    have o1 : ∀ (i : Nat), (g i).nm.size ≤ (9223372036854775807 : Nat) := by first | assumption | omega | (exact hg _) | (exact hg _ (by omega)) | (simp_all; done)
    have o2 : decide ((↑n : Int) > (64 : Int)) = false := by first | assumption | omega | (exact hg _) | (exact hg _ (by omega)) | (simp_all; done)
    have o3 : ¬(↑n : Int) > (64 : Int) := by first | assumption | (exact hg _) | (exact hg _ (by omega)) | (simp_all; done)
    have o4 : (0 : Int) ≤ (↑n : Int) ∨ (0 : Int) ≤ (0 : Int) := by first | assumption | omega | (exact hg _) | (exact hg _ (by omega)) | (simp_all; done)
    cases h2 : L15a.run n g 0 with
    | e0 =>
      exact Ret.of_run1 mix [(AV.int IntKind.i64 (r15.v n g e))] Try.func15 rfl [.b false, .loop (others 151 [0, 1, 5]) (Exit.ret) (L15a.X n g e L15a.O.e0) (L15a.XH n g e L15a.O.e0)] (by simp) (by simp) (kmp (by kernel_rfl) (And.intro h1 (And.intro (L15a.e0 (n) (g) o0 o1 (e) o2 o3 (0) (And.intro (show (0 : Int) ≤ (0 : Int) by first | decide | exact Int.NonNeg.mk _) o4) h2) (And.intro (show (AV.int IntKind.i64 4) = ((AV.int IntKind.i64 (r15.v n g e))) by first | (simp only [r15.v, h1, h2, cond_true, cond_false]; done) | (try unfold r15.v; try simp only [h1, cond_true, cond_false]; try simp only [h2, cond_true, cond_false]; try rfl; done) | rfl) trivial)))) h
    | e1 =>
      cases h3 : L15b.run n g 0 with
      | e0 =>
        exact Ret.of_run1 mix [(AV.int IntKind.i64 (r15.v n g e))] Try.func15 rfl [.b false, .loop (others 151 [0, 1, 5]) (Exit.exit 0) (L15a.X n g e L15a.O.e1) (L15a.XH n g e L15a.O.e1), .loop (others 151 [0, 1, 6]) (Exit.ret) (L15b.X n g e L15b.O.e0) (L15b.XH n g e L15b.O.e0)] (by simp) (by simp) (kmp (by kernel_rfl) (And.intro h1 (And.intro (L15a.e1 (n) (g) o0 o1 (e) o2 o3 (0) (And.intro (show (0 : Int) ≤ (0 : Int) by first | decide | exact Int.NonNeg.mk _) o4) h2) (And.intro (L15b.e0 (n) (g) o0 o1 (e) o2 o3 (0) (And.intro (show (0 : Int) ≤ (0 : Int) by first | decide | exact Int.NonNeg.mk _) o4) h3) (And.intro (show (AV.int IntKind.i64 6) = ((AV.int IntKind.i64 (r15.v n g e))) by first | (simp only [r15.v, h1, h2, h3, cond_true, cond_false]; done) | (try unfold r15.v; try simp only [h1, cond_true, cond_false]; try simp only [h2, cond_true, cond_false]; try simp only [h3, cond_true, cond_false]; try rfl; done) | rfl) trivial))))) h
      | e1 =>
        cases h4 : L15c.run n g 0 with
        | e0 =>
          exact Ret.of_run1 mix [(AV.int IntKind.i64 (r15.v n g e))] Try.func15 rfl [.b false, .loop (others 151 [0, 1, 5]) (Exit.exit 0) (L15a.X n g e L15a.O.e1) (L15a.XH n g e L15a.O.e1), .loop (others 151 [0, 1, 6]) (Exit.exit 2) (L15b.X n g e L15b.O.e1) (L15b.XH n g e L15b.O.e1), .loop (others 151 [0, 1, 7]) (Exit.ret) (L15c.X n g e L15c.O.e0) (L15c.XH n g e L15c.O.e0)] (by simp) (by simp) (kmp (by kernel_rfl) (And.intro h1 (And.intro (L15a.e1 (n) (g) o0 o1 (e) o2 o3 (0) (And.intro (show (0 : Int) ≤ (0 : Int) by first | decide | exact Int.NonNeg.mk _) o4) h2) (And.intro (L15b.e1 (n) (g) o0 o1 (e) o2 o3 (0) (And.intro (show (0 : Int) ≤ (0 : Int) by first | decide | exact Int.NonNeg.mk _) o4) h3) (And.intro (L15c.e0 (n) (g) o0 o1 (e) o2 o3 (0) (And.intro (show (0 : Int) ≤ (0 : Int) by first | decide | exact Int.NonNeg.mk _) o4) h4) (And.intro (show (AV.int IntKind.i64 5) = ((AV.int IntKind.i64 (r15.v n g e))) by first | (simp only [r15.v, h1, h2, h3, h4, cond_true, cond_false]; done) | (try unfold r15.v; try simp only [h1, cond_true, cond_false]; try simp only [h2, cond_true, cond_false]; try simp only [h3, cond_true, cond_false]; try simp only [h4, cond_true, cond_false]; try rfl; done) | rfl) trivial)))))) h
        | e1 =>
          cases h5 : L15e.run n g e 0 with
          | e0 =>
            exact Ret.of_run1 mix [(AV.int IntKind.i64 (r15.v n g e))] Try.func15 rfl [.b false, .loop (others 151 [0, 1, 5]) (Exit.exit 0) (L15a.X n g e L15a.O.e1) (L15a.XH n g e L15a.O.e1), .loop (others 151 [0, 1, 6]) (Exit.exit 2) (L15b.X n g e L15b.O.e1) (L15b.XH n g e L15b.O.e1), .loop (others 151 [0, 1, 7]) (Exit.exit 4) (L15c.X n g e L15c.O.e1) (L15c.XH n g e L15c.O.e1), .loop (others 151 [0, 1, 9]) (Exit.ret) (L15e.X n g e L15e.O.e0) (L15e.XH n g e L15e.O.e0)] (by simp) (by simp) (kmp (by kernel_rfl) (And.intro h1 (And.intro (L15a.e1 (n) (g) o0 o1 (e) o2 o3 (0) (And.intro (show (0 : Int) ≤ (0 : Int) by first | decide | exact Int.NonNeg.mk _) o4) h2) (And.intro (L15b.e1 (n) (g) o0 o1 (e) o2 o3 (0) (And.intro (show (0 : Int) ≤ (0 : Int) by first | decide | exact Int.NonNeg.mk _) o4) h3) (And.intro (L15c.e1 (n) (g) o0 o1 (e) o2 o3 (0) (And.intro (show (0 : Int) ≤ (0 : Int) by first | decide | exact Int.NonNeg.mk _) o4) h4) (And.intro (L15e.e0 (n) (g) o0 o1 (e) o2 o3 (0) (And.intro (show (0 : Int) ≤ (0 : Int) by first | decide | exact Int.NonNeg.mk _) o4) h5) (And.intro (show (AV.int IntKind.i64 12) = ((AV.int IntKind.i64 (r15.v n g e))) by first | (simp only [r15.v, h1, h2, h3, h4, h5, cond_true, cond_false]; done) | (try unfold r15.v; try simp only [h1, cond_true, cond_false]; try simp only [h2, cond_true, cond_false]; try simp only [h3, cond_true, cond_false]; try simp only [h4, cond_true, cond_false]; try simp only [h5, cond_true, cond_false]; try rfl; done) | rfl) trivial))))))) h
          | e1 =>
            cases h6 : L15f.run n g 0 with
            | e0 =>
              exact Ret.of_run1 mix [(AV.int IntKind.i64 (r15.v n g e))] Try.func15 rfl [.b false, .loop (others 151 [0, 1, 5]) (Exit.exit 0) (L15a.X n g e L15a.O.e1) (L15a.XH n g e L15a.O.e1), .loop (others 151 [0, 1, 6]) (Exit.exit 2) (L15b.X n g e L15b.O.e1) (L15b.XH n g e L15b.O.e1), .loop (others 151 [0, 1, 7]) (Exit.exit 4) (L15c.X n g e L15c.O.e1) (L15c.XH n g e L15c.O.e1), .loop (others 151 [0, 1, 9]) (Exit.exit 8) (L15e.X n g e L15e.O.e1) (L15e.XH n g e L15e.O.e1), .loop (others 151 [0, 10]) (Exit.ret) (L15f.X n g L15f.O.e0) (L15f.XH n g L15f.O.e0)] (by simp) (by simp) (kmp (by kernel_rfl) (And.intro h1 (And.intro (L15a.e1 (n) (g) o0 o1 (e) o2 o3 (0) (And.intro (show (0 : Int) ≤ (0 : Int) by first | decide | exact Int.NonNeg.mk _) o4) h2) (And.intro (L15b.e1 (n) (g) o0 o1 (e) o2 o3 (0) (And.intro (show (0 : Int) ≤ (0 : Int) by first | decide | exact Int.NonNeg.mk _) o4) h3) (And.intro (L15c.e1 (n) (g) o0 o1 (e) o2 o3 (0) (And.intro (show (0 : Int) ≤ (0 : Int) by first | decide | exact Int.NonNeg.mk _) o4) h4) (And.intro (L15e.e1 (n) (g) o0 o1 (e) o2 o3 (0) (And.intro (show (0 : Int) ≤ (0 : Int) by first | decide | exact Int.NonNeg.mk _) o4) h5) (And.intro (L15f.e0 (n) (g) o0 o1 o2 o3 (0) (And.intro (show (0 : Int) ≤ (0 : Int) by first | decide | exact Int.NonNeg.mk _) o4) h6) (And.intro (show (AV.int IntKind.i64 11) = ((AV.int IntKind.i64 (r15.v n g e))) by first | (simp only [r15.v, h1, h2, h3, h4, h5, h6, cond_true, cond_false]; done) | (try unfold r15.v; try simp only [h1, cond_true, cond_false]; try simp only [h2, cond_true, cond_false]; try simp only [h3, cond_true, cond_false]; try simp only [h4, cond_true, cond_false]; try simp only [h5, cond_true, cond_false]; try simp only [h6, cond_true, cond_false]; try rfl; done) | rfl) trivial)))))))) h
            | e1 =>
              exact Ret.of_run1 mix [(AV.int IntKind.i64 (r15.v n g e))] Try.func15 rfl [.b false, .loop (others 151 [0, 1, 5]) (Exit.exit 0) (L15a.X n g e L15a.O.e1) (L15a.XH n g e L15a.O.e1), .loop (others 151 [0, 1, 6]) (Exit.exit 2) (L15b.X n g e L15b.O.e1) (L15b.XH n g e L15b.O.e1), .loop (others 151 [0, 1, 7]) (Exit.exit 4) (L15c.X n g e L15c.O.e1) (L15c.XH n g e L15c.O.e1), .loop (others 151 [0, 1, 9]) (Exit.exit 8) (L15e.X n g e L15e.O.e1) (L15e.XH n g e L15e.O.e1), .loop (others 151 [0, 10]) (Exit.exit 10) (L15f.X n g L15f.O.e1) (L15f.XH n g L15f.O.e1)] (by simp) (by simp) (kmp (by kernel_rfl) (And.intro h1 (And.intro (L15a.e1 (n) (g) o0 o1 (e) o2 o3 (0) (And.intro (show (0 : Int) ≤ (0 : Int) by first | decide | exact Int.NonNeg.mk _) o4) h2) (And.intro (L15b.e1 (n) (g) o0 o1 (e) o2 o3 (0) (And.intro (show (0 : Int) ≤ (0 : Int) by first | decide | exact Int.NonNeg.mk _) o4) h3) (And.intro (L15c.e1 (n) (g) o0 o1 (e) o2 o3 (0) (And.intro (show (0 : Int) ≤ (0 : Int) by first | decide | exact Int.NonNeg.mk _) o4) h4) (And.intro (L15e.e1 (n) (g) o0 o1 (e) o2 o3 (0) (And.intro (show (0 : Int) ≤ (0 : Int) by first | decide | exact Int.NonNeg.mk _) o4) h5) (And.intro (L15f.e1 (n) (g) o0 o1 o2 o3 (0) (And.intro (show (0 : Int) ≤ (0 : Int) by first | decide | exact Int.NonNeg.mk _) o4) h6) (And.intro (show (AV.int IntKind.i64 0) = ((AV.int IntKind.i64 (r15.v n g e))) by first | (simp only [r15.v, h1, h2, h3, h4, h5, h6, cond_true, cond_false]; done) | (try unfold r15.v; try simp only [h1, cond_true, cond_false]; try simp only [h2, cond_true, cond_false]; try simp only [h3, cond_true, cond_false]; try simp only [h4, cond_true, cond_false]; try simp only [h5, cond_true, cond_false]; try simp only [h6, cond_true, cond_false]; try rfl; done) | rfl) trivial)))))))) h

end Go.Proofs.Ytngpbfocjgikaaa

open Go

namespace Go.Proofs.Ytngpbfocjgikaaa

set_option linter.unusedSimpArgs false

set_option linter.unusedVariables false

set_option maxHeartbeats 0

set_option maxRecDepth 100000

theorem r51n (h : AHeap) : Ret Try.prog 51 ([AV.nils]) h AV.snil h := by
  exact Ret.of_run1 mix [AV.snil] Try.func51 rfl [.b true] (by simp) (by simp) (kmp (by kernel_rfl) (And.intro (rfl : true = true) (And.intro (show (AV.snil) = (AV.snil) by first | (simp only [cond_true, cond_false]; done) | (try rfl; done) | rfl) trivial))) h

theorem r51e (h : AHeap) : Ret Try.prog 51 ([AV.sne]) h AV.snil h := by
  exact Ret.of_run1 mix [AV.snil] Try.func51 rfl [.b false, .app .none false] (by simp) (by simp) (kmp (by kernel_rfl) (And.intro (rfl : false = false) (And.intro (show (0 : Nat) = (0 : Nat) by first | decide | exact Int.NonNeg.mk _) (And.intro (show (AV.snil) = (AV.snil) by first | (simp only [cond_true, cond_false]; done) | (try rfl; done) | rfl) trivial)))) h

end Go.Proofs.Ytngpbfocjgikaaa

open Go

namespace Go.Proofs.Ytngpbfocjgikaaa

set_option maxHeartbeats 0

set_option maxRecDepth 100000

theorem c51 (n : Nat) (g : Nat → LD) (hn : n ≤ 1000) (h : AHeap) : Ret Try.prog 51 [lds n g] h (AV.ms h.length n 4 0 n) (h ++ [AObj.row 4 n (.gen n fun i => (g i).av)]) := by
  rcases Nat.eq_zero_or_pos n with rfl | h0
  · exact Ret.snil_row 4 (.gen 0 fun i => (g i).av) rfl (Ret.of_sl0 4 _ (r51n h) (r51e h))
  · have o0 : (1 : Nat) ≤ n := h0
    have o1 : n * (40 : Nat) ≤ (140737488355328 : Nat) := by omega
    exact Ret.of_runC mix 0 n 4 (.gen n fun i => (g i).av) Try.func51 rfl [.b false, .app .many false] (by simp [lds, LD.av]) (fun j hj => by simp [Col.get, LD.av]) (kmp (by kernel_rfl) (And.intro o0 (And.intro (rfl : false = false) (And.intro (And.intro (show (4 : Nat) = (4 : Nat) from rfl) (And.intro (show AppMode.many.needs n fun (i : Nat) => (g i).av from fun i hi => rfl) o1)) (And.intro (rfl : [AV.ms 0 n 4 0 n] = [AV.ms 0 n 4 0 n]) (rfl : some (AObj.row 4 n (.gen n fun i => (g i).av)) = some (AObj.row 4 n (.gen n fun i => (g i).av))))))) ) h

theorem i64_small {x : Int} (h : -9223372036854775808 ≤ x ∧ x ≤ 9223372036854775807) : IntKind.i64.wrap x = x := IntWalk.i64_in x (by omega)

theorem n12 {n : Nat} (hn : n ≤ 12) : decide (IntKind.i64.wrap ((n : Int) - 0) ≤ 12) = true := by
  rw [i64_small (by omega)]
  exact decide_eq_true (by omega)

theorem q97 {x c : Int} (h : x ≤ 12) (hc : 12 < c) : decide (x ≥ c) = false := decide_eq_false (by omega)

end Go.Proofs.Ytngpbfocjgikaaa

open Go

namespace Go.Proofs.Ytngpbfocjgikaaa

set_option linter.unusedSimpArgs false

set_option linter.unusedVariables false

set_option maxHeartbeats 0

set_option maxRecDepth 100000

inductive L88b.O where
  | e0 (a0 : Nat → LD)

noncomputable def L88b.T (n : Nat) (g : Nat → LD) (bed : Int) (ks : List ByteArray) (i : Int) (F : Nat → LD) (j : Int) : List AV := mkT 53 [(0, AV.ms 3 n 4 0 n), (1, AV.int IntKind.i64 0), (2, AV.int IntKind.i64 (↑n : Int)), (3, AV.fn 53 []), (8, AV.int IntKind.i64 i), (9, AV.int IntKind.i64 j)]

noncomputable def L88b.H (n : Nat) (g : Nat → LD) (bed : Int) (ks : List ByteArray) (i : Int) (F : Nat → LD) (j : Int) : AHeap := [AObj.var (lds n g), AObj.var (AV.int IntKind.i64 bed), AObj.map (MCol.sset ks), AObj.row 4 n (Col.gen n fun (a : Nat) => (F a).av)]

def L88b.inv (n : Nat) (g : Nat → LD) (bed : Int) (ks : List ByteArray) (i : Int) (F : Nat → LD) (j : Int) : Prop := 0 ≤ j ∧ j ≤ i

noncomputable def L88b.mu (n : Nat) (g : Nat → LD) (bed : Int) (ks : List ByteArray) (i : Int) (F : Nat → LD) (j : Int) : Nat := j.toNat

noncomputable def L88b.E : L88b.O → Exit
  | .e0 a0 => Exit.exit 2

noncomputable def L88b.X (n : Nat) (g : Nat → LD) (bed : Int) (ks : List ByteArray) (i : Int) : L88b.O → List AV
  | .e0 a0 => mkT 53 [(0, (AV.ms 3 n 4 0 n)), (1, (AV.int IntKind.i64 0)), (2, (AV.int IntKind.i64 (↑n : Int))), (3, (AV.fn 53 [])), (8, (AV.int IntKind.i64 i))]

noncomputable def L88b.XH (n : Nat) (g : Nat → LD) (bed : Int) (ks : List ByteArray) (i : Int) : L88b.O → AHeap
  | .e0 a0 => ((AObj.var (AV.sl 4 n fun (i : Nat) => AV.agg [AV.str (g i).nm, AV.int IntKind.i64 (g i).lo, AV.int IntKind.i64 (g i).ln, AV.int IntKind.i64 (g i).ms])) :: ((AObj.var (AV.int IntKind.i64 bed)) :: ((AObj.map (MCol.sset ks)) :: ((AObj.row 4 (n) (Col.gen (n) fun (i_ : Nat) => LD.av (a0 i_))) :: ([])))))

noncomputable def L88b.N : Nat → (Nat → LD) → Int → L88b.O
  | 0, F, _ => .e0 F
  | k_ + 1, F, j => (bif decide (j > 0) then (bif decide (r53.v (F (0 + j.toNat)) (F (0 + (IntKind.i64.wrap (j - 1)).toNat)) < 0) then (L88b.N k_ (fun (j_1 : Nat) => LD.mk (if j_1 = 0 + (IntKind.i64.wrap (j - 1)).toNat then (F (0 + j.toNat)).nm else if j_1 = 0 + j.toNat then (F (0 + (IntKind.i64.wrap (j - 1)).toNat)).nm else (F j_1).nm) (if j_1 = 0 + (IntKind.i64.wrap (j - 1)).toNat then (F (0 + j.toNat)).lo else if j_1 = 0 + j.toNat then (F (0 + (IntKind.i64.wrap (j - 1)).toNat)).lo else (F j_1).lo) (if j_1 = 0 + (IntKind.i64.wrap (j - 1)).toNat then (F (0 + j.toNat)).ln else if j_1 = 0 + j.toNat then (F (0 + (IntKind.i64.wrap (j - 1)).toNat)).ln else (F j_1).ln) (if j_1 = 0 + (IntKind.i64.wrap (j - 1)).toNat then (F (0 + j.toNat)).ms else if j_1 = 0 + j.toNat then (F (0 + (IntKind.i64.wrap (j - 1)).toNat)).ms else (F j_1).ms)) (IntKind.i64.wrap (j - 1))) else (.e0 (F))) else (.e0 (F)))

noncomputable def L88b.run (F : Nat → LD) (j : Int) : L88b.O := L88b.N ((j.toNat) + 1) F j

theorem L88b.nx (n : Nat) (g : Nat → LD) (bed : Int) (ks : List ByteArray) (i : Int) {k_ : Nat} {z_ : (Nat → LD) × Int} {h_ : AHeap} (s_ : (Nat → LD) × Int) (h1 : L88b.inv n g bed ks i s_.1 s_.2) (h2 : L88b.mu n g bed ks i s_.1 s_.2 < L88b.mu n g bed ks i z_.1 z_.2) (h3 : L88b.N k_ s_.1 s_.2 = L88b.N (k_ + 1) z_.1 z_.2) (h4 : PopOk (L88b.H n g bed ks i z_.1 z_.2) h_ (L88b.T n g bed ks i s_.1 s_.2) (L88b.H n g bed ks i s_.1 s_.2)) : LNextP (fun (z_ : (Nat → LD) × Int) => L88b.T n g bed ks i z_.1 z_.2) (fun (z_ : (Nat → LD) × Int) => L88b.H n g bed ks i z_.1 z_.2) (fun (z_ : (Nat → LD) × Int) => L88b.inv n g bed ks i z_.1 z_.2) (fun (z_ : (Nat → LD) × Int) => L88b.mu n g bed ks i z_.1 z_.2) (fun (k_ : Nat) (z_ : (Nat → LD) × Int) => L88b.N k_ z_.1 z_.2) k_ z_ (L88b.T n g bed ks i s_.1 s_.2) h_ := LNextP.mk (Tm := (fun (z_ : (Nat → LD) × Int) => L88b.T n g bed ks i z_.1 z_.2)) (Hp := (fun (z_ : (Nat → LD) × Int) => L88b.H n g bed ks i z_.1 z_.2)) (inv := (fun (z_ : (Nat → LD) × Int) => L88b.inv n g bed ks i z_.1 z_.2)) (mu := (fun (z_ : (Nat → LD) × Int) => L88b.mu n g bed ks i z_.1 z_.2)) (l := (fun (k_ : Nat) (z_ : (Nat → LD) × Int) => L88b.N k_ z_.1 z_.2)) s_ h1 h2 h3 h4

theorem L88b.en (n : Nat) (g : Nat → LD) (bed : Int) (ks : List ByteArray) (i : Int) {k_ : Nat} {z_ : (Nat → LD) × Int} {h_ : AHeap} (o_ : L88b.O) (h3 : L88b.N (k_ + 1) z_.1 z_.2 = o_) (h4 : PopOk (L88b.H n g bed ks i z_.1 z_.2) h_ (L88b.X n g bed ks i o_) (L88b.XH n g bed ks i o_)) : LEndP (fun (z_ : (Nat → LD) × Int) => L88b.H n g bed ks i z_.1 z_.2) (fun (k_ : Nat) (z_ : (Nat → LD) × Int) => L88b.N k_ z_.1 z_.2) L88b.E (L88b.X n g bed ks i) (L88b.XH n g bed ks i) k_ z_ (L88b.E o_) (L88b.X n g bed ks i o_) h_ := LEndP.mk (Hp := (fun (z_ : (Nat → LD) × Int) => L88b.H n g bed ks i z_.1 z_.2)) (l := (fun (k_ : Nat) (z_ : (Nat → LD) × Int) => L88b.N k_ z_.1 z_.2)) (oE := L88b.E) (oT := L88b.X n g bed ks i) (oH := L88b.XH n g bed ks i) o_ h3 h4

noncomputable abbrev L88b.h0 (n : Nat) (g : Nat → LD) (bed : Int) (ks : List ByteArray) (i : Int) (F : Nat → LD) (j : Int) : AHeap := ([AObj.var (AV.sl 4 n fun (i : Nat) => AV.agg [AV.str (g i).nm, AV.int IntKind.i64 (g i).lo, AV.int IntKind.i64 (g i).ln, AV.int IntKind.i64 (g i).ms]), AObj.var (AV.int IntKind.i64 bed), AObj.map (MCol.sset ks), AObj.row 4 n (Col.gen n fun (a : Nat) => AV.agg [AV.str (F a).nm, AV.int IntKind.i64 (F a).lo, AV.int IntKind.i64 (F a).ln, AV.int IntKind.i64 (F a).ms])])

theorem L88b.spec (n : Nat) (hn : n ≤ 12) (g : Nat → LD) (bed : Int) (ks : List ByteArray) (i : Int) (h0 : 0 ≤ i) (h1 : i < (↑n : Int)) (k_ : Nat) (z_ : (Nat → LD) × Int) (hi_ : L88b.inv n g bed ks i z_.1 z_.2) (hm_ : L88b.mu n g bed ks i z_.1 z_.2 < k_) : LoopTo Try.prog (loopN Try.f88 1) (L88b.T n g bed ks i z_.1 z_.2) (L88b.H n g bed ks i z_.1 z_.2) (L88b.E (L88b.N k_ z_.1 z_.2)) (L88b.X n g bed ks i (L88b.N k_ z_.1 z_.2)) (L88b.XH n g bed ks i (L88b.N k_ z_.1 z_.2)) := by
  refine LoopTo.fuelP mix (fun (z_ : (Nat → LD) × Int) => L88b.T n g bed ks i z_.1 z_.2) (fun (z_ : (Nat → LD) × Int) => L88b.H n g bed ks i z_.1 z_.2) (fun (z_ : (Nat → LD) × Int) => L88b.inv n g bed ks i z_.1 z_.2) (fun (z_ : (Nat → LD) × Int) => L88b.mu n g bed ks i z_.1 z_.2) (fun (k_ : Nat) (z_ : (Nat → LD) × Int) => L88b.N k_ z_.1 z_.2) L88b.E (L88b.X n g bed ks i) (L88b.XH n g bed ks i) (others 53 [0, 1, 2, 3, 8, 9]) (others 53 []) (others 53 [0, 1, 2, 3, 8]) ?_ k_ z_ hi_ hm_
  clear hm_ hi_ z_ k_
  intro k_ z_ hinv hmu
  obtain ⟨F, j⟩ := z_
  have hinv : 0 ≤ j ∧ j ≤ i := hinv
  have hmu : (j.toNat) < k_ + 1 := hmu
  cases h1 : decide (j > 0) with
  | true =>
    have h1p := of_decide_eq_true h1
    have o0 : (0 : Int) ≤ j := by first | assumption | omega | (simp_all; done)
    have o1 : j < (↑n : Int) := by first | assumption | omega | (simp_all; done)
    have o2 : (0 : Nat) + j.toNat < n := by first | assumption | omega | (simp_all; done)
    try have := IntWalk.i64_in (j - 1) (by omega)
    have o3 : (0 : Int) ≤ IntKind.i64.wrap (j - (1 : Int)) := by first | assumption | omega | (simp_all; done)
    have o4 : IntKind.i64.wrap (j - (1 : Int)) < (↑n : Int) := by first | assumption | omega | (simp_all; done)
    have o5 : (0 : Nat) + (IntKind.i64.wrap (j - (1 : Int))).toNat < n := by first | assumption | omega | (simp_all; done)
    cases h2 : decide (r53.v (F (0 + j.toNat)) (F (0 + (IntKind.i64.wrap (j - 1)).toNat)) < 0) with
    | true =>
      have h2p := of_decide_eq_true h2
      try have := IntWalk.i64_in (j - 1) (by omega)
      have o6 : IntKind.i64.wrap (j - (1 : Int)) ≤ i := by first | assumption | omega | (simp_all; done)
      have o7 : (IntKind.i64.wrap (j - (1 : Int))).toNat < j.toNat := by first | assumption | omega | (simp_all; done)
      exact ⟨[.b true, .b true, .b true, .b true, .b true, .b true, .b true, .b true, .b true, .b true, .b true, .ret (AV.int IntKind.i64 (r53.v (F (0 + j.toNat)) (F (0 + (IntKind.i64.wrap (j - 1)).toNat)))) (L88b.h0 n g bed ks i F j), .b true, .b true, .b true], kmp (by kernel_rfl) (And.intro h1 (And.intro h1 (And.intro h1 (And.intro h1 (And.intro (And.intro o0 o1) (And.intro h1 (And.intro (And.intro (rfl : n = n) (And.intro (show (4 : Nat) = (4 : Nat) by first | decide | exact Int.NonNeg.mk _) o2)) (And.intro h1 (And.intro h1 (And.intro h1 (And.intro h1 (And.intro (And.intro o3 o4) (And.intro h1 (And.intro (And.intro (rfl : n = n) (And.intro (show (4 : Nat) = (4 : Nat) by first | decide | exact Int.NonNeg.mk _) o5)) (And.intro h1 (And.intro (r53 (F (0 + j.toNat)) (F (0 + (IntKind.i64.wrap (j - 1)).toNat)) (L88b.h0 n g bed ks i F j)) (And.intro h1 (And.intro h1 (And.intro h2 (And.intro (And.intro o3 o4) (And.intro (And.intro (rfl : n = n) (And.intro (show (4 : Nat) = (4 : Nat) by first | decide | exact Int.NonNeg.mk _) o5)) (And.intro (And.intro o0 o1) (And.intro (And.intro (rfl : n = n) (And.intro (show (4 : Nat) = (4 : Nat) by first | decide | exact Int.NonNeg.mk _) o2)) (And.intro (And.intro o0 o1) (And.intro (And.intro (rfl : n = n) o2) (And.intro (And.intro o3 o4) (And.intro (And.intro (rfl : n = n) o5) (L88b.nx n g bed ks i (k_ := k_) (z_ := (F, j)) ((fun (j_1 : Nat) => LD.mk (if j_1 = 0 + (IntKind.i64.wrap (j - 1)).toNat then (F (0 + j.toNat)).nm else if j_1 = 0 + j.toNat then (F (0 + (IntKind.i64.wrap (j - 1)).toNat)).nm else (F j_1).nm) (if j_1 = 0 + (IntKind.i64.wrap (j - 1)).toNat then (F (0 + j.toNat)).lo else if j_1 = 0 + j.toNat then (F (0 + (IntKind.i64.wrap (j - 1)).toNat)).lo else (F j_1).lo) (if j_1 = 0 + (IntKind.i64.wrap (j - 1)).toNat then (F (0 + j.toNat)).ln else if j_1 = 0 + j.toNat then (F (0 + (IntKind.i64.wrap (j - 1)).toNat)).ln else (F j_1).ln) (if j_1 = 0 + (IntKind.i64.wrap (j - 1)).toNat then (F (0 + j.toNat)).ms else if j_1 = 0 + j.toNat then (F (0 + (IntKind.i64.wrap (j - 1)).toNat)).ms else (F j_1).ms), IntKind.i64.wrap (j - 1))) (And.intro o3 o6) o7 (by first | (simp only [L88b.N, h1, h2, cond_true, cond_false]; done) | (try unfold L88b.N; try simp only [h1, cond_true, cond_false]; try simp only [h2, cond_true, cond_false]; try rfl; done)) PopOk.same))))))))))))))))))))))))))))⟩
    | false =>
      have h2p := of_decide_eq_false h2
      exact ⟨[.b true, .b true, .b true, .b true, .b true, .b true, .b true, .b true, .b true, .b true, .b true, .ret (AV.int IntKind.i64 (r53.v (F (0 + j.toNat)) (F (0 + (IntKind.i64.wrap (j - 1)).toNat)))) (L88b.h0 n g bed ks i F j), .b true, .b true, .b false], kmp (by kernel_rfl) (And.intro h1 (And.intro h1 (And.intro h1 (And.intro h1 (And.intro (And.intro o0 o1) (And.intro h1 (And.intro (And.intro (rfl : n = n) (And.intro (show (4 : Nat) = (4 : Nat) by first | decide | exact Int.NonNeg.mk _) o2)) (And.intro h1 (And.intro h1 (And.intro h1 (And.intro h1 (And.intro (And.intro o3 o4) (And.intro h1 (And.intro (And.intro (rfl : n = n) (And.intro (show (4 : Nat) = (4 : Nat) by first | decide | exact Int.NonNeg.mk _) o5)) (And.intro h1 (And.intro (r53 (F (0 + j.toNat)) (F (0 + (IntKind.i64.wrap (j - 1)).toNat)) (L88b.h0 n g bed ks i F j)) (And.intro h1 (And.intro h1 (And.intro h2 (L88b.en n g bed ks i (k_ := k_) (z_ := (F, j)) (.e0 (F) : L88b.O) (by first | (simp only [L88b.N, h1, h2, cond_true, cond_false]; done) | (try unfold L88b.N; try simp only [h1, cond_true, cond_false]; try simp only [h2, cond_true, cond_false]; try rfl; done)) PopOk.same))))))))))))))))))))⟩
  | false =>
    have h1p := of_decide_eq_false h1
    exact ⟨[.b false, .b false, .b false, .b false, .b false, .b false, .b false, .b false, .b false, .b false, .b false, .b false, .b false, .b false], kmp (by kernel_rfl) (And.intro h1 (And.intro h1 (And.intro h1 (And.intro h1 (And.intro h1 (And.intro h1 (And.intro h1 (And.intro h1 (And.intro h1 (And.intro h1 (And.intro h1 (And.intro h1 (And.intro h1 (And.intro (rfl : false = false) (L88b.en n g bed ks i (k_ := k_) (z_ := (F, j)) (.e0 (F) : L88b.O) (by first | (simp only [L88b.N, h1, cond_true, cond_false]; done) | (try unfold L88b.N; try simp only [h1, cond_true, cond_false]; try rfl; done)) PopOk.same)))))))))))))))⟩

theorem L88b.e0 (n : Nat) (hn : n ≤ 12) (g : Nat → LD) (bed : Int) (ks : List ByteArray) (i : Int) (h0 : 0 ≤ i) (h1 : i < (↑n : Int)) (F : Nat → LD) (j : Int) (hinv : L88b.inv n g bed ks i F j) (a0 : Nat → LD) (hN : L88b.run F j = (.e0 a0 : L88b.O)) : LoopTo Try.prog (loopN Try.f88 1) (L88b.T n g bed ks i F j) (L88b.H n g bed ks i F j) (Exit.exit 2) (L88b.X n g bed ks i (.e0 a0 : L88b.O)) (L88b.XH n g bed ks i (.e0 a0 : L88b.O)) := by
  have h_ := L88b.spec n hn g bed ks i h0 h1 ((j.toNat) + 1) (F, j) hinv (Nat.lt_succ_self _)
  unfold L88b.run at hN
  simp only [hN] at h_
  exact h_

end Go.Proofs.Ytngpbfocjgikaaa

open Go

namespace Go.Proofs.Ytngpbfocjgikaaa

set_option linter.unusedSimpArgs false

set_option linter.unusedVariables false

set_option maxHeartbeats 0

set_option maxRecDepth 100000

inductive L88a.O where
  | e0 (a0 : Nat → LD)

noncomputable def L88a.T (n : Nat) (g : Nat → LD) (bed : Int) (ks : List ByteArray) (F : Nat → LD) (i : Int) : List AV := mkT 53 [(0, AV.ms 3 n 4 0 n), (1, AV.int IntKind.i64 0), (2, AV.int IntKind.i64 (↑n : Int)), (3, AV.fn 53 []), (8, AV.int IntKind.i64 i)]

noncomputable def L88a.H (n : Nat) (g : Nat → LD) (bed : Int) (ks : List ByteArray) (F : Nat → LD) (i : Int) : AHeap := [AObj.var (lds n g), AObj.var (AV.int IntKind.i64 bed), AObj.map (MCol.sset ks), AObj.row 4 n (Col.gen n fun (a : Nat) => (F a).av)]

def L88a.inv (n : Nat) (g : Nat → LD) (bed : Int) (ks : List ByteArray) (F : Nat → LD) (i : Int) : Prop := 1 ≤ i ∧ (i ≤ (↑n : Int) ∨ i ≤ 1)

noncomputable def L88a.mu (n : Nat) (g : Nat → LD) (bed : Int) (ks : List ByteArray) (F : Nat → LD) (i : Int) : Nat := ((↑n : Int) - i).toNat

noncomputable def L88a.E : L88a.O → Exit
  | .e0 a0 => Exit.exit 0

noncomputable def L88a.X (n : Nat) (g : Nat → LD) (bed : Int) (ks : List ByteArray) : L88a.O → List AV
  | .e0 a0 => mkT 53 []

noncomputable def L88a.XH (n : Nat) (g : Nat → LD) (bed : Int) (ks : List ByteArray) : L88a.O → AHeap
  | .e0 a0 => ((AObj.var (AV.sl 4 n fun (i : Nat) => AV.agg [AV.str (g i).nm, AV.int IntKind.i64 (g i).lo, AV.int IntKind.i64 (g i).ln, AV.int IntKind.i64 (g i).ms])) :: ((AObj.var (AV.int IntKind.i64 bed)) :: ((AObj.map (MCol.sset ks)) :: ((AObj.row 4 (n) (Col.gen (n) fun (i_ : Nat) => LD.av (a0 i_))) :: ([])))))

noncomputable def L88a.N (n : Nat) : Nat → (Nat → LD) → Int → L88a.O
  | 0, F, _ => .e0 F
  | k_ + 1, F, i => (bif decide (i < (↑n : Int)) then (match L88b.run F i with | .e0 h2d0 => (L88a.N n k_ (h2d0) (IntKind.i64.wrap (i + 1))) ) else (.e0 (F)))

noncomputable def L88a.run (n : Nat) (F : Nat → LD) (i : Int) : L88a.O := L88a.N n ((((↑n : Int) - i).toNat) + 1) F i

theorem L88a.nx (n : Nat) (g : Nat → LD) (bed : Int) (ks : List ByteArray) {k_ : Nat} {z_ : (Nat → LD) × Int} {h_ : AHeap} (s_ : (Nat → LD) × Int) (h1 : L88a.inv n g bed ks s_.1 s_.2) (h2 : L88a.mu n g bed ks s_.1 s_.2 < L88a.mu n g bed ks z_.1 z_.2) (h3 : L88a.N n k_ s_.1 s_.2 = L88a.N n (k_ + 1) z_.1 z_.2) (h4 : PopOk (L88a.H n g bed ks z_.1 z_.2) h_ (L88a.T n g bed ks s_.1 s_.2) (L88a.H n g bed ks s_.1 s_.2)) : LNextP (fun (z_ : (Nat → LD) × Int) => L88a.T n g bed ks z_.1 z_.2) (fun (z_ : (Nat → LD) × Int) => L88a.H n g bed ks z_.1 z_.2) (fun (z_ : (Nat → LD) × Int) => L88a.inv n g bed ks z_.1 z_.2) (fun (z_ : (Nat → LD) × Int) => L88a.mu n g bed ks z_.1 z_.2) (fun (k_ : Nat) (z_ : (Nat → LD) × Int) => L88a.N n k_ z_.1 z_.2) k_ z_ (L88a.T n g bed ks s_.1 s_.2) h_ := LNextP.mk (Tm := (fun (z_ : (Nat → LD) × Int) => L88a.T n g bed ks z_.1 z_.2)) (Hp := (fun (z_ : (Nat → LD) × Int) => L88a.H n g bed ks z_.1 z_.2)) (inv := (fun (z_ : (Nat → LD) × Int) => L88a.inv n g bed ks z_.1 z_.2)) (mu := (fun (z_ : (Nat → LD) × Int) => L88a.mu n g bed ks z_.1 z_.2)) (l := (fun (k_ : Nat) (z_ : (Nat → LD) × Int) => L88a.N n k_ z_.1 z_.2)) s_ h1 h2 h3 h4

theorem L88a.en (n : Nat) (g : Nat → LD) (bed : Int) (ks : List ByteArray) {k_ : Nat} {z_ : (Nat → LD) × Int} {h_ : AHeap} (o_ : L88a.O) (h3 : L88a.N n (k_ + 1) z_.1 z_.2 = o_) (h4 : PopOk (L88a.H n g bed ks z_.1 z_.2) h_ (L88a.X n g bed ks o_) (L88a.XH n g bed ks o_)) : LEndP (fun (z_ : (Nat → LD) × Int) => L88a.H n g bed ks z_.1 z_.2) (fun (k_ : Nat) (z_ : (Nat → LD) × Int) => L88a.N n k_ z_.1 z_.2) L88a.E (L88a.X n g bed ks) (L88a.XH n g bed ks) k_ z_ (L88a.E o_) (L88a.X n g bed ks o_) h_ := LEndP.mk (Hp := (fun (z_ : (Nat → LD) × Int) => L88a.H n g bed ks z_.1 z_.2)) (l := (fun (k_ : Nat) (z_ : (Nat → LD) × Int) => L88a.N n k_ z_.1 z_.2)) (oE := L88a.E) (oT := L88a.X n g bed ks) (oH := L88a.XH n g bed ks) o_ h3 h4

theorem L88a.spec (n : Nat) (hn : n ≤ 12) (g : Nat → LD) (bed : Int) (ks : List ByteArray) (k_ : Nat) (z_ : (Nat → LD) × Int) (hi_ : L88a.inv n g bed ks z_.1 z_.2) (hm_ : L88a.mu n g bed ks z_.1 z_.2 < k_) : LoopTo Try.prog (loopN Try.f88 0) (L88a.T n g bed ks z_.1 z_.2) (L88a.H n g bed ks z_.1 z_.2) (L88a.E (L88a.N n k_ z_.1 z_.2)) (L88a.X n g bed ks (L88a.N n k_ z_.1 z_.2)) (L88a.XH n g bed ks (L88a.N n k_ z_.1 z_.2)) := by
  refine LoopTo.fuelP mix (fun (z_ : (Nat → LD) × Int) => L88a.T n g bed ks z_.1 z_.2) (fun (z_ : (Nat → LD) × Int) => L88a.H n g bed ks z_.1 z_.2) (fun (z_ : (Nat → LD) × Int) => L88a.inv n g bed ks z_.1 z_.2) (fun (z_ : (Nat → LD) × Int) => L88a.mu n g bed ks z_.1 z_.2) (fun (k_ : Nat) (z_ : (Nat → LD) × Int) => L88a.N n k_ z_.1 z_.2) L88a.E (L88a.X n g bed ks) (L88a.XH n g bed ks) (others 53 [0, 1, 2, 3, 8]) (others 53 []) (others 53 []) ?_ k_ z_ hi_ hm_
  clear hm_ hi_ z_ k_
  intro k_ z_ hinv hmu
  obtain ⟨F, i⟩ := z_
  have hinv : 1 ≤ i ∧ (i ≤ (↑n : Int) ∨ i ≤ 1) := hinv
  have hmu : (((↑n : Int) - i).toNat) < k_ + 1 := hmu
  cases h1 : decide (i < (↑n : Int)) with
  | true =>
    have h1p := of_decide_eq_true h1
    have o0 : n ≤ (12 : Nat) := by first | assumption | omega | (simp_all; done)
    have o1 : (0 : Int) ≤ i := by first | assumption | omega | (simp_all; done)
    have o2 : i < (↑n : Int) := by first | assumption | omega | (simp_all; done)
    have o3 : i ≤ i := by first | assumption | omega | (simp_all; done)
    cases h2 : L88b.run F i with
    | e0 h2d0 =>
      try have := IntWalk.i64_in (i + 1) (by omega)
      have o4 : (1 : Int) ≤ IntKind.i64.wrap (i + (1 : Int)) := by first | assumption | omega | (simp_all; done)
      have o5 : IntKind.i64.wrap (i + (1 : Int)) ≤ (↑n : Int) ∨ IntKind.i64.wrap (i + (1 : Int)) ≤ (1 : Int) := by first | assumption | omega | (simp_all; done)
      have o6 : ((↑n : Int) - IntKind.i64.wrap (i + (1 : Int))).toNat < ((↑n : Int) - i).toNat := by first | assumption | omega | (simp_all; done)
      exact ⟨[.b true, .loop (others 53 [0, 1, 2, 3, 8, 9]) (Exit.exit 2) (L88b.X n g bed ks i (L88b.O.e0 h2d0)) (L88b.XH n g bed ks i (L88b.O.e0 h2d0))], kmp (by kernel_rfl) (And.intro h1 (And.intro (L88b.e0 (n) o0 (g) (bed) (ks) (i) o1 o2 (F) (i) (And.intro o1 o3) h2d0 h2) (L88a.nx n g bed ks (k_ := k_) (z_ := (F, i)) ((h2d0, IntKind.i64.wrap (i + 1))) (And.intro o4 o5) o6 (by first | (simp only [L88a.N, h1, h2, cond_true, cond_false]; done) | (try unfold L88a.N; try simp only [h1, cond_true, cond_false]; try simp only [h2, cond_true, cond_false]; try rfl; done)) PopOk.same)))⟩
  | false =>
    have h1p := of_decide_eq_false h1
    exact ⟨[.b false], kmp (by kernel_rfl) (And.intro h1 (L88a.en n g bed ks (k_ := k_) (z_ := (F, i)) (.e0 (F) : L88a.O) (by first | (simp only [L88a.N, h1, cond_true, cond_false]; done) | (try unfold L88a.N; try simp only [h1, cond_true, cond_false]; try rfl; done)) PopOk.same))⟩

theorem L88a.e0 (n : Nat) (hn : n ≤ 12) (g : Nat → LD) (bed : Int) (ks : List ByteArray) (F : Nat → LD) (i : Int) (hinv : L88a.inv n g bed ks F i) (a0 : Nat → LD) (hN : L88a.run n F i = (.e0 a0 : L88a.O)) : LoopTo Try.prog (loopN Try.f88 0) (L88a.T n g bed ks F i) (L88a.H n g bed ks F i) (Exit.exit 0) (L88a.X n g bed ks (.e0 a0 : L88a.O)) (L88a.XH n g bed ks (.e0 a0 : L88a.O)) := by
  have h_ := L88a.spec n hn g bed ks ((((↑n : Int) - i).toNat) + 1) (F, i) hinv (Nat.lt_succ_self _)
  unfold L88a.run at hN
  simp only [hN] at h_
  exact h_

noncomputable def r88.v (n : Nat) (F : Nat → LD) : Nat → LD := (match L88a.run n F 1 with | .e0 h1d0 => h1d0 )

theorem r88 (n : Nat) (hn : n ≤ 12) (g : Nat → LD) (bed : Int) (ks : List ByteArray) (F : Nat → LD) : Ret Try.prog 88 ([AV.ms 3 n 4 0 n, AV.int IntKind.i64 0, AV.int IntKind.i64 (↑n : Int), AV.fn 53 []]) ([AObj.var (lds n g), AObj.var (AV.int IntKind.i64 bed), AObj.map (MCol.sset ks), AObj.row 4 n (Col.gen n fun (a : Nat) => (F a).av)]) (AV.tup []) ( [AObj.var (lds n g), AObj.var (AV.int IntKind.i64 bed), AObj.map (MCol.sset ks), (AObj.row 4 (n) (Col.gen (n) fun (i_ : Nat) => LD.av ((r88.v n F) i_)))]) := by
  have o0 : n ≤ (12 : Nat) := by first | assumption | omega | (simp_all; done)
  have o1 : (1 : Int) ≤ (↑n : Int) ∨ (1 : Int) ≤ (1 : Int) := by first | assumption | omega | (simp_all; done)
  cases h1 : L88a.run n F 1 with
  | e0 h1d0 =>
    exact Ret.of_runW mix [] ([AObj.var (lds n g), AObj.var (AV.int IntKind.i64 bed), AObj.map (MCol.sset ks), AObj.row 4 n (Col.gen n fun (a : Nat) => (F a).av)]) ( [AObj.var (lds n g), AObj.var (AV.int IntKind.i64 bed), AObj.map (MCol.sset ks), (AObj.row 4 (n) (Col.gen (n) fun (i_ : Nat) => LD.av ((r88.v n F) i_)))]) Try.func88 rfl [.loop (others 53 [0, 1, 2, 3, 8]) (Exit.exit 0) (L88a.X n g bed ks (L88a.O.e0 h1d0)) (L88a.XH n g bed ks (L88a.O.e0 h1d0))] (by simp) (And.intro (Or.inl rfl) (And.intro (Or.inl rfl) (And.intro (Or.inl rfl) (And.intro (Or.inr (by first | (intro i_ hi_; simp [Col.get, LD.av, TD.av]; done) | (intro i_ hi_; simp [Col.get]; done) | (simp [AObj.Low]; done))) trivial)))) (kmp (by kernel_rfl) (And.intro (L88a.e0 (n) o0 (g) (bed) (ks) (F) (1) (And.intro (show (1 : Int) ≤ (1 : Int) by first | decide | exact Int.NonNeg.mk _) o1) h1d0 h1) (And.intro trivial (show (([AObj.var (lds n g), AObj.var (AV.int IntKind.i64 bed), AObj.map (MCol.sset ks), AObj.row 4 n (Col.gen n fun (i_ : Nat) => AV.agg [AV.str (h1d0 i_).nm, AV.int IntKind.i64 (h1d0 i_).lo, AV.int IntKind.i64 (h1d0 i_).ln, AV.int IntKind.i64 (h1d0 i_).ms])]) : AHeap) = ( [AObj.var (lds n g), AObj.var (AV.int IntKind.i64 bed), AObj.map (MCol.sset ks), (AObj.row 4 (n) (Col.gen (n) fun (i_ : Nat) => LD.av ((r88.v n F) i_)))]) by first | (simp only [r88.v, h1, cond_true, cond_false]; done) | (try unfold r88.v; try simp only [h1, cond_true, cond_false]; try rfl; done) | rfl))))

noncomputable def r97.v (x : Int) : Int := IntKind.i64.wrap (0 + IntKind.i64.wrap (sbyte (ByteArray.mk (([0, 1, 2, 2, 3, 3, 3, 3, 4, 4, 4, 4, 4, 4, 4, 4, 5, 5, 5, 5, 5, 5, 5, 5, 5, 5, 5, 5, 5, 5, 5, 5, 6, 6, 6, 6, 6, 6, 6, 6, 6, 6, 6, 6, 6, 6, 6, 6, 6, 6, 6, 6, 6, 6, 6, 6, 6, 6, 6, 6, 6, 6, 6, 6].append [7, 7, 7, 7, 7, 7, 7, 7, 7, 7, 7, 7, 7, 7, 7, 7, 7, 7, 7, 7, 7, 7, 7, 7, 7, 7, 7, 7, 7, 7, 7, 7, 7, 7, 7, 7, 7, 7, 7, 7, 7, 7, 7, 7, 7, 7, 7, 7, 7, 7, 7, 7, 7, 7, 7, 7, 7, 7, 7, 7, 7, 7, 7, 7]).append ([8, 8, 8, 8, 8, 8, 8, 8, 8, 8, 8, 8, 8, 8, 8, 8, 8, 8, 8, 8, 8, 8, 8, 8, 8, 8, 8, 8, 8, 8, 8, 8, 8, 8, 8, 8, 8, 8, 8, 8, 8, 8, 8, 8, 8, 8, 8, 8, 8, 8, 8, 8, 8, 8, 8, 8, 8, 8, 8, 8, 8, 8, 8, 8].append [8, 8, 8, 8, 8, 8, 8, 8, 8, 8, 8, 8, 8, 8, 8, 8, 8, 8, 8, 8, 8, 8, 8, 8, 8, 8, 8, 8, 8, 8, 8, 8, 8, 8, 8, 8, 8, 8, 8, 8, 8, 8, 8, 8, 8, 8, 8, 8, 8, 8, 8, 8, 8, 8, 8, 8, 8, 8, 8, 8, 8, 8, 8, 8])).toArray) (IntKind.u8.wrap x).toNat))

theorem r97 (x : Int) (h0 : 0 ≤ x) (h1 : x ≤ 12) (q0 : decide (x ≥ 4294967296) = false) (q1 : decide (x ≥ 65536) = false) (q2 : decide (x ≥ 256) = false) (h : AHeap) : Ret Try.prog 97 ([AV.int IntKind.u64 x]) h (AV.int IntKind.i64 (r97.v x)) h := by
  try have := IntWalk.u8_in (x) (by omega)
  have o0 : (0 : Int) ≤ IntKind.u8.wrap x := by first | assumption | omega | (simp_all; done)
  have o1 : IntKind.u8.wrap x < (256 : Int) := by first | assumption | omega | (simp_all; done)
  exact Ret.of_run1 mix [(AV.int IntKind.i64 (r97.v x))] Try.func97 rfl [.b false, .b false, .b false] (by simp) (by simp) (kmp (by kernel_rfl) (And.intro q0 (And.intro q1 (And.intro q2 (And.intro (And.intro o0 o1) (And.intro (show (AV.int IntKind.i64 (IntKind.i64.wrap (0 + IntKind.i64.wrap (sbyte (ByteArray.mk (([0, 1, 2, 2, 3, 3, 3, 3, 4, 4, 4, 4, 4, 4, 4, 4, 5, 5, 5, 5, 5, 5, 5, 5, 5, 5, 5, 5, 5, 5, 5, 5, 6, 6, 6, 6, 6, 6, 6, 6, 6, 6, 6, 6, 6, 6, 6, 6, 6, 6, 6, 6, 6, 6, 6, 6, 6, 6, 6, 6, 6, 6, 6, 6].append [7, 7, 7, 7, 7, 7, 7, 7, 7, 7, 7, 7, 7, 7, 7, 7, 7, 7, 7, 7, 7, 7, 7, 7, 7, 7, 7, 7, 7, 7, 7, 7, 7, 7, 7, 7, 7, 7, 7, 7, 7, 7, 7, 7, 7, 7, 7, 7, 7, 7, 7, 7, 7, 7, 7, 7, 7, 7, 7, 7, 7, 7, 7, 7]).append ([8, 8, 8, 8, 8, 8, 8, 8, 8, 8, 8, 8, 8, 8, 8, 8, 8, 8, 8, 8, 8, 8, 8, 8, 8, 8, 8, 8, 8, 8, 8, 8, 8, 8, 8, 8, 8, 8, 8, 8, 8, 8, 8, 8, 8, 8, 8, 8, 8, 8, 8, 8, 8, 8, 8, 8, 8, 8, 8, 8, 8, 8, 8, 8].append [8, 8, 8, 8, 8, 8, 8, 8, 8, 8, 8, 8, 8, 8, 8, 8, 8, 8, 8, 8, 8, 8, 8, 8, 8, 8, 8, 8, 8, 8, 8, 8, 8, 8, 8, 8, 8, 8, 8, 8, 8, 8, 8, 8, 8, 8, 8, 8, 8, 8, 8, 8, 8, 8, 8, 8, 8, 8, 8, 8, 8, 8, 8, 8])).toArray) (IntKind.u8.wrap x).toNat)))) = ((AV.int IntKind.i64 (r97.v x))) by first | (simp only [r97.v, cond_true, cond_false]; done) | (try unfold r97.v; try rfl; done) | rfl) trivial)))))) h

noncomputable def r76.v (x : Int) : Int := r97.v x

theorem r76 (x : Int) (h0 : 0 ≤ x) (h1 : x ≤ 12) (h : AHeap) : Ret Try.prog 76 ([AV.int IntKind.u64 x]) h (AV.int IntKind.i64 (r76.v x)) h := by
  have o0 : (0 : Int) ≤ x := by first | assumption | omega | (simp_all; done)
  have o1 : x ≤ (12 : Int) := by first | assumption | omega | (simp_all; done)
  have o2 : decide (x ≥ (4294967296 : Int)) = false := by first | assumption | omega | (apply q97 <;> first | assumption | omega) | (simp_all; done)
  have o3 : decide (x ≥ (65536 : Int)) = false := by first | assumption | omega | (apply q97 <;> first | assumption | omega) | (simp_all; done)
  have o4 : decide (x ≥ (256 : Int)) = false := by first | assumption | omega | (apply q97 <;> first | assumption | omega) | (simp_all; done)
  exact Ret.of_run1 mix [(AV.int IntKind.i64 (r76.v x))] Try.func76 rfl [.b false, .ret (AV.int IntKind.i64 (r97.v x)) ([])] (by simp) (by simp) (kmp (by kernel_rfl) (And.intro (rfl : false = false) (And.intro (r97 (x) o0 o1 o2 o3 o4 ([])) (And.intro (show (AV.int IntKind.i64 (r97.v x)) = ((AV.int IntKind.i64 (r76.v x))) by first | (simp only [r76.v, cond_true, cond_false]; done) | (try unfold r76.v; try rfl; done) | rfl) trivial)))) h

noncomputable def r75.v (n : Nat) (F : Nat → LD) : Nat → LD := r88.v n F

theorem r75 (n : Nat) (hn : n ≤ 12) (g : Nat → LD) (bed : Int) (ks : List ByteArray) (F : Nat → LD) (lim : Int) (hl : decide (IntKind.i64.wrap ((↑n : Int) - 0) ≤ 12) = true) : Ret Try.prog 75 ([AV.ms 3 n 4 0 n, AV.int IntKind.i64 0, AV.int IntKind.i64 (↑n : Int), AV.int IntKind.i64 lim, AV.fn 53 []]) ([AObj.var (lds n g), AObj.var (AV.int IntKind.i64 bed), AObj.map (MCol.sset ks), AObj.row 4 n (Col.gen n fun (a : Nat) => (F a).av)]) (AV.tup []) ( [AObj.var (lds n g), AObj.var (AV.int IntKind.i64 bed), AObj.map (MCol.sset ks), (AObj.row 4 (n) (Col.gen (n) fun (i_ : Nat) => LD.av ((r75.v n F) i_)))]) := by
  have o0 : n ≤ (12 : Nat) := by first | assumption | omega | (simp_all; done)
  exact Ret.of_runW mix [] ([AObj.var (lds n g), AObj.var (AV.int IntKind.i64 bed), AObj.map (MCol.sset ks), AObj.row 4 n (Col.gen n fun (a : Nat) => (F a).av)]) ( [AObj.var (lds n g), AObj.var (AV.int IntKind.i64 bed), AObj.map (MCol.sset ks), (AObj.row 4 (n) (Col.gen (n) fun (i_ : Nat) => LD.av ((r75.v n F) i_)))]) Try.func75 rfl [.rounds 1, .b true, .ret (AV.tup []) ([AObj.var (AV.sl 4 n fun (i : Nat) => AV.agg [AV.str (g i).nm, AV.int IntKind.i64 (g i).lo, AV.int IntKind.i64 (g i).ln, AV.int IntKind.i64 (g i).ms]), AObj.var (AV.int IntKind.i64 bed), AObj.map (MCol.sset ks), AObj.row 4 n (Col.gen n fun (i_ : Nat) => AV.agg [AV.str (r88.v n F i_).nm, AV.int IntKind.i64 (r88.v n F i_).lo, AV.int IntKind.i64 (r88.v n F i_).ln, AV.int IntKind.i64 (r88.v n F i_).ms])])] (by simp) (And.intro (Or.inl rfl) (And.intro (Or.inl rfl) (And.intro (Or.inl rfl) (And.intro (Or.inr (by first | (intro i_ hi_; simp [Col.get, LD.av, TD.av]; done) | (intro i_ hi_; simp [Col.get]; done) | (simp [AObj.Low]; done))) trivial)))) (kmp (by kernel_rfl) (And.intro hl (And.intro (r88 (n) o0 (g) (bed) (ks) (F)) (And.intro trivial (show (([AObj.var (lds n g), AObj.var (AV.int IntKind.i64 bed), AObj.map (MCol.sset ks), AObj.row 4 n (Col.gen n fun (i_ : Nat) => AV.agg [AV.str (r88.v n F i_).nm, AV.int IntKind.i64 (r88.v n F i_).lo, AV.int IntKind.i64 (r88.v n F i_).ln, AV.int IntKind.i64 (r88.v n F i_).ms])]) : AHeap) = ( [AObj.var (lds n g), AObj.var (AV.int IntKind.i64 bed), AObj.map (MCol.sset ks), (AObj.row 4 (n) (Col.gen (n) fun (i_ : Nat) => LD.av ((r75.v n F) i_)))]) by first | (simp only [r75.v, cond_true, cond_false]; done) | (try unfold r75.v; try rfl; done) | rfl)))))

noncomputable def r52.v (n : Nat) (F : Nat → LD) : Nat → LD := r75.v n F

theorem r52 (n : Nat) (hn : n ≤ 12) (g : Nat → LD) (bed : Int) (ks : List ByteArray) (F : Nat → LD) : Ret Try.prog 52 ([AV.ms 3 n 4 0 n, AV.fn 53 []]) ([AObj.var (lds n g), AObj.var (AV.int IntKind.i64 bed), AObj.map (MCol.sset ks), AObj.row 4 n (Col.gen n fun (a : Nat) => (F a).av)]) (AV.tup []) ( [AObj.var (lds n g), AObj.var (AV.int IntKind.i64 bed), AObj.map (MCol.sset ks), (AObj.row 4 (n) (Col.gen (n) fun (i_ : Nat) => LD.av ((r52.v n F) i_)))]) := by
  try have := IntWalk.u64_in ((↑n : Int)) (by omega)
  have o0 : (0 : Int) ≤ IntKind.u64.wrap (↑n : Int) := by first | assumption | omega | (simp_all; done)
  have o1 : IntKind.u64.wrap (↑n : Int) ≤ (12 : Int) := by first | assumption | omega | (simp_all; done)
  have o2 : n ≤ (12 : Nat) := by first | assumption | omega | (simp_all; done)
  try have := IntWalk.i64_in ((↑n : Int) - 0) (by omega)
  have o3 : decide (IntKind.i64.wrap ((↑n : Int) - (0 : Int)) ≤ (12 : Int)) = true := by first | assumption | omega | (apply n12 <;> first | assumption | omega) | (simp_all; done)
  exact Ret.of_runW mix [] ([AObj.var (lds n g), AObj.var (AV.int IntKind.i64 bed), AObj.map (MCol.sset ks), AObj.row 4 n (Col.gen n fun (a : Nat) => (F a).av)]) ( [AObj.var (lds n g), AObj.var (AV.int IntKind.i64 bed), AObj.map (MCol.sset ks), (AObj.row 4 (n) (Col.gen (n) fun (i_ : Nat) => LD.av ((r52.v n F) i_)))]) Try.func52 rfl [.ret (AV.int IntKind.i64 (r76.v (IntKind.u64.wrap (↑n : Int)))) ([AObj.var (AV.sl 4 n fun (i : Nat) => AV.agg [AV.str (g i).nm, AV.int IntKind.i64 (g i).lo, AV.int IntKind.i64 (g i).ln, AV.int IntKind.i64 (g i).ms]), AObj.var (AV.int IntKind.i64 bed), AObj.map (MCol.sset ks), AObj.row 4 n (Col.gen n fun (a : Nat) => AV.agg [AV.str (F a).nm, AV.int IntKind.i64 (F a).lo, AV.int IntKind.i64 (F a).ln, AV.int IntKind.i64 (F a).ms])]), .ret (AV.tup []) ([AObj.var (AV.sl 4 n fun (i : Nat) => AV.agg [AV.str (g i).nm, AV.int IntKind.i64 (g i).lo, AV.int IntKind.i64 (g i).ln, AV.int IntKind.i64 (g i).ms]), AObj.var (AV.int IntKind.i64 bed), AObj.map (MCol.sset ks), AObj.row 4 n (Col.gen n fun (i_ : Nat) => AV.agg [AV.str (r75.v n F i_).nm, AV.int IntKind.i64 (r75.v n F i_).lo, AV.int IntKind.i64 (r75.v n F i_).ln, AV.int IntKind.i64 (r75.v n F i_).ms])])] (by simp) (And.intro (Or.inl rfl) (And.intro (Or.inl rfl) (And.intro (Or.inl rfl) (And.intro (Or.inr (by first | (intro i_ hi_; simp [Col.get, LD.av, TD.av]; done) | (intro i_ hi_; simp [Col.get]; done) | (simp [AObj.Low]; done))) trivial)))) (kmp (by kernel_rfl) (And.intro (r76 (IntKind.u64.wrap (↑n : Int)) o0 o1 ([AObj.var (AV.sl 4 n fun (i : Nat) => AV.agg [AV.str (g i).nm, AV.int IntKind.i64 (g i).lo, AV.int IntKind.i64 (g i).ln, AV.int IntKind.i64 (g i).ms]), AObj.var (AV.int IntKind.i64 bed), AObj.map (MCol.sset ks), AObj.row 4 n (Col.gen n fun (a : Nat) => AV.agg [AV.str (F a).nm, AV.int IntKind.i64 (F a).lo, AV.int IntKind.i64 (F a).ln, AV.int IntKind.i64 (F a).ms])])) (And.intro (r75 (n) o2 (g) (bed) (ks) (F) (r76.v (IntKind.u64.wrap (↑n : Int))) o3) (And.intro trivial (show (([AObj.var (lds n g), AObj.var (AV.int IntKind.i64 bed), AObj.map (MCol.sset ks), AObj.row 4 n (Col.gen n fun (i_ : Nat) => AV.agg [AV.str (r75.v n F i_).nm, AV.int IntKind.i64 (r75.v n F i_).lo, AV.int IntKind.i64 (r75.v n F i_).ln, AV.int IntKind.i64 (r75.v n F i_).ms])]) : AHeap) = ( [AObj.var (lds n g), AObj.var (AV.int IntKind.i64 bed), AObj.map (MCol.sset ks), (AObj.row 4 (n) (Col.gen (n) fun (i_ : Nat) => LD.av ((r52.v n F) i_)))]) by first | (simp only [r52.v, cond_true, cond_false]; done) | (try unfold r52.v; try rfl; done) | rfl)))))

end Go.Proofs.Ytngpbfocjgikaaa

open Go

namespace Go.Proofs.Ytngpbfocjgikaaa

set_option linter.unusedSimpArgs false

set_option linter.unusedVariables false

set_option maxHeartbeats 0

set_option maxRecDepth 100000

inductive L35s.O where
  | e0 (a0 : List ByteArray)
  | e1 (a0 : List ByteArray)

noncomputable def L35s.T (n : Nat) (g : Nat → LD) (bed : Int) (i : Int) (ks : List ByteArray) : List AV := mkT 69 [(2, AV.ptr 0 1 1 0 0), (3, AV.ptr 1 1 1 0 0), (5, AV.fn 46 [AV.ptr 0 1 1 0 0]), (6, AV.mp 2), (23, lds n g), (24, AV.int IntKind.i64 (↑n : Int)), (25, AV.int IntKind.i64 i)]

noncomputable def L35s.H (n : Nat) (g : Nat → LD) (bed : Int) (i : Int) (ks : List ByteArray) : AHeap := [AObj.var (lds n g), AObj.var (AV.int IntKind.i64 bed), AObj.map (MCol.sset ks)]

def L35s.inv (n : Nat) (g : Nat → LD) (bed : Int) (i : Int) (ks : List ByteArray) : Prop := 0 ≤ i ∧ (i ≤ (↑n : Int) ∨ i ≤ 0)

noncomputable def L35s.mu (n : Nat) (g : Nat → LD) (bed : Int) (i : Int) (ks : List ByteArray) : Nat := ((↑n : Int) - i).toNat

noncomputable def L35s.E : L35s.O → Exit
  | .e0 a0 => Exit.ret
  | .e1 a0 => Exit.exit 1

noncomputable def L35s.X (n : Nat) (g : Nat → LD) (bed : Int) : L35s.O → List AV
  | .e0 a0 => mkT 69 [(4, (AV.int IntKind.i64 5))]
  | .e1 a0 => mkT 69 [(2, (AV.ptr 0 1 1 0 0)), (3, (AV.ptr 1 1 1 0 0)), (5, (AV.fn 46 [AV.ptr 0 1 1 0 0]))]

noncomputable def L35s.XH (n : Nat) (g : Nat → LD) (bed : Int) : L35s.O → AHeap
  | .e0 a0 => ((AObj.var (AV.sl 4 n fun (i : Nat) => AV.agg [AV.str (g i).nm, AV.int IntKind.i64 (g i).lo, AV.int IntKind.i64 (g i).ln, AV.int IntKind.i64 (g i).ms])) :: ((AObj.var (AV.int IntKind.i64 bed)) :: ((AObj.map (MCol.sset a0)) :: ([]))))
  | .e1 a0 => ((AObj.var (AV.sl 4 n fun (i : Nat) => AV.agg [AV.str (g i).nm, AV.int IntKind.i64 (g i).lo, AV.int IntKind.i64 (g i).ln, AV.int IntKind.i64 (g i).ms])) :: ((AObj.var (AV.int IntKind.i64 bed)) :: ((AObj.map (MCol.sset a0)) :: ([]))))

noncomputable def L35s.N (n : Nat) (g : Nat → LD) : Nat → Int → (List ByteArray) → L35s.O
  | 0, _, ks => .e0 ks
  | k_ + 1, i, ks => (bif decide (i < (↑n : Int)) then (bif hasS ks (g i.toNat).nm then (.e0 (ks)) else (L35s.N n g k_ (IntKind.i64.wrap (i + 1)) (addS ks (g i.toNat).nm))) else (.e1 (ks)))

noncomputable def L35s.run (n : Nat) (g : Nat → LD) (i : Int) (ks : List ByteArray) : L35s.O := L35s.N n g ((((↑n : Int) - i).toNat) + 1) i ks

theorem L35s.nx (n : Nat) (g : Nat → LD) (bed : Int) {k_ : Nat} {z_ : Int × (List ByteArray)} {h_ : AHeap} (s_ : Int × (List ByteArray)) (h1 : L35s.inv n g bed s_.1 s_.2) (h2 : L35s.mu n g bed s_.1 s_.2 < L35s.mu n g bed z_.1 z_.2) (h3 : L35s.N n g k_ s_.1 s_.2 = L35s.N n g (k_ + 1) z_.1 z_.2) (h4 : PopOk (L35s.H n g bed z_.1 z_.2) h_ (L35s.T n g bed s_.1 s_.2) (L35s.H n g bed s_.1 s_.2)) : LNextP (fun (z_ : Int × (List ByteArray)) => L35s.T n g bed z_.1 z_.2) (fun (z_ : Int × (List ByteArray)) => L35s.H n g bed z_.1 z_.2) (fun (z_ : Int × (List ByteArray)) => L35s.inv n g bed z_.1 z_.2) (fun (z_ : Int × (List ByteArray)) => L35s.mu n g bed z_.1 z_.2) (fun (k_ : Nat) (z_ : Int × (List ByteArray)) => L35s.N n g k_ z_.1 z_.2) k_ z_ (L35s.T n g bed s_.1 s_.2) h_ := LNextP.mk (Tm := (fun (z_ : Int × (List ByteArray)) => L35s.T n g bed z_.1 z_.2)) (Hp := (fun (z_ : Int × (List ByteArray)) => L35s.H n g bed z_.1 z_.2)) (inv := (fun (z_ : Int × (List ByteArray)) => L35s.inv n g bed z_.1 z_.2)) (mu := (fun (z_ : Int × (List ByteArray)) => L35s.mu n g bed z_.1 z_.2)) (l := (fun (k_ : Nat) (z_ : Int × (List ByteArray)) => L35s.N n g k_ z_.1 z_.2)) s_ h1 h2 h3 h4

theorem L35s.en (n : Nat) (g : Nat → LD) (bed : Int) {k_ : Nat} {z_ : Int × (List ByteArray)} {h_ : AHeap} (o_ : L35s.O) (h3 : L35s.N n g (k_ + 1) z_.1 z_.2 = o_) (h4 : PopOk (L35s.H n g bed z_.1 z_.2) h_ (L35s.X n g bed o_) (L35s.XH n g bed o_)) : LEndP (fun (z_ : Int × (List ByteArray)) => L35s.H n g bed z_.1 z_.2) (fun (k_ : Nat) (z_ : Int × (List ByteArray)) => L35s.N n g k_ z_.1 z_.2) L35s.E (L35s.X n g bed) (L35s.XH n g bed) k_ z_ (L35s.E o_) (L35s.X n g bed o_) h_ := LEndP.mk (Hp := (fun (z_ : Int × (List ByteArray)) => L35s.H n g bed z_.1 z_.2)) (l := (fun (k_ : Nat) (z_ : Int × (List ByteArray)) => L35s.N n g k_ z_.1 z_.2)) (oE := L35s.E) (oT := L35s.X n g bed) (oH := L35s.XH n g bed) o_ h3 h4

theorem L35s.spec (n : Nat) (g : Nat → LD) (hn : n ≤ 9223372036854775807) (bed : Int) (k_ : Nat) (z_ : Int × (List ByteArray)) (hi_ : L35s.inv n g bed z_.1 z_.2) (hm_ : L35s.mu n g bed z_.1 z_.2 < k_) : LoopTo Try.prog (loopN Try.f35 0) (L35s.T n g bed z_.1 z_.2) (L35s.H n g bed z_.1 z_.2) (L35s.E (L35s.N n g k_ z_.1 z_.2)) (L35s.X n g bed (L35s.N n g k_ z_.1 z_.2)) (L35s.XH n g bed (L35s.N n g k_ z_.1 z_.2)) := by
  refine LoopTo.fuelP mix (fun (z_ : Int × (List ByteArray)) => L35s.T n g bed z_.1 z_.2) (fun (z_ : Int × (List ByteArray)) => L35s.H n g bed z_.1 z_.2) (fun (z_ : Int × (List ByteArray)) => L35s.inv n g bed z_.1 z_.2) (fun (z_ : Int × (List ByteArray)) => L35s.mu n g bed z_.1 z_.2) (fun (k_ : Nat) (z_ : Int × (List ByteArray)) => L35s.N n g k_ z_.1 z_.2) L35s.E (L35s.X n g bed) (L35s.XH n g bed) (others 69 [2, 3, 5, 6, 23, 24, 25]) (others 69 [4]) (others 69 [2, 3, 5]) ?_ k_ z_ hi_ hm_
  clear hm_ hi_ z_ k_
  intro k_ z_ hinv hmu
  obtain ⟨i, ks⟩ := z_
  have hinv : 0 ≤ i ∧ (i ≤ (↑n : Int) ∨ i ≤ 0) := hinv
  have hmu : (((↑n : Int) - i).toNat) < k_ + 1 := hmu
  cases h1 : decide (i < (↑n : Int)) with
  | true =>
    have h1p := of_decide_eq_true h1
    have o0 : (0 : Int) ≤ i := by first | assumption | omega | (simp_all; done)
    have o1 : i < (↑n : Int) := by first | assumption | omega | (simp_all; done)
    cases h2 : hasS ks (g i.toNat).nm with
    | true =>
      exact ⟨[.b true, .b true], kmp (by kernel_rfl) (And.intro h1 (And.intro (And.intro o0 o1) (And.intro h2 (L35s.en n g bed (k_ := k_) (z_ := (i, ks)) (h_ := [AObj.var (AV.sl 4 n fun (i : Nat) => AV.agg [AV.str (g i).nm, AV.int IntKind.i64 (g i).lo, AV.int IntKind.i64 (g i).ln, AV.int IntKind.i64 (g i).ms]), AObj.var (AV.int IntKind.i64 bed), AObj.map (MCol.sset ks), AObj.var (AV.agg [AV.str (g i.toNat).nm, AV.int IntKind.i64 (g i.toNat).lo, AV.int IntKind.i64 (g i.toNat).ln, AV.int IntKind.i64 (g i.toNat).ms])]) (.e0 (ks) : L35s.O) (by first | (simp only [L35s.N, h1, h2, cond_true, cond_false]; done) | (try unfold L35s.N; try simp only [h1, cond_true, cond_false]; try simp only [h2, cond_true, cond_false]; try rfl; done)) (PopOk.pop rfl (by simp [L35s.T, L35s.X, L35s.H, L35s.XH]))))))⟩
    | false =>
      try have := IntWalk.i64_in (i + 1) (by omega)
      have o2 : (0 : Int) ≤ IntKind.i64.wrap (i + (1 : Int)) := by first | assumption | omega | (simp_all; done)
      have o3 : IntKind.i64.wrap (i + (1 : Int)) ≤ (↑n : Int) ∨ IntKind.i64.wrap (i + (1 : Int)) ≤ (0 : Int) := by first | assumption | omega | (simp_all; done)
      have o4 : ((↑n : Int) - IntKind.i64.wrap (i + (1 : Int))).toNat < ((↑n : Int) - i).toNat := by first | assumption | omega | (simp_all; done)
      exact ⟨[.b true, .b false], kmp (by kernel_rfl) (And.intro h1 (And.intro (And.intro o0 o1) (And.intro h2 (L35s.nx n g bed (k_ := k_) (z_ := (i, ks)) (h_ := [AObj.var (AV.sl 4 n fun (i : Nat) => AV.agg [AV.str (g i).nm, AV.int IntKind.i64 (g i).lo, AV.int IntKind.i64 (g i).ln, AV.int IntKind.i64 (g i).ms]), AObj.var (AV.int IntKind.i64 bed), AObj.map (MCol.sset (addS ks (g i.toNat).nm)), AObj.var (AV.agg [AV.str (g i.toNat).nm, AV.int IntKind.i64 (g i.toNat).lo, AV.int IntKind.i64 (g i.toNat).ln, AV.int IntKind.i64 (g i.toNat).ms])]) ((IntKind.i64.wrap (i + 1), addS ks (g i.toNat).nm)) (And.intro o2 o3) o4 (by first | (simp only [L35s.N, h1, h2, cond_true, cond_false]; done) | (try unfold L35s.N; try simp only [h1, cond_true, cond_false]; try simp only [h2, cond_true, cond_false]; try rfl; done)) (PopOk.popLow _ rfl rfl (by simp [L35s.T, L35s.X, L35s.H, L35s.XH]) (by simp [L35s.T, L35s.X, L35s.H, L35s.XH]))))))⟩
  | false =>
    have h1p := of_decide_eq_false h1
    exact ⟨[.b false], kmp (by kernel_rfl) (And.intro h1 (L35s.en n g bed (k_ := k_) (z_ := (i, ks)) (.e1 (ks) : L35s.O) (by first | (simp only [L35s.N, h1, cond_true, cond_false]; done) | (try unfold L35s.N; try simp only [h1, cond_true, cond_false]; try rfl; done)) PopOk.same))⟩

theorem L35s.e0 (n : Nat) (g : Nat → LD) (hn : n ≤ 9223372036854775807) (bed : Int) (i : Int) (ks : List ByteArray) (hinv : L35s.inv n g bed i ks) (a0 : List ByteArray) (hN : L35s.run n g i ks = (.e0 a0 : L35s.O)) : LoopTo Try.prog (loopN Try.f35 0) (L35s.T n g bed i ks) (L35s.H n g bed i ks) (Exit.ret) (L35s.X n g bed (.e0 a0 : L35s.O)) (L35s.XH n g bed (.e0 a0 : L35s.O)) := by
  have h_ := L35s.spec n g hn bed ((((↑n : Int) - i).toNat) + 1) (i, ks) hinv (Nat.lt_succ_self _)
  unfold L35s.run at hN
  simp only [hN] at h_
  exact h_

theorem L35s.e1 (n : Nat) (g : Nat → LD) (hn : n ≤ 9223372036854775807) (bed : Int) (i : Int) (ks : List ByteArray) (hinv : L35s.inv n g bed i ks) (a0 : List ByteArray) (hN : L35s.run n g i ks = (.e1 a0 : L35s.O)) : LoopTo Try.prog (loopN Try.f35 0) (L35s.T n g bed i ks) (L35s.H n g bed i ks) (Exit.exit 1) (L35s.X n g bed (.e1 a0 : L35s.O)) (L35s.XH n g bed (.e1 a0 : L35s.O)) := by
  have h_ := L35s.spec n g hn bed ((((↑n : Int) - i).toNat) + 1) (i, ks) hinv (Nat.lt_succ_self _)
  unfold L35s.run at hN
  simp only [hN] at h_
  exact h_

inductive L35o.O where
  | e0
  | e1

noncomputable def L35o.T (n : Nat) (g : Nat → LD) (bed : Int) (ks : List ByteArray) (F : Nat → LD) (i : Int) : List AV := mkT 69 [(9, AV.ms 3 n 4 0 n), (10, AV.int IntKind.i64 i)]

noncomputable def L35o.H (n : Nat) (g : Nat → LD) (bed : Int) (ks : List ByteArray) (F : Nat → LD) (i : Int) : AHeap := [AObj.var (lds n g), AObj.var (AV.int IntKind.i64 bed), AObj.map (MCol.sset ks), AObj.row 4 n (Col.gen n fun (a : Nat) => (F a).av)]

def L35o.inv (n : Nat) (g : Nat → LD) (bed : Int) (ks : List ByteArray) (F : Nat → LD) (i : Int) : Prop := 1 ≤ i ∧ (i ≤ (↑n : Int) ∨ i ≤ 1)

noncomputable def L35o.mu (n : Nat) (g : Nat → LD) (bed : Int) (ks : List ByteArray) (F : Nat → LD) (i : Int) : Nat := ((↑n : Int) - i).toNat

noncomputable def L35o.E : L35o.O → Exit
  | .e0 => Exit.ret
  | .e1 => Exit.exit 3

noncomputable def L35o.X (n : Nat) (g : Nat → LD) (bed : Int) (ks : List ByteArray) (F : Nat → LD) : L35o.O → List AV
  | .e0 => mkT 69 [(4, (AV.int IntKind.i64 11))]
  | .e1 => mkT 69 []

noncomputable def L35o.XH (n : Nat) (g : Nat → LD) (bed : Int) (ks : List ByteArray) (F : Nat → LD) : L35o.O → AHeap
  | .e0 => ([AObj.var (AV.sl 4 n fun (i : Nat) => AV.agg [AV.str (g i).nm, AV.int IntKind.i64 (g i).lo, AV.int IntKind.i64 (g i).ln, AV.int IntKind.i64 (g i).ms]), AObj.var (AV.int IntKind.i64 bed), AObj.map (MCol.sset ks), AObj.row 4 n (Col.gen n fun (a : Nat) => AV.agg [AV.str (F a).nm, AV.int IntKind.i64 (F a).lo, AV.int IntKind.i64 (F a).ln, AV.int IntKind.i64 (F a).ms])])
  | .e1 => ([AObj.var (AV.sl 4 n fun (i : Nat) => AV.agg [AV.str (g i).nm, AV.int IntKind.i64 (g i).lo, AV.int IntKind.i64 (g i).ln, AV.int IntKind.i64 (g i).ms]), AObj.var (AV.int IntKind.i64 bed), AObj.map (MCol.sset ks), AObj.row 4 n (Col.gen n fun (a : Nat) => AV.agg [AV.str (F a).nm, AV.int IntKind.i64 (F a).lo, AV.int IntKind.i64 (F a).ln, AV.int IntKind.i64 (F a).ms])])

noncomputable def L35o.N (n : Nat) (F : Nat → LD) : Nat → Int → L35o.O
  | 0, _ => .e0
  | k_ + 1, i => (bif decide (i < (↑n : Int)) then (bif decide ((F (0 + i.toNat)).lo < IntKind.i64.wrap ((F (0 + (IntKind.i64.wrap (i - 1)).toNat)).lo + (F (0 + (IntKind.i64.wrap (i - 1)).toNat)).ln)) then (.e0) else (L35o.N n F k_ (IntKind.i64.wrap (i + 1)))) else (.e1))

noncomputable def L35o.run (n : Nat) (F : Nat → LD) (i : Int) : L35o.O := L35o.N n F ((((↑n : Int) - i).toNat) + 1) i

theorem L35o.nx (n : Nat) (g : Nat → LD) (bed : Int) (ks : List ByteArray) (F : Nat → LD) {k_ : Nat} {z_ : Int} {h_ : AHeap} (s_ : Int) (h1 : L35o.inv n g bed ks F s_) (h2 : L35o.mu n g bed ks F s_ < L35o.mu n g bed ks F z_) (h3 : L35o.N n F k_ s_ = L35o.N n F (k_ + 1) z_) (h4 : PopOk (L35o.H n g bed ks F z_) h_ (L35o.T n g bed ks F s_) (L35o.H n g bed ks F s_)) : LNextP (fun (z_ : Int) => L35o.T n g bed ks F z_) (fun (z_ : Int) => L35o.H n g bed ks F z_) (fun (z_ : Int) => L35o.inv n g bed ks F z_) (fun (z_ : Int) => L35o.mu n g bed ks F z_) (fun (k_ : Nat) (z_ : Int) => L35o.N n F k_ z_) k_ z_ (L35o.T n g bed ks F s_) h_ := LNextP.mk (Tm := (fun (z_ : Int) => L35o.T n g bed ks F z_)) (Hp := (fun (z_ : Int) => L35o.H n g bed ks F z_)) (inv := (fun (z_ : Int) => L35o.inv n g bed ks F z_)) (mu := (fun (z_ : Int) => L35o.mu n g bed ks F z_)) (l := (fun (k_ : Nat) (z_ : Int) => L35o.N n F k_ z_)) s_ h1 h2 h3 h4

theorem L35o.en (n : Nat) (g : Nat → LD) (bed : Int) (ks : List ByteArray) (F : Nat → LD) {k_ : Nat} {z_ : Int} {h_ : AHeap} (o_ : L35o.O) (h3 : L35o.N n F (k_ + 1) z_ = o_) (h4 : PopOk (L35o.H n g bed ks F z_) h_ (L35o.X n g bed ks F o_) (L35o.XH n g bed ks F o_)) : LEndP (fun (z_ : Int) => L35o.H n g bed ks F z_) (fun (k_ : Nat) (z_ : Int) => L35o.N n F k_ z_) L35o.E (L35o.X n g bed ks F) (L35o.XH n g bed ks F) k_ z_ (L35o.E o_) (L35o.X n g bed ks F o_) h_ := LEndP.mk (Hp := (fun (z_ : Int) => L35o.H n g bed ks F z_)) (l := (fun (k_ : Nat) (z_ : Int) => L35o.N n F k_ z_)) (oE := L35o.E) (oT := L35o.X n g bed ks F) (oH := L35o.XH n g bed ks F) o_ h3 h4

theorem L35o.spec (n : Nat) (hn : n ≤ 12) (g : Nat → LD) (bed : Int) (ks : List ByteArray) (F : Nat → LD) (k_ : Nat) (z_ : Int) (hi_ : L35o.inv n g bed ks F z_) (hm_ : L35o.mu n g bed ks F z_ < k_) : LoopTo Try.prog (loopN Try.f35 1) (L35o.T n g bed ks F z_) (L35o.H n g bed ks F z_) (L35o.E (L35o.N n F k_ z_)) (L35o.X n g bed ks F (L35o.N n F k_ z_)) (L35o.XH n g bed ks F (L35o.N n F k_ z_)) := by
  refine LoopTo.fuelP mix (fun (z_ : Int) => L35o.T n g bed ks F z_) (fun (z_ : Int) => L35o.H n g bed ks F z_) (fun (z_ : Int) => L35o.inv n g bed ks F z_) (fun (z_ : Int) => L35o.mu n g bed ks F z_) (fun (k_ : Nat) (z_ : Int) => L35o.N n F k_ z_) L35o.E (L35o.X n g bed ks F) (L35o.XH n g bed ks F) (others 69 [9, 10]) (others 69 [4]) (others 69 []) ?_ k_ z_ hi_ hm_
  clear hm_ hi_ z_ k_
  intro k_ z_ hinv hmu
  revert hinv hmu; revert z_; intro i hinv hmu
  have hinv : 1 ≤ i ∧ (i ≤ (↑n : Int) ∨ i ≤ 1) := hinv
  have hmu : (((↑n : Int) - i).toNat) < k_ + 1 := hmu
  cases h1 : decide (i < (↑n : Int)) with
  | true =>
    have h1p := of_decide_eq_true h1
    have o0 : (0 : Int) ≤ i := by first | assumption | omega | (simp_all; done)
    have o1 : i < (↑n : Int) := by first | assumption | omega | (simp_all; done)
    have o2 : (0 : Nat) + i.toNat < n := by first | assumption | omega | (simp_all; done)
    try have := IntWalk.i64_in (i - 1) (by omega)
    have o3 : (0 : Int) ≤ IntKind.i64.wrap (i - (1 : Int)) := by first | assumption | omega | (simp_all; done)
    have o4 : IntKind.i64.wrap (i - (1 : Int)) < (↑n : Int) := by first | assumption | omega | (simp_all; done)
    have o5 : (0 : Nat) + (IntKind.i64.wrap (i - (1 : Int))).toNat < n := by first | assumption | omega | (simp_all; done)
    cases h2 : decide ((F (0 + i.toNat)).lo < IntKind.i64.wrap ((F (0 + (IntKind.i64.wrap (i - 1)).toNat)).lo + (F (0 + (IntKind.i64.wrap (i - 1)).toNat)).ln)) with
    | true =>
      have h2p := of_decide_eq_true h2
      exact ⟨[.b true, .b true], kmp (by kernel_rfl) (And.intro h1 (And.intro (And.intro o0 o1) (And.intro (And.intro (rfl : n = n) (And.intro (show (4 : Nat) = (4 : Nat) by first | decide | exact Int.NonNeg.mk _) o2)) (And.intro (And.intro o3 o4) (And.intro (And.intro (rfl : n = n) (And.intro (show (4 : Nat) = (4 : Nat) by first | decide | exact Int.NonNeg.mk _) o5)) (And.intro (And.intro o3 o4) (And.intro (And.intro (rfl : n = n) (And.intro (show (4 : Nat) = (4 : Nat) by first | decide | exact Int.NonNeg.mk _) o5)) (And.intro h2 (L35o.en n g bed ks F (k_ := k_) (z_ := i) (.e0 : L35o.O) (by first | (simp only [L35o.N, h1, h2, cond_true, cond_false]; done) | (try unfold L35o.N; try simp only [h1, cond_true, cond_false]; try simp only [h2, cond_true, cond_false]; try rfl; done)) PopOk.same)))))))))⟩
    | false =>
      have h2p := of_decide_eq_false h2
      try have := IntWalk.i64_in (i + 1) (by omega)
      have o6 : (1 : Int) ≤ IntKind.i64.wrap (i + (1 : Int)) := by first | assumption | omega | (simp_all; done)
      have o7 : IntKind.i64.wrap (i + (1 : Int)) ≤ (↑n : Int) ∨ IntKind.i64.wrap (i + (1 : Int)) ≤ (1 : Int) := by first | assumption | omega | (simp_all; done)
      have o8 : ((↑n : Int) - IntKind.i64.wrap (i + (1 : Int))).toNat < ((↑n : Int) - i).toNat := by first | assumption | omega | (simp_all; done)
      exact ⟨[.b true, .b false], kmp (by kernel_rfl) (And.intro h1 (And.intro (And.intro o0 o1) (And.intro (And.intro (rfl : n = n) (And.intro (show (4 : Nat) = (4 : Nat) by first | decide | exact Int.NonNeg.mk _) o2)) (And.intro (And.intro o3 o4) (And.intro (And.intro (rfl : n = n) (And.intro (show (4 : Nat) = (4 : Nat) by first | decide | exact Int.NonNeg.mk _) o5)) (And.intro (And.intro o3 o4) (And.intro (And.intro (rfl : n = n) (And.intro (show (4 : Nat) = (4 : Nat) by first | decide | exact Int.NonNeg.mk _) o5)) (And.intro h2 (L35o.nx n g bed ks F (k_ := k_) (z_ := i) (IntKind.i64.wrap (i + 1)) (And.intro o6 o7) o8 (by first | (simp only [L35o.N, h1, h2, cond_true, cond_false]; done) | (try unfold L35o.N; try simp only [h1, cond_true, cond_false]; try simp only [h2, cond_true, cond_false]; try rfl; done)) PopOk.same)))))))))⟩
  | false =>
    have h1p := of_decide_eq_false h1
    exact ⟨[.b false], kmp (by kernel_rfl) (And.intro h1 (L35o.en n g bed ks F (k_ := k_) (z_ := i) (.e1 : L35o.O) (by first | (simp only [L35o.N, h1, cond_true, cond_false]; done) | (try unfold L35o.N; try simp only [h1, cond_true, cond_false]; try rfl; done)) PopOk.same))⟩

theorem L35o.e0 (n : Nat) (hn : n ≤ 12) (g : Nat → LD) (bed : Int) (ks : List ByteArray) (F : Nat → LD) (i : Int) (hinv : L35o.inv n g bed ks F i) (hN : L35o.run n F i = (.e0 : L35o.O)) : LoopTo Try.prog (loopN Try.f35 1) (L35o.T n g bed ks F i) (L35o.H n g bed ks F i) (Exit.ret) (L35o.X n g bed ks F (.e0 : L35o.O)) (L35o.XH n g bed ks F (.e0 : L35o.O)) := by
  have h_ := L35o.spec n hn g bed ks F ((((↑n : Int) - i).toNat) + 1) i hinv (Nat.lt_succ_self _)
  unfold L35o.run at hN
  simp only [hN] at h_
  exact h_

theorem L35o.e1 (n : Nat) (hn : n ≤ 12) (g : Nat → LD) (bed : Int) (ks : List ByteArray) (F : Nat → LD) (i : Int) (hinv : L35o.inv n g bed ks F i) (hN : L35o.run n F i = (.e1 : L35o.O)) : LoopTo Try.prog (loopN Try.f35 1) (L35o.T n g bed ks F i) (L35o.H n g bed ks F i) (Exit.exit 3) (L35o.X n g bed ks F (.e1 : L35o.O)) (L35o.XH n g bed ks F (.e1 : L35o.O)) := by
  have h_ := L35o.spec n hn g bed ks F ((((↑n : Int) - i).toNat) + 1) i hinv (Nat.lt_succ_self _)
  unfold L35o.run at hN
  simp only [hN] at h_
  exact h_

end Go.Proofs.Ytngpbfocjgikaaa

open Go

namespace Go.Proofs.Ytngpbfocjgikaaa

set_option linter.unusedSimpArgs false

set_option linter.unusedVariables false

set_option maxHeartbeats 0

set_option maxRecDepth 100000

noncomputable def r35.v (n : Nat) (g : Nat → LD) (bed : Int) : Int := (bif decide ((↑n : Int) > 64) then 7 else (bif r46a.v n g then 4 else (bif r46b.v n g then 6 else (match L35s.run n g 0 [] with | .e0 h4d0 => 5 | .e1 h4d0 => (bif r46c.v n g bed then 12 else (match L35o.run n (r52.v n g) 1 with | .e0 => 11 | .e1 => 0 )) ))))

noncomputable abbrev r35.h0 (n : Nat) (g : Nat → LD) (bed : Int) : AHeap := ([AObj.var (AV.sl 4 n fun (i : Nat) => AV.agg [AV.str (g i).nm, AV.int IntKind.i64 (g i).lo, AV.int IntKind.i64 (g i).ln, AV.int IntKind.i64 (g i).ms]), AObj.var (AV.int IntKind.i64 bed)])

theorem r35 (n : Nat) (hn : n ≤ 12) (g : Nat → LD) (hg : ∀ (i : Nat), (g i).nm.size ≤ 9223372036854775807) (bed : Int) (h : AHeap) : Ret Try.prog 35 ([lds n g, AV.int IntKind.i64 bed]) h (AV.int IntKind.i64 (r35.v n g bed)) h := by
  cases h1 : decide ((↑n : Int) > 64) with
  | true =>
    have h1p := of_decide_eq_true h1
    exact Ret.of_run1 mix [(AV.int IntKind.i64 (r35.v n g bed))] Try.func35 rfl [.b true] (by simp) (by simp) (kmp (by kernel_rfl) (And.intro h1 (And.intro (show (AV.int IntKind.i64 7) = ((AV.int IntKind.i64 (r35.v n g bed))) by first | (simp only [r35.v, h1, cond_true, cond_false]; done) | (try unfold r35.v; try simp only [h1, cond_true, cond_false]; try rfl; done) | rfl) trivial))) h
  | false =>
    have h1p := of_decide_eq_false h1
    have o0 : n ≤ (9223372036854775807 : Nat) := by first | assumption | omega | (exact hg _) | (exact hg _ (by omega)) | (simp_all; done)
    have o1 : ∀ (i : Nat), (g i).nm.size ≤ (9223372036854775807 : Nat) := by first | assumption | omega | (exact hg _) | (exact hg _ (by omega)) | (simp_all; done)
    cases h2 : r46a.v n g with
    | true =>
      exact Ret.of_run1 mix [(AV.int IntKind.i64 (r35.v n g bed))] Try.func35 rfl [.b false, .ret (AV.bool (r46a.v n g)) (r35.h0 n g bed), .b true] (by simp) (by simp) (kmp (by kernel_rfl) (And.intro h1 (And.intro (r46a (n) (g) o0 o1 (bed)) (And.intro h2 (And.intro (show (AV.int IntKind.i64 4) = ((AV.int IntKind.i64 (r35.v n g bed))) by first | (simp only [r35.v, h1, h2, cond_true, cond_false]; done) | (try unfold r35.v; try simp only [h1, cond_true, cond_false]; try simp only [h2, cond_true, cond_false]; try rfl; done) | rfl) trivial))))) h
    | false =>
      cases h3 : r46b.v n g with
      | true =>
        exact Ret.of_run1 mix [(AV.int IntKind.i64 (r35.v n g bed))] Try.func35 rfl [.b false, .ret (AV.bool (r46a.v n g)) (r35.h0 n g bed), .b false, .ret (AV.bool (r46b.v n g)) (r35.h0 n g bed), .b true] (by simp) (by simp) (kmp (by kernel_rfl) (And.intro h1 (And.intro (r46a (n) (g) o0 o1 (bed)) (And.intro h2 (And.intro (r46b (n) (g) o0 (bed)) (And.intro h3 (And.intro (show (AV.int IntKind.i64 6) = ((AV.int IntKind.i64 (r35.v n g bed))) by first | (simp only [r35.v, h1, h2, h3, cond_true, cond_false]; done) | (try unfold r35.v; try simp only [h1, cond_true, cond_false]; try simp only [h2, cond_true, cond_false]; try simp only [h3, cond_true, cond_false]; try rfl; done) | rfl) trivial))))))) h
      | false =>
        have o2 : (0 : Int) ≤ (↑n : Int) ∨ (0 : Int) ≤ (0 : Int) := by first | assumption | omega | (exact hg _) | (exact hg _ (by omega)) | (simp_all; done)
        cases h4 : L35s.run n g 0 [] with
        | e0 h4d0 =>
          exact Ret.of_run1 mix [(AV.int IntKind.i64 (r35.v n g bed))] Try.func35 rfl [.b false, .ret (AV.bool (r46a.v n g)) (r35.h0 n g bed), .b false, .ret (AV.bool (r46b.v n g)) (r35.h0 n g bed), .b false, .loop (others 69 [2, 3, 5, 6, 23, 24, 25]) (Exit.ret) (L35s.X n g bed (L35s.O.e0 h4d0)) (L35s.XH n g bed (L35s.O.e0 h4d0))] (by simp) (by simp) (kmp (by kernel_rfl) (And.intro h1 (And.intro (r46a (n) (g) o0 o1 (bed)) (And.intro h2 (And.intro (r46b (n) (g) o0 (bed)) (And.intro h3 (And.intro (L35s.e0 (n) (g) o0 (bed) (0) ([]) (And.intro (show (0 : Int) ≤ (0 : Int) by first | decide | exact Int.NonNeg.mk _) o2) h4d0 h4) (And.intro (show (AV.int IntKind.i64 5) = ((AV.int IntKind.i64 (r35.v n g bed))) by first | (simp only [r35.v, h1, h2, h3, h4, cond_true, cond_false]; done) | (try unfold r35.v; try simp only [h1, cond_true, cond_false]; try simp only [h2, cond_true, cond_false]; try simp only [h3, cond_true, cond_false]; try simp only [h4, cond_true, cond_false]; try rfl; done) | rfl) trivial)))))))) h
        | e1 h4d0 =>
          cases h5 : r46c.v n g bed with
          | true =>
            exact Ret.of_run1 mix [(AV.int IntKind.i64 (r35.v n g bed))] Try.func35 rfl [.b false, .ret (AV.bool (r46a.v n g)) (r35.h0 n g bed), .b false, .ret (AV.bool (r46b.v n g)) (r35.h0 n g bed), .b false, .loop (others 69 [2, 3, 5, 6, 23, 24, 25]) (Exit.exit 1) (L35s.X n g bed (L35s.O.e1 h4d0)) (L35s.XH n g bed (L35s.O.e1 h4d0)), .ret (AV.bool (r46c.v n g bed)) ([AObj.var (AV.sl 4 n fun (i : Nat) => AV.agg [AV.str (g i).nm, AV.int IntKind.i64 (g i).lo, AV.int IntKind.i64 (g i).ln, AV.int IntKind.i64 (g i).ms]), AObj.var (AV.int IntKind.i64 bed), AObj.map (MCol.sset h4d0)]), .b true] (by simp) (by simp) (kmp (by kernel_rfl) (And.intro h1 (And.intro (r46a (n) (g) o0 o1 (bed)) (And.intro h2 (And.intro (r46b (n) (g) o0 (bed)) (And.intro h3 (And.intro (L35s.e1 (n) (g) o0 (bed) (0) ([]) (And.intro (show (0 : Int) ≤ (0 : Int) by first | decide | exact Int.NonNeg.mk _) o2) h4d0 h4) (And.intro (r46c (n) (g) (bed) (h4d0) o0) (And.intro h5 (And.intro (show (AV.int IntKind.i64 12) = ((AV.int IntKind.i64 (r35.v n g bed))) by first | (simp only [r35.v, h1, h2, h3, h5, h4, cond_true, cond_false]; done) | (try unfold r35.v; try simp only [h1, cond_true, cond_false]; try simp only [h2, cond_true, cond_false]; try simp only [h3, cond_true, cond_false]; try simp only [h5, cond_true, cond_false]; try simp only [h4, cond_true, cond_false]; try rfl; done) | rfl) trivial)))))))))) h
          | false =>
            have o3 : n ≤ (1000 : Nat) := by first | assumption | omega | (exact hg _) | (exact hg _ (by omega)) | (simp_all; done)
            have o4 : n ≤ (12 : Nat) := by first | assumption | omega | (exact hg _) | (exact hg _ (by omega)) | (simp_all; done)
            have o5 : (1 : Int) ≤ (↑n : Int) ∨ (1 : Int) ≤ (1 : Int) := by first | assumption | omega | (exact hg _) | (exact hg _ (by omega)) | (simp_all; done)
            cases h6 : L35o.run n (r52.v n g) 1 with
            | e0 =>
              exact Ret.of_run1 mix [(AV.int IntKind.i64 (r35.v n g bed))] Try.func35 rfl [.b false, .ret (AV.bool (r46a.v n g)) (r35.h0 n g bed), .b false, .ret (AV.bool (r46b.v n g)) (r35.h0 n g bed), .b false, .loop (others 69 [2, 3, 5, 6, 23, 24, 25]) (Exit.exit 1) (L35s.X n g bed (L35s.O.e1 h4d0)) (L35s.XH n g bed (L35s.O.e1 h4d0)), .ret (AV.bool (r46c.v n g bed)) ([AObj.var (AV.sl 4 n fun (i : Nat) => AV.agg [AV.str (g i).nm, AV.int IntKind.i64 (g i).lo, AV.int IntKind.i64 (g i).ln, AV.int IntKind.i64 (g i).ms]), AObj.var (AV.int IntKind.i64 bed), AObj.map (MCol.sset h4d0)]), .b false, .ret (AV.ms 3 n 4 0 n) ([AObj.var (AV.sl 4 n fun (i : Nat) => AV.agg [AV.str (g i).nm, AV.int IntKind.i64 (g i).lo, AV.int IntKind.i64 (g i).ln, AV.int IntKind.i64 (g i).ms]), AObj.var (AV.int IntKind.i64 bed), AObj.map (MCol.sset h4d0), AObj.row 4 n (Col.gen n fun (i : Nat) => AV.agg [AV.str (g i).nm, AV.int IntKind.i64 (g i).lo, AV.int IntKind.i64 (g i).ln, AV.int IntKind.i64 (g i).ms])]), .ret (AV.tup []) ([AObj.var (AV.sl 4 n fun (i : Nat) => AV.agg [AV.str (g i).nm, AV.int IntKind.i64 (g i).lo, AV.int IntKind.i64 (g i).ln, AV.int IntKind.i64 (g i).ms]), AObj.var (AV.int IntKind.i64 bed), AObj.map (MCol.sset h4d0), AObj.row 4 n (Col.gen n fun (i_ : Nat) => AV.agg [AV.str (r52.v n g i_).nm, AV.int IntKind.i64 (r52.v n g i_).lo, AV.int IntKind.i64 (r52.v n g i_).ln, AV.int IntKind.i64 (r52.v n g i_).ms])]), .loop (others 69 [9, 10]) (Exit.ret) (L35o.X n g bed h4d0 (r52.v n g) L35o.O.e0) (L35o.XH n g bed h4d0 (r52.v n g) L35o.O.e0)] (by simp) (by simp) (kmp (by kernel_rfl) (And.intro h1 (And.intro (r46a (n) (g) o0 o1 (bed)) (And.intro h2 (And.intro (r46b (n) (g) o0 (bed)) (And.intro h3 (And.intro (L35s.e1 (n) (g) o0 (bed) (0) ([]) (And.intro (show (0 : Int) ≤ (0 : Int) by first | decide | exact Int.NonNeg.mk _) o2) h4d0 h4) (And.intro (r46c (n) (g) (bed) (h4d0) o0) (And.intro h5 (And.intro (c51 (n) (g) o3 ([AObj.var (AV.sl 4 n fun (i : Nat) => AV.agg [AV.str (g i).nm, AV.int IntKind.i64 (g i).lo, AV.int IntKind.i64 (g i).ln, AV.int IntKind.i64 (g i).ms]), AObj.var (AV.int IntKind.i64 bed), AObj.map (MCol.sset h4d0)])) (And.intro (r52 (n) o4 (g) (bed) (h4d0) (g)) (And.intro (L35o.e0 (n) o4 (g) (bed) (h4d0) (r52.v n g) (1) (And.intro (show (1 : Int) ≤ (1 : Int) by first | decide | exact Int.NonNeg.mk _) o5) h6) (And.intro (show (AV.int IntKind.i64 11) = ((AV.int IntKind.i64 (r35.v n g bed))) by first | (simp only [r35.v, h1, h2, h3, h5, h4, h6, cond_true, cond_false]; done) | (try unfold r35.v; try simp only [h1, cond_true, cond_false]; try simp only [h2, cond_true, cond_false]; try simp only [h3, cond_true, cond_false]; try simp only [h5, cond_true, cond_false]; try simp only [h4, cond_true, cond_false]; try simp only [h6, cond_true, cond_false]; try rfl; done) | rfl) trivial))))))))))))) h
            | e1 =>
              exact Ret.of_run1 mix [(AV.int IntKind.i64 (r35.v n g bed))] Try.func35 rfl [.b false, .ret (AV.bool (r46a.v n g)) (r35.h0 n g bed), .b false, .ret (AV.bool (r46b.v n g)) (r35.h0 n g bed), .b false, .loop (others 69 [2, 3, 5, 6, 23, 24, 25]) (Exit.exit 1) (L35s.X n g bed (L35s.O.e1 h4d0)) (L35s.XH n g bed (L35s.O.e1 h4d0)), .ret (AV.bool (r46c.v n g bed)) ([AObj.var (AV.sl 4 n fun (i : Nat) => AV.agg [AV.str (g i).nm, AV.int IntKind.i64 (g i).lo, AV.int IntKind.i64 (g i).ln, AV.int IntKind.i64 (g i).ms]), AObj.var (AV.int IntKind.i64 bed), AObj.map (MCol.sset h4d0)]), .b false, .ret (AV.ms 3 n 4 0 n) ([AObj.var (AV.sl 4 n fun (i : Nat) => AV.agg [AV.str (g i).nm, AV.int IntKind.i64 (g i).lo, AV.int IntKind.i64 (g i).ln, AV.int IntKind.i64 (g i).ms]), AObj.var (AV.int IntKind.i64 bed), AObj.map (MCol.sset h4d0), AObj.row 4 n (Col.gen n fun (i : Nat) => AV.agg [AV.str (g i).nm, AV.int IntKind.i64 (g i).lo, AV.int IntKind.i64 (g i).ln, AV.int IntKind.i64 (g i).ms])]), .ret (AV.tup []) ([AObj.var (AV.sl 4 n fun (i : Nat) => AV.agg [AV.str (g i).nm, AV.int IntKind.i64 (g i).lo, AV.int IntKind.i64 (g i).ln, AV.int IntKind.i64 (g i).ms]), AObj.var (AV.int IntKind.i64 bed), AObj.map (MCol.sset h4d0), AObj.row 4 n (Col.gen n fun (i_ : Nat) => AV.agg [AV.str (r52.v n g i_).nm, AV.int IntKind.i64 (r52.v n g i_).lo, AV.int IntKind.i64 (r52.v n g i_).ln, AV.int IntKind.i64 (r52.v n g i_).ms])]), .loop (others 69 [9, 10]) (Exit.exit 3) (L35o.X n g bed h4d0 (r52.v n g) L35o.O.e1) (L35o.XH n g bed h4d0 (r52.v n g) L35o.O.e1)] (by simp) (by simp) (kmp (by kernel_rfl) (And.intro h1 (And.intro (r46a (n) (g) o0 o1 (bed)) (And.intro h2 (And.intro (r46b (n) (g) o0 (bed)) (And.intro h3 (And.intro (L35s.e1 (n) (g) o0 (bed) (0) ([]) (And.intro (show (0 : Int) ≤ (0 : Int) by first | decide | exact Int.NonNeg.mk _) o2) h4d0 h4) (And.intro (r46c (n) (g) (bed) (h4d0) o0) (And.intro h5 (And.intro (c51 (n) (g) o3 ([AObj.var (AV.sl 4 n fun (i : Nat) => AV.agg [AV.str (g i).nm, AV.int IntKind.i64 (g i).lo, AV.int IntKind.i64 (g i).ln, AV.int IntKind.i64 (g i).ms]), AObj.var (AV.int IntKind.i64 bed), AObj.map (MCol.sset h4d0)])) (And.intro (r52 (n) o4 (g) (bed) (h4d0) (g)) (And.intro (L35o.e1 (n) o4 (g) (bed) (h4d0) (r52.v n g) (1) (And.intro (show (1 : Int) ≤ (1 : Int) by first | decide | exact Int.NonNeg.mk _) o5) h6) (And.intro (show (AV.int IntKind.i64 0) = ((AV.int IntKind.i64 (r35.v n g bed))) by first | (simp only [r35.v, h1, h2, h3, h5, h4, h6, cond_true, cond_false]; done) | (try unfold r35.v; try simp only [h1, cond_true, cond_false]; try simp only [h2, cond_true, cond_false]; try simp only [h3, cond_true, cond_false]; try simp only [h5, cond_true, cond_false]; try simp only [h4, cond_true, cond_false]; try simp only [h6, cond_true, cond_false]; try rfl; done) | rfl) trivial))))))))))))) h

theorem r35m (n : Nat) (hn : n ≤ 9223372036854775807) (hq : decide ((↑n : Int) > 64) = true) (g : Nat → LD) (bed : Int) (h : AHeap) : Ret Try.prog 35 ([lds n g, AV.int IntKind.i64 bed]) h (AV.int IntKind.i64 7) h := by
  exact Ret.of_run1 mix [(AV.int IntKind.i64 7)] Try.func35 rfl [.b true] (by simp) (by simp) (kmp (by kernel_rfl) (And.intro hq (And.intro (show (AV.int IntKind.i64 7) = ((AV.int IntKind.i64 7)) by first | (simp only [cond_true, cond_false]; done) | (try rfl; done) | rfl) trivial))) h

end Go.Proofs.Ytngpbfocjgikaaa

open Go

namespace Go.Proofs.Ytngpbfocjgikaaa

set_option linter.unusedSimpArgs false

set_option linter.unusedVariables false

set_option maxHeartbeats 0

set_option maxRecDepth 100000

noncomputable def r18.v (t : TD) (n : Nat) (g : Nat → LD) : Int := (bif r16.v t == 0 then r35.v n g t.tl else r16.v t)

noncomputable abbrev r18.h0 (t : TD) (n : Nat) (g : Nat → LD) : AHeap := ([AObj.var (AV.agg [AV.str t.nm, AV.int IntKind.i64 t.tl, AV.int IntKind.i64 t.fr, AV.int IntKind.i64 t.re, AV.int IntKind.i64 t.l0, AV.int IntKind.i64 t.l1, AV.int IntKind.i64 t.e0, AV.int IntKind.i64 t.e1])])

theorem r18 (t : TD) (hnm : t.nm.size ≤ 9223372036854775807) (n : Nat) (hn : n ≤ 12) (g : Nat → LD) (hg : ∀ (i : Nat), (g i).nm.size ≤ 9223372036854775807) (h : AHeap) : Ret Try.prog 18 ([t.av, lds n g]) h (AV.int IntKind.i64 (r18.v t n g)) h := by
  have o0 : t.nm.size ≤ (9223372036854775807 : Nat) := by first | assumption | omega | (exact hg _) | (exact hg _ (by omega)) | (simp_all; done)
  cases h1 : r16.v t == 0 with
  | true =>
    have h1p := eq_of_beq h1
    have o1 : n ≤ (12 : Nat) := by first | assumption | omega | (exact hg _) | (exact hg _ (by omega)) | (simp_all; done)
    have o2 : ∀ (i : Nat), (g i).nm.size ≤ (9223372036854775807 : Nat) := by first | assumption | omega | (exact hg _) | (exact hg _ (by omega)) | (simp_all; done)
    exact Ret.of_run1 mix [(AV.int IntKind.i64 (r18.v t n g))] Try.func18 rfl [.ret (AV.int IntKind.i64 (r16.v t)) (r18.h0 t n g), .b false, .ret (AV.int IntKind.i64 (r35.v n g t.tl)) (r18.h0 t n g)] (by simp) (by simp) (kmp (by kernel_rfl) (And.intro (r16 (t) o0 (r18.h0 t n g)) (And.intro (show (bnot (r16.v t == 0)) = false by rw [h1]; try rfl) (And.intro (r35 (n) o1 (g) o2 (t.tl) (r18.h0 t n g)) (And.intro (show (AV.int IntKind.i64 (r35.v n g t.tl)) = ((AV.int IntKind.i64 (r18.v t n g))) by first | (simp only [r18.v, h1, cond_true, cond_false]; done) | (try unfold r18.v; try simp only [h1, cond_true, cond_false]; try rfl; done) | rfl) trivial))))) h
  | false =>
    have h1p := ne_of_beq_false h1
    exact Ret.of_run1 mix [(AV.int IntKind.i64 (r18.v t n g))] Try.func18 rfl [.ret (AV.int IntKind.i64 (r16.v t)) (r18.h0 t n g), .b true] (by simp) (by simp) (kmp (by kernel_rfl) (And.intro (r16 (t) o0 (r18.h0 t n g)) (And.intro (show (bnot (r16.v t == 0)) = true by rw [h1]; try rfl) (And.intro (show (AV.int IntKind.i64 (r16.v t)) = ((AV.int IntKind.i64 (r18.v t n g))) by first | (simp only [r18.v, h1, cond_true, cond_false]; done) | (try unfold r18.v; try simp only [h1, cond_true, cond_false]; try rfl; done) | rfl) trivial)))) h

noncomputable def r18m.v (t : TD) : Int := (bif r16.v t == 0 then 7 else r16.v t)

noncomputable abbrev r18m.h0 (t : TD) (n : Nat) (g : Nat → LD) : AHeap := ([AObj.var (AV.agg [AV.str t.nm, AV.int IntKind.i64 t.tl, AV.int IntKind.i64 t.fr, AV.int IntKind.i64 t.re, AV.int IntKind.i64 t.l0, AV.int IntKind.i64 t.l1, AV.int IntKind.i64 t.e0, AV.int IntKind.i64 t.e1])])

theorem r18m (t : TD) (hnm : t.nm.size ≤ 9223372036854775807) (n : Nat) (hn : n ≤ 9223372036854775807) (hq : decide ((↑n : Int) > 64) = true) (g : Nat → LD) (h : AHeap) : Ret Try.prog 18 ([t.av, lds n g]) h (AV.int IntKind.i64 (r18m.v t)) h := by
  have o0 : t.nm.size ≤ (9223372036854775807 : Nat) := by first | assumption | omega | (simp_all; done)
  cases h1 : r16.v t == 0 with
  | true =>
    have h1p := eq_of_beq h1
    have o1 : n ≤ (9223372036854775807 : Nat) := by first | assumption | omega | (simp_all; done)
    have o2 : decide ((↑n : Int) > (64 : Int)) = true := by first | assumption | omega | (simp_all; done)
    exact Ret.of_run1 mix [(AV.int IntKind.i64 (r18m.v t))] Try.func18 rfl [.ret (AV.int IntKind.i64 (r16.v t)) (r18m.h0 t n g), .b false, .ret (AV.int IntKind.i64 7) (r18m.h0 t n g)] (by simp) (by simp) (kmp (by kernel_rfl) (And.intro (r16 (t) o0 (r18m.h0 t n g)) (And.intro (show (bnot (r16.v t == 0)) = false by rw [h1]; try rfl) (And.intro (r35m (n) o1 o2 (g) (t.tl) (r18m.h0 t n g)) (And.intro (show (AV.int IntKind.i64 7) = ((AV.int IntKind.i64 (r18m.v t))) by first | (simp only [r18m.v, h1, cond_true, cond_false]; done) | (try unfold r18m.v; try simp only [h1, cond_true, cond_false]; try rfl; done) | rfl) trivial))))) h
  | false =>
    have h1p := ne_of_beq_false h1
    exact Ret.of_run1 mix [(AV.int IntKind.i64 (r18m.v t))] Try.func18 rfl [.ret (AV.int IntKind.i64 (r16.v t)) (r18m.h0 t n g), .b true] (by simp) (by simp) (kmp (by kernel_rfl) (And.intro (r16 (t) o0 (r18m.h0 t n g)) (And.intro (show (bnot (r16.v t == 0)) = true by rw [h1]; try rfl) (And.intro (show (AV.int IntKind.i64 (r16.v t)) = ((AV.int IntKind.i64 (r18m.v t))) by first | (simp only [r18m.v, h1, cond_true, cond_false]; done) | (try unfold r18m.v; try simp only [h1, cond_true, cond_false]; try rfl; done) | rfl) trivial)))) h

noncomputable def r42.v (t : TD) : Int := IntKind.i64.wrap (2 * IntKind.i64.wrap (t.re - t.fr))

theorem r42 (t : TD) (h : AHeap) : Ret Try.prog 42 ([t.av]) h (AV.int IntKind.i64 (r42.v t)) h := by
  exact Ret.of_run1 mix [(AV.int IntKind.i64 (r42.v t))] Try.func42 rfl [] (by simp) (by simp) (kmp (by kernel_rfl) (And.intro (show (AV.int IntKind.i64 (IntKind.i64.wrap (2 * IntKind.i64.wrap (t.re - t.fr)))) = ((AV.int IntKind.i64 (r42.v t))) by first | (simp only [r42.v, cond_true, cond_false]; done) | (try unfold r42.v; try rfl; done) | rfl) trivial)) h

noncomputable def r34.v (t : TD) (ms : Int) (mo : Int) : Bool := (bif r32.v (IntKind.i64.wrap (IntKind.i64.wrap (t.e1 * r42.v t) + mo)) 0 (IntKind.i64.wrap (t.l1 * r42.v t)) then r32.v (IntKind.i64.wrap (IntKind.i64.wrap (IntKind.i64.wrap (t.e0 + ms) * r42.v t) - mo)) 0 (IntKind.i64.wrap (t.l0 * r42.v t)) else false)

noncomputable abbrev r34.h0 (t : TD) (ms : Int) (mo : Int) : AHeap := ([AObj.var (AV.agg [AV.str t.nm, AV.int IntKind.i64 t.tl, AV.int IntKind.i64 t.fr, AV.int IntKind.i64 t.re, AV.int IntKind.i64 t.l0, AV.int IntKind.i64 t.l1, AV.int IntKind.i64 t.e0, AV.int IntKind.i64 t.e1])])

theorem r34 (t : TD) (ms : Int) (mo : Int) (h : AHeap) : Ret Try.prog 34 ([t.av, AV.int IntKind.i64 ms, AV.int IntKind.i64 mo]) h (AV.bool (r34.v t ms mo)) h := by
  cases h1 : r32.v (IntKind.i64.wrap (IntKind.i64.wrap (t.e1 * r42.v t) + mo)) 0 (IntKind.i64.wrap (t.l1 * r42.v t)) with
  | true =>
    exact Ret.of_run1 mix [(AV.bool (r34.v t ms mo))] Try.func34 rfl [.ret (AV.int IntKind.i64 (r42.v t)) (r34.h0 t ms mo), .ret (AV.bool (r32.v (IntKind.i64.wrap (IntKind.i64.wrap (t.e1 * r42.v t) + mo)) 0 (IntKind.i64.wrap (t.l1 * r42.v t)))) (r34.h0 t ms mo), .b true, .b true, .b true, .b true, .b true, .b true, .b true, .b true, .b true, .b true, .b true, .b true, .b true, .b true, .b true, .ret (AV.bool (r32.v (IntKind.i64.wrap (IntKind.i64.wrap (IntKind.i64.wrap (t.e0 + ms) * r42.v t) - mo)) 0 (IntKind.i64.wrap (t.l0 * r42.v t)))) (r34.h0 t ms mo), .b true] (by simp) (by simp) (kmp (by kernel_rfl) (And.intro (r42 (t) (r34.h0 t ms mo)) (And.intro (And.intro (show (0 : Int) ≤ (1 : Int) by first | decide | exact Int.NonNeg.mk _) (show (1 : Int) < (2 : Int) by first | decide | exact Int.NonNeg.mk _)) (And.intro (And.intro (show (0 : Int) ≤ (1 : Int) by first | decide | exact Int.NonNeg.mk _) (show (1 : Int) < (2 : Int) by first | decide | exact Int.NonNeg.mk _)) (And.intro (r32 (IntKind.i64.wrap (IntKind.i64.wrap (t.e1 * r42.v t) + mo)) (0) (IntKind.i64.wrap (t.l1 * r42.v t)) (r34.h0 t ms mo)) (And.intro h1 (And.intro h1 (And.intro (And.intro (show (0 : Int) ≤ (0 : Int) by first | decide | exact Int.NonNeg.mk _) (show (0 : Int) < (2 : Int) by first | decide | exact Int.NonNeg.mk _)) (And.intro h1 (And.intro h1 (And.intro h1 (And.intro h1 (And.intro h1 (And.intro h1 (And.intro h1 (And.intro h1 (And.intro h1 (And.intro (And.intro (show (0 : Int) ≤ (0 : Int) by first | decide | exact Int.NonNeg.mk _) (show (0 : Int) < (2 : Int) by first | decide | exact Int.NonNeg.mk _)) (And.intro h1 (And.intro h1 (And.intro h1 (And.intro h1 (And.intro (r32 (IntKind.i64.wrap (IntKind.i64.wrap (IntKind.i64.wrap (t.e0 + ms) * r42.v t) - mo)) (0) (IntKind.i64.wrap (t.l0 * r42.v t)) (r34.h0 t ms mo)) (And.intro h1 (And.intro (show (AV.bool (r32.v (IntKind.i64.wrap (IntKind.i64.wrap (IntKind.i64.wrap (t.e0 + ms) * r42.v t) - mo)) 0 (IntKind.i64.wrap (t.l0 * r42.v t)))) = ((AV.bool (r34.v t ms mo))) by first | (simp only [r34.v, h1, cond_true, cond_false]; done) | (try unfold r34.v; try simp only [h1, cond_true, cond_false]; try rfl; done) | rfl) trivial))))))))))))))))))))))))) h
  | false =>
    exact Ret.of_run1 mix [(AV.bool (r34.v t ms mo))] Try.func34 rfl [.ret (AV.int IntKind.i64 (r42.v t)) (r34.h0 t ms mo), .ret (AV.bool (r32.v (IntKind.i64.wrap (IntKind.i64.wrap (t.e1 * r42.v t) + mo)) 0 (IntKind.i64.wrap (t.l1 * r42.v t)))) (r34.h0 t ms mo), .b false, .b false, .b false, .b false, .b false, .b false, .b false, .b false, .b false, .b false, .b false, .b false, .b false, .b false, .b false, .b false] (by simp) (by simp) (kmp (by kernel_rfl) (And.intro (r42 (t) (r34.h0 t ms mo)) (And.intro (And.intro (show (0 : Int) ≤ (1 : Int) by first | decide | exact Int.NonNeg.mk _) (show (1 : Int) < (2 : Int) by first | decide | exact Int.NonNeg.mk _)) (And.intro (And.intro (show (0 : Int) ≤ (1 : Int) by first | decide | exact Int.NonNeg.mk _) (show (1 : Int) < (2 : Int) by first | decide | exact Int.NonNeg.mk _)) (And.intro (r32 (IntKind.i64.wrap (IntKind.i64.wrap (t.e1 * r42.v t) + mo)) (0) (IntKind.i64.wrap (t.l1 * r42.v t)) (r34.h0 t ms mo)) (And.intro h1 (And.intro h1 (And.intro h1 (And.intro h1 (And.intro h1 (And.intro h1 (And.intro h1 (And.intro h1 (And.intro h1 (And.intro h1 (And.intro h1 (And.intro h1 (And.intro h1 (And.intro h1 (And.intro h1 (And.intro h1 (And.intro (show (AV.bool false) = ((AV.bool (r34.v t ms mo))) by first | (simp only [r34.v, h1, cond_true, cond_false]; done) | (try unfold r34.v; try simp only [h1, cond_true, cond_false]; try rfl; done) | rfl) trivial)))))))))))))))))))))) h

noncomputable def r13.v0 (t : TD) (n : Nat) (g : Nat → LD) : Bool := (bif r18.v t n g == 0 then r34.v t (r33.v0 n g t.fr) (r33.v1 n g t.fr) else false)

noncomputable def r13.v1 (t : TD) (n : Nat) (g : Nat → LD) : Int := (bif r18.v t n g == 0 then 0 else r18.v t n g)

noncomputable abbrev r13.h0 (t : TD) (n : Nat) (g : Nat → LD) : AHeap := ([AObj.var (AV.agg [AV.str t.nm, AV.int IntKind.i64 t.tl, AV.int IntKind.i64 t.fr, AV.int IntKind.i64 t.re, AV.int IntKind.i64 t.l0, AV.int IntKind.i64 t.l1, AV.int IntKind.i64 t.e0, AV.int IntKind.i64 t.e1])])

theorem r13 (t : TD) (hnm : t.nm.size ≤ 9223372036854775807) (n : Nat) (hn : n ≤ 12) (g : Nat → LD) (hg : ∀ (i : Nat), (g i).nm.size ≤ 9223372036854775807) (h : AHeap) : Ret Try.prog 13 ([t.av, lds n g]) h (AV.tup [(AV.bool (r13.v0 t n g)), (AV.int IntKind.i64 (r13.v1 t n g))]) h := by
  have o0 : t.nm.size ≤ (9223372036854775807 : Nat) := by first | assumption | omega | (exact hg _) | (exact hg _ (by omega)) | (simp_all; done)
  have o1 : n ≤ (12 : Nat) := by first | assumption | omega | (exact hg _) | (exact hg _ (by omega)) | (simp_all; done)
  have o2 : ∀ (i : Nat), (g i).nm.size ≤ (9223372036854775807 : Nat) := by first | assumption | omega | (exact hg _) | (exact hg _ (by omega)) | (simp_all; done)
  cases h1 : r18.v t n g == 0 with
  | true =>
    have h1p := eq_of_beq h1
    have o3 : n ≤ (9223372036854775807 : Nat) := by first | assumption | omega | (exact hg _) | (exact hg _ (by omega)) | (simp_all; done)
    exact Ret.of_run1 mix [(AV.bool (r13.v0 t n g)), (AV.int IntKind.i64 (r13.v1 t n g))] Try.func13 rfl [.ret (AV.int IntKind.i64 (r18.v t n g)) (r13.h0 t n g), .b false, .ret (AV.tup [AV.int IntKind.i64 (r33.v0 n g t.fr), AV.int IntKind.i64 (r33.v1 n g t.fr)]) (r13.h0 t n g), .ret (AV.bool (r34.v t (r33.v0 n g t.fr) (r33.v1 n g t.fr))) (r13.h0 t n g)] (by simp) (by simp) (kmp (by kernel_rfl) (And.intro (r18 (t) o0 (n) o1 (g) o2 (r13.h0 t n g)) (And.intro (show (bnot (r18.v t n g == 0)) = false by rw [h1]; try rfl) (And.intro (r33 (n) (g) o3 (t.fr) (r13.h0 t n g)) (And.intro (r34 (t) (r33.v0 n g t.fr) (r33.v1 n g t.fr) (r13.h0 t n g)) (And.intro (show (AV.bool (r34.v t (r33.v0 n g t.fr) (r33.v1 n g t.fr))) = ((AV.bool (r13.v0 t n g))) by first | (simp only [r13.v0, r13.v1, h1, cond_true, cond_false]; done) | (try unfold r13.v0; try unfold r13.v1; try simp only [h1, cond_true, cond_false]; try rfl; done) | rfl) (And.intro (show (AV.int IntKind.i64 0) = ((AV.int IntKind.i64 (r13.v1 t n g))) by first | (simp only [r13.v0, r13.v1, h1, cond_true, cond_false]; done) | (try unfold r13.v0; try unfold r13.v1; try simp only [h1, cond_true, cond_false]; try rfl; done) | rfl) trivial))))))) h
  | false =>
    have h1p := ne_of_beq_false h1
    exact Ret.of_run1 mix [(AV.bool (r13.v0 t n g)), (AV.int IntKind.i64 (r13.v1 t n g))] Try.func13 rfl [.ret (AV.int IntKind.i64 (r18.v t n g)) (r13.h0 t n g), .b true] (by simp) (by simp) (kmp (by kernel_rfl) (And.intro (r18 (t) o0 (n) o1 (g) o2 (r13.h0 t n g)) (And.intro (show (bnot (r18.v t n g == 0)) = true by rw [h1]; try rfl) (And.intro (show (AV.bool false) = ((AV.bool (r13.v0 t n g))) by first | (simp only [r13.v0, r13.v1, h1, cond_true, cond_false]; done) | (try unfold r13.v0; try unfold r13.v1; try simp only [h1, cond_true, cond_false]; try rfl; done) | rfl) (And.intro (show (AV.int IntKind.i64 (r18.v t n g)) = ((AV.int IntKind.i64 (r13.v1 t n g))) by first | (simp only [r13.v0, r13.v1, h1, cond_true, cond_false]; done) | (try unfold r13.v0; try unfold r13.v1; try simp only [h1, cond_true, cond_false]; try rfl; done) | rfl) trivial))))) h

end Go.Proofs.Ytngpbfocjgikaaa

open Go

namespace Go.Proofs.Ytngpbfocjgikaaa

set_option linter.unusedSimpArgs false

set_option linter.unusedVariables false

set_option maxHeartbeats 0

set_option maxRecDepth 100000

noncomputable def r60.v (x : Int) : Int := (bif decide (x < 0) then IntKind.u64.wrap (0 - IntKind.u64.wrap x) else IntKind.u64.wrap x)

theorem r60 (x : Int) (h : AHeap) : Ret Try.prog 60 ([AV.int IntKind.i64 x]) h (AV.int IntKind.u64 (r60.v x)) h := by
  cases h1 : decide (x < 0) with
  | true =>
    have h1p := of_decide_eq_true h1
    exact Ret.of_run1 mix [(AV.int IntKind.u64 (r60.v x))] Try.func60 rfl [.b true] (by simp) (by simp) (kmp (by kernel_rfl) (And.intro h1 (And.intro (show (AV.int IntKind.u64 (IntKind.u64.wrap (0 - IntKind.u64.wrap x))) = ((AV.int IntKind.u64 (r60.v x))) by first | (simp only [r60.v, h1, cond_true, cond_false]; done) | (try unfold r60.v; try simp only [h1, cond_true, cond_false]; try rfl; done) | rfl) trivial))) h
  | false =>
    have h1p := of_decide_eq_false h1
    exact Ret.of_run1 mix [(AV.int IntKind.u64 (r60.v x))] Try.func60 rfl [.b false] (by simp) (by simp) (kmp (by kernel_rfl) (And.intro h1 (And.intro (show (AV.int IntKind.u64 (IntKind.u64.wrap x)) = ((AV.int IntKind.u64 (r60.v x))) by first | (simp only [r60.v, h1, cond_true, cond_false]; done) | (try unfold r60.v; try simp only [h1, cond_true, cond_false]; try rfl; done) | rfl) trivial))) h

theorem tm_0 {a b : Int} (h : 0 ≤ a) : 0 ≤ a.tmod b := Int.tmod_nonneg b h

theorem tm_lt {a b : Int} (h : 0 ≤ b) (h1 : ¬ b = 0) : (a.tmod b).toNat < b.toNat := by
  have : a.tmod b < b := Int.tmod_lt_of_pos a (by omega)
  omega

inductive L61a.O where
  | e0 (a0 : Int)

noncomputable def L61a.T (a : Int) (b : Int) : List AV := mkT 12 [(0, AV.int IntKind.u64 a), (1, AV.int IntKind.u64 b)]

noncomputable def L61a.H (a : Int) (b : Int) : AHeap := []

def L61a.inv (a : Int) (b : Int) : Prop := 0 ≤ a ∧ 0 ≤ b

noncomputable def L61a.mu (a : Int) (b : Int) : Nat := b.toNat

noncomputable def L61a.E : L61a.O → Exit
  | .e0 a0 => Exit.exit 0

noncomputable def L61a.X : L61a.O → List AV
  | .e0 a0 => mkT 12 [(0, (AV.int IntKind.u64 a0))]

noncomputable def L61a.XH : L61a.O → AHeap
  | .e0 a0 => ([])

noncomputable def L61a.N : Nat → Int → Int → L61a.O
  | 0, a, _ => .e0 a
  | k_ + 1, a, b => (bif b == 0 then (.e0 (a)) else (L61a.N k_ (b) (a.tmod b)))

noncomputable def L61a.run (a : Int) (b : Int) : L61a.O := L61a.N ((b.toNat) + 1) a b

theorem L61a.nx {k_ : Nat} {z_ : Int × Int} {h_ : AHeap} (s_ : Int × Int) (h1 : L61a.inv s_.1 s_.2) (h2 : L61a.mu s_.1 s_.2 < L61a.mu z_.1 z_.2) (h3 : L61a.N k_ s_.1 s_.2 = L61a.N (k_ + 1) z_.1 z_.2) (h4 : PopOk (L61a.H z_.1 z_.2) h_ (L61a.T s_.1 s_.2) (L61a.H s_.1 s_.2)) : LNextP (fun (z_ : Int × Int) => L61a.T z_.1 z_.2) (fun (z_ : Int × Int) => L61a.H z_.1 z_.2) (fun (z_ : Int × Int) => L61a.inv z_.1 z_.2) (fun (z_ : Int × Int) => L61a.mu z_.1 z_.2) (fun (k_ : Nat) (z_ : Int × Int) => L61a.N k_ z_.1 z_.2) k_ z_ (L61a.T s_.1 s_.2) h_ := LNextP.mk (Tm := (fun (z_ : Int × Int) => L61a.T z_.1 z_.2)) (Hp := (fun (z_ : Int × Int) => L61a.H z_.1 z_.2)) (inv := (fun (z_ : Int × Int) => L61a.inv z_.1 z_.2)) (mu := (fun (z_ : Int × Int) => L61a.mu z_.1 z_.2)) (l := (fun (k_ : Nat) (z_ : Int × Int) => L61a.N k_ z_.1 z_.2)) s_ h1 h2 h3 h4

theorem L61a.en {k_ : Nat} {z_ : Int × Int} {h_ : AHeap} (o_ : L61a.O) (h3 : L61a.N (k_ + 1) z_.1 z_.2 = o_) (h4 : PopOk (L61a.H z_.1 z_.2) h_ (L61a.X o_) (L61a.XH o_)) : LEndP (fun (z_ : Int × Int) => L61a.H z_.1 z_.2) (fun (k_ : Nat) (z_ : Int × Int) => L61a.N k_ z_.1 z_.2) L61a.E (L61a.X) (L61a.XH) k_ z_ (L61a.E o_) (L61a.X o_) h_ := LEndP.mk (Hp := (fun (z_ : Int × Int) => L61a.H z_.1 z_.2)) (l := (fun (k_ : Nat) (z_ : Int × Int) => L61a.N k_ z_.1 z_.2)) (oE := L61a.E) (oT := L61a.X) (oH := L61a.XH) o_ h3 h4

theorem L61a.spec (k_ : Nat) (z_ : Int × Int) (hi_ : L61a.inv z_.1 z_.2) (hm_ : L61a.mu z_.1 z_.2 < k_) : LoopTo Try.prog (loopN Try.f61 0) (L61a.T z_.1 z_.2) (L61a.H z_.1 z_.2) (L61a.E (L61a.N k_ z_.1 z_.2)) (L61a.X (L61a.N k_ z_.1 z_.2)) (L61a.XH (L61a.N k_ z_.1 z_.2)) := by
  refine LoopTo.fuelP mix (fun (z_ : Int × Int) => L61a.T z_.1 z_.2) (fun (z_ : Int × Int) => L61a.H z_.1 z_.2) (fun (z_ : Int × Int) => L61a.inv z_.1 z_.2) (fun (z_ : Int × Int) => L61a.mu z_.1 z_.2) (fun (k_ : Nat) (z_ : Int × Int) => L61a.N k_ z_.1 z_.2) L61a.E (L61a.X) (L61a.XH) (others 12 [0, 1]) (others 12 [4]) (others 12 [0]) ?_ k_ z_ hi_ hm_
  clear hm_ hi_ z_ k_
  intro k_ z_ hinv hmu
  obtain ⟨a, b⟩ := z_
  have hinv : 0 ≤ a ∧ 0 ≤ b := hinv
  have hmu : (b.toNat) < k_ + 1 := hmu
  cases h1 : b == 0 with
  | true =>
    have h1p := eq_of_beq h1
    exact ⟨[.b false], kmp (by kernel_rfl) (And.intro (show (bnot (b == 0)) = false by rw [h1]; try rfl) (L61a.en (k_ := k_) (z_ := (a, b)) (.e0 (a) : L61a.O) (by first | (simp only [L61a.N, h1, cond_true, cond_false]; done) | (try unfold L61a.N; try simp only [h1, cond_true, cond_false]; try rfl; done)) PopOk.same))⟩
  | false =>
    have h1p := ne_of_beq_false h1
    have o0 : b = (0 : Int) → False := by first | assumption | omega | (simp_all; done)
    have o1 : (0 : Int) ≤ b := by first | assumption | omega | (simp_all; done)
    have o2 : (0 : Int) ≤ a.tmod b := by first | assumption | omega | (apply tm_0 <;> first | assumption | omega) | (simp_all; done)
    have o3 : (a.tmod b).toNat < b.toNat := by first | assumption | omega | (apply tm_lt <;> first | assumption | omega) | (simp_all; done)
    exact ⟨[.b true], kmp (by kernel_rfl) (And.intro (show (bnot (b == 0)) = true by rw [h1]; try rfl) (And.intro o0 (L61a.nx (k_ := k_) (z_ := (a, b)) ((b, a.tmod b)) (And.intro o1 o2) o3 (by first | (simp only [L61a.N, h1, cond_true, cond_false]; done) | (try unfold L61a.N; try simp only [h1, cond_true, cond_false]; try rfl; done)) PopOk.same)))⟩

theorem L61a.e0 (a : Int) (b : Int) (hinv : L61a.inv a b) (a0 : Int) (hN : L61a.run a b = (.e0 a0 : L61a.O)) : LoopTo Try.prog (loopN Try.f61 0) (L61a.T a b) (L61a.H a b) (Exit.exit 0) (L61a.X (.e0 a0 : L61a.O)) (L61a.XH (.e0 a0 : L61a.O)) := by
  have h_ := L61a.spec ((b.toNat) + 1) (a, b) hinv (Nat.lt_succ_self _)
  unfold L61a.run at hN
  simp only [hN] at h_
  exact h_

noncomputable def r61.v (a : Int) (b : Int) : Int := (match L61a.run a b with | .e0 h1d0 => h1d0 )

theorem r61 (a : Int) (b : Int) (ha : 0 ≤ a) (hb : 0 ≤ b) (h : AHeap) : Ret Try.prog 61 ([AV.int IntKind.u64 a, AV.int IntKind.u64 b]) h (AV.int IntKind.u64 (r61.v a b)) h := by
  have o0 : (0 : Int) ≤ a := by first | assumption | omega | (simp_all; done)
  have o1 : (0 : Int) ≤ b := by first | assumption | omega | (simp_all; done)
  cases h1 : L61a.run a b with
  | e0 h1d0 =>
    exact Ret.of_run1 mix [(AV.int IntKind.u64 (r61.v a b))] Try.func61 rfl [.loop (others 12 [0, 1]) (Exit.exit 0) (L61a.X (L61a.O.e0 h1d0)) (L61a.XH (L61a.O.e0 h1d0))] (by simp) (by simp) (kmp (by kernel_rfl) (And.intro (L61a.e0 (a) (b) (And.intro o0 o1) h1d0 h1) (And.intro (show (AV.int IntKind.u64 h1d0) = ((AV.int IntKind.u64 (r61.v a b))) by first | (simp only [r61.v, h1, cond_true, cond_false]; done) | (try unfold r61.v; try simp only [h1, cond_true, cond_false]; try rfl; done) | rfl) trivial))) h

noncomputable def r62.v0 (ng : Bool) (a : Int) (b : Int) : Int := (bif decide (a ≥ 1000000000000000000) then 0 else (bif decide (b ≥ 1000000000000000000) then 0 else (bif ng then IntKind.i64.wrap (0 - IntKind.i64.wrap a) else IntKind.i64.wrap a)))

noncomputable def r62.v1 (a : Int) (b : Int) : Int := (bif decide (a ≥ 1000000000000000000) then 0 else (bif decide (b ≥ 1000000000000000000) then 0 else IntKind.i64.wrap b))

noncomputable def r62.v2 (a : Int) (b : Int) : Int := (bif decide (a ≥ 1000000000000000000) then 6 else (bif decide (b ≥ 1000000000000000000) then 6 else 0))

theorem r62 (ng : Bool) (a : Int) (b : Int) (h : AHeap) : Ret Try.prog 62 ([AV.bool ng, AV.int IntKind.u64 a, AV.int IntKind.u64 b]) h (AV.tup [(AV.agg ((AV.int IntKind.i64 (r62.v0 ng a b)) :: ((AV.int IntKind.i64 (r62.v1 a b)) :: []))), (AV.int IntKind.i64 (r62.v2 a b))]) h := by
  cases h1 : decide (a ≥ 1000000000000000000) with
  | true =>
    have h1p := of_decide_eq_true h1
    exact Ret.of_run1 mix [(AV.agg ((AV.int IntKind.i64 (r62.v0 ng a b)) :: ((AV.int IntKind.i64 (r62.v1 a b)) :: []))), (AV.int IntKind.i64 (r62.v2 a b))] Try.func62 rfl [.b true, .b true, .b true, .b true] (by simp) (by simp) (kmp (by kernel_rfl) (And.intro h1 (And.intro h1 (And.intro h1 (And.intro (rfl : true = true) (And.intro (And.intro trivial (show (AV.agg [AV.int IntKind.i64 0, AV.int IntKind.i64 0]) = ((AV.agg ((AV.int IntKind.i64 (r62.v0 ng a b)) :: ((AV.int IntKind.i64 (r62.v1 a b)) :: [])))) by first | (simp only [r62.v0, r62.v1, r62.v2, h1, cond_true, cond_false]; done) | (try unfold r62.v0; try unfold r62.v1; try unfold r62.v2; try simp only [h1, cond_true, cond_false]; try rfl; done) | rfl)) (And.intro (show (AV.int IntKind.i64 6) = ((AV.int IntKind.i64 (r62.v2 a b))) by first | (simp only [r62.v0, r62.v1, r62.v2, h1, cond_true, cond_false]; done) | (try unfold r62.v0; try unfold r62.v1; try unfold r62.v2; try simp only [h1, cond_true, cond_false]; try rfl; done) | rfl) trivial))))))) h
  | false =>
    have h1p := of_decide_eq_false h1
    cases h2 : decide (b ≥ 1000000000000000000) with
    | true =>
      have h2p := of_decide_eq_true h2
      exact Ret.of_run1 mix [(AV.agg ((AV.int IntKind.i64 (r62.v0 ng a b)) :: ((AV.int IntKind.i64 (r62.v1 a b)) :: []))), (AV.int IntKind.i64 (r62.v2 a b))] Try.func62 rfl [.b false, .b false, .b false, .b true] (by simp) (by simp) (kmp (by kernel_rfl) (And.intro h1 (And.intro h1 (And.intro h1 (And.intro h2 (And.intro (And.intro trivial (show (AV.agg [AV.int IntKind.i64 0, AV.int IntKind.i64 0]) = ((AV.agg ((AV.int IntKind.i64 (r62.v0 ng a b)) :: ((AV.int IntKind.i64 (r62.v1 a b)) :: [])))) by first | (simp only [r62.v0, r62.v1, r62.v2, h1, h2, cond_true, cond_false]; done) | (try unfold r62.v0; try unfold r62.v1; try unfold r62.v2; try simp only [h1, cond_true, cond_false]; try simp only [h2, cond_true, cond_false]; try rfl; done) | rfl)) (And.intro (show (AV.int IntKind.i64 6) = ((AV.int IntKind.i64 (r62.v2 a b))) by first | (simp only [r62.v0, r62.v1, r62.v2, h1, h2, cond_true, cond_false]; done) | (try unfold r62.v0; try unfold r62.v1; try unfold r62.v2; try simp only [h1, cond_true, cond_false]; try simp only [h2, cond_true, cond_false]; try rfl; done) | rfl) trivial))))))) h
    | false =>
      have h2p := of_decide_eq_false h2
      cases boolIs ng with
      | true h3 =>
        exact Ret.of_run1 mix [(AV.agg ((AV.int IntKind.i64 (r62.v0 ng a b)) :: ((AV.int IntKind.i64 (r62.v1 a b)) :: []))), (AV.int IntKind.i64 (r62.v2 a b))] Try.func62 rfl [.b false, .b false, .b false, .b false, .b true] (by simp) (by simp) (kmp (by kernel_rfl) (And.intro h1 (And.intro h1 (And.intro h1 (And.intro h2 (And.intro h3 (And.intro (And.intro trivial (show (AV.agg [AV.int IntKind.i64 (IntKind.i64.wrap (0 - IntKind.i64.wrap a)), AV.int IntKind.i64 (IntKind.i64.wrap b)]) = ((AV.agg ((AV.int IntKind.i64 (r62.v0 ng a b)) :: ((AV.int IntKind.i64 (r62.v1 a b)) :: [])))) by first | (simp only [r62.v0, r62.v1, r62.v2, h1, h2, h3, cond_true, cond_false]; done) | (try unfold r62.v0; try unfold r62.v1; try unfold r62.v2; try simp only [h1, cond_true, cond_false]; try simp only [h2, cond_true, cond_false]; try simp only [h3, cond_true, cond_false]; try rfl; done) | rfl)) (And.intro (show (AV.int IntKind.i64 0) = ((AV.int IntKind.i64 (r62.v2 a b))) by first | (simp only [r62.v0, r62.v1, r62.v2, h1, h2, h3, cond_true, cond_false]; done) | (try unfold r62.v0; try unfold r62.v1; try unfold r62.v2; try simp only [h1, cond_true, cond_false]; try simp only [h2, cond_true, cond_false]; try simp only [h3, cond_true, cond_false]; try rfl; done) | rfl) trivial)))))))) h
      | false h3 =>
        exact Ret.of_run1 mix [(AV.agg ((AV.int IntKind.i64 (r62.v0 ng a b)) :: ((AV.int IntKind.i64 (r62.v1 a b)) :: []))), (AV.int IntKind.i64 (r62.v2 a b))] Try.func62 rfl [.b false, .b false, .b false, .b false, .b false] (by simp) (by simp) (kmp (by kernel_rfl) (And.intro h1 (And.intro h1 (And.intro h1 (And.intro h2 (And.intro h3 (And.intro (And.intro trivial (show (AV.agg [AV.int IntKind.i64 (IntKind.i64.wrap a), AV.int IntKind.i64 (IntKind.i64.wrap b)]) = ((AV.agg ((AV.int IntKind.i64 (r62.v0 ng a b)) :: ((AV.int IntKind.i64 (r62.v1 a b)) :: [])))) by first | (simp only [r62.v0, r62.v1, r62.v2, h1, h2, h3, cond_true, cond_false]; done) | (try unfold r62.v0; try unfold r62.v1; try unfold r62.v2; try simp only [h1, cond_true, cond_false]; try simp only [h2, cond_true, cond_false]; try simp only [h3, cond_true, cond_false]; try rfl; done) | rfl)) (And.intro (show (AV.int IntKind.i64 0) = ((AV.int IntKind.i64 (r62.v2 a b))) by first | (simp only [r62.v0, r62.v1, r62.v2, h1, h2, h3, cond_true, cond_false]; done) | (try unfold r62.v0; try unfold r62.v1; try unfold r62.v2; try simp only [h1, cond_true, cond_false]; try simp only [h2, cond_true, cond_false]; try simp only [h3, cond_true, cond_false]; try rfl; done) | rfl) trivial)))))))) h

end Go.Proofs.Ytngpbfocjgikaaa

open Go

namespace Go.Proofs.Ytngpbfocjgikaaa

set_option maxHeartbeats 0

set_option maxRecDepth 100000

theorem gcd_N : ∀ (m a b : Nat), b < m → L61a.N m (a : Int) (b : Int) = .e0 ((Nat.gcd a b : Nat) : Int) := by
  intro m
  induction m with
  | zero => intro a b h; omega
  | succ m ih =>
    intro a b h
    simp only [L61a.N]
    by_cases hb : b = 0
    · subst hb; simp
    · rw [show ((b : Int) == 0) = false by simp; omega, cond_false, ← Int.ofNat_tmod, ih b (a % b) (by have := Nat.mod_lt a (Nat.pos_of_ne_zero hb); omega)]
      rw [Nat.gcd_comm a b, Nat.gcd_rec b a, Nat.gcd_comm]

theorem gcd_v (a b : Nat) : r61.v (a : Int) (b : Int) = ((Nat.gcd a b : Nat) : Int) := by
  unfold r61.v L61a.run
  rw [gcd_N _ a b (by simp)]

theorem size_v {x : Int} (h : -9223372036854775808 ≤ x ∧ x ≤ 9223372036854775807) : r60.v x = (x.natAbs : Int) := by
  unfold r60.v
  have e : ∀ y : Int, IntKind.u64.wrap y = y % 18446744073709551616 := fun y => by simp [IntKind.wrap, IntKind.bits, IntKind.signed]
  rw [e, e]
  by_cases hx : x < 0
  · rw [decide_eq_true hx, cond_true]; omega
  · rw [decide_eq_false hx, cond_false]; omega

theorem size_0 {x : Int} (h : -9223372036854775808 ≤ x ∧ x ≤ 9223372036854775807) : 0 ≤ r60.v x := by rw [size_v h]; omega

theorem size_ne {x y : Int} (h : -9223372036854775808 ≤ x ∧ x ≤ 9223372036854775807) (hy : -9223372036854775808 ≤ y ∧ y ≤ 9223372036854775807) (h0 : ¬ y = 0) : ¬ r61.v (r60.v x) (r60.v y) = 0 := by
  rw [size_v h, size_v hy, gcd_v]
  have := Nat.gcd_pos_of_pos_right x.natAbs (n := y.natAbs) (by omega)
  omega

theorem wr_rng (x : Int) : -9223372036854775808 ≤ IntKind.i64.wrap x ∧ IntKind.i64.wrap x ≤ 9223372036854775807 := by
  simp only [IntKind.wrap, IntKind.bits, IntKind.signed]
  simp
  split <;> omega

theorem wr_lo (x : Int) : -9223372036854775808 ≤ IntKind.i64.wrap x := (wr_rng x).1

theorem wr_hi (x : Int) : IntKind.i64.wrap x ≤ 9223372036854775807 := (wr_rng x).2

theorem sp_lo (t : TD) : -9223372036854775808 ≤ r42.v t := wr_lo _

theorem sp_hi (t : TD) : r42.v t ≤ 9223372036854775807 := wr_hi _

theorem size_z {x y : Int} (h : -9223372036854775808 ≤ x ∧ x ≤ 9223372036854775807) (hy : -9223372036854775808 ≤ y ∧ y ≤ 9223372036854775807) (h0 : ¬ y = 0) (e : r61.v (r60.v x) (r60.v y) = 0) : False := size_ne h hy h0 e

end Go.Proofs.Ytngpbfocjgikaaa
