/- TruckAxles: whatever the input, the law hands back true. Conditions: none. -/
import Derived.Test.Ytngpbfocjgikaaa73

open Go

namespace Go.Proofs.Ytngpbfocjgikaaa

set_option linter.unusedSimpArgs false

set_option linter.unusedVariables false

set_option maxHeartbeats 0

set_option maxRecDepth 100000

inductive L25a.O where
  | e0 (a0 : Int)
  | e1

noncomputable def L25a.T (t : TD) (n : Nat) (g : Nat → LD) (a7 : Int) : List AV := mkT 40 [(1, AV.sl 4 n fun (i : Nat) => AV.agg [AV.str (g i).nm, AV.int IntKind.i64 (g i).lo, AV.int IntKind.i64 (g i).ln, AV.int IntKind.i64 (g i).ms]), (2, AV.ptr 0 1 8 0 0), (7, AV.int IntKind.i64 a7)]

noncomputable def L25a.H (t : TD) (n : Nat) (g : Nat → LD) (a7 : Int) : AHeap := [AObj.var (AV.agg [AV.str t.nm, AV.int IntKind.i64 t.tl, AV.int IntKind.i64 t.fr, AV.int IntKind.i64 t.re, AV.int IntKind.i64 t.l0, AV.int IntKind.i64 t.l1, AV.int IntKind.i64 t.e0, AV.int IntKind.i64 t.e1])]

def L25a.inv (t : TD) (n : Nat) (g : Nat → LD) (a7 : Int) : Prop := 0 ≤ a7 ∧ (a7 ≤ (↑n : Int) + 1 ∨ a7 ≤ 0)

noncomputable def L25a.mu (t : TD) (n : Nat) (g : Nat → LD) (a7 : Int) : Nat := ((↑n : Int) + 1 - a7).toNat

noncomputable def L25a.E : L25a.O → Exit
  | .e0 a0 => Exit.ret
  | .e1 => Exit.exit 0

noncomputable def L25a.X (t : TD) (n : Nat) (g : Nat → LD) : L25a.O → List AV
  | .e0 a0 => mkT 40 [(4, (AV.int IntKind.i64 a0)), (5, (AV.int IntKind.i64 0))]
  | .e1 => mkT 40 []

noncomputable def L25a.XH (t : TD) (n : Nat) (g : Nat → LD) : L25a.O → AHeap
  | .e0 a0 => ([AObj.var (AV.agg [AV.str t.nm, AV.int IntKind.i64 t.tl, AV.int IntKind.i64 t.fr, AV.int IntKind.i64 t.re, AV.int IntKind.i64 t.l0, AV.int IntKind.i64 t.l1, AV.int IntKind.i64 t.e0, AV.int IntKind.i64 t.e1])])
  | .e1 => ([AObj.var (AV.agg [AV.str t.nm, AV.int IntKind.i64 t.tl, AV.int IntKind.i64 t.fr, AV.int IntKind.i64 t.re, AV.int IntKind.i64 t.l0, AV.int IntKind.i64 t.l1, AV.int IntKind.i64 t.e0, AV.int IntKind.i64 t.e1])])

noncomputable def L25a.N (t : TD) (n : Nat) (g : Nat → LD) : Nat → Int → L25a.O
  | 0, a7 => .e0 a7
  | k_ + 1, a7 => (bif decide (a7 ≤ (↑n : Int)) then (bif r34.v t (r33.v0 ((IntKind.i64.wrap ((↑n : Int) - a7)).toNat - 0) (fun (i : Nat) => g (0 + i)) t.fr) (r33.v1 ((IntKind.i64.wrap ((↑n : Int) - a7)).toNat - 0) (fun (i : Nat) => g (0 + i)) t.fr) then (L25a.N t n g k_ (IntKind.i64.wrap (a7 + 1))) else (.e0 (a7))) else (.e1))

noncomputable def L25a.run (t : TD) (n : Nat) (g : Nat → LD) (a7 : Int) : L25a.O := L25a.N t n g ((((↑n : Int) + 1 - a7).toNat) + 1) a7

theorem L25a.nx (t : TD) (n : Nat) (g : Nat → LD) {k_ : Nat} {z_ : Int} {h_ : AHeap} (s_ : Int) (h1 : L25a.inv t n g s_) (h2 : L25a.mu t n g s_ < L25a.mu t n g z_) (h3 : L25a.N t n g k_ s_ = L25a.N t n g (k_ + 1) z_) (h4 : PopOk (L25a.H t n g z_) h_ (L25a.T t n g s_) (L25a.H t n g s_)) : LNextP (fun (z_ : Int) => L25a.T t n g z_) (fun (z_ : Int) => L25a.H t n g z_) (fun (z_ : Int) => L25a.inv t n g z_) (fun (z_ : Int) => L25a.mu t n g z_) (fun (k_ : Nat) (z_ : Int) => L25a.N t n g k_ z_) k_ z_ (L25a.T t n g s_) h_ := LNextP.mk (Tm := (fun (z_ : Int) => L25a.T t n g z_)) (Hp := (fun (z_ : Int) => L25a.H t n g z_)) (inv := (fun (z_ : Int) => L25a.inv t n g z_)) (mu := (fun (z_ : Int) => L25a.mu t n g z_)) (l := (fun (k_ : Nat) (z_ : Int) => L25a.N t n g k_ z_)) s_ h1 h2 h3 h4

theorem L25a.en (t : TD) (n : Nat) (g : Nat → LD) {k_ : Nat} {z_ : Int} {h_ : AHeap} (o_ : L25a.O) (h3 : L25a.N t n g (k_ + 1) z_ = o_) (h4 : PopOk (L25a.H t n g z_) h_ (L25a.X t n g o_) (L25a.XH t n g o_)) : LEndP (fun (z_ : Int) => L25a.H t n g z_) (fun (k_ : Nat) (z_ : Int) => L25a.N t n g k_ z_) L25a.E (L25a.X t n g) (L25a.XH t n g) k_ z_ (L25a.E o_) (L25a.X t n g o_) h_ := LEndP.mk (Hp := (fun (z_ : Int) => L25a.H t n g z_)) (l := (fun (k_ : Nat) (z_ : Int) => L25a.N t n g k_ z_)) (oE := L25a.E) (oT := L25a.X t n g) (oH := L25a.XH t n g) o_ h3 h4

noncomputable abbrev L25a.h0 (t : TD) (n : Nat) (g : Nat → LD) (a7 : Int) : AHeap := ([AObj.var (AV.agg [AV.str t.nm, AV.int IntKind.i64 t.tl, AV.int IntKind.i64 t.fr, AV.int IntKind.i64 t.re, AV.int IntKind.i64 t.l0, AV.int IntKind.i64 t.l1, AV.int IntKind.i64 t.e0, AV.int IntKind.i64 t.e1])])

theorem L25a.spec (t : TD) (hnm : t.nm.size ≤ 9223372036854775807) (n : Nat) (hn : n ≤ 12) (g : Nat → LD) (hg : ∀ (i : Nat), (g i).nm.size ≤ 9223372036854775807) (k0_1 : (r18.v t n g == 0) = true) (p0_1 : r18.v t n g = 0) (k_ : Nat) (z_ : Int) (hi_ : L25a.inv t n g z_) (hm_ : L25a.mu t n g z_ < k_) : LoopTo Try.prog (loopN Try.f25 0) (L25a.T t n g z_) (L25a.H t n g z_) (L25a.E (L25a.N t n g k_ z_)) (L25a.X t n g (L25a.N t n g k_ z_)) (L25a.XH t n g (L25a.N t n g k_ z_)) := by
  refine LoopTo.fuelP mix (fun (z_ : Int) => L25a.T t n g z_) (fun (z_ : Int) => L25a.H t n g z_) (fun (z_ : Int) => L25a.inv t n g z_) (fun (z_ : Int) => L25a.mu t n g z_) (fun (k_ : Nat) (z_ : Int) => L25a.N t n g k_ z_) L25a.E (L25a.X t n g) (L25a.XH t n g) (others 40 [1, 2, 7]) (others 40 [4, 5]) (others 40 []) ?_ k_ z_ hi_ hm_
  clear hm_ hi_ z_ k_
  intro k_ z_ hinv hmu
  revert hinv hmu; revert z_; intro a7 hinv hmu
  have hinv : 0 ≤ a7 ∧ (a7 ≤ (↑n : Int) + 1 ∨ a7 ≤ 0) := hinv
  have hmu : (((↑n : Int) + 1 - a7).toNat) < k_ + 1 := hmu
  cases h1 : decide (a7 ≤ (↑n : Int)) with
  | true =>
    have h1p := of_decide_eq_true h1
    try have := IntWalk.i64_in ((↑n : Int) - a7) (by omega)
    have o0 : (0 : Int) ≤ IntKind.i64.wrap ((↑n : Int) - a7) := by first | assumption | omega | (exact hg _) | (exact hg _ (by omega)) | (simp_all; done)
    have o1 : IntKind.i64.wrap ((↑n : Int) - a7) ≤ (↑n : Int) := by first | assumption | omega | (exact hg _) | (exact hg _ (by omega)) | (simp_all; done)
    have o2 : (IntKind.i64.wrap ((↑n : Int) - a7)).toNat - (0 : Nat) ≤ (9223372036854775807 : Nat) := by first | assumption | omega | (exact hg _) | (exact hg _ (by omega)) | (simp_all; done)
    cases h2 : r34.v t (r33.v0 ((IntKind.i64.wrap ((↑n : Int) - a7)).toNat - 0) (fun (i : Nat) => g (0 + i)) t.fr) (r33.v1 ((IntKind.i64.wrap ((↑n : Int) - a7)).toNat - 0) (fun (i : Nat) => g (0 + i)) t.fr) with
    | true =>
      try have := IntWalk.i64_in (a7 + 1) (by omega)
      have o3 : (0 : Int) ≤ IntKind.i64.wrap (a7 + (1 : Int)) := by first | assumption | omega | (exact hg _) | (exact hg _ (by omega)) | (simp_all; done)
      have o4 : IntKind.i64.wrap (a7 + (1 : Int)) ≤ (↑n : Int) + (1 : Int) ∨ IntKind.i64.wrap (a7 + (1 : Int)) ≤ (0 : Int) := by first | assumption | omega | (exact hg _) | (exact hg _ (by omega)) | (simp_all; done)
      have o5 : ((↑n : Int) + (1 : Int) - IntKind.i64.wrap (a7 + (1 : Int))).toNat < ((↑n : Int) + (1 : Int) - a7).toNat := by first | assumption | omega | (exact hg _) | (exact hg _ (by omega)) | (simp_all; done)
      exact ⟨[.b true, .ret (AV.tup [AV.int IntKind.i64 (r33.v0 ((IntKind.i64.wrap ((↑n : Int) - a7)).toNat - 0) (fun (i : Nat) => g (0 + i)) t.fr), AV.int IntKind.i64 (r33.v1 ((IntKind.i64.wrap ((↑n : Int) - a7)).toNat - 0) (fun (i : Nat) => g (0 + i)) t.fr)]) (L25a.h0 t n g a7), .ret (AV.bool (r34.v t (r33.v0 ((IntKind.i64.wrap ((↑n : Int) - a7)).toNat - 0) (fun (i : Nat) => g (0 + i)) t.fr) (r33.v1 ((IntKind.i64.wrap ((↑n : Int) - a7)).toNat - 0) (fun (i : Nat) => g (0 + i)) t.fr))) (L25a.h0 t n g a7), .b false], kmp (by kernel_rfl) (And.intro h1 (And.intro (And.intro o0 o1) (And.intro (r33 ((IntKind.i64.wrap ((↑n : Int) - a7)).toNat - 0) (fun (i : Nat) => g (0 + i)) o2 (t.fr) (L25a.h0 t n g a7)) (And.intro (r34 (t) (r33.v0 ((IntKind.i64.wrap ((↑n : Int) - a7)).toNat - 0) (fun (i : Nat) => g (0 + i)) t.fr) (r33.v1 ((IntKind.i64.wrap ((↑n : Int) - a7)).toNat - 0) (fun (i : Nat) => g (0 + i)) t.fr) (L25a.h0 t n g a7)) (And.intro (show (bnot (r34.v t (r33.v0 ((IntKind.i64.wrap ((↑n : Int) - a7)).toNat - 0) (fun (i : Nat) => g (0 + i)) t.fr) (r33.v1 ((IntKind.i64.wrap ((↑n : Int) - a7)).toNat - 0) (fun (i : Nat) => g (0 + i)) t.fr))) = false by rw [h2]; try rfl) (L25a.nx t n g (k_ := k_) (z_ := a7) (IntKind.i64.wrap (a7 + 1)) (And.intro o3 o4) o5 (by first | (simp only [L25a.N, h1, h2, cond_true, cond_false]; done) | (try unfold L25a.N; try simp only [h1, cond_true, cond_false]; try simp only [h2, cond_true, cond_false]; try rfl; done)) PopOk.same))))))⟩
    | false =>
      exact ⟨[.b true, .ret (AV.tup [AV.int IntKind.i64 (r33.v0 ((IntKind.i64.wrap ((↑n : Int) - a7)).toNat - 0) (fun (i : Nat) => g (0 + i)) t.fr), AV.int IntKind.i64 (r33.v1 ((IntKind.i64.wrap ((↑n : Int) - a7)).toNat - 0) (fun (i : Nat) => g (0 + i)) t.fr)]) (L25a.h0 t n g a7), .ret (AV.bool (r34.v t (r33.v0 ((IntKind.i64.wrap ((↑n : Int) - a7)).toNat - 0) (fun (i : Nat) => g (0 + i)) t.fr) (r33.v1 ((IntKind.i64.wrap ((↑n : Int) - a7)).toNat - 0) (fun (i : Nat) => g (0 + i)) t.fr))) (L25a.h0 t n g a7), .b true], kmp (by kernel_rfl) (And.intro h1 (And.intro (And.intro o0 o1) (And.intro (r33 ((IntKind.i64.wrap ((↑n : Int) - a7)).toNat - 0) (fun (i : Nat) => g (0 + i)) o2 (t.fr) (L25a.h0 t n g a7)) (And.intro (r34 (t) (r33.v0 ((IntKind.i64.wrap ((↑n : Int) - a7)).toNat - 0) (fun (i : Nat) => g (0 + i)) t.fr) (r33.v1 ((IntKind.i64.wrap ((↑n : Int) - a7)).toNat - 0) (fun (i : Nat) => g (0 + i)) t.fr) (L25a.h0 t n g a7)) (And.intro (show (bnot (r34.v t (r33.v0 ((IntKind.i64.wrap ((↑n : Int) - a7)).toNat - 0) (fun (i : Nat) => g (0 + i)) t.fr) (r33.v1 ((IntKind.i64.wrap ((↑n : Int) - a7)).toNat - 0) (fun (i : Nat) => g (0 + i)) t.fr))) = true by rw [h2]; try rfl) (L25a.en t n g (k_ := k_) (z_ := a7) (.e0 (a7) : L25a.O) (by first | (simp only [L25a.N, h1, h2, cond_true, cond_false]; done) | (try unfold L25a.N; try simp only [h1, cond_true, cond_false]; try simp only [h2, cond_true, cond_false]; try rfl; done)) PopOk.same))))))⟩
  | false =>
    have h1p := of_decide_eq_false h1
    exact ⟨[.b false], kmp (by kernel_rfl) (And.intro h1 (L25a.en t n g (k_ := k_) (z_ := a7) (.e1 : L25a.O) (by first | (simp only [L25a.N, h1, cond_true, cond_false]; done) | (try unfold L25a.N; try simp only [h1, cond_true, cond_false]; try rfl; done)) PopOk.same))⟩

theorem L25a.e0 (t : TD) (hnm : t.nm.size ≤ 9223372036854775807) (n : Nat) (hn : n ≤ 12) (g : Nat → LD) (hg : ∀ (i : Nat), (g i).nm.size ≤ 9223372036854775807) (k0_1 : (r18.v t n g == 0) = true) (p0_1 : r18.v t n g = 0) (a7 : Int) (hinv : L25a.inv t n g a7) (a0 : Int) (hN : L25a.run t n g a7 = (.e0 a0 : L25a.O)) : LoopTo Try.prog (loopN Try.f25 0) (L25a.T t n g a7) (L25a.H t n g a7) (Exit.ret) (L25a.X t n g (.e0 a0 : L25a.O)) (L25a.XH t n g (.e0 a0 : L25a.O)) := by
  have h_ := L25a.spec t hnm n hn g hg k0_1 p0_1 ((((↑n : Int) + 1 - a7).toNat) + 1) a7 hinv (Nat.lt_succ_self _)
  unfold L25a.run at hN
  simp only [hN] at h_
  exact h_

theorem L25a.e1 (t : TD) (hnm : t.nm.size ≤ 9223372036854775807) (n : Nat) (hn : n ≤ 12) (g : Nat → LD) (hg : ∀ (i : Nat), (g i).nm.size ≤ 9223372036854775807) (k0_1 : (r18.v t n g == 0) = true) (p0_1 : r18.v t n g = 0) (a7 : Int) (hinv : L25a.inv t n g a7) (hN : L25a.run t n g a7 = (.e1 : L25a.O)) : LoopTo Try.prog (loopN Try.f25 0) (L25a.T t n g a7) (L25a.H t n g a7) (Exit.exit 0) (L25a.X t n g (.e1 : L25a.O)) (L25a.XH t n g (.e1 : L25a.O)) := by
  have h_ := L25a.spec t hnm n hn g hg k0_1 p0_1 ((((↑n : Int) + 1 - a7).toNat) + 1) a7 hinv (Nat.lt_succ_self _)
  unfold L25a.run at hN
  simp only [hN] at h_
  exact h_

noncomputable def r25.v0 (t : TD) (n : Nat) (g : Nat → LD) : Int := (bif r18.v t n g == 0 then (match L25a.run t n g 0 with | .e0 h2d0 => h2d0 | .e1 => 0 ) else 0)

noncomputable def r25.v1 (t : TD) (n : Nat) (g : Nat → LD) : Int := (bif r18.v t n g == 0 then (match L25a.run t n g 0 with | .e0 h2d0 => 0 | .e1 => 9 ) else r18.v t n g)

noncomputable abbrev r25.h0 (t : TD) (n : Nat) (g : Nat → LD) : AHeap := ([AObj.var (AV.agg [AV.str t.nm, AV.int IntKind.i64 t.tl, AV.int IntKind.i64 t.fr, AV.int IntKind.i64 t.re, AV.int IntKind.i64 t.l0, AV.int IntKind.i64 t.l1, AV.int IntKind.i64 t.e0, AV.int IntKind.i64 t.e1])])

theorem r25 (t : TD) (hnm : t.nm.size ≤ 9223372036854775807) (n : Nat) (hn : n ≤ 12) (g : Nat → LD) (hg : ∀ (i : Nat), (g i).nm.size ≤ 9223372036854775807) (h : AHeap) : Ret Try.prog 25 ([t.av, lds n g]) h (AV.tup [(AV.int IntKind.i64 (r25.v0 t n g)), (AV.int IntKind.i64 (r25.v1 t n g))]) h := by
  have o0 : t.nm.size ≤ (9223372036854775807 : Nat) := by first | assumption | omega | (exact hg _) | (exact hg _ (by omega)) | (simp_all; done)
  have o1 : n ≤ (12 : Nat) := by first | assumption | omega | (exact hg _) | (exact hg _ (by omega)) | (simp_all; done)
  have o2 : ∀ (i : Nat), (g i).nm.size ≤ (9223372036854775807 : Nat) := by first | assumption | omega | (exact hg _) | (exact hg _ (by omega)) | (simp_all; done)
  cases h1 : r18.v t n g == 0 with
  | true =>
    have h1p := eq_of_beq h1
    have o3 : (r18.v t n g == (0 : Int)) = true := by first | assumption | omega | (exact hg _) | (exact hg _ (by omega)) | (simp_all; done)
    have o4 : r18.v t n g = (0 : Int) := by first | assumption | omega | (exact hg _) | (exact hg _ (by omega)) | (simp_all; done)
    have o5 : (0 : Int) ≤ (↑n : Int) + (1 : Int) ∨ (0 : Int) ≤ (0 : Int) := by first | assumption | omega | (exact hg _) | (exact hg _ (by omega)) | (simp_all; done)
    cases h2 : L25a.run t n g 0 with
    | e0 h2d0 =>
      exact Ret.of_run1 mix [(AV.int IntKind.i64 (r25.v0 t n g)), (AV.int IntKind.i64 (r25.v1 t n g))] Try.func25 rfl [.ret (AV.int IntKind.i64 (r18.v t n g)) (r25.h0 t n g), .b false, .loop (others 40 [1, 2, 7]) (Exit.ret) (L25a.X t n g (L25a.O.e0 h2d0)) (L25a.XH t n g (L25a.O.e0 h2d0))] (by simp) (by simp) (kmp (by kernel_rfl) (And.intro (r18 (t) o0 (n) o1 (g) o2 (r25.h0 t n g)) (And.intro (show (bnot (r18.v t n g == 0)) = false by rw [h1]; try rfl) (And.intro (L25a.e0 (t) o0 (n) o1 (g) o2 o3 o4 (0) (And.intro (show (0 : Int) ≤ (0 : Int) by first | decide | exact Int.NonNeg.mk _) o5) h2d0 h2) (And.intro (show (AV.int IntKind.i64 h2d0) = ((AV.int IntKind.i64 (r25.v0 t n g))) by first | (simp only [r25.v0, r25.v1, h1, h2, cond_true, cond_false]; done) | (try unfold r25.v0; try unfold r25.v1; try simp only [h1, cond_true, cond_false]; try simp only [h2, cond_true, cond_false]; try rfl; done) | rfl) (And.intro (show (AV.int IntKind.i64 0) = ((AV.int IntKind.i64 (r25.v1 t n g))) by first | (simp only [r25.v0, r25.v1, h1, h2, cond_true, cond_false]; done) | (try unfold r25.v0; try unfold r25.v1; try simp only [h1, cond_true, cond_false]; try simp only [h2, cond_true, cond_false]; try rfl; done) | rfl) trivial)))))) h
    | e1 =>
      exact Ret.of_run1 mix [(AV.int IntKind.i64 (r25.v0 t n g)), (AV.int IntKind.i64 (r25.v1 t n g))] Try.func25 rfl [.ret (AV.int IntKind.i64 (r18.v t n g)) (r25.h0 t n g), .b false, .loop (others 40 [1, 2, 7]) (Exit.exit 0) (L25a.X t n g L25a.O.e1) (L25a.XH t n g L25a.O.e1)] (by simp) (by simp) (kmp (by kernel_rfl) (And.intro (r18 (t) o0 (n) o1 (g) o2 (r25.h0 t n g)) (And.intro (show (bnot (r18.v t n g == 0)) = false by rw [h1]; try rfl) (And.intro (L25a.e1 (t) o0 (n) o1 (g) o2 o3 o4 (0) (And.intro (show (0 : Int) ≤ (0 : Int) by first | decide | exact Int.NonNeg.mk _) o5) h2) (And.intro (show (AV.int IntKind.i64 0) = ((AV.int IntKind.i64 (r25.v0 t n g))) by first | (simp only [r25.v0, r25.v1, h1, h2, cond_true, cond_false]; done) | (try unfold r25.v0; try unfold r25.v1; try simp only [h1, cond_true, cond_false]; try simp only [h2, cond_true, cond_false]; try rfl; done) | rfl) (And.intro (show (AV.int IntKind.i64 9) = ((AV.int IntKind.i64 (r25.v1 t n g))) by first | (simp only [r25.v0, r25.v1, h1, h2, cond_true, cond_false]; done) | (try unfold r25.v0; try unfold r25.v1; try simp only [h1, cond_true, cond_false]; try simp only [h2, cond_true, cond_false]; try rfl; done) | rfl) trivial)))))) h
  | false =>
    have h1p := ne_of_beq_false h1
    exact Ret.of_run1 mix [(AV.int IntKind.i64 (r25.v0 t n g)), (AV.int IntKind.i64 (r25.v1 t n g))] Try.func25 rfl [.ret (AV.int IntKind.i64 (r18.v t n g)) (r25.h0 t n g), .b true] (by simp) (by simp) (kmp (by kernel_rfl) (And.intro (r18 (t) o0 (n) o1 (g) o2 (r25.h0 t n g)) (And.intro (show (bnot (r18.v t n g == 0)) = true by rw [h1]; try rfl) (And.intro (show (AV.int IntKind.i64 0) = ((AV.int IntKind.i64 (r25.v0 t n g))) by first | (simp only [r25.v0, r25.v1, h1, cond_true, cond_false]; done) | (try unfold r25.v0; try unfold r25.v1; try simp only [h1, cond_true, cond_false]; try rfl; done) | rfl) (And.intro (show (AV.int IntKind.i64 (r18.v t n g)) = ((AV.int IntKind.i64 (r25.v1 t n g))) by first | (simp only [r25.v0, r25.v1, h1, cond_true, cond_false]; done) | (try unfold r25.v0; try unfold r25.v1; try simp only [h1, cond_true, cond_false]; try rfl; done) | rfl) trivial))))) h

inductive L25ma.O where
  | e0 (a0 : Int)
  | e1

noncomputable def L25ma.T (t : TD) (n : Nat) (g : Nat → LD) (a7 : Int) : List AV := mkT 40 [(1, AV.sl 4 n fun (i : Nat) => AV.agg [AV.str (g i).nm, AV.int IntKind.i64 (g i).lo, AV.int IntKind.i64 (g i).ln, AV.int IntKind.i64 (g i).ms]), (2, AV.ptr 0 1 8 0 0), (7, AV.int IntKind.i64 a7)]

noncomputable def L25ma.H (t : TD) (n : Nat) (g : Nat → LD) (a7 : Int) : AHeap := [AObj.var (AV.agg [AV.str t.nm, AV.int IntKind.i64 t.tl, AV.int IntKind.i64 t.fr, AV.int IntKind.i64 t.re, AV.int IntKind.i64 t.l0, AV.int IntKind.i64 t.l1, AV.int IntKind.i64 t.e0, AV.int IntKind.i64 t.e1])]

def L25ma.inv (t : TD) (n : Nat) (g : Nat → LD) (a7 : Int) : Prop := 0 ≤ a7 ∧ (a7 ≤ (↑n : Int) + 1 ∨ a7 ≤ 0)

noncomputable def L25ma.mu (t : TD) (n : Nat) (g : Nat → LD) (a7 : Int) : Nat := ((↑n : Int) + 1 - a7).toNat

noncomputable def L25ma.E : L25ma.O → Exit
  | .e0 a0 => Exit.ret
  | .e1 => Exit.exit 0

noncomputable def L25ma.X (t : TD) (n : Nat) (g : Nat → LD) : L25ma.O → List AV
  | .e0 a0 => mkT 40 [(4, (AV.int IntKind.i64 a0)), (5, (AV.int IntKind.i64 0))]
  | .e1 => mkT 40 []

noncomputable def L25ma.XH (t : TD) (n : Nat) (g : Nat → LD) : L25ma.O → AHeap
  | .e0 a0 => ([AObj.var (AV.agg [AV.str t.nm, AV.int IntKind.i64 t.tl, AV.int IntKind.i64 t.fr, AV.int IntKind.i64 t.re, AV.int IntKind.i64 t.l0, AV.int IntKind.i64 t.l1, AV.int IntKind.i64 t.e0, AV.int IntKind.i64 t.e1])])
  | .e1 => ([AObj.var (AV.agg [AV.str t.nm, AV.int IntKind.i64 t.tl, AV.int IntKind.i64 t.fr, AV.int IntKind.i64 t.re, AV.int IntKind.i64 t.l0, AV.int IntKind.i64 t.l1, AV.int IntKind.i64 t.e0, AV.int IntKind.i64 t.e1])])

noncomputable def L25ma.N (t : TD) (n : Nat) (g : Nat → LD) : Nat → Int → L25ma.O
  | 0, a7 => .e0 a7
  | k_ + 1, a7 => (bif decide (a7 ≤ (↑n : Int)) then (bif r34.v t (r33.v0 ((IntKind.i64.wrap ((↑n : Int) - a7)).toNat - 0) (fun (i : Nat) => g (0 + i)) t.fr) (r33.v1 ((IntKind.i64.wrap ((↑n : Int) - a7)).toNat - 0) (fun (i : Nat) => g (0 + i)) t.fr) then (L25ma.N t n g k_ (IntKind.i64.wrap (a7 + 1))) else (.e0 (a7))) else (.e1))

noncomputable def L25ma.run (t : TD) (n : Nat) (g : Nat → LD) (a7 : Int) : L25ma.O := L25ma.N t n g ((((↑n : Int) + 1 - a7).toNat) + 1) a7

theorem L25ma.nx (t : TD) (n : Nat) (g : Nat → LD) {k_ : Nat} {z_ : Int} {h_ : AHeap} (s_ : Int) (h1 : L25ma.inv t n g s_) (h2 : L25ma.mu t n g s_ < L25ma.mu t n g z_) (h3 : L25ma.N t n g k_ s_ = L25ma.N t n g (k_ + 1) z_) (h4 : PopOk (L25ma.H t n g z_) h_ (L25ma.T t n g s_) (L25ma.H t n g s_)) : LNextP (fun (z_ : Int) => L25ma.T t n g z_) (fun (z_ : Int) => L25ma.H t n g z_) (fun (z_ : Int) => L25ma.inv t n g z_) (fun (z_ : Int) => L25ma.mu t n g z_) (fun (k_ : Nat) (z_ : Int) => L25ma.N t n g k_ z_) k_ z_ (L25ma.T t n g s_) h_ := LNextP.mk (Tm := (fun (z_ : Int) => L25ma.T t n g z_)) (Hp := (fun (z_ : Int) => L25ma.H t n g z_)) (inv := (fun (z_ : Int) => L25ma.inv t n g z_)) (mu := (fun (z_ : Int) => L25ma.mu t n g z_)) (l := (fun (k_ : Nat) (z_ : Int) => L25ma.N t n g k_ z_)) s_ h1 h2 h3 h4

theorem L25ma.en (t : TD) (n : Nat) (g : Nat → LD) {k_ : Nat} {z_ : Int} {h_ : AHeap} (o_ : L25ma.O) (h3 : L25ma.N t n g (k_ + 1) z_ = o_) (h4 : PopOk (L25ma.H t n g z_) h_ (L25ma.X t n g o_) (L25ma.XH t n g o_)) : LEndP (fun (z_ : Int) => L25ma.H t n g z_) (fun (k_ : Nat) (z_ : Int) => L25ma.N t n g k_ z_) L25ma.E (L25ma.X t n g) (L25ma.XH t n g) k_ z_ (L25ma.E o_) (L25ma.X t n g o_) h_ := LEndP.mk (Hp := (fun (z_ : Int) => L25ma.H t n g z_)) (l := (fun (k_ : Nat) (z_ : Int) => L25ma.N t n g k_ z_)) (oE := L25ma.E) (oT := L25ma.X t n g) (oH := L25ma.XH t n g) o_ h3 h4

noncomputable abbrev L25ma.h0 (t : TD) (n : Nat) (g : Nat → LD) (a7 : Int) : AHeap := ([AObj.var (AV.agg [AV.str t.nm, AV.int IntKind.i64 t.tl, AV.int IntKind.i64 t.fr, AV.int IntKind.i64 t.re, AV.int IntKind.i64 t.l0, AV.int IntKind.i64 t.l1, AV.int IntKind.i64 t.e0, AV.int IntKind.i64 t.e1])])

theorem L25ma.spec (t : TD) (hnm : t.nm.size ≤ 9223372036854775807) (n : Nat) (hn : n ≤ 70) (hq : decide ((↑n : Int) > 64) = true) (g : Nat → LD) (hg : ∀ (i : Nat), (g i).nm.size ≤ 9223372036854775807) (k0_1 : (r18m.v t == 0) = true) (p0_1 : r18m.v t = 0) (k_ : Nat) (z_ : Int) (hi_ : L25ma.inv t n g z_) (hm_ : L25ma.mu t n g z_ < k_) : LoopTo Try.prog (loopN Try.f25 0) (L25ma.T t n g z_) (L25ma.H t n g z_) (L25ma.E (L25ma.N t n g k_ z_)) (L25ma.X t n g (L25ma.N t n g k_ z_)) (L25ma.XH t n g (L25ma.N t n g k_ z_)) := by
  refine LoopTo.fuelP mix (fun (z_ : Int) => L25ma.T t n g z_) (fun (z_ : Int) => L25ma.H t n g z_) (fun (z_ : Int) => L25ma.inv t n g z_) (fun (z_ : Int) => L25ma.mu t n g z_) (fun (k_ : Nat) (z_ : Int) => L25ma.N t n g k_ z_) L25ma.E (L25ma.X t n g) (L25ma.XH t n g) (others 40 [1, 2, 7]) (others 40 [4, 5]) (others 40 []) ?_ k_ z_ hi_ hm_
  clear hm_ hi_ z_ k_
  intro k_ z_ hinv hmu
  revert hinv hmu; revert z_; intro a7 hinv hmu
  have hinv : 0 ≤ a7 ∧ (a7 ≤ (↑n : Int) + 1 ∨ a7 ≤ 0) := hinv
  have hmu : (((↑n : Int) + 1 - a7).toNat) < k_ + 1 := hmu
  cases h1 : decide (a7 ≤ (↑n : Int)) with
  | true =>
    have h1p := of_decide_eq_true h1
    try have := IntWalk.i64_in ((↑n : Int) - a7) (by omega)
    have o0 : (0 : Int) ≤ IntKind.i64.wrap ((↑n : Int) - a7) := by first | assumption | omega | (exact hg _) | (exact hg _ (by omega)) | (simp_all; done)
    have o1 : IntKind.i64.wrap ((↑n : Int) - a7) ≤ (↑n : Int) := by first | assumption | omega | (exact hg _) | (exact hg _ (by omega)) | (simp_all; done)
    have o2 : (IntKind.i64.wrap ((↑n : Int) - a7)).toNat - (0 : Nat) ≤ (9223372036854775807 : Nat) := by first | assumption | omega | (exact hg _) | (exact hg _ (by omega)) | (simp_all; done)
    cases h2 : r34.v t (r33.v0 ((IntKind.i64.wrap ((↑n : Int) - a7)).toNat - 0) (fun (i : Nat) => g (0 + i)) t.fr) (r33.v1 ((IntKind.i64.wrap ((↑n : Int) - a7)).toNat - 0) (fun (i : Nat) => g (0 + i)) t.fr) with
    | true =>
      try have := IntWalk.i64_in (a7 + 1) (by omega)
      have o3 : (0 : Int) ≤ IntKind.i64.wrap (a7 + (1 : Int)) := by first | assumption | omega | (exact hg _) | (exact hg _ (by omega)) | (simp_all; done)
      have o4 : IntKind.i64.wrap (a7 + (1 : Int)) ≤ (↑n : Int) + (1 : Int) ∨ IntKind.i64.wrap (a7 + (1 : Int)) ≤ (0 : Int) := by first | assumption | omega | (exact hg _) | (exact hg _ (by omega)) | (simp_all; done)
      have o5 : ((↑n : Int) + (1 : Int) - IntKind.i64.wrap (a7 + (1 : Int))).toNat < ((↑n : Int) + (1 : Int) - a7).toNat := by first | assumption | omega | (exact hg _) | (exact hg _ (by omega)) | (simp_all; done)
      exact ⟨[.b true, .ret (AV.tup [AV.int IntKind.i64 (r33.v0 ((IntKind.i64.wrap ((↑n : Int) - a7)).toNat - 0) (fun (i : Nat) => g (0 + i)) t.fr), AV.int IntKind.i64 (r33.v1 ((IntKind.i64.wrap ((↑n : Int) - a7)).toNat - 0) (fun (i : Nat) => g (0 + i)) t.fr)]) (L25ma.h0 t n g a7), .ret (AV.bool (r34.v t (r33.v0 ((IntKind.i64.wrap ((↑n : Int) - a7)).toNat - 0) (fun (i : Nat) => g (0 + i)) t.fr) (r33.v1 ((IntKind.i64.wrap ((↑n : Int) - a7)).toNat - 0) (fun (i : Nat) => g (0 + i)) t.fr))) (L25ma.h0 t n g a7), .b false], kmp (by kernel_rfl) (And.intro h1 (And.intro (And.intro o0 o1) (And.intro (r33 ((IntKind.i64.wrap ((↑n : Int) - a7)).toNat - 0) (fun (i : Nat) => g (0 + i)) o2 (t.fr) (L25ma.h0 t n g a7)) (And.intro (r34 (t) (r33.v0 ((IntKind.i64.wrap ((↑n : Int) - a7)).toNat - 0) (fun (i : Nat) => g (0 + i)) t.fr) (r33.v1 ((IntKind.i64.wrap ((↑n : Int) - a7)).toNat - 0) (fun (i : Nat) => g (0 + i)) t.fr) (L25ma.h0 t n g a7)) (And.intro (show (bnot (r34.v t (r33.v0 ((IntKind.i64.wrap ((↑n : Int) - a7)).toNat - 0) (fun (i : Nat) => g (0 + i)) t.fr) (r33.v1 ((IntKind.i64.wrap ((↑n : Int) - a7)).toNat - 0) (fun (i : Nat) => g (0 + i)) t.fr))) = false by rw [h2]; try rfl) (L25ma.nx t n g (k_ := k_) (z_ := a7) (IntKind.i64.wrap (a7 + 1)) (And.intro o3 o4) o5 (by first | (simp only [L25ma.N, h1, h2, cond_true, cond_false]; done) | (try unfold L25ma.N; try simp only [h1, cond_true, cond_false]; try simp only [h2, cond_true, cond_false]; try rfl; done)) PopOk.same))))))⟩
    | false =>
      exact ⟨[.b true, .ret (AV.tup [AV.int IntKind.i64 (r33.v0 ((IntKind.i64.wrap ((↑n : Int) - a7)).toNat - 0) (fun (i : Nat) => g (0 + i)) t.fr), AV.int IntKind.i64 (r33.v1 ((IntKind.i64.wrap ((↑n : Int) - a7)).toNat - 0) (fun (i : Nat) => g (0 + i)) t.fr)]) (L25ma.h0 t n g a7), .ret (AV.bool (r34.v t (r33.v0 ((IntKind.i64.wrap ((↑n : Int) - a7)).toNat - 0) (fun (i : Nat) => g (0 + i)) t.fr) (r33.v1 ((IntKind.i64.wrap ((↑n : Int) - a7)).toNat - 0) (fun (i : Nat) => g (0 + i)) t.fr))) (L25ma.h0 t n g a7), .b true], kmp (by kernel_rfl) (And.intro h1 (And.intro (And.intro o0 o1) (And.intro (r33 ((IntKind.i64.wrap ((↑n : Int) - a7)).toNat - 0) (fun (i : Nat) => g (0 + i)) o2 (t.fr) (L25ma.h0 t n g a7)) (And.intro (r34 (t) (r33.v0 ((IntKind.i64.wrap ((↑n : Int) - a7)).toNat - 0) (fun (i : Nat) => g (0 + i)) t.fr) (r33.v1 ((IntKind.i64.wrap ((↑n : Int) - a7)).toNat - 0) (fun (i : Nat) => g (0 + i)) t.fr) (L25ma.h0 t n g a7)) (And.intro (show (bnot (r34.v t (r33.v0 ((IntKind.i64.wrap ((↑n : Int) - a7)).toNat - 0) (fun (i : Nat) => g (0 + i)) t.fr) (r33.v1 ((IntKind.i64.wrap ((↑n : Int) - a7)).toNat - 0) (fun (i : Nat) => g (0 + i)) t.fr))) = true by rw [h2]; try rfl) (L25ma.en t n g (k_ := k_) (z_ := a7) (.e0 (a7) : L25ma.O) (by first | (simp only [L25ma.N, h1, h2, cond_true, cond_false]; done) | (try unfold L25ma.N; try simp only [h1, cond_true, cond_false]; try simp only [h2, cond_true, cond_false]; try rfl; done)) PopOk.same))))))⟩
  | false =>
    have h1p := of_decide_eq_false h1
    exact ⟨[.b false], kmp (by kernel_rfl) (And.intro h1 (L25ma.en t n g (k_ := k_) (z_ := a7) (.e1 : L25ma.O) (by first | (simp only [L25ma.N, h1, cond_true, cond_false]; done) | (try unfold L25ma.N; try simp only [h1, cond_true, cond_false]; try rfl; done)) PopOk.same))⟩

theorem L25ma.e0 (t : TD) (hnm : t.nm.size ≤ 9223372036854775807) (n : Nat) (hn : n ≤ 70) (hq : decide ((↑n : Int) > 64) = true) (g : Nat → LD) (hg : ∀ (i : Nat), (g i).nm.size ≤ 9223372036854775807) (k0_1 : (r18m.v t == 0) = true) (p0_1 : r18m.v t = 0) (a7 : Int) (hinv : L25ma.inv t n g a7) (a0 : Int) (hN : L25ma.run t n g a7 = (.e0 a0 : L25ma.O)) : LoopTo Try.prog (loopN Try.f25 0) (L25ma.T t n g a7) (L25ma.H t n g a7) (Exit.ret) (L25ma.X t n g (.e0 a0 : L25ma.O)) (L25ma.XH t n g (.e0 a0 : L25ma.O)) := by
  have h_ := L25ma.spec t hnm n hn hq g hg k0_1 p0_1 ((((↑n : Int) + 1 - a7).toNat) + 1) a7 hinv (Nat.lt_succ_self _)
  unfold L25ma.run at hN
  simp only [hN] at h_
  exact h_

theorem L25ma.e1 (t : TD) (hnm : t.nm.size ≤ 9223372036854775807) (n : Nat) (hn : n ≤ 70) (hq : decide ((↑n : Int) > 64) = true) (g : Nat → LD) (hg : ∀ (i : Nat), (g i).nm.size ≤ 9223372036854775807) (k0_1 : (r18m.v t == 0) = true) (p0_1 : r18m.v t = 0) (a7 : Int) (hinv : L25ma.inv t n g a7) (hN : L25ma.run t n g a7 = (.e1 : L25ma.O)) : LoopTo Try.prog (loopN Try.f25 0) (L25ma.T t n g a7) (L25ma.H t n g a7) (Exit.exit 0) (L25ma.X t n g (.e1 : L25ma.O)) (L25ma.XH t n g (.e1 : L25ma.O)) := by
  have h_ := L25ma.spec t hnm n hn hq g hg k0_1 p0_1 ((((↑n : Int) + 1 - a7).toNat) + 1) a7 hinv (Nat.lt_succ_self _)
  unfold L25ma.run at hN
  simp only [hN] at h_
  exact h_

noncomputable def r25m.v0 (t : TD) (n : Nat) (g : Nat → LD) : Int := (bif r18m.v t == 0 then (match L25ma.run t n g 0 with | .e0 h2d0 => h2d0 | .e1 => 0 ) else 0)

noncomputable def r25m.v1 (t : TD) (n : Nat) (g : Nat → LD) : Int := (bif r18m.v t == 0 then (match L25ma.run t n g 0 with | .e0 h2d0 => 0 | .e1 => 9 ) else r18m.v t)

noncomputable abbrev r25m.h0 (t : TD) (n : Nat) (g : Nat → LD) : AHeap := ([AObj.var (AV.agg [AV.str t.nm, AV.int IntKind.i64 t.tl, AV.int IntKind.i64 t.fr, AV.int IntKind.i64 t.re, AV.int IntKind.i64 t.l0, AV.int IntKind.i64 t.l1, AV.int IntKind.i64 t.e0, AV.int IntKind.i64 t.e1])])

theorem r25m (t : TD) (hnm : t.nm.size ≤ 9223372036854775807) (n : Nat) (hn : n ≤ 70) (hq : decide ((↑n : Int) > 64) = true) (g : Nat → LD) (hg : ∀ (i : Nat), (g i).nm.size ≤ 9223372036854775807) (h : AHeap) : Ret Try.prog 25 ([t.av, lds n g]) h (AV.tup [(AV.int IntKind.i64 (r25m.v0 t n g)), (AV.int IntKind.i64 (r25m.v1 t n g))]) h := by
  have o0 : t.nm.size ≤ (9223372036854775807 : Nat) := by first | assumption | omega | (exact hg _) | (exact hg _ (by omega)) | (simp_all; done)
  have o1 : n ≤ (9223372036854775807 : Nat) := by first | assumption | omega | (exact hg _) | (exact hg _ (by omega)) | (simp_all; done)
  have o2 : decide ((↑n : Int) > (64 : Int)) = true := by first | assumption | omega | (exact hg _) | (exact hg _ (by omega)) | (simp_all; done)
  cases h1 : r18m.v t == 0 with
  | true =>
    have h1p := eq_of_beq h1
    have o3 : n ≤ (70 : Nat) := by first | assumption | omega | (exact hg _) | (exact hg _ (by omega)) | (simp_all; done)
    have o4 : ∀ (i : Nat), (g i).nm.size ≤ (9223372036854775807 : Nat) := by first | assumption | omega | (exact hg _) | (exact hg _ (by omega)) | (simp_all; done)
    have o5 : (r18m.v t == (0 : Int)) = true := by first | assumption | omega | (exact hg _) | (exact hg _ (by omega)) | (simp_all; done)
    have o6 : r18m.v t = (0 : Int) := by first | assumption | omega | (exact hg _) | (exact hg _ (by omega)) | (simp_all; done)
    have o7 : (0 : Int) ≤ (↑n : Int) + (1 : Int) ∨ (0 : Int) ≤ (0 : Int) := by first | assumption | omega | (exact hg _) | (exact hg _ (by omega)) | (simp_all; done)
    cases h2 : L25ma.run t n g 0 with
    | e0 h2d0 =>
      exact Ret.of_run1 mix [(AV.int IntKind.i64 (r25m.v0 t n g)), (AV.int IntKind.i64 (r25m.v1 t n g))] Try.func25 rfl [.ret (AV.int IntKind.i64 (r18m.v t)) (r25m.h0 t n g), .b false, .loop (others 40 [1, 2, 7]) (Exit.ret) (L25ma.X t n g (L25ma.O.e0 h2d0)) (L25ma.XH t n g (L25ma.O.e0 h2d0))] (by simp) (by simp) (kmp (by kernel_rfl) (And.intro (r18m (t) o0 (n) o1 o2 (g) (r25m.h0 t n g)) (And.intro (show (bnot (r18m.v t == 0)) = false by rw [h1]; try rfl) (And.intro (L25ma.e0 (t) o0 (n) o3 o2 (g) o4 o5 o6 (0) (And.intro (show (0 : Int) ≤ (0 : Int) by first | decide | exact Int.NonNeg.mk _) o7) h2d0 h2) (And.intro (show (AV.int IntKind.i64 h2d0) = ((AV.int IntKind.i64 (r25m.v0 t n g))) by first | (simp only [r25m.v0, r25m.v1, h1, h2, cond_true, cond_false]; done) | (try unfold r25m.v0; try unfold r25m.v1; try simp only [h1, cond_true, cond_false]; try simp only [h2, cond_true, cond_false]; try rfl; done) | rfl) (And.intro (show (AV.int IntKind.i64 0) = ((AV.int IntKind.i64 (r25m.v1 t n g))) by first | (simp only [r25m.v0, r25m.v1, h1, h2, cond_true, cond_false]; done) | (try unfold r25m.v0; try unfold r25m.v1; try simp only [h1, cond_true, cond_false]; try simp only [h2, cond_true, cond_false]; try rfl; done) | rfl) trivial)))))) h
    | e1 =>
      exact Ret.of_run1 mix [(AV.int IntKind.i64 (r25m.v0 t n g)), (AV.int IntKind.i64 (r25m.v1 t n g))] Try.func25 rfl [.ret (AV.int IntKind.i64 (r18m.v t)) (r25m.h0 t n g), .b false, .loop (others 40 [1, 2, 7]) (Exit.exit 0) (L25ma.X t n g L25ma.O.e1) (L25ma.XH t n g L25ma.O.e1)] (by simp) (by simp) (kmp (by kernel_rfl) (And.intro (r18m (t) o0 (n) o1 o2 (g) (r25m.h0 t n g)) (And.intro (show (bnot (r18m.v t == 0)) = false by rw [h1]; try rfl) (And.intro (L25ma.e1 (t) o0 (n) o3 o2 (g) o4 o5 o6 (0) (And.intro (show (0 : Int) ≤ (0 : Int) by first | decide | exact Int.NonNeg.mk _) o7) h2) (And.intro (show (AV.int IntKind.i64 0) = ((AV.int IntKind.i64 (r25m.v0 t n g))) by first | (simp only [r25m.v0, r25m.v1, h1, h2, cond_true, cond_false]; done) | (try unfold r25m.v0; try unfold r25m.v1; try simp only [h1, cond_true, cond_false]; try simp only [h2, cond_true, cond_false]; try rfl; done) | rfl) (And.intro (show (AV.int IntKind.i64 9) = ((AV.int IntKind.i64 (r25m.v1 t n g))) by first | (simp only [r25m.v0, r25m.v1, h1, h2, cond_true, cond_false]; done) | (try unfold r25m.v0; try unfold r25m.v1; try simp only [h1, cond_true, cond_false]; try simp only [h2, cond_true, cond_false]; try rfl; done) | rfl) trivial)))))) h
  | false =>
    have h1p := ne_of_beq_false h1
    exact Ret.of_run1 mix [(AV.int IntKind.i64 (r25m.v0 t n g)), (AV.int IntKind.i64 (r25m.v1 t n g))] Try.func25 rfl [.ret (AV.int IntKind.i64 (r18m.v t)) (r25m.h0 t n g), .b true] (by simp) (by simp) (kmp (by kernel_rfl) (And.intro (r18m (t) o0 (n) o1 o2 (g) (r25m.h0 t n g)) (And.intro (show (bnot (r18m.v t == 0)) = true by rw [h1]; try rfl) (And.intro (show (AV.int IntKind.i64 0) = ((AV.int IntKind.i64 (r25m.v0 t n g))) by first | (simp only [r25m.v0, r25m.v1, h1, cond_true, cond_false]; done) | (try unfold r25m.v0; try unfold r25m.v1; try simp only [h1, cond_true, cond_false]; try rfl; done) | rfl) (And.intro (show (AV.int IntKind.i64 (r18m.v t)) = ((AV.int IntKind.i64 (r25m.v1 t n g))) by first | (simp only [r25m.v0, r25m.v1, h1, cond_true, cond_false]; done) | (try unfold r25m.v0; try unfold r25m.v1; try simp only [h1, cond_true, cond_false]; try rfl; done) | rfl) trivial))))) h

end Go.Proofs.Ytngpbfocjgikaaa

open Go

namespace Go.Proofs.Ytngpbfocjgikaaa

set_option linter.unusedSimpArgs false

set_option linter.unusedVariables false

set_option maxHeartbeats 0

set_option maxRecDepth 100000

inductive L26a.O where
  | e0 (a0 : Int)
  | e1

noncomputable def L26a.T (t : TD) (n : Nat) (g : Nat → LD) (a6 : Int) : List AV := mkT 23 [(1, AV.sl 4 n fun (i : Nat) => AV.agg [AV.str (g i).nm, AV.int IntKind.i64 (g i).lo, AV.int IntKind.i64 (g i).ln, AV.int IntKind.i64 (g i).ms]), (2, AV.ptr 0 1 8 0 0), (6, AV.int IntKind.i64 a6)]

noncomputable def L26a.H (t : TD) (n : Nat) (g : Nat → LD) (a6 : Int) : AHeap := [AObj.var (AV.agg [AV.str t.nm, AV.int IntKind.i64 t.tl, AV.int IntKind.i64 t.fr, AV.int IntKind.i64 t.re, AV.int IntKind.i64 t.l0, AV.int IntKind.i64 t.l1, AV.int IntKind.i64 t.e0, AV.int IntKind.i64 t.e1])]

def L26a.inv (t : TD) (n : Nat) (g : Nat → LD) (a6 : Int) : Prop := 0 ≤ a6 ∧ (a6 ≤ (↑n : Int) + 1 ∨ a6 ≤ 0)

noncomputable def L26a.mu (t : TD) (n : Nat) (g : Nat → LD) (a6 : Int) : Nat := ((↑n : Int) + 1 - a6).toNat

noncomputable def L26a.E : L26a.O → Exit
  | .e0 a0 => Exit.ret
  | .e1 => Exit.exit 0

noncomputable def L26a.X (t : TD) (n : Nat) (g : Nat → LD) : L26a.O → List AV
  | .e0 a0 => mkT 23 [(4, (AV.int IntKind.i64 a0)), (5, (AV.bool true))]
  | .e1 => mkT 23 []

noncomputable def L26a.XH (t : TD) (n : Nat) (g : Nat → LD) : L26a.O → AHeap
  | .e0 a0 => ([AObj.var (AV.agg [AV.str t.nm, AV.int IntKind.i64 t.tl, AV.int IntKind.i64 t.fr, AV.int IntKind.i64 t.re, AV.int IntKind.i64 t.l0, AV.int IntKind.i64 t.l1, AV.int IntKind.i64 t.e0, AV.int IntKind.i64 t.e1])])
  | .e1 => ([AObj.var (AV.agg [AV.str t.nm, AV.int IntKind.i64 t.tl, AV.int IntKind.i64 t.fr, AV.int IntKind.i64 t.re, AV.int IntKind.i64 t.l0, AV.int IntKind.i64 t.l1, AV.int IntKind.i64 t.e0, AV.int IntKind.i64 t.e1])])

noncomputable def L26a.N (t : TD) (n : Nat) (g : Nat → LD) : Nat → Int → L26a.O
  | 0, a6 => .e0 a6
  | k_ + 1, a6 => (bif decide (a6 ≤ (↑n : Int)) then (bif r28.v t ((IntKind.i64.wrap ((↑n : Int) - a6)).toNat - 0) fun (i : Nat) => g (0 + i) then (L26a.N t n g k_ (IntKind.i64.wrap (a6 + 1))) else (.e0 (a6))) else (.e1))

noncomputable def L26a.run (t : TD) (n : Nat) (g : Nat → LD) (a6 : Int) : L26a.O := L26a.N t n g ((((↑n : Int) + 1 - a6).toNat) + 1) a6

theorem L26a.nx (t : TD) (n : Nat) (g : Nat → LD) {k_ : Nat} {z_ : Int} {h_ : AHeap} (s_ : Int) (h1 : L26a.inv t n g s_) (h2 : L26a.mu t n g s_ < L26a.mu t n g z_) (h3 : L26a.N t n g k_ s_ = L26a.N t n g (k_ + 1) z_) (h4 : PopOk (L26a.H t n g z_) h_ (L26a.T t n g s_) (L26a.H t n g s_)) : LNextP (fun (z_ : Int) => L26a.T t n g z_) (fun (z_ : Int) => L26a.H t n g z_) (fun (z_ : Int) => L26a.inv t n g z_) (fun (z_ : Int) => L26a.mu t n g z_) (fun (k_ : Nat) (z_ : Int) => L26a.N t n g k_ z_) k_ z_ (L26a.T t n g s_) h_ := LNextP.mk (Tm := (fun (z_ : Int) => L26a.T t n g z_)) (Hp := (fun (z_ : Int) => L26a.H t n g z_)) (inv := (fun (z_ : Int) => L26a.inv t n g z_)) (mu := (fun (z_ : Int) => L26a.mu t n g z_)) (l := (fun (k_ : Nat) (z_ : Int) => L26a.N t n g k_ z_)) s_ h1 h2 h3 h4

theorem L26a.en (t : TD) (n : Nat) (g : Nat → LD) {k_ : Nat} {z_ : Int} {h_ : AHeap} (o_ : L26a.O) (h3 : L26a.N t n g (k_ + 1) z_ = o_) (h4 : PopOk (L26a.H t n g z_) h_ (L26a.X t n g o_) (L26a.XH t n g o_)) : LEndP (fun (z_ : Int) => L26a.H t n g z_) (fun (k_ : Nat) (z_ : Int) => L26a.N t n g k_ z_) L26a.E (L26a.X t n g) (L26a.XH t n g) k_ z_ (L26a.E o_) (L26a.X t n g o_) h_ := LEndP.mk (Hp := (fun (z_ : Int) => L26a.H t n g z_)) (l := (fun (k_ : Nat) (z_ : Int) => L26a.N t n g k_ z_)) (oE := L26a.E) (oT := L26a.X t n g) (oH := L26a.XH t n g) o_ h3 h4

noncomputable abbrev L26a.h0 (t : TD) (n : Nat) (g : Nat → LD) (a6 : Int) : AHeap := ([AObj.var (AV.agg [AV.str t.nm, AV.int IntKind.i64 t.tl, AV.int IntKind.i64 t.fr, AV.int IntKind.i64 t.re, AV.int IntKind.i64 t.l0, AV.int IntKind.i64 t.l1, AV.int IntKind.i64 t.e0, AV.int IntKind.i64 t.e1])])

theorem L26a.spec (t : TD) (ht : TOk t) (n : Nat) (hn : n ≤ 70) (g : Nat → LD) (k_ : Nat) (z_ : Int) (hi_ : L26a.inv t n g z_) (hm_ : L26a.mu t n g z_ < k_) : LoopTo Try.prog (loopN Try.f26 0) (L26a.T t n g z_) (L26a.H t n g z_) (L26a.E (L26a.N t n g k_ z_)) (L26a.X t n g (L26a.N t n g k_ z_)) (L26a.XH t n g (L26a.N t n g k_ z_)) := by
  refine LoopTo.fuelP mix (fun (z_ : Int) => L26a.T t n g z_) (fun (z_ : Int) => L26a.H t n g z_) (fun (z_ : Int) => L26a.inv t n g z_) (fun (z_ : Int) => L26a.mu t n g z_) (fun (k_ : Nat) (z_ : Int) => L26a.N t n g k_ z_) L26a.E (L26a.X t n g) (L26a.XH t n g) (others 23 [1, 2, 6]) (others 23 [4, 5]) (others 23 []) ?_ k_ z_ hi_ hm_
  clear hm_ hi_ z_ k_
  intro k_ z_ hinv hmu
  revert hinv hmu; revert z_; intro a6 hinv hmu
  have hinv : 0 ≤ a6 ∧ (a6 ≤ (↑n : Int) + 1 ∨ a6 ≤ 0) := hinv
  have hmu : (((↑n : Int) + 1 - a6).toNat) < k_ + 1 := hmu
  cases h1 : decide (a6 ≤ (↑n : Int)) with
  | true =>
    have h1p := of_decide_eq_true h1
    try have := IntWalk.i64_in ((↑n : Int) - a6) (by omega)
    have o0 : (0 : Int) ≤ IntKind.i64.wrap ((↑n : Int) - a6) := by first | assumption | omega | (simp_all; done)
    have o1 : IntKind.i64.wrap ((↑n : Int) - a6) ≤ (↑n : Int) := by first | assumption | omega | (simp_all; done)
    have o2 : TOk t := by first | assumption | (simp_all; done)
    have o3 : (IntKind.i64.wrap ((↑n : Int) - a6)).toNat - (0 : Nat) ≤ (9223372036854775807 : Nat) := by first | assumption | omega | (simp_all; done)
    cases h2 : r28.v t ((IntKind.i64.wrap ((↑n : Int) - a6)).toNat - 0) fun (i : Nat) => g (0 + i) with
    | true =>
      try have := IntWalk.i64_in (a6 + 1) (by omega)
      have o4 : (0 : Int) ≤ IntKind.i64.wrap (a6 + (1 : Int)) := by first | assumption | omega | (simp_all; done)
      have o5 : IntKind.i64.wrap (a6 + (1 : Int)) ≤ (↑n : Int) + (1 : Int) ∨ IntKind.i64.wrap (a6 + (1 : Int)) ≤ (0 : Int) := by first | assumption | omega | (simp_all; done)
      have o6 : ((↑n : Int) + (1 : Int) - IntKind.i64.wrap (a6 + (1 : Int))).toNat < ((↑n : Int) + (1 : Int) - a6).toNat := by first | assumption | omega | (simp_all; done)
      exact ⟨[.b true, .ret (AV.bool (r28.v t ((IntKind.i64.wrap ((↑n : Int) - a6)).toNat - 0) fun (i : Nat) => g (0 + i))) (L26a.h0 t n g a6), .b false], kmp (by kernel_rfl) (And.intro h1 (And.intro (And.intro o0 o1) (And.intro (r28 (t) o2 ((IntKind.i64.wrap ((↑n : Int) - a6)).toNat - 0) o3 (fun (i : Nat) => g (0 + i)) (L26a.h0 t n g a6)) (And.intro (show (bnot (r28.v t ((IntKind.i64.wrap ((↑n : Int) - a6)).toNat - 0) fun (i : Nat) => g (0 + i))) = false by rw [h2]; try rfl) (L26a.nx t n g (k_ := k_) (z_ := a6) (IntKind.i64.wrap (a6 + 1)) (And.intro o4 o5) o6 (by first | (simp only [L26a.N, h1, h2, cond_true, cond_false]; done) | (try unfold L26a.N; try simp only [h1, cond_true, cond_false]; try simp only [h2, cond_true, cond_false]; try rfl; done)) PopOk.same)))))⟩
    | false =>
      exact ⟨[.b true, .ret (AV.bool (r28.v t ((IntKind.i64.wrap ((↑n : Int) - a6)).toNat - 0) fun (i : Nat) => g (0 + i))) (L26a.h0 t n g a6), .b true], kmp (by kernel_rfl) (And.intro h1 (And.intro (And.intro o0 o1) (And.intro (r28 (t) o2 ((IntKind.i64.wrap ((↑n : Int) - a6)).toNat - 0) o3 (fun (i : Nat) => g (0 + i)) (L26a.h0 t n g a6)) (And.intro (show (bnot (r28.v t ((IntKind.i64.wrap ((↑n : Int) - a6)).toNat - 0) fun (i : Nat) => g (0 + i))) = true by rw [h2]; try rfl) (L26a.en t n g (k_ := k_) (z_ := a6) (.e0 (a6) : L26a.O) (by first | (simp only [L26a.N, h1, h2, cond_true, cond_false]; done) | (try unfold L26a.N; try simp only [h1, cond_true, cond_false]; try simp only [h2, cond_true, cond_false]; try rfl; done)) PopOk.same)))))⟩
  | false =>
    have h1p := of_decide_eq_false h1
    exact ⟨[.b false], kmp (by kernel_rfl) (And.intro h1 (L26a.en t n g (k_ := k_) (z_ := a6) (.e1 : L26a.O) (by first | (simp only [L26a.N, h1, cond_true, cond_false]; done) | (try unfold L26a.N; try simp only [h1, cond_true, cond_false]; try rfl; done)) PopOk.same))⟩

theorem L26a.e0 (t : TD) (ht : TOk t) (n : Nat) (hn : n ≤ 70) (g : Nat → LD) (a6 : Int) (hinv : L26a.inv t n g a6) (a0 : Int) (hN : L26a.run t n g a6 = (.e0 a0 : L26a.O)) : LoopTo Try.prog (loopN Try.f26 0) (L26a.T t n g a6) (L26a.H t n g a6) (Exit.ret) (L26a.X t n g (.e0 a0 : L26a.O)) (L26a.XH t n g (.e0 a0 : L26a.O)) := by
  have h_ := L26a.spec t ht n hn g ((((↑n : Int) + 1 - a6).toNat) + 1) a6 hinv (Nat.lt_succ_self _)
  unfold L26a.run at hN
  simp only [hN] at h_
  exact h_

theorem L26a.e1 (t : TD) (ht : TOk t) (n : Nat) (hn : n ≤ 70) (g : Nat → LD) (a6 : Int) (hinv : L26a.inv t n g a6) (hN : L26a.run t n g a6 = (.e1 : L26a.O)) : LoopTo Try.prog (loopN Try.f26 0) (L26a.T t n g a6) (L26a.H t n g a6) (Exit.exit 0) (L26a.X t n g (.e1 : L26a.O)) (L26a.XH t n g (.e1 : L26a.O)) := by
  have h_ := L26a.spec t ht n hn g ((((↑n : Int) + 1 - a6).toNat) + 1) a6 hinv (Nat.lt_succ_self _)
  unfold L26a.run at hN
  simp only [hN] at h_
  exact h_

noncomputable def r26.v0 (t : TD) (n : Nat) (g : Nat → LD) : Int := (match L26a.run t n g 0 with | .e0 h1d0 => h1d0 | .e1 => 0 )

noncomputable def r26.v1 (t : TD) (n : Nat) (g : Nat → LD) : Bool := (match L26a.run t n g 0 with | .e0 h1d0 => true | .e1 => false )

theorem r26 (t : TD) (ht : TOk t) (n : Nat) (hn : n ≤ 70) (g : Nat → LD) (h : AHeap) : Ret Try.prog 26 ([t.av, lds n g]) h (AV.tup [(AV.int IntKind.i64 (r26.v0 t n g)), (AV.bool (r26.v1 t n g))]) h := by
  have o0 : TOk t := by first | assumption | (simp_all; done)
  have o1 : n ≤ (70 : Nat) := by first | assumption | omega | (simp_all; done)
  have o2 : (0 : Int) ≤ (↑n : Int) + (1 : Int) ∨ (0 : Int) ≤ (0 : Int) := by first | assumption | omega | (simp_all; done)
  cases h1 : L26a.run t n g 0 with
  | e0 h1d0 =>
    exact Ret.of_run1 mix [(AV.int IntKind.i64 (r26.v0 t n g)), (AV.bool (r26.v1 t n g))] Try.func26 rfl [.loop (others 23 [1, 2, 6]) (Exit.ret) (L26a.X t n g (L26a.O.e0 h1d0)) (L26a.XH t n g (L26a.O.e0 h1d0))] (by simp) (by simp) (kmp (by kernel_rfl) (And.intro (L26a.e0 (t) o0 (n) o1 (g) (0) (And.intro (show (0 : Int) ≤ (0 : Int) by first | decide | exact Int.NonNeg.mk _) o2) h1d0 h1) (And.intro (show (AV.int IntKind.i64 h1d0) = ((AV.int IntKind.i64 (r26.v0 t n g))) by first | (unfold r26.v0; rw [h1]; done) | (unfold r26.v1; rw [h1]; done) | (try unfold r26.v0; try unfold r26.v1; try simp only [h1, cond_true, cond_false]; try rfl; done) | rfl) (And.intro (show (AV.bool true) = ((AV.bool (r26.v1 t n g))) by first | (unfold r26.v0; rw [h1]; done) | (unfold r26.v1; rw [h1]; done) | (try unfold r26.v0; try unfold r26.v1; try simp only [h1, cond_true, cond_false]; try rfl; done) | rfl) trivial)))) h
  | e1 =>
    exact Ret.of_run1 mix [(AV.int IntKind.i64 (r26.v0 t n g)), (AV.bool (r26.v1 t n g))] Try.func26 rfl [.loop (others 23 [1, 2, 6]) (Exit.exit 0) (L26a.X t n g L26a.O.e1) (L26a.XH t n g L26a.O.e1)] (by simp) (by simp) (kmp (by kernel_rfl) (And.intro (L26a.e1 (t) o0 (n) o1 (g) (0) (And.intro (show (0 : Int) ≤ (0 : Int) by first | decide | exact Int.NonNeg.mk _) o2) h1) (And.intro (show (AV.int IntKind.i64 0) = ((AV.int IntKind.i64 (r26.v0 t n g))) by first | (unfold r26.v0; rw [h1]; done) | (unfold r26.v1; rw [h1]; done) | (try unfold r26.v0; try unfold r26.v1; try simp only [h1, cond_true, cond_false]; try rfl; done) | rfl) (And.intro (show (AV.bool false) = ((AV.bool (r26.v1 t n g))) by first | (unfold r26.v0; rw [h1]; done) | (unfold r26.v1; rw [h1]; done) | (try unfold r26.v0; try unfold r26.v1; try simp only [h1, cond_true, cond_false]; try rfl; done) | rfl) trivial)))) h

end Go.Proofs.Ytngpbfocjgikaaa

open Go

namespace Go.Proofs.Ytngpbfocjgikaaa

set_option linter.unusedSimpArgs false

set_option linter.unusedVariables false

set_option maxHeartbeats 0

set_option maxRecDepth 100000

theorem tok17 {t : TD} (h : r17.v t = 0) : TOk t := by
  unfold r17.v at h
  have st : ∀ {b : Bool} {x y : Int}, (bif b then x else y) = 0 → y ≠ 0 → b = true ∧ x = 0 := by
    intro b x y h hy; cases b
    · exact absurd h hy
    · exact ⟨rfl, h⟩
  obtain ⟨_, h⟩ := st h (by decide)
  obtain ⟨h1, h⟩ := st h (by decide)
  obtain ⟨h2, h⟩ := st h (by decide)
  obtain ⟨h3, h⟩ := st h (by decide)
  obtain ⟨h4, h⟩ := st h (by decide)
  obtain ⟨h5, h⟩ := st h (by decide)
  obtain ⟨h6, h⟩ := st h (by decide)
  obtain ⟨h7, h⟩ := st h (by decide)
  refine ⟨bd_in h1, bd_in h2, bd_in h3, bd_in h4, bd_in h5, bd_in h6, bd_in h7, ?_⟩
  by_cases q : t.fr ≥ t.re
  · rw [decide_eq_true q, cond_true] at h; cases h
  · omega

theorem tok19 {t : TD} {n : Nat} {g : Nat → LD} (h : r19.v t n g = 0) : TOk t := by
  unfold r19.v at h
  by_cases q : r17.v t = 0
  · exact tok17 q
  · rw [show (r17.v t == 0) = false by simpa using q, cond_false] at h; exact absurd h q

noncomputable def r7ai.v (t : TD) (n : Nat) (g : Nat → LD) : Bool := r25.v0 t n g == r26.v0 t n g

noncomputable abbrev r7ai.h0 (t : TD) (n : Nat) (g : Nat → LD) : AHeap := ([AObj.var (AV.agg [AV.str t.nm, AV.int IntKind.i64 t.tl, AV.int IntKind.i64 t.fr, AV.int IntKind.i64 t.re, AV.int IntKind.i64 t.l0, AV.int IntKind.i64 t.l1, AV.int IntKind.i64 t.e0, AV.int IntKind.i64 t.e1])])

noncomputable abbrev r7ai.h1 (t : TD) (n : Nat) (g : Nat → LD) : AHeap := ([AObj.var (AV.agg [AV.str t.nm, AV.int IntKind.i64 t.tl, AV.int IntKind.i64 t.fr, AV.int IntKind.i64 t.re, AV.int IntKind.i64 t.l0, AV.int IntKind.i64 t.l1, AV.int IntKind.i64 t.e0, AV.int IntKind.i64 t.e1]), AObj.var (AV.agg [AV.int IntKind.i64 (r24.v0 t n g), AV.int IntKind.i64 (r24.v1 t n g), AV.int IntKind.i64 (r24.v2 t n g), AV.int IntKind.i64 (r24.v3 t n g)])])

theorem r7ai (ha : r10.v = true) (t : TD) (hnm : t.nm.size ≤ 9223372036854775807) (n : Nat) (hn : n ≤ 12) (g : Nat → LD) (hg : ∀ (i : Nat), (g i).nm.size ≤ 9223372036854775807) (hf : r11.v t n g = true) (h0 : (r19.v t n g == 0) = true) (h0p : r19.v t n g = 0) (q4 : (r24.v4 t n g == 0) = true) (q0 : (r24.v0 t n g == r27.v0 t n g) = true) (q1 : (r24.v1 t n g == r27.v1 t n g) = true) (q2 : (r24.v2 t n g == r27.v2 t n g) = true) (q3 : (r24.v3 t n g == r27.v3 t n g) = true) (q5 : (r13.v1 t n g == 0) = true) (q6 : (r13.v0 t n g == r28.v t n g) = true) (q7 : (r25.v0 t n g == r26.v0 t n g) = true) (hi : r26.v1 t n g = true) (q8 : (r25.v1 t n g == 0) = true) (h : AHeap) : Ret Try.prog 7 ([t.av, lds n g]) h (AV.bool (r7ai.v t n g)) h := by
  have o0 : n ≤ (9223372036854775807 : Nat) := by first | assumption | omega | (exact hg _) | (exact hg _ (by omega)) | (simp_all; done)
  have o1 : t.nm.size ≤ (9223372036854775807 : Nat) := by first | assumption | omega | (exact hg _) | (exact hg _ (by omega)) | (simp_all; done)
  have o2 : n ≤ (12 : Nat) := by first | assumption | omega | (exact hg _) | (exact hg _ (by omega)) | (simp_all; done)
  have o3 : ∀ (i : Nat), (g i).nm.size ≤ (9223372036854775807 : Nat) := by first | assumption | omega | (exact hg _) | (exact hg _ (by omega)) | (simp_all; done)
  have o4 : TOk t := by first | assumption | (apply tok19 <;> first | assumption | omega) | (exact hg _) | (exact hg _ (by omega)) | (simp_all; done)
  have o5 : n ≤ (70 : Nat) := by first | assumption | omega | (exact hg _) | (exact hg _ (by omega)) | (simp_all; done)
  exact Ret.of_run1 mix [(AV.bool (r7ai.v t n g))] Try.func7 rfl [.ret (AV.bool r10.v) (r7ai.h0 t n g), .b false, .ret (AV.bool (r11.v t n g)) (r7ai.h0 t n g), .b false, .ret (AV.tup [AV.agg [AV.int IntKind.i64 (r24.v0 t n g), AV.int IntKind.i64 (r24.v1 t n g), AV.int IntKind.i64 (r24.v2 t n g), AV.int IntKind.i64 (r24.v3 t n g)], AV.int IntKind.i64 (r24.v4 t n g)]) (r7ai.h0 t n g), .ret (AV.tup [AV.bool (r13.v0 t n g), AV.int IntKind.i64 (r13.v1 t n g)]) (r7ai.h1 t n g), .ret (AV.tup [AV.int IntKind.i64 (r25.v0 t n g), AV.int IntKind.i64 (r25.v1 t n g)]) (r7ai.h1 t n g), .ret (AV.int IntKind.i64 (r19.v t n g)) (r7ai.h1 t n g), .b false, .ret (AV.tup [AV.int IntKind.i64 (r26.v0 t n g), AV.bool (r26.v1 t n g)]) (r7ai.h1 t n g), .b true, .b true, .b true, .b false, .b false, .b false, .b false, .b false, .b false, .b false, .b false, .b false, .b true, .b true, .b true, .b true, .ret (AV.agg [AV.int IntKind.i64 (r27.v0 t n g), AV.int IntKind.i64 (r27.v1 t n g), AV.int IntKind.i64 (r27.v2 t n g), AV.int IntKind.i64 (r27.v3 t n g)]) (r7ai.h1 t n g), .b true, .b true, .b true, .b true, .b true, .b true, .b true, .b true, .b true, .ret (AV.bool (r28.v t n g)) (r7ai.h1 t n g), .b true, .b true, .b true, .b true, .b true, .b true] (by simp) (by simp) (kmp (by kernel_rfl) (And.intro (r10 (r7ai.h0 t n g)) (And.intro (rfl : false = false) (And.intro (r11 (t) (n) (g) o0 (r7ai.h0 t n g)) (And.intro (show (bnot (r11.v t n g)) = false by rw [hf]; try rfl) (And.intro (r24 (t) o1 (n) o2 (g) o3 (r7ai.h0 t n g)) (And.intro (r13 (t) o1 (n) o2 (g) o3 (r7ai.h1 t n g)) (And.intro (r25 (t) o1 (n) o2 (g) o3 (r7ai.h1 t n g)) (And.intro (r19 (t) o1 (n) o0 (g) o3 (r7ai.h1 t n g)) (And.intro (show (bnot (r19.v t n g == 0)) = false by rw [h0]; try rfl) (And.intro (r26 (t) o4 (n) o5 (g) (r7ai.h1 t n g)) (And.intro hi (And.intro hi (And.intro hi (And.intro (show (bnot (r25.v1 t n g == 0)) = false by rw [q8]; try rfl) (And.intro (show (bnot (r25.v1 t n g == 0)) = false by rw [q8]; try rfl) (And.intro (show (bnot (r25.v1 t n g == 0)) = false by rw [q8]; try rfl) (And.intro (show (bnot (r26.v1 t n g)) = false by rw [hi]; try rfl) (And.intro (show (bnot (r26.v1 t n g)) = false by rw [hi]; try rfl) (And.intro (show (bnot (r25.v1 t n g == 0)) = false by rw [q8]; try rfl) (And.intro (show (bnot (r26.v1 t n g)) = false by rw [hi]; try rfl) (And.intro (show (bnot (r25.v1 t n g == 0)) = false by rw [q8]; try rfl) (And.intro (rfl : false = false) (And.intro q4 (And.intro q4 (And.intro q4 (And.intro q4 (And.intro (r27 (t) (n) o0 (g) (r7ai.h1 t n g)) (And.intro q4 (And.intro q4 (And.intro (show (r24.v0 t n g == r27.v0 t n g && (r24.v1 t n g == r27.v1 t n g && true) && (r24.v2 t n g == r27.v2 t n g && (r24.v3 t n g == r27.v3 t n g && true) && true)) = true by rw [q0, q1, q2, q3]; try rfl) (And.intro (show (r24.v0 t n g == r27.v0 t n g && (r24.v1 t n g == r27.v1 t n g && true) && (r24.v2 t n g == r27.v2 t n g && (r24.v3 t n g == r27.v3 t n g && true) && true)) = true by rw [q0, q1, q2, q3]; try rfl) (And.intro (show (r24.v0 t n g == r27.v0 t n g && (r24.v1 t n g == r27.v1 t n g && true) && (r24.v2 t n g == r27.v2 t n g && (r24.v3 t n g == r27.v3 t n g && true) && true)) = true by rw [q0, q1, q2, q3]; try rfl) (And.intro q5 (And.intro q5 (And.intro q5 (And.intro q5 (And.intro (r28 (t) o4 (n) o0 (g) (r7ai.h1 t n g)) (And.intro q5 (And.intro q5 (And.intro q6 (And.intro q6 (And.intro q6 (And.intro q6 (And.intro (show (AV.bool (r25.v0 t n g == r26.v0 t n g)) = ((AV.bool (r7ai.v t n g))) by first | (simp only [r7ai.v, hf, h0, q8, hi, q0, q1, q2, q3, cond_true, cond_false]; done) | (try unfold r7ai.v; try simp only [hf, cond_true, cond_false]; try simp only [h0, cond_true, cond_false]; try simp only [q8, cond_true, cond_false]; try simp only [hi, cond_true, cond_false]; try simp only [q0, cond_true, cond_false]; try simp only [q1, cond_true, cond_false]; try simp only [q2, cond_true, cond_false]; try simp only [q3, cond_true, cond_false]; try rfl; done) | rfl) trivial))))))))))))))))))))))))))))))))))))))))))))) h

noncomputable def r7an.v (t : TD) (n : Nat) (g : Nat → LD) : Bool := r25.v0 t n g == r26.v0 t n g

noncomputable abbrev r7an.h0 (t : TD) (n : Nat) (g : Nat → LD) : AHeap := ([AObj.var (AV.agg [AV.str t.nm, AV.int IntKind.i64 t.tl, AV.int IntKind.i64 t.fr, AV.int IntKind.i64 t.re, AV.int IntKind.i64 t.l0, AV.int IntKind.i64 t.l1, AV.int IntKind.i64 t.e0, AV.int IntKind.i64 t.e1])])

noncomputable abbrev r7an.h1 (t : TD) (n : Nat) (g : Nat → LD) : AHeap := ([AObj.var (AV.agg [AV.str t.nm, AV.int IntKind.i64 t.tl, AV.int IntKind.i64 t.fr, AV.int IntKind.i64 t.re, AV.int IntKind.i64 t.l0, AV.int IntKind.i64 t.l1, AV.int IntKind.i64 t.e0, AV.int IntKind.i64 t.e1]), AObj.var (AV.agg [AV.int IntKind.i64 (r24.v0 t n g), AV.int IntKind.i64 (r24.v1 t n g), AV.int IntKind.i64 (r24.v2 t n g), AV.int IntKind.i64 (r24.v3 t n g)])])

theorem r7an (ha : r10.v = true) (t : TD) (hnm : t.nm.size ≤ 9223372036854775807) (n : Nat) (hn : n ≤ 12) (g : Nat → LD) (hg : ∀ (i : Nat), (g i).nm.size ≤ 9223372036854775807) (hf : r11.v t n g = true) (h0 : (r19.v t n g == 0) = true) (h0p : r19.v t n g = 0) (q4 : (r24.v4 t n g == 0) = true) (q0 : (r24.v0 t n g == r27.v0 t n g) = true) (q1 : (r24.v1 t n g == r27.v1 t n g) = true) (q2 : (r24.v2 t n g == r27.v2 t n g) = true) (q3 : (r24.v3 t n g == r27.v3 t n g) = true) (q5 : (r13.v1 t n g == 0) = true) (q6 : (r13.v0 t n g == r28.v t n g) = true) (q7 : (r25.v0 t n g == r26.v0 t n g) = true) (hi : r26.v1 t n g = false) (q9 : (r25.v1 t n g == 0) = false) (q8 : (r25.v1 t n g == 9) = true) (h : AHeap) : Ret Try.prog 7 ([t.av, lds n g]) h (AV.bool (r7an.v t n g)) h := by
  have o0 : n ≤ (9223372036854775807 : Nat) := by first | assumption | omega | (exact hg _) | (exact hg _ (by omega)) | (simp_all; done)
  have o1 : t.nm.size ≤ (9223372036854775807 : Nat) := by first | assumption | omega | (exact hg _) | (exact hg _ (by omega)) | (simp_all; done)
  have o2 : n ≤ (12 : Nat) := by first | assumption | omega | (exact hg _) | (exact hg _ (by omega)) | (simp_all; done)
  have o3 : ∀ (i : Nat), (g i).nm.size ≤ (9223372036854775807 : Nat) := by first | assumption | omega | (exact hg _) | (exact hg _ (by omega)) | (simp_all; done)
  have o4 : TOk t := by first | assumption | (apply tok19 <;> first | assumption | omega) | (exact hg _) | (exact hg _ (by omega)) | (simp_all; done)
  have o5 : n ≤ (70 : Nat) := by first | assumption | omega | (exact hg _) | (exact hg _ (by omega)) | (simp_all; done)
  exact Ret.of_run1 mix [(AV.bool (r7an.v t n g))] Try.func7 rfl [.ret (AV.bool r10.v) (r7an.h0 t n g), .b false, .ret (AV.bool (r11.v t n g)) (r7an.h0 t n g), .b false, .ret (AV.tup [AV.agg [AV.int IntKind.i64 (r24.v0 t n g), AV.int IntKind.i64 (r24.v1 t n g), AV.int IntKind.i64 (r24.v2 t n g), AV.int IntKind.i64 (r24.v3 t n g)], AV.int IntKind.i64 (r24.v4 t n g)]) (r7an.h0 t n g), .ret (AV.tup [AV.bool (r13.v0 t n g), AV.int IntKind.i64 (r13.v1 t n g)]) (r7an.h1 t n g), .ret (AV.tup [AV.int IntKind.i64 (r25.v0 t n g), AV.int IntKind.i64 (r25.v1 t n g)]) (r7an.h1 t n g), .ret (AV.int IntKind.i64 (r19.v t n g)) (r7an.h1 t n g), .b false, .ret (AV.tup [AV.int IntKind.i64 (r26.v0 t n g), AV.bool (r26.v1 t n g)]) (r7an.h1 t n g), .b false, .b false, .b false, .b false, .b false, .b false, .b true, .b true, .b false, .b true, .b false, .b false, .b true, .b true, .b true, .b true, .ret (AV.agg [AV.int IntKind.i64 (r27.v0 t n g), AV.int IntKind.i64 (r27.v1 t n g), AV.int IntKind.i64 (r27.v2 t n g), AV.int IntKind.i64 (r27.v3 t n g)]) (r7an.h1 t n g), .b true, .b true, .b true, .b true, .b true, .b true, .b true, .b true, .b true, .ret (AV.bool (r28.v t n g)) (r7an.h1 t n g), .b true, .b true, .b true, .b true, .b true, .b true] (by simp) (by simp) (kmp (by kernel_rfl) (And.intro (r10 (r7an.h0 t n g)) (And.intro (rfl : false = false) (And.intro (r11 (t) (n) (g) o0 (r7an.h0 t n g)) (And.intro (show (bnot (r11.v t n g)) = false by rw [hf]; try rfl) (And.intro (r24 (t) o1 (n) o2 (g) o3 (r7an.h0 t n g)) (And.intro (r13 (t) o1 (n) o2 (g) o3 (r7an.h1 t n g)) (And.intro (r25 (t) o1 (n) o2 (g) o3 (r7an.h1 t n g)) (And.intro (r19 (t) o1 (n) o0 (g) o3 (r7an.h1 t n g)) (And.intro (show (bnot (r19.v t n g == 0)) = false by rw [h0]; try rfl) (And.intro (r26 (t) o4 (n) o5 (g) (r7an.h1 t n g)) (And.intro hi (And.intro hi (And.intro hi (And.intro (rfl : false = false) (And.intro (rfl : false = false) (And.intro (rfl : false = false) (And.intro (show (bnot (r26.v1 t n g)) = true by rw [hi]; try rfl) (And.intro (show (bnot (r26.v1 t n g)) = true by rw [hi]; try rfl) (And.intro (rfl : false = false) (And.intro (show (bnot (r26.v1 t n g)) = true by rw [hi]; try rfl) (And.intro (rfl : false = false) (And.intro (show (bnot (r25.v1 t n g == 9)) = false by rw [q8]; try rfl) (And.intro q4 (And.intro q4 (And.intro q4 (And.intro q4 (And.intro (r27 (t) (n) o0 (g) (r7an.h1 t n g)) (And.intro q4 (And.intro q4 (And.intro (show (r24.v0 t n g == r27.v0 t n g && (r24.v1 t n g == r27.v1 t n g && true) && (r24.v2 t n g == r27.v2 t n g && (r24.v3 t n g == r27.v3 t n g && true) && true)) = true by rw [q0, q1, q2, q3]; try rfl) (And.intro (show (r24.v0 t n g == r27.v0 t n g && (r24.v1 t n g == r27.v1 t n g && true) && (r24.v2 t n g == r27.v2 t n g && (r24.v3 t n g == r27.v3 t n g && true) && true)) = true by rw [q0, q1, q2, q3]; try rfl) (And.intro (show (r24.v0 t n g == r27.v0 t n g && (r24.v1 t n g == r27.v1 t n g && true) && (r24.v2 t n g == r27.v2 t n g && (r24.v3 t n g == r27.v3 t n g && true) && true)) = true by rw [q0, q1, q2, q3]; try rfl) (And.intro q5 (And.intro q5 (And.intro q5 (And.intro q5 (And.intro (r28 (t) o4 (n) o0 (g) (r7an.h1 t n g)) (And.intro q5 (And.intro q5 (And.intro q6 (And.intro q6 (And.intro q6 (And.intro q6 (And.intro (show (AV.bool (r25.v0 t n g == r26.v0 t n g)) = ((AV.bool (r7an.v t n g))) by first | (simp only [r7an.v, hf, h0, hi, q8, q0, q1, q2, q3, cond_true, cond_false]; done) | (try unfold r7an.v; try simp only [hf, cond_true, cond_false]; try simp only [h0, cond_true, cond_false]; try simp only [hi, cond_true, cond_false]; try simp only [q8, cond_true, cond_false]; try simp only [q0, cond_true, cond_false]; try simp only [q1, cond_true, cond_false]; try simp only [q2, cond_true, cond_false]; try simp only [q3, cond_true, cond_false]; try rfl; done) | rfl) trivial))))))))))))))))))))))))))))))))))))))))))))) h

noncomputable def r7ae.v (t : TD) (n : Nat) (g : Nat → LD) : Bool := r25.v0 t n g == 0

noncomputable abbrev r7ae.h0 (t : TD) (n : Nat) (g : Nat → LD) : AHeap := ([AObj.var (AV.agg [AV.str t.nm, AV.int IntKind.i64 t.tl, AV.int IntKind.i64 t.fr, AV.int IntKind.i64 t.re, AV.int IntKind.i64 t.l0, AV.int IntKind.i64 t.l1, AV.int IntKind.i64 t.e0, AV.int IntKind.i64 t.e1])])

noncomputable abbrev r7ae.h1 (t : TD) (n : Nat) (g : Nat → LD) : AHeap := ([AObj.var (AV.agg [AV.str t.nm, AV.int IntKind.i64 t.tl, AV.int IntKind.i64 t.fr, AV.int IntKind.i64 t.re, AV.int IntKind.i64 t.l0, AV.int IntKind.i64 t.l1, AV.int IntKind.i64 t.e0, AV.int IntKind.i64 t.e1]), AObj.var (AV.agg [AV.int IntKind.i64 (r24.v0 t n g), AV.int IntKind.i64 (r24.v1 t n g), AV.int IntKind.i64 (r24.v2 t n g), AV.int IntKind.i64 (r24.v3 t n g)])])

theorem r7ae (ha : r10.v = true) (t : TD) (hnm : t.nm.size ≤ 9223372036854775807) (n : Nat) (hn : n ≤ 12) (g : Nat → LD) (hg : ∀ (i : Nat), (g i).nm.size ≤ 9223372036854775807) (hf : r11.v t n g = true) (h0 : (r19.v t n g == 0) = false) (q4 : (r24.v4 t n g == r19.v t n g) = true) (q5 : (r13.v1 t n g == r19.v t n g) = true) (q6 : (r25.v1 t n g == r19.v t n g) = true) (q10 : (r24.v0 t n g == 0) = true) (q11 : (r24.v1 t n g == 0) = true) (q12 : (r24.v2 t n g == 0) = true) (q13 : (r24.v3 t n g == 0) = true) (q7 : r13.v0 t n g = false) (q8 : (r25.v0 t n g == 0) = true) (h : AHeap) : Ret Try.prog 7 ([t.av, lds n g]) h (AV.bool (r7ae.v t n g)) h := by
  have o0 : n ≤ (9223372036854775807 : Nat) := by first | assumption | omega | (exact hg _) | (exact hg _ (by omega)) | (simp_all; done)
  have o1 : t.nm.size ≤ (9223372036854775807 : Nat) := by first | assumption | omega | (exact hg _) | (exact hg _ (by omega)) | (simp_all; done)
  have o2 : n ≤ (12 : Nat) := by first | assumption | omega | (exact hg _) | (exact hg _ (by omega)) | (simp_all; done)
  have o3 : ∀ (i : Nat), (g i).nm.size ≤ (9223372036854775807 : Nat) := by first | assumption | omega | (exact hg _) | (exact hg _ (by omega)) | (simp_all; done)
  exact Ret.of_run1 mix [(AV.bool (r7ae.v t n g))] Try.func7 rfl [.ret (AV.bool r10.v) (r7ae.h0 t n g), .b false, .ret (AV.bool (r11.v t n g)) (r7ae.h0 t n g), .b false, .ret (AV.tup [AV.agg [AV.int IntKind.i64 (r24.v0 t n g), AV.int IntKind.i64 (r24.v1 t n g), AV.int IntKind.i64 (r24.v2 t n g), AV.int IntKind.i64 (r24.v3 t n g)], AV.int IntKind.i64 (r24.v4 t n g)]) (r7ae.h0 t n g), .ret (AV.tup [AV.bool (r13.v0 t n g), AV.int IntKind.i64 (r13.v1 t n g)]) (r7ae.h1 t n g), .ret (AV.tup [AV.int IntKind.i64 (r25.v0 t n g), AV.int IntKind.i64 (r25.v1 t n g)]) (r7ae.h1 t n g), .ret (AV.int IntKind.i64 (r19.v t n g)) (r7ae.h1 t n g), .b true, .b true, .b true, .b true, .b true, .b true, .b true, .b true, .b true, .b true, .b true, .b true, .b true, .b true, .b true, .b true, .b true, .b true, .b true] (by simp) (by simp) (kmp (by kernel_rfl) (And.intro (r10 (r7ae.h0 t n g)) (And.intro (rfl : false = false) (And.intro (r11 (t) (n) (g) o0 (r7ae.h0 t n g)) (And.intro (show (bnot (r11.v t n g)) = false by rw [hf]; try rfl) (And.intro (r24 (t) o1 (n) o2 (g) o3 (r7ae.h0 t n g)) (And.intro (r13 (t) o1 (n) o2 (g) o3 (r7ae.h1 t n g)) (And.intro (r25 (t) o1 (n) o2 (g) o3 (r7ae.h1 t n g)) (And.intro (r19 (t) o1 (n) o0 (g) o3 (r7ae.h1 t n g)) (And.intro (show (bnot (r19.v t n g == 0)) = true by rw [h0]; try rfl) (And.intro q4 (And.intro q4 (And.intro q4 (And.intro q4 (And.intro q5 (And.intro q5 (And.intro q5 (And.intro q5 (And.intro q6 (And.intro q6 (And.intro q6 (And.intro q6 (And.intro (show (r24.v0 t n g == 0 && (r24.v1 t n g == 0 && true) && (r24.v2 t n g == 0 && (r24.v3 t n g == 0 && true) && true)) = true by rw [q10, q11, q12, q13]; try rfl) (And.intro (show (r24.v0 t n g == 0 && (r24.v1 t n g == 0 && true) && (r24.v2 t n g == 0 && (r24.v3 t n g == 0 && true) && true)) = true by rw [q10, q11, q12, q13]; try rfl) (And.intro (show (r24.v0 t n g == 0 && (r24.v1 t n g == 0 && true) && (r24.v2 t n g == 0 && (r24.v3 t n g == 0 && true) && true)) = true by rw [q10, q11, q12, q13]; try rfl) (And.intro (show (bnot (r13.v0 t n g)) = true by rw [q7]; try rfl) (And.intro (show (bnot (r13.v0 t n g)) = true by rw [q7]; try rfl) (And.intro (show (bnot (r13.v0 t n g)) = true by rw [q7]; try rfl) (And.intro (show (AV.bool (r25.v0 t n g == 0)) = ((AV.bool (r7ae.v t n g))) by first | (simp only [r7ae.v, hf, h0, q10, q11, q12, q13, q7, cond_true, cond_false]; done) | (try unfold r7ae.v; try simp only [hf, cond_true, cond_false]; try simp only [h0, cond_true, cond_false]; try simp only [q10, cond_true, cond_false]; try simp only [q11, cond_true, cond_false]; try simp only [q12, cond_true, cond_false]; try simp only [q13, cond_true, cond_false]; try simp only [q7, cond_true, cond_false]; try rfl; done) | rfl) trivial))))))))))))))))))))))))))))) h

noncomputable def r7b.v (t : TD) (n : Nat) (g : Nat → LD) : Bool := r25m.v0 t n g == 0

noncomputable abbrev r7b.h0 (t : TD) (n : Nat) (g : Nat → LD) : AHeap := ([AObj.var (AV.agg [AV.str t.nm, AV.int IntKind.i64 t.tl, AV.int IntKind.i64 t.fr, AV.int IntKind.i64 t.re, AV.int IntKind.i64 t.l0, AV.int IntKind.i64 t.l1, AV.int IntKind.i64 t.e0, AV.int IntKind.i64 t.e1])])

noncomputable abbrev r7b.h1 (t : TD) (n : Nat) (g : Nat → LD) : AHeap := ([AObj.var (AV.agg [AV.str t.nm, AV.int IntKind.i64 t.tl, AV.int IntKind.i64 t.fr, AV.int IntKind.i64 t.re, AV.int IntKind.i64 t.l0, AV.int IntKind.i64 t.l1, AV.int IntKind.i64 t.e0, AV.int IntKind.i64 t.e1]), AObj.var (AV.agg [AV.int IntKind.i64 (r24m.v0 t n g), AV.int IntKind.i64 (r24m.v1 t n g), AV.int IntKind.i64 (r24m.v2 t n g), AV.int IntKind.i64 (r24m.v3 t n g)])])

theorem r7b (ha : r10.v = true) (t : TD) (hnm : t.nm.size ≤ 9223372036854775807) (n : Nat) (hn : n ≤ 70) (hq : decide ((↑n : Int) > 64) = true) (g : Nat → LD) (hg : ∀ (i : Nat), (g i).nm.size ≤ 9223372036854775807) (hf : r11.v t n g = true) (h0 : (r19.v t n g == 0) = false) (q4 : (r24m.v4 t n g == r19.v t n g) = true) (q5 : (r13m.v1 t == r19.v t n g) = true) (q6 : (r25m.v1 t n g == r19.v t n g) = true) (q10 : (r24m.v0 t n g == 0) = true) (q11 : (r24m.v1 t n g == 0) = true) (q12 : (r24m.v2 t n g == 0) = true) (q13 : (r24m.v3 t n g == 0) = true) (q7 : r13m.v0 t n g = false) (q8 : (r25m.v0 t n g == 0) = true) (h : AHeap) : Ret Try.prog 7 ([t.av, lds n g]) h (AV.bool (r7b.v t n g)) h := by
  have o0 : n ≤ (9223372036854775807 : Nat) := by first | assumption | omega | (exact hg _) | (exact hg _ (by omega)) | (simp_all; done)
  have o1 : t.nm.size ≤ (9223372036854775807 : Nat) := by first | assumption | omega | (exact hg _) | (exact hg _ (by omega)) | (simp_all; done)
  have o2 : decide ((↑n : Int) > (64 : Int)) = true := by first | assumption | omega | (exact hg _) | (exact hg _ (by omega)) | (simp_all; done)
  have o3 : n ≤ (70 : Nat) := by first | assumption | omega | (exact hg _) | (exact hg _ (by omega)) | (simp_all; done)
  have o4 : ∀ (i : Nat), (g i).nm.size ≤ (9223372036854775807 : Nat) := by first | assumption | omega | (exact hg _) | (exact hg _ (by omega)) | (simp_all; done)
  exact Ret.of_run1 mix [(AV.bool (r7b.v t n g))] Try.func7 rfl [.ret (AV.bool r10.v) (r7b.h0 t n g), .b false, .ret (AV.bool (r11.v t n g)) (r7b.h0 t n g), .b false, .ret (AV.tup [AV.agg [AV.int IntKind.i64 (r24m.v0 t n g), AV.int IntKind.i64 (r24m.v1 t n g), AV.int IntKind.i64 (r24m.v2 t n g), AV.int IntKind.i64 (r24m.v3 t n g)], AV.int IntKind.i64 (r24m.v4 t n g)]) (r7b.h0 t n g), .ret (AV.tup [AV.bool (r13m.v0 t n g), AV.int IntKind.i64 (r13m.v1 t)]) (r7b.h1 t n g), .ret (AV.tup [AV.int IntKind.i64 (r25m.v0 t n g), AV.int IntKind.i64 (r25m.v1 t n g)]) (r7b.h1 t n g), .ret (AV.int IntKind.i64 (r19.v t n g)) (r7b.h1 t n g), .b true, .b true, .b true, .b true, .b true, .b true, .b true, .b true, .b true, .b true, .b true, .b true, .b true, .b true, .b true, .b true, .b true, .b true, .b true] (by simp) (by simp) (kmp (by kernel_rfl) (And.intro (r10 (r7b.h0 t n g)) (And.intro (rfl : false = false) (And.intro (r11 (t) (n) (g) o0 (r7b.h0 t n g)) (And.intro (show (bnot (r11.v t n g)) = false by rw [hf]; try rfl) (And.intro (r24m (t) o1 (n) o0 o2 (g) (r7b.h0 t n g)) (And.intro (r13m (t) o1 (n) o0 o2 (g) (r7b.h1 t n g)) (And.intro (r25m (t) o1 (n) o3 o2 (g) o4 (r7b.h1 t n g)) (And.intro (r19 (t) o1 (n) o0 (g) o4 (r7b.h1 t n g)) (And.intro (show (bnot (r19.v t n g == 0)) = true by rw [h0]; try rfl) (And.intro q4 (And.intro q4 (And.intro q4 (And.intro q4 (And.intro q5 (And.intro q5 (And.intro q5 (And.intro q5 (And.intro q6 (And.intro q6 (And.intro q6 (And.intro q6 (And.intro (show (r24m.v0 t n g == 0 && (r24m.v1 t n g == 0 && true) && (r24m.v2 t n g == 0 && (r24m.v3 t n g == 0 && true) && true)) = true by rw [q10, q11, q12, q13]; try rfl) (And.intro (show (r24m.v0 t n g == 0 && (r24m.v1 t n g == 0 && true) && (r24m.v2 t n g == 0 && (r24m.v3 t n g == 0 && true) && true)) = true by rw [q10, q11, q12, q13]; try rfl) (And.intro (show (r24m.v0 t n g == 0 && (r24m.v1 t n g == 0 && true) && (r24m.v2 t n g == 0 && (r24m.v3 t n g == 0 && true) && true)) = true by rw [q10, q11, q12, q13]; try rfl) (And.intro (show (bnot (r13m.v0 t n g)) = true by rw [q7]; try rfl) (And.intro (show (bnot (r13m.v0 t n g)) = true by rw [q7]; try rfl) (And.intro (show (bnot (r13m.v0 t n g)) = true by rw [q7]; try rfl) (And.intro (show (AV.bool (r25m.v0 t n g == 0)) = ((AV.bool (r7b.v t n g))) by first | (simp only [r7b.v, hf, h0, q10, q11, q12, q13, q7, cond_true, cond_false]; done) | (try unfold r7b.v; try simp only [hf, cond_true, cond_false]; try simp only [h0, cond_true, cond_false]; try simp only [q10, cond_true, cond_false]; try simp only [q11, cond_true, cond_false]; try simp only [q12, cond_true, cond_false]; try simp only [q13, cond_true, cond_false]; try simp only [q7, cond_true, cond_false]; try rfl; done) | rfl) trivial))))))))))))))))))))))))))))) h

noncomputable abbrev r7c.h0 (t : TD) (n : Nat) (g : Nat → LD) : AHeap := ([AObj.var (AV.agg [AV.str t.nm, AV.int IntKind.i64 t.tl, AV.int IntKind.i64 t.fr, AV.int IntKind.i64 t.re, AV.int IntKind.i64 t.l0, AV.int IntKind.i64 t.l1, AV.int IntKind.i64 t.e0, AV.int IntKind.i64 t.e1])])

theorem r7c (ha : r10.v = true) (t : TD) (hnm : t.nm.size ≤ 9223372036854775807) (n : Nat) (hn : n ≤ 9223372036854775807) (g : Nat → LD) (hg : ∀ (i : Nat), (g i).nm.size ≤ 9223372036854775807) (hf : r11.v t n g = false) (h : AHeap) : Ret Try.prog 7 ([t.av, lds n g]) h (AV.bool true) h := by
  have o0 : n ≤ (9223372036854775807 : Nat) := by first | assumption | omega | (exact hg _) | (exact hg _ (by omega)) | (simp_all; done)
  exact Ret.of_run1 mix [(AV.bool true)] Try.func7 rfl [.ret (AV.bool r10.v) (r7c.h0 t n g), .b false, .ret (AV.bool (r11.v t n g)) (r7c.h0 t n g), .b true] (by simp) (by simp) (kmp (by kernel_rfl) (And.intro (r10 (r7c.h0 t n g)) (And.intro (rfl : false = false) (And.intro (r11 (t) (n) (g) o0 (r7c.h0 t n g)) (And.intro (show (bnot (r11.v t n g)) = true by rw [hf]; try rfl) (And.intro (show (AV.bool true) = ((AV.bool true)) by first | (simp only [hf, cond_true, cond_false]; done) | (try simp only [hf, cond_true, cond_false]; try rfl; done) | rfl) trivial)))))) h

end Go.Proofs.Ytngpbfocjgikaaa

open Go

namespace Go.Proofs.Ytngpbfocjgikaaa

set_option linter.unusedSimpArgs false

set_option linter.unusedVariables false

set_option maxHeartbeats 0

set_option maxRecDepth 100000

end Go.Proofs.Ytngpbfocjgikaaa

open Go

namespace Go.Proofs.Ytngpbfocjgikaaa

set_option linter.unusedSimpArgs false

set_option linter.unusedVariables false

set_option maxHeartbeats 0

set_option maxRecDepth 100000

end Go.Proofs.Ytngpbfocjgikaaa

open Go

namespace Go.Proofs.Ytngpbfocjgikaaa

set_option maxHeartbeats 0

set_option maxRecDepth 100000

set_option linter.unusedVariables false

set_option linter.unusedSimpArgs false

variable {n : Nat} {g : Nat → LD} {t : TD}

theorem r35_0 (hn : n ≤ 9223372036854775807) {bed : Int} (h : r35.v n g bed = 0) : (∀ i, i < n → LOk (g i)) ∧ ∀ i, i < n → r50.v bed (g i) = false := by
  unfold r35.v at h
  rw [r46a_v hn, r46b_v hn, r46c_v hn] at h
  have st : ∀ {b : Bool} {x y : Int}, (bif b then x else y) = 0 → x ≠ 0 → b = false ∧ y = 0 := by
    intro b x y h hx; cases b
    · exact ⟨rfl, h⟩
    · exact absurd h hx
  obtain ⟨_, h⟩ := st h (by decide)
  obtain ⟨_, h⟩ := st h (by decide)
  obtain ⟨h1, h⟩ := st h (by decide)
  refine ⟨fun i hi => ok49.1 (anyN_false.1 h1 i hi), ?_⟩
  split at h
  · cases h
  · obtain ⟨h2, _⟩ := st h (by decide)
    exact anyN_false.1 h2

end Go.Proofs.Ytngpbfocjgikaaa

open Go

namespace Go.Proofs.Ytngpbfocjgikaaa

set_option maxHeartbeats 0

set_option maxRecDepth 100000

set_option linter.unusedVariables false

set_option linter.unusedSimpArgs false

end Go.Proofs.Ytngpbfocjgikaaa

open Go

namespace Go.Proofs.Ytngpbfocjgikaaa

set_option maxHeartbeats 0

set_option maxRecDepth 100000

set_option linter.unusedVariables false

set_option linter.unusedSimpArgs false

variable {n : Nat} {g : Nat → LD} {t : TD}

/-- The reference's fraction, of small numbers: in lowest terms. -/
theorem new_val {a b : Int} (ha : -900000000000000000 ≤ a ∧ a ≤ 900000000000000000) (hb : 0 < b ∧ b ≤ 900000000000000000) :
    r40.v0 a b = a / (Int.gcd a b : Int) ∧ r40.v1 a b = b / (Int.gcd a b : Int) := by
  have eg : gc (b.natAbs : Int) (a.natAbs : Int) = (Int.gcd a b : Int) := by
    unfold gc Int.gcd
    rw [Int.toNat_natCast, Int.toNat_natCast, Nat.gcd_comm]
  have hp : (0 : Int) < (Int.gcd a b : Int) := by
    have : 0 < Int.gcd a b := Int.gcd_pos_of_ne_zero_right a (by omega)
    omega
  have h1 : (a.natAbs : Int) / (Int.gcd a b : Int) ≤ a.natAbs := Int.ediv_le_self _ (by omega)
  have h2 : (b.natAbs : Int) / (Int.gcd a b : Int) ≤ b.natAbs := Int.ediv_le_self _ (by omega)
  have h3 : 0 ≤ (a.natAbs : Int) / (Int.gcd a b : Int) := Int.ediv_nonneg (by omega) (by omega)
  have h4 : 0 ≤ (b.natAbs : Int) / (Int.gcd a b : Int) := Int.ediv_nonneg (by omega) (by omega)
  have eb : (b.natAbs : Int) = b := by omega
  unfold r40.v0 r40.v1
  rw [show (b == 0) = false by simp; omega, cond_false, cond_false]
  unfold r64.v0 r64.v1
  rw [eg, decide_eq_false (by omega), decide_eq_false (by omega), cond_false, cond_false, cond_false, cond_false, i64_small (x := (a.natAbs : Int) / (Int.gcd a b : Int)) (by omega), i64_small (x := (b.natAbs : Int) / (Int.gcd a b : Int)) (by omega), eb]
  refine ⟨?_, rfl⟩
  rw [decide_eq_false (show ¬ b < 0 by omega)]
  by_cases q : a < 0
  · rw [decide_eq_true q]
    show IntKind.i64.wrap (0 - (a.natAbs : Int) / (Int.gcd a b : Int)) = _
    rw [i64_small (by omega), show (a.natAbs : Int) = -a by omega, Int.neg_ediv_of_dvd (Int.gcd_dvd_left a b)]
    omega
  · rw [decide_eq_false q]
    show (a.natAbs : Int) / (Int.gcd a b : Int) = _
    rw [show (a.natAbs : Int) = a by omega]

/-- Numerator and denominator are the given ones without a common factor. -/
theorem new_red {a b : Int} (ha : -900000000000000000 ≤ a ∧ a ≤ 900000000000000000) (hb : 0 < b ∧ b ≤ 900000000000000000) :
    ∃ G : Int, 0 < G ∧ a = r40.v0 a b * G ∧ b = r40.v1 a b * G := by
  obtain ⟨e1, e2⟩ := new_val ha hb
  refine ⟨(Int.gcd a b : Int), ?_, ?_, ?_⟩
  · have : 0 < Int.gcd a b := Int.gcd_pos_of_ne_zero_right a (by omega)
    omega
  · rw [e1, Int.ediv_mul_cancel (Int.gcd_dvd_left a b)]
  · rw [e2, Int.ediv_mul_cancel (Int.gcd_dvd_right a b)]

/-- Both axle loads times the span. -/
noncomputable def rearN (t : TD) (n : Nat) (g : Nat → LD) : Int := t.e1 * (2 * (t.re - t.fr)) + (sm g t.fr n).2

noncomputable def frontN (t : TD) (n : Nat) (g : Nat → LD) : Int := (t.e0 + (sm g t.fr n).1) * (2 * (t.re - t.fr)) - (sm g t.fr n).2

structure NB (t : TD) (n : Nat) (g : Nat → LD) : Prop where
  s : 0 < 2 * (t.re - t.fr) ∧ 2 * (t.re - t.fr) ≤ 200000
  e : 0 ≤ t.e1 * (2 * (t.re - t.fr)) ∧ t.e1 * (2 * (t.re - t.fr)) ≤ 200000000000000
  e0 : 0 ≤ t.e0 * (2 * (t.re - t.fr)) ∧ t.e0 * (2 * (t.re - t.fr)) ≤ 200000000000000
  m : 0 ≤ (sm g t.fr n).1 ∧ (sm g t.fr n).1 ≤ 1200000000
  ms : 0 ≤ (sm g t.fr n).1 * (2 * (t.re - t.fr)) ∧ (sm g t.fr n).1 * (2 * (t.re - t.fr)) ≤ 240000000000000
  mo : -300000000000000 ≤ (sm g t.fr n).2 ∧ (sm g t.fr n).2 ≤ 300000000000000
  ef : frontN t n g = t.e0 * (2 * (t.re - t.fr)) + (sm g t.fr n).1 * (2 * (t.re - t.fr)) - (sm g t.fr n).2

theorem nb (ht : TOk t) (hn : n ≤ 12) (hg : ∀ i, i < n → LOk (g i)) : NB t n g := by
  obtain ⟨⟨a1, a2⟩, a3, a4⟩ := sm_bd (g := g) ht.fr n hn hg
  have hs := span_bd ht
  have m0 := mulb (m := t.e0) (x := 2 * (t.re - t.fr)) (A := 1000000000) (B := 200000) ht.e0.1 ht.e0.2 (by omega) (by omega)
  have m1 := mulb (m := t.e1) (x := 2 * (t.re - t.fr)) (A := 1000000000) (B := 200000) ht.e1.1 ht.e1.2 (by omega) (by omega)
  have m2 := mulb (m := (sm g t.fr n).1) (x := 2 * (t.re - t.fr)) (A := 1200000000) (B := 200000) a1 (by omega) (by omega) (by omega)
  refine ⟨hs, ⟨Int.mul_nonneg ht.e1.1 (by omega), by omega⟩, ⟨Int.mul_nonneg ht.e0.1 (by omega), by omega⟩, ⟨a1, by omega⟩, ⟨Int.mul_nonneg a1 (by omega), by omega⟩, ⟨by omega, by omega⟩, ?_⟩
  unfold frontN
  rw [Int.add_mul]

theorem w_rear (ht : TOk t) (hn : n ≤ 12) (hg : ∀ i, i < n → LOk (g i)) : IntKind.i64.wrap (IntKind.i64.wrap (t.e1 * (2 * (t.re - t.fr))) + (sm g t.fr n).2) = rearN t n g := by
  have b := nb ht hn hg
  have h1 := b.e; have h2 := b.mo
  unfold rearN
  rw [i64_small (x := t.e1 * (2 * (t.re - t.fr))) (by omega), i64_small (by omega)]

theorem w_front (ht : TOk t) (hn : n ≤ 12) (hg : ∀ i, i < n → LOk (g i)) : IntKind.i64.wrap (IntKind.i64.wrap (IntKind.i64.wrap (t.e0 + (sm g t.fr n).1) * (2 * (t.re - t.fr))) - (sm g t.fr n).2) = frontN t n g := by
  have b := nb ht hn hg
  have h1 := b.e0; have h2 := b.mo; have h3 := b.m; have h4 := b.ms; have h5 := ht.e0
  rw [i64_small (x := t.e0 + (sm g t.fr n).1) (by omega), Int.add_mul, i64_small (x := t.e0 * (2 * (t.re - t.fr)) + (sm g t.fr n).1 * (2 * (t.re - t.fr))) (by omega), i64_small (by omega), b.ef]

theorem w_front2 (ht : TOk t) (hn : n ≤ 12) (hg : ∀ i, i < n → LOk (g i)) :
    IntKind.i64.wrap (IntKind.i64.wrap (IntKind.i64.wrap (t.e0 * (2 * (t.re - t.fr))) + IntKind.i64.wrap ((sm g t.fr n).1 * (2 * (t.re - t.fr)))) - (sm g t.fr n).2) = frontN t n g := by
  have b := nb ht hn hg
  have h1 := b.e0; have h2 := b.mo; have h3 := b.m; have h4 := b.ms
  rw [i64_small (x := t.e0 * (2 * (t.re - t.fr))) (by omega), i64_small (x := (sm g t.fr n).1 * (2 * (t.re - t.fr))) (by omega), i64_small (x := t.e0 * (2 * (t.re - t.fr)) + (sm g t.fr n).1 * (2 * (t.re - t.fr))) (by omega), i64_small (by omega), b.ef]

theorem rear_bd (ht : TOk t) (hn : n ≤ 12) (hg : ∀ i, i < n → LOk (g i)) : -900000000000000000 ≤ rearN t n g ∧ rearN t n g ≤ 900000000000000000 := by
  have b := nb ht hn hg
  have h1 := b.e; have h2 := b.mo
  unfold rearN
  omega

theorem front_bd (ht : TOk t) (hn : n ≤ 12) (hg : ∀ i, i < n → LOk (g i)) : -900000000000000000 ≤ frontN t n g ∧ frontN t n g ≤ 900000000000000000 := by
  have b := nb ht hn hg
  have h1 := b.e0; have h2 := b.mo; have h3 := b.ms
  rw [b.ef]
  omega

theorem r42_eq (ht : TOk t) : r42.v t = 2 * (t.re - t.fr) := by
  have hfr := ht.fr
  have hre := ht.re
  unfold r42.v
  rw [i64_small (x := t.re - t.fr) (by omega), i64_small (by omega)]

theorem r27_eq (ht : TOk t) (hn : n ≤ 12) (hg : ∀ i, i < n → LOk (g i)) : r27.v0 t n g = r40.v0 (frontN t n g) (2 * (t.re - t.fr)) ∧ r27.v1 t n g = r40.v1 (frontN t n g) (2 * (t.re - t.fr)) ∧
    r27.v2 t n g = r40.v0 (rearN t n g) (2 * (t.re - t.fr)) ∧ r27.v3 t n g = r40.v1 (rearN t n g) (2 * (t.re - t.fr)) := by
  unfold r27.v0 r27.v1 r27.v2 r27.v3
  rw [span_eq ht, r41_sm (by omega) t.fr, r20_sm (by omega) t.fr, w_front2 ht hn hg, w_rear ht hn hg]
  exact ⟨rfl, rfl, rfl, rfl⟩

theorem r24_eq (h : r18.v t n g = 0) (ht : TOk t) (hn : n ≤ 12) (hg : ∀ i, i < n → LOk (g i)) : r24.v4 t n g = 0 ∧ r24.v0 t n g = r39.v0 (frontN t n g) (2 * (t.re - t.fr)) ∧ r24.v1 t n g = r39.v1 (frontN t n g) (2 * (t.re - t.fr)) ∧
    r24.v2 t n g = r39.v0 (rearN t n g) (2 * (t.re - t.fr)) ∧ r24.v3 t n g = r39.v1 (rearN t n g) (2 * (t.re - t.fr)) := by
  obtain ⟨s0, s1⟩ := r33_sm (n := n) (g := g) (by omega) t.fr
  have hs := span_bd ht
  unfold r24.v0 r24.v1 r24.v2 r24.v3 r24.v4
  rw [r42_eq ht, s0, s1, w_rear ht hn hg, w_front ht hn hg, h, new_ok (rear_bd ht hn hg) (by omega), new_ok (front_bd ht hn hg) (by omega)]
  exact ⟨rfl, rfl, rfl, rfl, rfl⟩

theorem axles_eq (h : r18.v t n g = 0) (ht : TOk t) (hn : n ≤ 12) (hg : ∀ i, i < n → LOk (g i)) : r24.v4 t n g = 0 ∧ r24.v0 t n g = r27.v0 t n g ∧ r24.v1 t n g = r27.v1 t n g ∧
    r24.v2 t n g = r27.v2 t n g ∧ r24.v3 t n g = r27.v3 t n g := by
  obtain ⟨a0, a1, a2, a3, a4⟩ := r24_eq h ht hn hg
  obtain ⟨b1, b2, b3, b4⟩ := r27_eq ht hn hg
  have hs := span_bd ht
  have f := front_bd ht hn hg
  have r := rear_bd ht hn hg
  obtain ⟨c1, c2, _⟩ := new_eq (a := frontN t n g) (b := 2 * (t.re - t.fr)) (by omega) (by omega)
  obtain ⟨d1, d2, _⟩ := new_eq (a := rearN t n g) (b := 2 * (t.re - t.fr)) (by omega) (by omega)
  exact ⟨a0, by rw [a1, b1, c1], by rw [a2, b2, c2], by rw [a3, b3, d1], by rw [a4, b4, d2]⟩

/-- One axle: the fraction is within its limit if and only if the numbers are. -/
theorem lim_iff {a s l : Int} (ha : -900000000000000000 ≤ a ∧ a ≤ 900000000000000000) (hs : 0 < s ∧ s ≤ 900000000000000000) :
    (¬ r40.v0 a s < 0 ∧ ¬ r43.v (r40.v0 a s) (r40.v1 a s) l > 0) ↔ 0 ≤ a ∧ a ≤ l * s := by
  obtain ⟨G, g0, g1, g2⟩ := new_red ha hs
  generalize r40.v0 a s = x at *
  generalize r40.v1 a s = y at *
  have e1 : ¬ r43.v x y l > 0 ↔ x ≤ l * y := by
    unfold r43.v
    rw [Int.mul_one]
    generalize l * y = z
    by_cases q : x < z
    · rw [decide_eq_true q, if_pos q]
      rw [show (z - x == 0) = false by simp; omega]
      exact ⟨fun _ => by omega, fun _ => by decide⟩
    · rw [decide_eq_false q, if_neg q]
      by_cases h : x = z
      · rw [show (x - z == 0) = true by simp; omega]
        exact ⟨fun _ => by omega, fun _ => by decide⟩
      · rw [show (x - z == 0) = false by simp; omega]
        exact ⟨fun h => absurd (show (1 : Int) > 0 by decide) h, fun _ => by omega⟩
  rw [e1, g2, show l * (y * G) = l * y * G by rw [Int.mul_assoc]]
  generalize l * y = z at *
  rw [g1]
  constructor
  · rintro ⟨h1, h2⟩
    exact ⟨Int.mul_nonneg (by omega) (by omega), Int.mul_le_mul_of_nonneg_right h2 (by omega)⟩
  · rintro ⟨h1, h2⟩
    refine ⟨fun h => ?_, Int.le_of_mul_le_mul_right h2 g0⟩
    have := Int.mul_neg_of_neg_of_pos h g0
    omega

theorem r32_iff {x a b : Int} : r32.v x a b = true ↔ a ≤ x ∧ x ≤ b := by
  unfold r32.v
  by_cases h : x ≥ a
  · rw [decide_eq_true h, cond_true, decide_eq_true_iff]; exact ⟨fun q => ⟨h, q⟩, fun q => q.2⟩
  · rw [decide_eq_false h, cond_false]; exact ⟨fun q => (by cases q), fun q => absurd q.1 h⟩

theorem safe_iff (ht : TOk t) (hn : n ≤ 12) (hg : ∀ i, i < n → LOk (g i)) : r34.v t (r33.v0 n g t.fr) (r33.v1 n g t.fr) = true ↔
    (0 ≤ rearN t n g ∧ rearN t n g ≤ t.l1 * (2 * (t.re - t.fr))) ∧ 0 ≤ frontN t n g ∧ frontN t n g ≤ t.l0 * (2 * (t.re - t.fr)) := by
  obtain ⟨s0, s1⟩ := r33_sm (n := n) (g := g) (by omega) t.fr
  have hs := span_bd ht
  have m0 := mulb (m := t.l0) (x := 2 * (t.re - t.fr)) (A := 1000000000) (B := 200000) (l0_lo ht) ht.l0.2 (by omega) (by omega)
  have m1 := mulb (m := t.l1) (x := 2 * (t.re - t.fr)) (A := 1000000000) (B := 200000) (l1_lo ht) ht.l1.2 (by omega) (by omega)
  unfold r34.v
  rw [r42_eq ht, s0, s1, w_rear ht hn hg, w_front ht hn hg, i64_small (x := t.l1 * (2 * (t.re - t.fr))) (by omega), i64_small (x := t.l0 * (2 * (t.re - t.fr))) (by omega)]
  rw [← r32_iff, ← r32_iff]
  cases r32.v (rearN t n g) 0 (t.l1 * (2 * (t.re - t.fr)))
  · exact ⟨fun h => (by cases h), fun h => h.1⟩
  · exact ⟨fun h => ⟨rfl, h⟩, fun h => h.2⟩

theorem ref_iff (ht : TOk t) (hn : n ≤ 12) (hg : ∀ i, i < n → LOk (g i)) : r28.v t n g = true ↔
    (0 ≤ rearN t n g ∧ rearN t n g ≤ t.l1 * (2 * (t.re - t.fr))) ∧ 0 ≤ frontN t n g ∧ frontN t n g ≤ t.l0 * (2 * (t.re - t.fr)) := by
  have hs := span_bd ht
  obtain ⟨b1, b2, b3, b4⟩ := r27_eq ht hn hg
  rw [← lim_iff (l := t.l1) (rear_bd ht hn hg) (by omega), ← lim_iff (l := t.l0) (front_bd ht hn hg) (by omega), ← b1, ← b2, ← b3, ← b4]
  unfold r28.v
  by_cases q1 : r27.v0 t n g < 0
  · rw [decide_eq_true q1]; exact ⟨fun h => (by cases h), fun h => absurd q1 h.2.1⟩
  · rw [decide_eq_false q1, cond_false]
    by_cases q2 : r43.v (r27.v0 t n g) (r27.v1 t n g) t.l0 > 0
    · rw [decide_eq_true q2]; exact ⟨fun h => (by cases h), fun h => absurd q2 h.2.2⟩
    · rw [decide_eq_false q2, cond_false]
      by_cases q3 : r27.v2 t n g < 0
      · rw [decide_eq_true q3]; exact ⟨fun h => (by cases h), fun h => absurd q3 h.1.1⟩
      · rw [decide_eq_false q3, cond_false]
        by_cases q4 : r43.v (r27.v2 t n g) (r27.v3 t n g) t.l1 > 0
        · rw [decide_eq_true q4]; exact ⟨fun h => (by cases h), fun h => absurd q4 h.1.2⟩
        · rw [decide_eq_false q4, cond_false]; exact ⟨fun _ => ⟨⟨q3, q4⟩, q1, q2⟩, fun _ => rfl⟩

theorem safe_eq (ht : TOk t) (hn : n ≤ 12) (hg : ∀ i, i < n → LOk (g i)) : r34.v t (r33.v0 n g t.fr) (r33.v1 n g t.fr) = r28.v t n g := by
  have e := (safe_iff ht hn hg).trans (ref_iff ht hn hg).symm
  cases h : r28.v t n g with
  | true => exact e.2 h
  | false =>
    cases h2 : r34.v t (r33.v0 n g t.fr) (r33.v1 n g t.fr) with
    | false => rfl
    | true => rw [e.1 h2] at h; cases h

theorem stage_N (ht : TOk t) (hn : n ≤ 12) (hg : ∀ i, i < n → LOk (g i)) : ∀ (m : Nat) (a : Int), 0 ≤ a →
    (∃ x, L25a.N t n g m a = .e0 x ∧ L26a.N t n g m a = .e0 x) ∨ (L25a.N t n g m a = .e1 ∧ L26a.N t n g m a = .e1) := by
  intro m
  induction m with
  | zero => intro a _; exact .inl ⟨a, rfl, rfl⟩
  | succ m ih =>
    intro a h0
    simp only [L25a.N, L26a.N]
    by_cases q : a ≤ (n : Int)
    · have e : ((IntKind.i64.wrap ((n : Int) - a)).toNat - 0) ≤ n := by rw [i64_small (by omega)]; omega
      have := safe_eq (n := (IntKind.i64.wrap ((n : Int) - a)).toNat - 0) (g := fun i => g (0 + i)) ht (by omega) (fun i hi => by rw [Nat.zero_add]; exact hg i (by omega))
      rw [decide_eq_true q, cond_true, cond_true, this]
      cases r28.v t ((IntKind.i64.wrap ((n : Int) - a)).toNat - 0) fun i => g (0 + i)
      · exact .inl ⟨a, rfl, rfl⟩
      · rw [cond_true, cond_true, i64_small (x := a + 1) (by omega)]
        exact ih (a + 1) (by omega)
    · rw [decide_eq_false q]
      exact .inr ⟨rfl, rfl⟩

theorem stages_eq (h : r18.v t n g = 0) (ht : TOk t) (hn : n ≤ 12) (hg : ∀ i, i < n → LOk (g i)) :
    r25.v0 t n g = r26.v0 t n g ∧ r25.v1 t n g = bif r26.v1 t n g then 0 else 9 := by
  unfold r25.v0 r25.v1 r26.v0 r26.v1
  rw [h]
  rcases stage_N ht hn hg ((((n : Int) + 1 - 0).toNat) + 1) 0 (by decide) with ⟨x, e1, e2⟩ | ⟨e1, e2⟩
  · have e1 : L25a.run t n g 0 = .e0 x := e1
    have e2 : L26a.run t n g 0 = .e0 x := e2
    rw [e1, e2]; exact ⟨rfl, rfl⟩
  · have e1 : L25a.run t n g 0 = .e1 := e1
    have e2 : L26a.run t n g 0 = .e1 := e2
    rw [e1, e2]; exact ⟨rfl, rfl⟩

theorem beq_of {x y : Int} (h : x = y) : (x == y) = true := by simpa using h

theorem r7_ok (hnm : t.nm.size ≤ 9223372036854775807) (hn : n ≤ 12) (hg : ∀ i, (g i).nm.size ≤ 9223372036854775807) (hf : r11.v t n g = true) : Ret Try.prog 7 [t.av, lds n g] [] (.bool true) [] := by
  have ce := check_eq (t := t) hnm (show n ≤ 9223372036854775807 by omega) hg
  by_cases h : r19.v t n g = 0
  · have h18 : r18.v t n g = 0 := ce.trans h
    obtain ⟨c1, c2⟩ := r18_0 h18
    have ht := tok c1
    have hl := (r35_0 (show n ≤ 9223372036854775807 by omega) c2).1
    obtain ⟨a0, a1, a2, a3, a4⟩ := axles_eq h18 ht hn hl
    obtain ⟨s1, s2⟩ := stages_eq h18 ht hn hl
    have e13 : r13.v1 t n g = 0 := by unfold r13.v1; rw [h18]; rfl
    have e13' : r13.v0 t n g = r28.v t n g := by unfold r13.v0; rw [h18]; exact safe_eq ht hn hl
    have b0 := beq_of s1
    cases hi : r26.v1 t n g with
    | true =>
      have r := r7ai awake_true t hnm n hn g hg hf (beq_of h) h (beq_of a0) (beq_of a1) (beq_of a2) (beq_of a3) (beq_of a4) (beq_of e13) (by rw [e13']; simp) b0 hi (by rw [s2, hi]; rfl) []
      unfold r7ai.v at r
      rwa [b0] at r
    | false =>
      have r := r7an awake_true t hnm n hn g hg hf (beq_of h) h (beq_of a0) (beq_of a1) (beq_of a2) (beq_of a3) (beq_of a4) (beq_of e13) (by rw [e13']; simp) b0 hi (by rw [s2, hi]; rfl) (by rw [s2, hi]; rfl) []
      unfold r7an.v at r
      rwa [b0] at r
  · have e : (r19.v t n g == 0) = false := by simpa using h
    have b0 : (r25.v0 t n g == 0) = true := beq_of (by unfold r25.v0; rw [ce, e]; rfl)
    have r := r7ae awake_true t hnm n hn g hg hf e (beq_of (by unfold r24.v4; rw [ce, e]; rfl)) (beq_of (by unfold r13.v1; rw [ce, e]; rfl)) (beq_of (by unfold r25.v1; rw [ce, e]; rfl))
      (beq_of (by unfold r24.v0; rw [ce, e]; rfl)) (beq_of (by unfold r24.v1; rw [ce, e]; rfl)) (beq_of (by unfold r24.v2; rw [ce, e]; rfl)) (beq_of (by unfold r24.v3; rw [ce, e]; rfl)) (by unfold r13.v0; rw [ce, e]; rfl) b0 []
    unfold r7ae.v at r
    rwa [b0] at r

theorem r7m_ok (hnm : t.nm.size ≤ 9223372036854775807) (hn : n ≤ 70) (hg : ∀ i, (g i).nm.size ≤ 9223372036854775807) (hf : r11.v t n g = true) (hq : decide ((n : Int) > 64) = true) : Ret Try.prog 7 [t.av, lds n g] [] (.bool true) [] := by
  have ce := checkm_eq (t := t) (g := g) hnm hq
  have h : r19.v t n g ≠ 0 := by
    unfold r19.v
    rw [many_eq hq]
    by_cases q : r17.v t = 0
    · rw [q]; decide
    · rw [show (r17.v t == 0) = false by simpa using q, cond_false]; exact q
  have e : (r19.v t n g == 0) = false := by simpa using h
  have b0 : (r25m.v0 t n g == 0) = true := beq_of (by unfold r25m.v0; rw [ce, e]; rfl)
  have r := r7b awake_true t hnm n hn hq g hg hf e (beq_of (by unfold r24m.v4; rw [ce, e]; rfl)) (beq_of (by unfold r13m.v1; rw [ce, e]; rfl)) (beq_of (by unfold r25m.v1; rw [ce, e]; rfl))
    (beq_of (by unfold r24m.v0; rw [ce, e]; rfl)) (beq_of (by unfold r24m.v1; rw [ce, e]; rfl)) (beq_of (by unfold r24m.v2; rw [ce, e]; rfl)) (beq_of (by unfold r24m.v3; rw [ce, e]; rfl)) (by unfold r13m.v0; rw [ce, e]; rfl) b0 []
  unfold r7b.v at r
  rwa [b0] at r

theorem few_70 (h : r11.v t n g = true) : n ≤ 70 := by
  unfold r11.v at h
  by_cases h1 : (n : Int) > 70
  · rw [decide_eq_true (show (n : Int) > 10 by omega), decide_eq_false (show ¬ (n : Int) ≤ 64 by omega), decide_eq_true h1] at h
    revert h
    cases decide ((t.nm.size : Int) > 100) <;> (intro h; simp at h)
  · omega

end Go.Proofs.Ytngpbfocjgikaaa

open Go

namespace Go.Proofs.Ytngpbfocjgikaaa

open Go.ChangeShapes Go.WideShapes Go.ChangeAt Go.RowKit

set_option maxRecDepth 100000 in
theorem law7 (xs : List AV) (h : FitsA Try.prog 5 [24, 25] xs) : Ret Try.prog 7 xs [] (.bool true) [] := by
  obtain ⟨x0, x1, rfl, h0, h1⟩ := fitsA2 h
  obtain ⟨t, hnm, i0⟩ := arg_truck h0
  obtain ⟨n, g, hn, hg, i1⟩ := arg_loads h1
  have key : Ret Try.prog 7 [t.av, lds n g] [] (.bool true) [] := by
    cases hf : r11.v t n g with
    | false => exact r7c awake_true t hnm n hn g hg hf []
    | true =>
      rcases few_n hf with hs | hq
      · exact r7_ok hnm (by omega) hg hf
      · exact r7m_ok hnm (few_70 hf) hg hf hq
  exact key.imp (.cons i0 (.cons i1 .nil))

set_option maxRecDepth 100000 in
theorem truckAxles_lifted (os : Os) (started : os.Started) (H : Type) (enc : TypeId × Value → H) :
    ReturnsInHanded {} Try.checked os 7 .any (Rows.truckAxlesSpec.pre6 enc Try.prog Try.f7 Rows.truckAxlesRow.domain false) (Rows.truckAxlesSpec.post enc Try.prog Try.f7 false true false false) :=
  lifted (C := Try.checked) 5 own started (by kernel_rfl) Try.func7
    (ChangeSpec.witness6 (enc := enc) (C := Try.checked) false ⟨#[], #[.agg #[.string ByteArray.empty, .int .i64 0, .int .i64 0, .int .i64 0, .int .i64 0, .int .i64 0, .int .i64 0, .int .i64 0], .slice none 0 0], []⟩ 8 (by kernel_rfl) (by kernel_rfl) (by kernel_rfl) (by kernel_rfl))
    rfl (fun ds hd => by
      match ds, hd with
      | [_, _], _ => rfl) (rt := 4) (by kernel_rfl) (by kernel_rfl) laidOut (by kernel_rfl) law7

theorem truckAxles_holds : Rows.TruckAxlesSaid :=
  OpenClaim.holds_of_wide 7 Try.f7 rfl rfl rfl rfl rfl rfl rfl ⟨rfl, rfl, rfl, rfl, rfl⟩ rfl rfl rfl rfl rfl (by kernel_rfl) Try.func7 (by kernel_rfl)
    (of_decide_eq_true (by kernel_rfl)) (by unfold Func.isWrapper; first | (rw [if_pos (by decide +kernel)]; kernel_rfl) | (rw [if_neg (by decide +kernel)]; exact ⟨rfl, rfl⟩))
    (fun os started H enc _ => truckAxles_lifted os started H enc)

end Go.Proofs.Ytngpbfocjgikaaa
