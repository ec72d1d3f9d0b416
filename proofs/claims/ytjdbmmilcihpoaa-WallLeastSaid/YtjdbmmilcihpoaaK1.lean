/- Contracts of the functions and plain laws, part 1. Conditions: none. -/
import Derived.Test.YtjdbmmilcihpoaaW3
import Derived.Test.YtjdbmmilcihpoaaChecked
import Derived.KernelRfl
import Derived.IntWalk
import Derived.Test.YtjdbmmilcihpoaaRows

/- The wall seat's small words. Conditions: none. -/
open Go
namespace Go.Proofs.Ytjdbmmilcihpoaa
set_option linter.unusedVariables false
set_option linter.unusedSimpArgs false
theorem mix : Try.prog.follows .mixedOrders = true := Try.checked.mixed
end Go.Proofs.Ytjdbmmilcihpoaa

/- the wall seat's contracts: arguments of layouts. -/
open Go
namespace Go.Proofs.Ytjdbmmilcihpoaa
set_option linter.unusedSimpArgs false
set_option linter.unusedVariables false
set_option maxHeartbeats 0
set_option maxRecDepth 100000
def ivs (m : Nat) (f : Nat → Int) : AV := .sl 1 m (fun i => .int .i64 (f i))
@[simp] theorem low_ivs (lo m : Nat) (f : Nat → Int) : Low lo (ivs m f) = True := by unfold ivs; simp
noncomputable def r37.v (n : Int) (a : Int) (b : Int) : Bool := (bif decide (n ≥ a) then decide (n ≤ b) else false)
theorem r37 (n : Int) (a : Int) (b : Int) (h : AHeap) : Ret Try.prog 37 ([AV.int IntKind.i64 n, AV.int IntKind.i64 a, AV.int IntKind.i64 b]) h (AV.bool (r37.v n a b)) h := by
  cases h1 : decide (n ≥ a) with
  | true =>
    have h1p := of_decide_eq_true h1
    exact Ret.of_run1 mix [(AV.bool (r37.v n a b))] Try.func37 rfl [.b true, .b true, .b true, .b true] (by simp) (by simp) (kmp (by kernel_rfl) (And.intro h1 (And.intro h1 (And.intro h1 (And.intro h1 (And.intro (show (AV.bool (decide (n ≤ b))) = ((AV.bool (r37.v n a b))) by first | (simp only [r37.v, h1, cond_true, cond_false]; done) | (try unfold r37.v; try simp only [h1, cond_true, cond_false]; try rfl; done) | rfl) trivial)))))) h
  | false =>
    have h1p := of_decide_eq_false h1
    exact Ret.of_run1 mix [(AV.bool (r37.v n a b))] Try.func37 rfl [.b false, .b false, .b false, .b false] (by simp) (by simp) (kmp (by kernel_rfl) (And.intro h1 (And.intro h1 (And.intro h1 (And.intro h1 (And.intro (show (AV.bool false) = ((AV.bool (r37.v n a b))) by first | (simp only [r37.v, h1, cond_true, cond_false]; done) | (try unfold r37.v; try simp only [h1, cond_true, cond_false]; try rfl; done) | rfl) trivial)))))) h

noncomputable def r51.v (n : Int) (a : Int) (b : Int) : Bool := (bif decide (n ≥ a) then decide (n ≤ b) else false)
theorem r51 (n : Int) (a : Int) (b : Int) (h : AHeap) : Ret Try.prog 51 ([AV.int IntKind.i64 n, AV.int IntKind.i64 a, AV.int IntKind.i64 b]) h (AV.bool (r51.v n a b)) h := by
  cases h1 : decide (n ≥ a) with
  | true =>
    have h1p := of_decide_eq_true h1
    exact Ret.of_run1 mix [(AV.bool (r51.v n a b))] Try.func51 rfl [.b true, .b true, .b true, .b true] (by simp) (by simp) (kmp (by kernel_rfl) (And.intro h1 (And.intro h1 (And.intro h1 (And.intro h1 (And.intro (show (AV.bool (decide (n ≤ b))) = ((AV.bool (r51.v n a b))) by first | (simp only [r51.v, h1, cond_true, cond_false]; done) | (try unfold r51.v; try simp only [h1, cond_true, cond_false]; try rfl; done) | rfl) trivial)))))) h
  | false =>
    have h1p := of_decide_eq_false h1
    exact Ret.of_run1 mix [(AV.bool (r51.v n a b))] Try.func51 rfl [.b false, .b false, .b false, .b false] (by simp) (by simp) (kmp (by kernel_rfl) (And.intro h1 (And.intro h1 (And.intro h1 (And.intro h1 (And.intro (show (AV.bool false) = ((AV.bool (r51.v n a b))) by first | (simp only [r51.v, h1, cond_true, cond_false]; done) | (try unfold r51.v; try simp only [h1, cond_true, cond_false]; try rfl; done) | rfl) trivial)))))) h

noncomputable def r46.v (a : Int) (b : Int) (l : Int) : Bool := decide ((if IntKind.i64.wrap (b - a) > IntKind.i64.wrap (a - b) then IntKind.i64.wrap (b - a) else IntKind.i64.wrap (a - b)) < IntKind.i64.wrap (2 * l))
theorem r46 (a : Int) (b : Int) (l : Int) (h : AHeap) : Ret Try.prog 46 ([AV.int IntKind.i64 a, AV.int IntKind.i64 b, AV.int IntKind.i64 l]) h (AV.bool (r46.v a b l)) h := by
  exact Ret.of_run1 mix [(AV.bool (r46.v a b l))] Try.func46 rfl [] (by simp) (by simp) (kmp (by kernel_rfl) (And.intro (show (AV.bool (decide ((if IntKind.i64.wrap (b - a) > IntKind.i64.wrap (a - b) then IntKind.i64.wrap (b - a) else IntKind.i64.wrap (a - b)) < IntKind.i64.wrap (2 * l)))) = ((AV.bool (r46.v a b l))) by first | (simp only [r46.v, cond_true, cond_false]; done) | (try unfold r46.v; try rfl; done) | rfl) trivial)) h

noncomputable def r47.v (a : Int) (b : Int) (l : Int) : Bool := decide ((if IntKind.i64.wrap (b - a) > IntKind.i64.wrap (a - b) then IntKind.i64.wrap (b - a) else IntKind.i64.wrap (a - b)) < IntKind.i64.wrap (2 * l))
theorem r47 (a : Int) (b : Int) (l : Int) (h : AHeap) : Ret Try.prog 47 ([AV.int IntKind.i64 a, AV.int IntKind.i64 b, AV.int IntKind.i64 l]) h (AV.bool (r47.v a b l)) h := by
  exact Ret.of_run1 mix [(AV.bool (r47.v a b l))] Try.func47 rfl [] (by simp) (by simp) (kmp (by kernel_rfl) (And.intro (show (AV.bool (decide ((if IntKind.i64.wrap (b - a) > IntKind.i64.wrap (a - b) then IntKind.i64.wrap (b - a) else IntKind.i64.wrap (a - b)) < IntKind.i64.wrap (2 * l)))) = ((AV.bool (r47.v a b l))) by first | (simp only [r47.v, cond_true, cond_false]; done) | (try unfold r47.v; try rfl; done) | rfl) trivial)) h

noncomputable def r65.v (at_ : Int) (j : Int) (l : Int) (b : Int) : Bool := r46.v (IntKind.i64.wrap (IntKind.i64.wrap (2 * at_) + j)) b l
noncomputable abbrev r65.h0 (at_ : Int) (j : Int) (l : Int) (b : Int) : AHeap := ([AObj.var (AV.int IntKind.i64 at_), AObj.var (AV.int IntKind.i64 j), AObj.var (AV.int IntKind.i64 l)])
theorem r65 (at_ : Int) (j : Int) (l : Int) (b : Int) : Ret Try.prog 65 ([AV.int IntKind.i64 b, AV.ptr 0 1 1 0 0, AV.ptr 1 1 1 0 0, AV.ptr 2 1 1 0 0]) (r65.h0 at_ j l b) (AV.bool (r65.v at_ j l b)) (r65.h0 at_ j l b) := by
  exact Ret.of_runH mix [(AV.bool (r65.v at_ j l b))] (r65.h0 at_ j l b) Try.func65 rfl [.ret (AV.bool (r46.v (IntKind.i64.wrap (IntKind.i64.wrap (2 * at_) + j)) b l)) (r65.h0 at_ j l b)] (by simp) (kmp (by kernel_rfl) (And.intro (r46 (IntKind.i64.wrap (IntKind.i64.wrap (2 * at_) + j)) (b) (l) (r65.h0 at_ j l b)) (And.intro (And.intro (show (AV.bool (r46.v (IntKind.i64.wrap (IntKind.i64.wrap (2 * at_) + j)) b l)) = ((AV.bool (r65.v at_ j l b))) by first | (simp only [r65.v, cond_true, cond_false]; done) | (try unfold r65.v; try rfl; done) | rfl) trivial) (rfl : ([AObj.var (AV.int IntKind.i64 at_), AObj.var (AV.int IntKind.i64 j), AObj.var (AV.int IntKind.i64 l)] : AHeap) = [AObj.var (AV.int IntKind.i64 at_), AObj.var (AV.int IntKind.i64 j), AObj.var (AV.int IntKind.i64 l)]))))

inductive L79ca.O where
  | e0 (a0 : Int)
  | e1
noncomputable def L79ca.T (at_ : Int) (j : Int) (l : Int) (m : Nat) (f : Nat → Int) (a8 : Int) : List AV := mkT 19 [(0, AV.sl 1 m fun (i : Nat) => AV.int IntKind.i64 (f i)), (1, AV.fn 65 [AV.ptr 0 1 1 0 0, AV.ptr 1 1 1 0 0, AV.ptr 2 1 1 0 0]), (7, AV.int IntKind.i64 (↑m : Int)), (8, AV.int IntKind.i64 a8)]
noncomputable def L79ca.H (at_ : Int) (j : Int) (l : Int) (m : Nat) (f : Nat → Int) (a8 : Int) : AHeap := [AObj.var (AV.int IntKind.i64 at_), AObj.var (AV.int IntKind.i64 j), AObj.var (AV.int IntKind.i64 l)]
def L79ca.inv (at_ : Int) (j : Int) (l : Int) (m : Nat) (f : Nat → Int) (a8 : Int) : Prop := 0 ≤ a8 ∧ (a8 ≤ (↑m : Int) ∨ a8 ≤ 0)
noncomputable def L79ca.mu (at_ : Int) (j : Int) (l : Int) (m : Nat) (f : Nat → Int) (a8 : Int) : Nat := ((↑m : Int) - a8).toNat
noncomputable def L79ca.E : L79ca.O → Exit
  | .e0 a0 => Exit.ret
  | .e1 => Exit.exit 0
noncomputable def L79ca.X (at_ : Int) (j : Int) (l : Int) (m : Nat) (f : Nat → Int) : L79ca.O → List AV
  | .e0 a0 => mkT 19 [(4, (AV.int IntKind.i64 a0))]
  | .e1 => mkT 19 []
noncomputable def L79ca.XH (at_ : Int) (j : Int) (l : Int) (m : Nat) (f : Nat → Int) : L79ca.O → AHeap
  | .e0 a0 => ([AObj.var (AV.int IntKind.i64 at_), AObj.var (AV.int IntKind.i64 j), AObj.var (AV.int IntKind.i64 l)])
  | .e1 => ([AObj.var (AV.int IntKind.i64 at_), AObj.var (AV.int IntKind.i64 j), AObj.var (AV.int IntKind.i64 l)])
noncomputable def L79ca.N (at_ : Int) (j : Int) (l : Int) (m : Nat) (f : Nat → Int) : Nat → Int → L79ca.O
  | 0, _ => .e0 default
  | k_ + 1, a8 => (bif decide (a8 < (↑m : Int)) then (bif r65.v at_ j l (f a8.toNat) then (.e0 (a8)) else (L79ca.N at_ j l m f k_ (IntKind.i64.wrap (a8 + 1)))) else (.e1))
noncomputable def L79ca.run (at_ : Int) (j : Int) (l : Int) (m : Nat) (f : Nat → Int) (a8 : Int) : L79ca.O := L79ca.N at_ j l m f ((((↑m : Int) - a8).toNat) + 1) a8
def L79ca.Next (at_ : Int) (j : Int) (l : Int) (m : Nat) (f : Nat → Int) (k_ : Nat) (z_ : Int) (T_ : List AV) (h_ : AHeap) : Prop := LNextP (fun (z_ : Int) => L79ca.T at_ j l m f z_) (fun (z_ : Int) => L79ca.H at_ j l m f z_) (fun (z_ : Int) => L79ca.inv at_ j l m f z_) (fun (z_ : Int) => L79ca.mu at_ j l m f z_) (fun (k_ : Nat) (z_ : Int) => L79ca.N at_ j l m f k_ z_) k_ z_ T_ h_
def L79ca.End (at_ : Int) (j : Int) (l : Int) (m : Nat) (f : Nat → Int) (k_ : Nat) (z_ : Int) (e_ : Exit) (T_ : List AV) (h_ : AHeap) : Prop := LEndP (fun (z_ : Int) => L79ca.H at_ j l m f z_) (fun (k_ : Nat) (z_ : Int) => L79ca.N at_ j l m f k_ z_) L79ca.E (L79ca.X at_ j l m f) (L79ca.XH at_ j l m f) k_ z_ e_ T_ h_
theorem L79ca.nx (at_ : Int) (j : Int) (l : Int) (m : Nat) (f : Nat → Int) {k_ : Nat} {z_ : Int} {h_ : AHeap} (s_ : Int) (h1 : L79ca.inv at_ j l m f s_) (h2 : L79ca.mu at_ j l m f s_ < L79ca.mu at_ j l m f z_) (h3 : L79ca.N at_ j l m f k_ s_ = L79ca.N at_ j l m f (k_ + 1) z_) (h4 : PopOk (L79ca.H at_ j l m f z_) h_ (L79ca.T at_ j l m f s_) (L79ca.H at_ j l m f s_)) : LNextP (fun (z_ : Int) => L79ca.T at_ j l m f z_) (fun (z_ : Int) => L79ca.H at_ j l m f z_) (fun (z_ : Int) => L79ca.inv at_ j l m f z_) (fun (z_ : Int) => L79ca.mu at_ j l m f z_) (fun (k_ : Nat) (z_ : Int) => L79ca.N at_ j l m f k_ z_) k_ z_ (L79ca.T at_ j l m f s_) h_ := LNextP.mk (Tm := (fun (z_ : Int) => L79ca.T at_ j l m f z_)) (Hp := (fun (z_ : Int) => L79ca.H at_ j l m f z_)) (inv := (fun (z_ : Int) => L79ca.inv at_ j l m f z_)) (mu := (fun (z_ : Int) => L79ca.mu at_ j l m f z_)) (l := (fun (k_ : Nat) (z_ : Int) => L79ca.N at_ j l m f k_ z_)) s_ h1 h2 h3 h4
theorem L79ca.en (at_ : Int) (j : Int) (l : Int) (m : Nat) (f : Nat → Int) {k_ : Nat} {z_ : Int} {h_ : AHeap} (o_ : L79ca.O) (h3 : L79ca.N at_ j l m f (k_ + 1) z_ = o_) (h4 : PopOk (L79ca.H at_ j l m f z_) h_ (L79ca.X at_ j l m f o_) (L79ca.XH at_ j l m f o_)) : LEndP (fun (z_ : Int) => L79ca.H at_ j l m f z_) (fun (k_ : Nat) (z_ : Int) => L79ca.N at_ j l m f k_ z_) L79ca.E (L79ca.X at_ j l m f) (L79ca.XH at_ j l m f) k_ z_ (L79ca.E o_) (L79ca.X at_ j l m f o_) h_ := LEndP.mk (Hp := (fun (z_ : Int) => L79ca.H at_ j l m f z_)) (l := (fun (k_ : Nat) (z_ : Int) => L79ca.N at_ j l m f k_ z_)) (oE := L79ca.E) (oT := L79ca.X at_ j l m f) (oH := L79ca.XH at_ j l m f) o_ h3 h4
theorem L79ca.spec (at_ : Int) (j : Int) (l : Int) (m : Nat) (f : Nat → Int) (hm : m ≤ 9223372036854775807) (k_ : Nat) (z_ : Int) (hi_ : L79ca.inv at_ j l m f z_) (hm_ : L79ca.mu at_ j l m f z_ < k_) : LoopTo Try.prog (loopN Try.f79 0) (L79ca.T at_ j l m f z_) (L79ca.H at_ j l m f z_) (L79ca.E (L79ca.N at_ j l m f k_ z_)) (L79ca.X at_ j l m f (L79ca.N at_ j l m f k_ z_)) (L79ca.XH at_ j l m f (L79ca.N at_ j l m f k_ z_)) := by
  refine LoopTo.fuelP mix (fun (z_ : Int) => L79ca.T at_ j l m f z_) (fun (z_ : Int) => L79ca.H at_ j l m f z_) (fun (z_ : Int) => L79ca.inv at_ j l m f z_) (fun (z_ : Int) => L79ca.mu at_ j l m f z_) (fun (k_ : Nat) (z_ : Int) => L79ca.N at_ j l m f k_ z_) L79ca.E (L79ca.X at_ j l m f) (L79ca.XH at_ j l m f) (others 19 [0, 1, 7, 8]) (others 19 [4]) (others 19 []) ?_ k_ z_ hi_ hm_
  clear hm_ hi_ z_ k_
  intro k_ z_ hinv hmu
  revert hinv hmu; revert z_; intro a8 hinv hmu
  have hinv : 0 ≤ a8 ∧ (a8 ≤ (↑m : Int) ∨ a8 ≤ 0) := hinv
  have hmu : (((↑m : Int) - a8).toNat) < k_ + 1 := hmu
  cases h1 : decide (a8 < (↑m : Int)) with
  | true =>
    have h1p := of_decide_eq_true h1
    have o0 : (0 : Int) ≤ a8 := by first | assumption | omega | (simp_all; done)
    have o1 : a8 < (↑m : Int) := by first | assumption | omega | (simp_all; done)
    cases h2 : r65.v at_ j l (f a8.toNat) with
    | true =>
      exact ⟨[.b true, .ret (AV.bool (r65.v at_ j l (f a8.toNat))) ([AObj.var (AV.int IntKind.i64 at_), AObj.var (AV.int IntKind.i64 j), AObj.var (AV.int IntKind.i64 l)]), .b true], kmp (by kernel_rfl) (And.intro h1 (And.intro (And.intro o0 o1) (And.intro (r65 (at_) (j) (l) (f a8.toNat)) (And.intro h2 (L79ca.en at_ j l m f (k_ := k_) (z_ := a8) (.e0 (a8) : L79ca.O) (by first | (simp only [L79ca.N, h1, h2, cond_true, cond_false]; done) | (try unfold L79ca.N; try simp only [h1, cond_true, cond_false]; try simp only [h2, cond_true, cond_false]; try rfl; done)) PopOk.same)))))⟩
    | false =>
      try have := IntWalk.i64_in (a8 + 1) (by omega)
      have o2 : (0 : Int) ≤ IntKind.i64.wrap (a8 + (1 : Int)) := by first | assumption | omega | (simp_all; done)
      have o3 : IntKind.i64.wrap (a8 + (1 : Int)) ≤ (↑m : Int) ∨ IntKind.i64.wrap (a8 + (1 : Int)) ≤ (0 : Int) := by first | assumption | omega | (simp_all; done)
      have o4 : ((↑m : Int) - IntKind.i64.wrap (a8 + (1 : Int))).toNat < ((↑m : Int) - a8).toNat := by first | assumption | omega | (simp_all; done)
      exact ⟨[.b true, .ret (AV.bool (r65.v at_ j l (f a8.toNat))) ([AObj.var (AV.int IntKind.i64 at_), AObj.var (AV.int IntKind.i64 j), AObj.var (AV.int IntKind.i64 l)]), .b false], kmp (by kernel_rfl) (And.intro h1 (And.intro (And.intro o0 o1) (And.intro (r65 (at_) (j) (l) (f a8.toNat)) (And.intro h2 (L79ca.nx at_ j l m f (k_ := k_) (z_ := a8) (IntKind.i64.wrap (a8 + 1)) (And.intro o2 o3) o4 (by first | (simp only [L79ca.N, h1, h2, cond_true, cond_false]; done) | (try unfold L79ca.N; try simp only [h1, cond_true, cond_false]; try simp only [h2, cond_true, cond_false]; try rfl; done)) PopOk.same)))))⟩
  | false =>
    have h1p := of_decide_eq_false h1
    exact ⟨[.b false], kmp (by kernel_rfl) (And.intro h1 (L79ca.en at_ j l m f (k_ := k_) (z_ := a8) (.e1 : L79ca.O) (by first | (simp only [L79ca.N, h1, cond_true, cond_false]; done) | (try unfold L79ca.N; try simp only [h1, cond_true, cond_false]; try rfl; done)) PopOk.same))⟩
theorem L79ca.e0 (at_ : Int) (j : Int) (l : Int) (m : Nat) (f : Nat → Int) (hm : m ≤ 9223372036854775807) (a8 : Int) (hinv : L79ca.inv at_ j l m f a8) (a0 : Int) (hN : L79ca.run at_ j l m f a8 = (.e0 a0 : L79ca.O)) : LoopTo Try.prog (loopN Try.f79 0) (L79ca.T at_ j l m f a8) (L79ca.H at_ j l m f a8) (Exit.ret) (L79ca.X at_ j l m f (.e0 a0 : L79ca.O)) (L79ca.XH at_ j l m f (.e0 a0 : L79ca.O)) := by
  have h_ := L79ca.spec at_ j l m f hm ((((↑m : Int) - a8).toNat) + 1) a8 hinv (Nat.lt_succ_self _)
  unfold L79ca.run at hN
  simp only [hN] at h_
  exact h_
theorem L79ca.e1 (at_ : Int) (j : Int) (l : Int) (m : Nat) (f : Nat → Int) (hm : m ≤ 9223372036854775807) (a8 : Int) (hinv : L79ca.inv at_ j l m f a8) (hN : L79ca.run at_ j l m f a8 = (.e1 : L79ca.O)) : LoopTo Try.prog (loopN Try.f79 0) (L79ca.T at_ j l m f a8) (L79ca.H at_ j l m f a8) (Exit.exit 0) (L79ca.X at_ j l m f (.e1 : L79ca.O)) (L79ca.XH at_ j l m f (.e1 : L79ca.O)) := by
  have h_ := L79ca.spec at_ j l m f hm ((((↑m : Int) - a8).toNat) + 1) a8 hinv (Nat.lt_succ_self _)
  unfold L79ca.run at hN
  simp only [hN] at h_
  exact h_

noncomputable def r79c.v (at_ : Int) (j : Int) (l : Int) (m : Nat) (f : Nat → Int) : Int := (match L79ca.run at_ j l m f 0 with | .e0 h1d0 => h1d0 | .e1 => -1 )
noncomputable abbrev r79c.h0 (at_ : Int) (j : Int) (l : Int) (m : Nat) (f : Nat → Int) : AHeap := ([AObj.var (AV.int IntKind.i64 at_), AObj.var (AV.int IntKind.i64 j), AObj.var (AV.int IntKind.i64 l)])
theorem r79c (at_ : Int) (j : Int) (l : Int) (m : Nat) (f : Nat → Int) (hm : m ≤ 9223372036854775807) : Ret Try.prog 79 ([ivs m f, AV.fn 65 [AV.ptr 0 1 1 0 0, AV.ptr 1 1 1 0 0, AV.ptr 2 1 1 0 0]]) (r79c.h0 at_ j l m f) (AV.int IntKind.i64 (r79c.v at_ j l m f)) (r79c.h0 at_ j l m f) := by
  have o0 : m ≤ (9223372036854775807 : Nat) := by first | assumption | omega | (simp_all; done)
  have o1 : (0 : Int) ≤ (↑m : Int) ∨ (0 : Int) ≤ (0 : Int) := by first | assumption | omega | (simp_all; done)
  cases h1 : L79ca.run at_ j l m f 0 with
  | e0 h1d0 =>
    exact Ret.of_runH mix [(AV.int IntKind.i64 (r79c.v at_ j l m f))] (r79c.h0 at_ j l m f) Try.func79 rfl [.loop (others 19 [0, 1, 7, 8]) (Exit.ret) (L79ca.X at_ j l m f (L79ca.O.e0 h1d0)) (L79ca.XH at_ j l m f (L79ca.O.e0 h1d0))] (by simp) (kmp (by kernel_rfl) (And.intro (L79ca.e0 (at_) (j) (l) (m) (f) o0 (0) (And.intro (show (0 : Int) ≤ (0 : Int) by first | decide | exact Int.NonNeg.mk _) o1) h1d0 h1) (And.intro (And.intro (show (AV.int IntKind.i64 h1d0) = ((AV.int IntKind.i64 (r79c.v at_ j l m f))) by first | (simp only [r79c.v, h1, cond_true, cond_false]; done) | (try unfold r79c.v; try simp only [h1, cond_true, cond_false]; try rfl; done) | rfl) trivial) (rfl : ([AObj.var (AV.int IntKind.i64 at_), AObj.var (AV.int IntKind.i64 j), AObj.var (AV.int IntKind.i64 l)] : AHeap) = [AObj.var (AV.int IntKind.i64 at_), AObj.var (AV.int IntKind.i64 j), AObj.var (AV.int IntKind.i64 l)]))))
  | e1 =>
    exact Ret.of_runH mix [(AV.int IntKind.i64 (r79c.v at_ j l m f))] (r79c.h0 at_ j l m f) Try.func79 rfl [.loop (others 19 [0, 1, 7, 8]) (Exit.exit 0) (L79ca.X at_ j l m f L79ca.O.e1) (L79ca.XH at_ j l m f L79ca.O.e1)] (by simp) (kmp (by kernel_rfl) (And.intro (L79ca.e1 (at_) (j) (l) (m) (f) o0 (0) (And.intro (show (0 : Int) ≤ (0 : Int) by first | decide | exact Int.NonNeg.mk _) o1) h1) (And.intro (And.intro (show (AV.int IntKind.i64 (-1)) = ((AV.int IntKind.i64 (r79c.v at_ j l m f))) by first | (simp only [r79c.v, h1, cond_true, cond_false]; done) | (try unfold r79c.v; try simp only [h1, cond_true, cond_false]; try rfl; done) | rfl) trivial) (rfl : ([AObj.var (AV.int IntKind.i64 at_), AObj.var (AV.int IntKind.i64 j), AObj.var (AV.int IntKind.i64 l)] : AHeap) = [AObj.var (AV.int IntKind.i64 at_), AObj.var (AV.int IntKind.i64 j), AObj.var (AV.int IntKind.i64 l)]))))

noncomputable def r62c.v (at_ : Int) (j : Int) (l : Int) (m : Nat) (f : Nat → Int) : Bool := decide (r79c.v at_ j l m f ≥ 0)
noncomputable abbrev r62c.h0 (at_ : Int) (j : Int) (l : Int) (m : Nat) (f : Nat → Int) : AHeap := ([AObj.var (AV.int IntKind.i64 at_), AObj.var (AV.int IntKind.i64 j), AObj.var (AV.int IntKind.i64 l)])
theorem r62c (at_ : Int) (j : Int) (l : Int) (m : Nat) (f : Nat → Int) (hm : m ≤ 9223372036854775807) : Ret Try.prog 62 ([ivs m f, AV.fn 65 [AV.ptr 0 1 1 0 0, AV.ptr 1 1 1 0 0, AV.ptr 2 1 1 0 0]]) (r62c.h0 at_ j l m f) (AV.bool (r62c.v at_ j l m f)) (r62c.h0 at_ j l m f) := by
  have o0 : m ≤ (9223372036854775807 : Nat) := by first | assumption | omega | (simp_all; done)
  exact Ret.of_runH mix [(AV.bool (r62c.v at_ j l m f))] (r62c.h0 at_ j l m f) Try.func62 rfl [.ret (AV.int IntKind.i64 (r79c.v at_ j l m f)) (r62c.h0 at_ j l m f)] (by simp) (kmp (by kernel_rfl) (And.intro (r79c (at_) (j) (l) (m) (f) o0) (And.intro (And.intro (show (AV.bool (decide (r79c.v at_ j l m f ≥ 0))) = ((AV.bool (r62c.v at_ j l m f))) by first | (simp only [r62c.v, cond_true, cond_false]; done) | (try unfold r62c.v; try rfl; done) | rfl) trivial) (rfl : ([AObj.var (AV.int IntKind.i64 at_), AObj.var (AV.int IntKind.i64 j), AObj.var (AV.int IntKind.i64 l)] : AHeap) = [AObj.var (AV.int IntKind.i64 at_), AObj.var (AV.int IntKind.i64 j), AObj.var (AV.int IntKind.i64 l)]))))

noncomputable def r34.v (at_ : Int) (j : Int) (l : Int) (m : Nat) (f : Nat → Int) : Bool := bnot (r62c.v at_ j l m f)
theorem r34 (at_ : Int) (j : Int) (l : Int) (m : Nat) (f : Nat → Int) (hm : m ≤ 9223372036854775807) (h : AHeap) : Ret Try.prog 34 ([AV.int IntKind.i64 at_, AV.int IntKind.i64 j, AV.int IntKind.i64 l, ivs m f]) h (AV.bool (r34.v at_ j l m f)) h := by
  have o0 : m ≤ (9223372036854775807 : Nat) := by first | assumption | omega | (simp_all; done)
  exact Ret.of_run1 mix [(AV.bool (r34.v at_ j l m f))] Try.func34 rfl [.ret (AV.bool (r62c.v at_ j l m f)) ([AObj.var (AV.int IntKind.i64 at_), AObj.var (AV.int IntKind.i64 j), AObj.var (AV.int IntKind.i64 l)])] (by simp) (by simp) (kmp (by kernel_rfl) (And.intro (r62c (at_) (j) (l) (m) (f) o0) (And.intro (show (AV.bool (bnot (r62c.v at_ j l m f))) = ((AV.bool (r34.v at_ j l m f))) by first | (simp only [r34.v, cond_true, cond_false]; done) | (try unfold r34.v; try rfl; done) | rfl) trivial))) h

inductive L36a.O where
  | e0
  | e1
noncomputable def L36a.T (at_ : Int) (j : Int) (l : Int) (m : Nat) (f : Nat → Int) (a9 : Int) : List AV := mkT 26 [(0, AV.int IntKind.i64 at_), (1, AV.int IntKind.i64 j), (2, AV.int IntKind.i64 l), (3, AV.sl 1 m fun (i : Nat) => AV.int IntKind.i64 (f i)), (9, AV.int IntKind.i64 a9)]
noncomputable def L36a.H (at_ : Int) (j : Int) (l : Int) (m : Nat) (f : Nat → Int) (a9 : Int) : AHeap := []
def L36a.inv (at_ : Int) (j : Int) (l : Int) (m : Nat) (f : Nat → Int) (a9 : Int) : Prop := 0 ≤ a9 ∧ (a9 ≤ (↑m : Int) ∨ a9 ≤ 0)
noncomputable def L36a.mu (at_ : Int) (j : Int) (l : Int) (m : Nat) (f : Nat → Int) (a9 : Int) : Nat := ((↑m : Int) - a9).toNat
noncomputable def L36a.E : L36a.O → Exit
  | .e0 => Exit.ret
  | .e1 => Exit.exit 0
noncomputable def L36a.X (at_ : Int) (j : Int) (l : Int) (m : Nat) (f : Nat → Int) : L36a.O → List AV
  | .e0 => mkT 26 [(8, (AV.bool false))]
  | .e1 => mkT 26 []
noncomputable def L36a.XH (at_ : Int) (j : Int) (l : Int) (m : Nat) (f : Nat → Int) : L36a.O → AHeap
  | .e0 => ([])
  | .e1 => ([])
noncomputable def L36a.N (at_ : Int) (j : Int) (l : Int) (m : Nat) (f : Nat → Int) : Nat → Int → L36a.O
  | 0, _ => .e0
  | k_ + 1, a9 => (bif decide (a9 < (↑m : Int)) then (bif r47.v (IntKind.i64.wrap (IntKind.i64.wrap (2 * at_) + j)) (f a9.toNat) l then (.e0) else (L36a.N at_ j l m f k_ (IntKind.i64.wrap (a9 + 1)))) else (.e1))
noncomputable def L36a.run (at_ : Int) (j : Int) (l : Int) (m : Nat) (f : Nat → Int) (a9 : Int) : L36a.O := L36a.N at_ j l m f ((((↑m : Int) - a9).toNat) + 1) a9
def L36a.Next (at_ : Int) (j : Int) (l : Int) (m : Nat) (f : Nat → Int) (k_ : Nat) (z_ : Int) (T_ : List AV) (h_ : AHeap) : Prop := LNextP (fun (z_ : Int) => L36a.T at_ j l m f z_) (fun (z_ : Int) => L36a.H at_ j l m f z_) (fun (z_ : Int) => L36a.inv at_ j l m f z_) (fun (z_ : Int) => L36a.mu at_ j l m f z_) (fun (k_ : Nat) (z_ : Int) => L36a.N at_ j l m f k_ z_) k_ z_ T_ h_
def L36a.End (at_ : Int) (j : Int) (l : Int) (m : Nat) (f : Nat → Int) (k_ : Nat) (z_ : Int) (e_ : Exit) (T_ : List AV) (h_ : AHeap) : Prop := LEndP (fun (z_ : Int) => L36a.H at_ j l m f z_) (fun (k_ : Nat) (z_ : Int) => L36a.N at_ j l m f k_ z_) L36a.E (L36a.X at_ j l m f) (L36a.XH at_ j l m f) k_ z_ e_ T_ h_
theorem L36a.nx (at_ : Int) (j : Int) (l : Int) (m : Nat) (f : Nat → Int) {k_ : Nat} {z_ : Int} {h_ : AHeap} (s_ : Int) (h1 : L36a.inv at_ j l m f s_) (h2 : L36a.mu at_ j l m f s_ < L36a.mu at_ j l m f z_) (h3 : L36a.N at_ j l m f k_ s_ = L36a.N at_ j l m f (k_ + 1) z_) (h4 : PopOk (L36a.H at_ j l m f z_) h_ (L36a.T at_ j l m f s_) (L36a.H at_ j l m f s_)) : LNextP (fun (z_ : Int) => L36a.T at_ j l m f z_) (fun (z_ : Int) => L36a.H at_ j l m f z_) (fun (z_ : Int) => L36a.inv at_ j l m f z_) (fun (z_ : Int) => L36a.mu at_ j l m f z_) (fun (k_ : Nat) (z_ : Int) => L36a.N at_ j l m f k_ z_) k_ z_ (L36a.T at_ j l m f s_) h_ := LNextP.mk (Tm := (fun (z_ : Int) => L36a.T at_ j l m f z_)) (Hp := (fun (z_ : Int) => L36a.H at_ j l m f z_)) (inv := (fun (z_ : Int) => L36a.inv at_ j l m f z_)) (mu := (fun (z_ : Int) => L36a.mu at_ j l m f z_)) (l := (fun (k_ : Nat) (z_ : Int) => L36a.N at_ j l m f k_ z_)) s_ h1 h2 h3 h4
theorem L36a.en (at_ : Int) (j : Int) (l : Int) (m : Nat) (f : Nat → Int) {k_ : Nat} {z_ : Int} {h_ : AHeap} (o_ : L36a.O) (h3 : L36a.N at_ j l m f (k_ + 1) z_ = o_) (h4 : PopOk (L36a.H at_ j l m f z_) h_ (L36a.X at_ j l m f o_) (L36a.XH at_ j l m f o_)) : LEndP (fun (z_ : Int) => L36a.H at_ j l m f z_) (fun (k_ : Nat) (z_ : Int) => L36a.N at_ j l m f k_ z_) L36a.E (L36a.X at_ j l m f) (L36a.XH at_ j l m f) k_ z_ (L36a.E o_) (L36a.X at_ j l m f o_) h_ := LEndP.mk (Hp := (fun (z_ : Int) => L36a.H at_ j l m f z_)) (l := (fun (k_ : Nat) (z_ : Int) => L36a.N at_ j l m f k_ z_)) (oE := L36a.E) (oT := L36a.X at_ j l m f) (oH := L36a.XH at_ j l m f) o_ h3 h4
theorem L36a.spec (at_ : Int) (j : Int) (l : Int) (m : Nat) (f : Nat → Int) (hm : m ≤ 9223372036854775807) (k_ : Nat) (z_ : Int) (hi_ : L36a.inv at_ j l m f z_) (hm_ : L36a.mu at_ j l m f z_ < k_) : LoopTo Try.prog (loopN Try.f36 0) (L36a.T at_ j l m f z_) (L36a.H at_ j l m f z_) (L36a.E (L36a.N at_ j l m f k_ z_)) (L36a.X at_ j l m f (L36a.N at_ j l m f k_ z_)) (L36a.XH at_ j l m f (L36a.N at_ j l m f k_ z_)) := by
  refine LoopTo.fuelP mix (fun (z_ : Int) => L36a.T at_ j l m f z_) (fun (z_ : Int) => L36a.H at_ j l m f z_) (fun (z_ : Int) => L36a.inv at_ j l m f z_) (fun (z_ : Int) => L36a.mu at_ j l m f z_) (fun (k_ : Nat) (z_ : Int) => L36a.N at_ j l m f k_ z_) L36a.E (L36a.X at_ j l m f) (L36a.XH at_ j l m f) (others 26 [0, 1, 2, 3, 9]) (others 26 [8]) (others 26 []) ?_ k_ z_ hi_ hm_
  clear hm_ hi_ z_ k_
  intro k_ z_ hinv hmu
  revert hinv hmu; revert z_; intro a9 hinv hmu
  have hinv : 0 ≤ a9 ∧ (a9 ≤ (↑m : Int) ∨ a9 ≤ 0) := hinv
  have hmu : (((↑m : Int) - a9).toNat) < k_ + 1 := hmu
  cases h1 : decide (a9 < (↑m : Int)) with
  | true =>
    have h1p := of_decide_eq_true h1
    have o0 : (0 : Int) ≤ a9 := by first | assumption | omega | (simp_all; done)
    have o1 : a9 < (↑m : Int) := by first | assumption | omega | (simp_all; done)
    cases h2 : r47.v (IntKind.i64.wrap (IntKind.i64.wrap (2 * at_) + j)) (f a9.toNat) l with
    | true =>
      exact ⟨[.b true, .ret (AV.bool (r47.v (IntKind.i64.wrap (IntKind.i64.wrap (2 * at_) + j)) (f a9.toNat) l)) ([]), .b true], kmp (by kernel_rfl) (And.intro h1 (And.intro (And.intro o0 o1) (And.intro (r47 (IntKind.i64.wrap (IntKind.i64.wrap (2 * at_) + j)) (f a9.toNat) (l) ([])) (And.intro h2 (L36a.en at_ j l m f (k_ := k_) (z_ := a9) (.e0 : L36a.O) (by first | (simp only [L36a.N, h1, h2, cond_true, cond_false]; done) | (try unfold L36a.N; try simp only [h1, cond_true, cond_false]; try simp only [h2, cond_true, cond_false]; try rfl; done)) PopOk.same)))))⟩
    | false =>
      try have := IntWalk.i64_in (a9 + 1) (by omega)
      have o2 : (0 : Int) ≤ IntKind.i64.wrap (a9 + (1 : Int)) := by first | assumption | omega | (simp_all; done)
      have o3 : IntKind.i64.wrap (a9 + (1 : Int)) ≤ (↑m : Int) ∨ IntKind.i64.wrap (a9 + (1 : Int)) ≤ (0 : Int) := by first | assumption | omega | (simp_all; done)
      have o4 : ((↑m : Int) - IntKind.i64.wrap (a9 + (1 : Int))).toNat < ((↑m : Int) - a9).toNat := by first | assumption | omega | (simp_all; done)
      exact ⟨[.b true, .ret (AV.bool (r47.v (IntKind.i64.wrap (IntKind.i64.wrap (2 * at_) + j)) (f a9.toNat) l)) ([]), .b false], kmp (by kernel_rfl) (And.intro h1 (And.intro (And.intro o0 o1) (And.intro (r47 (IntKind.i64.wrap (IntKind.i64.wrap (2 * at_) + j)) (f a9.toNat) (l) ([])) (And.intro h2 (L36a.nx at_ j l m f (k_ := k_) (z_ := a9) (IntKind.i64.wrap (a9 + 1)) (And.intro o2 o3) o4 (by first | (simp only [L36a.N, h1, h2, cond_true, cond_false]; done) | (try unfold L36a.N; try simp only [h1, cond_true, cond_false]; try simp only [h2, cond_true, cond_false]; try rfl; done)) PopOk.same)))))⟩
  | false =>
    have h1p := of_decide_eq_false h1
    exact ⟨[.b false], kmp (by kernel_rfl) (And.intro h1 (L36a.en at_ j l m f (k_ := k_) (z_ := a9) (.e1 : L36a.O) (by first | (simp only [L36a.N, h1, cond_true, cond_false]; done) | (try unfold L36a.N; try simp only [h1, cond_true, cond_false]; try rfl; done)) PopOk.same))⟩
theorem L36a.e0 (at_ : Int) (j : Int) (l : Int) (m : Nat) (f : Nat → Int) (hm : m ≤ 9223372036854775807) (a9 : Int) (hinv : L36a.inv at_ j l m f a9) (hN : L36a.run at_ j l m f a9 = (.e0 : L36a.O)) : LoopTo Try.prog (loopN Try.f36 0) (L36a.T at_ j l m f a9) (L36a.H at_ j l m f a9) (Exit.ret) (L36a.X at_ j l m f (.e0 : L36a.O)) (L36a.XH at_ j l m f (.e0 : L36a.O)) := by
  have h_ := L36a.spec at_ j l m f hm ((((↑m : Int) - a9).toNat) + 1) a9 hinv (Nat.lt_succ_self _)
  unfold L36a.run at hN
  simp only [hN] at h_
  exact h_
theorem L36a.e1 (at_ : Int) (j : Int) (l : Int) (m : Nat) (f : Nat → Int) (hm : m ≤ 9223372036854775807) (a9 : Int) (hinv : L36a.inv at_ j l m f a9) (hN : L36a.run at_ j l m f a9 = (.e1 : L36a.O)) : LoopTo Try.prog (loopN Try.f36 0) (L36a.T at_ j l m f a9) (L36a.H at_ j l m f a9) (Exit.exit 0) (L36a.X at_ j l m f (.e1 : L36a.O)) (L36a.XH at_ j l m f (.e1 : L36a.O)) := by
  have h_ := L36a.spec at_ j l m f hm ((((↑m : Int) - a9).toNat) + 1) a9 hinv (Nat.lt_succ_self _)
  unfold L36a.run at hN
  simp only [hN] at h_
  exact h_

noncomputable def r36.v (at_ : Int) (j : Int) (l : Int) (m : Nat) (f : Nat → Int) : Bool := (match L36a.run at_ j l m f 0 with | .e0 => false | .e1 => true )
theorem r36 (at_ : Int) (j : Int) (l : Int) (m : Nat) (f : Nat → Int) (hm : m ≤ 9223372036854775807) (h : AHeap) : Ret Try.prog 36 ([AV.int IntKind.i64 at_, AV.int IntKind.i64 j, AV.int IntKind.i64 l, ivs m f]) h (AV.bool (r36.v at_ j l m f)) h := by
  have o0 : m ≤ (9223372036854775807 : Nat) := by first | assumption | omega | (simp_all; done)
  have o1 : (0 : Int) ≤ (↑m : Int) ∨ (0 : Int) ≤ (0 : Int) := by first | assumption | omega | (simp_all; done)
  cases h1 : L36a.run at_ j l m f 0 with
  | e0 =>
    exact Ret.of_run1 mix [(AV.bool (r36.v at_ j l m f))] Try.func36 rfl [.loop (others 26 [0, 1, 2, 3, 9]) (Exit.ret) (L36a.X at_ j l m f L36a.O.e0) (L36a.XH at_ j l m f L36a.O.e0)] (by simp) (by simp) (kmp (by kernel_rfl) (And.intro (L36a.e0 (at_) (j) (l) (m) (f) o0 (0) (And.intro (show (0 : Int) ≤ (0 : Int) by first | decide | exact Int.NonNeg.mk _) o1) h1) (And.intro (show (AV.bool false) = ((AV.bool (r36.v at_ j l m f))) by first | (simp only [r36.v, h1, cond_true, cond_false]; done) | (try unfold r36.v; try simp only [h1, cond_true, cond_false]; try rfl; done) | rfl) trivial))) h
  | e1 =>
    exact Ret.of_run1 mix [(AV.bool (r36.v at_ j l m f))] Try.func36 rfl [.loop (others 26 [0, 1, 2, 3, 9]) (Exit.exit 0) (L36a.X at_ j l m f L36a.O.e1) (L36a.XH at_ j l m f L36a.O.e1)] (by simp) (by simp) (kmp (by kernel_rfl) (And.intro (L36a.e1 (at_) (j) (l) (m) (f) o0 (0) (And.intro (show (0 : Int) ≤ (0 : Int) by first | decide | exact Int.NonNeg.mk _) o1) h1) (And.intro (show (AV.bool true) = ((AV.bool (r36.v at_ j l m f))) by first | (simp only [r36.v, h1, cond_true, cond_false]; done) | (try unfold r36.v; try simp only [h1, cond_true, cond_false]; try rfl; done) | rfl) trivial))) h

noncomputable def r63.v (n : Int) : Bool := bnot (r51.v n 1 20000)
theorem r63 (n : Int) (h : AHeap) : Ret Try.prog 63 ([AV.int IntKind.i64 n]) h (AV.bool (r63.v n)) h := by
  exact Ret.of_run1 mix [(AV.bool (r63.v n))] Try.func63 rfl [.ret (AV.bool (r51.v n 1 20000)) ([])] (by simp) (by simp) (kmp (by kernel_rfl) (And.intro (r51 (n) (1) (20000) ([])) (And.intro (show (AV.bool (bnot (r51.v n 1 20000))) = ((AV.bool (r63.v n))) by first | (simp only [r63.v, cond_true, cond_false]; done) | (try unfold r63.v; try rfl; done) | rfl) trivial))) h

noncomputable def r64.v (n : Int) : Bool := bnot (r51.v n 0 40000)
theorem r64 (n : Int) (h : AHeap) : Ret Try.prog 64 ([AV.int IntKind.i64 n]) h (AV.bool (r64.v n)) h := by
  exact Ret.of_run1 mix [(AV.bool (r64.v n))] Try.func64 rfl [.ret (AV.bool (r51.v n 0 40000)) ([])] (by simp) (by simp) (kmp (by kernel_rfl) (And.intro (r51 (n) (0) (40000) ([])) (And.intro (show (AV.bool (bnot (r51.v n 0 40000))) = ((AV.bool (r64.v n))) by first | (simp only [r64.v, cond_true, cond_false]; done) | (try unfold r64.v; try rfl; done) | rfl) trivial))) h

inductive L79aa.O where
  | e0 (a0 : Int)
  | e1
noncomputable def L79aa.T (m : Nat) (f : Nat → Int) (a8 : Int) : List AV := mkT 19 [(0, AV.sl 1 m fun (i : Nat) => AV.int IntKind.i64 (f i)), (1, AV.fn 63 []), (7, AV.int IntKind.i64 (↑m : Int)), (8, AV.int IntKind.i64 a8)]
noncomputable def L79aa.H (m : Nat) (f : Nat → Int) (a8 : Int) : AHeap := []
def L79aa.inv (m : Nat) (f : Nat → Int) (a8 : Int) : Prop := 0 ≤ a8 ∧ (a8 ≤ (↑m : Int) ∨ a8 ≤ 0)
noncomputable def L79aa.mu (m : Nat) (f : Nat → Int) (a8 : Int) : Nat := ((↑m : Int) - a8).toNat
noncomputable def L79aa.E : L79aa.O → Exit
  | .e0 a0 => Exit.ret
  | .e1 => Exit.exit 0
noncomputable def L79aa.X (m : Nat) (f : Nat → Int) : L79aa.O → List AV
  | .e0 a0 => mkT 19 [(4, (AV.int IntKind.i64 a0))]
  | .e1 => mkT 19 []
noncomputable def L79aa.XH (m : Nat) (f : Nat → Int) : L79aa.O → AHeap
  | .e0 a0 => ([])
  | .e1 => ([])
noncomputable def L79aa.N (m : Nat) (f : Nat → Int) : Nat → Int → L79aa.O
  | 0, _ => .e0 default
  | k_ + 1, a8 => (bif decide (a8 < (↑m : Int)) then (bif r63.v (f a8.toNat) then (.e0 (a8)) else (L79aa.N m f k_ (IntKind.i64.wrap (a8 + 1)))) else (.e1))
noncomputable def L79aa.run (m : Nat) (f : Nat → Int) (a8 : Int) : L79aa.O := L79aa.N m f ((((↑m : Int) - a8).toNat) + 1) a8
def L79aa.Next (m : Nat) (f : Nat → Int) (k_ : Nat) (z_ : Int) (T_ : List AV) (h_ : AHeap) : Prop := LNextP (fun (z_ : Int) => L79aa.T m f z_) (fun (z_ : Int) => L79aa.H m f z_) (fun (z_ : Int) => L79aa.inv m f z_) (fun (z_ : Int) => L79aa.mu m f z_) (fun (k_ : Nat) (z_ : Int) => L79aa.N m f k_ z_) k_ z_ T_ h_
def L79aa.End (m : Nat) (f : Nat → Int) (k_ : Nat) (z_ : Int) (e_ : Exit) (T_ : List AV) (h_ : AHeap) : Prop := LEndP (fun (z_ : Int) => L79aa.H m f z_) (fun (k_ : Nat) (z_ : Int) => L79aa.N m f k_ z_) L79aa.E (L79aa.X m f) (L79aa.XH m f) k_ z_ e_ T_ h_
theorem L79aa.nx (m : Nat) (f : Nat → Int) {k_ : Nat} {z_ : Int} {h_ : AHeap} (s_ : Int) (h1 : L79aa.inv m f s_) (h2 : L79aa.mu m f s_ < L79aa.mu m f z_) (h3 : L79aa.N m f k_ s_ = L79aa.N m f (k_ + 1) z_) (h4 : PopOk (L79aa.H m f z_) h_ (L79aa.T m f s_) (L79aa.H m f s_)) : LNextP (fun (z_ : Int) => L79aa.T m f z_) (fun (z_ : Int) => L79aa.H m f z_) (fun (z_ : Int) => L79aa.inv m f z_) (fun (z_ : Int) => L79aa.mu m f z_) (fun (k_ : Nat) (z_ : Int) => L79aa.N m f k_ z_) k_ z_ (L79aa.T m f s_) h_ := LNextP.mk (Tm := (fun (z_ : Int) => L79aa.T m f z_)) (Hp := (fun (z_ : Int) => L79aa.H m f z_)) (inv := (fun (z_ : Int) => L79aa.inv m f z_)) (mu := (fun (z_ : Int) => L79aa.mu m f z_)) (l := (fun (k_ : Nat) (z_ : Int) => L79aa.N m f k_ z_)) s_ h1 h2 h3 h4
theorem L79aa.en (m : Nat) (f : Nat → Int) {k_ : Nat} {z_ : Int} {h_ : AHeap} (o_ : L79aa.O) (h3 : L79aa.N m f (k_ + 1) z_ = o_) (h4 : PopOk (L79aa.H m f z_) h_ (L79aa.X m f o_) (L79aa.XH m f o_)) : LEndP (fun (z_ : Int) => L79aa.H m f z_) (fun (k_ : Nat) (z_ : Int) => L79aa.N m f k_ z_) L79aa.E (L79aa.X m f) (L79aa.XH m f) k_ z_ (L79aa.E o_) (L79aa.X m f o_) h_ := LEndP.mk (Hp := (fun (z_ : Int) => L79aa.H m f z_)) (l := (fun (k_ : Nat) (z_ : Int) => L79aa.N m f k_ z_)) (oE := L79aa.E) (oT := L79aa.X m f) (oH := L79aa.XH m f) o_ h3 h4
theorem L79aa.spec (m : Nat) (f : Nat → Int) (hm : m ≤ 9223372036854775807) (k_ : Nat) (z_ : Int) (hi_ : L79aa.inv m f z_) (hm_ : L79aa.mu m f z_ < k_) : LoopTo Try.prog (loopN Try.f79 0) (L79aa.T m f z_) (L79aa.H m f z_) (L79aa.E (L79aa.N m f k_ z_)) (L79aa.X m f (L79aa.N m f k_ z_)) (L79aa.XH m f (L79aa.N m f k_ z_)) := by
  refine LoopTo.fuelP mix (fun (z_ : Int) => L79aa.T m f z_) (fun (z_ : Int) => L79aa.H m f z_) (fun (z_ : Int) => L79aa.inv m f z_) (fun (z_ : Int) => L79aa.mu m f z_) (fun (k_ : Nat) (z_ : Int) => L79aa.N m f k_ z_) L79aa.E (L79aa.X m f) (L79aa.XH m f) (others 19 [0, 1, 7, 8]) (others 19 [4]) (others 19 []) ?_ k_ z_ hi_ hm_
  clear hm_ hi_ z_ k_
  intro k_ z_ hinv hmu
  revert hinv hmu; revert z_; intro a8 hinv hmu
  have hinv : 0 ≤ a8 ∧ (a8 ≤ (↑m : Int) ∨ a8 ≤ 0) := hinv
  have hmu : (((↑m : Int) - a8).toNat) < k_ + 1 := hmu
  cases h1 : decide (a8 < (↑m : Int)) with
  | true =>
    have h1p := of_decide_eq_true h1
    have o0 : (0 : Int) ≤ a8 := by first | assumption | omega | (simp_all; done)
    have o1 : a8 < (↑m : Int) := by first | assumption | omega | (simp_all; done)
    cases h2 : r63.v (f a8.toNat) with
    | true =>
      exact ⟨[.b true, .ret (AV.bool (r63.v (f a8.toNat))) ([]), .b true], kmp (by kernel_rfl) (And.intro h1 (And.intro (And.intro o0 o1) (And.intro (r63 (f a8.toNat) ([])) (And.intro h2 (L79aa.en m f (k_ := k_) (z_ := a8) (.e0 (a8) : L79aa.O) (by first | (simp only [L79aa.N, h1, h2, cond_true, cond_false]; done) | (try unfold L79aa.N; try simp only [h1, cond_true, cond_false]; try simp only [h2, cond_true, cond_false]; try rfl; done)) PopOk.same)))))⟩
    | false =>
      try have := IntWalk.i64_in (a8 + 1) (by omega)
      have o2 : (0 : Int) ≤ IntKind.i64.wrap (a8 + (1 : Int)) := by first | assumption | omega | (simp_all; done)
      have o3 : IntKind.i64.wrap (a8 + (1 : Int)) ≤ (↑m : Int) ∨ IntKind.i64.wrap (a8 + (1 : Int)) ≤ (0 : Int) := by first | assumption | omega | (simp_all; done)
      have o4 : ((↑m : Int) - IntKind.i64.wrap (a8 + (1 : Int))).toNat < ((↑m : Int) - a8).toNat := by first | assumption | omega | (simp_all; done)
      exact ⟨[.b true, .ret (AV.bool (r63.v (f a8.toNat))) ([]), .b false], kmp (by kernel_rfl) (And.intro h1 (And.intro (And.intro o0 o1) (And.intro (r63 (f a8.toNat) ([])) (And.intro h2 (L79aa.nx m f (k_ := k_) (z_ := a8) (IntKind.i64.wrap (a8 + 1)) (And.intro o2 o3) o4 (by first | (simp only [L79aa.N, h1, h2, cond_true, cond_false]; done) | (try unfold L79aa.N; try simp only [h1, cond_true, cond_false]; try simp only [h2, cond_true, cond_false]; try rfl; done)) PopOk.same)))))⟩
  | false =>
    have h1p := of_decide_eq_false h1
    exact ⟨[.b false], kmp (by kernel_rfl) (And.intro h1 (L79aa.en m f (k_ := k_) (z_ := a8) (.e1 : L79aa.O) (by first | (simp only [L79aa.N, h1, cond_true, cond_false]; done) | (try unfold L79aa.N; try simp only [h1, cond_true, cond_false]; try rfl; done)) PopOk.same))⟩
theorem L79aa.e0 (m : Nat) (f : Nat → Int) (hm : m ≤ 9223372036854775807) (a8 : Int) (hinv : L79aa.inv m f a8) (a0 : Int) (hN : L79aa.run m f a8 = (.e0 a0 : L79aa.O)) : LoopTo Try.prog (loopN Try.f79 0) (L79aa.T m f a8) (L79aa.H m f a8) (Exit.ret) (L79aa.X m f (.e0 a0 : L79aa.O)) (L79aa.XH m f (.e0 a0 : L79aa.O)) := by
  have h_ := L79aa.spec m f hm ((((↑m : Int) - a8).toNat) + 1) a8 hinv (Nat.lt_succ_self _)
  unfold L79aa.run at hN
  simp only [hN] at h_
  exact h_
theorem L79aa.e1 (m : Nat) (f : Nat → Int) (hm : m ≤ 9223372036854775807) (a8 : Int) (hinv : L79aa.inv m f a8) (hN : L79aa.run m f a8 = (.e1 : L79aa.O)) : LoopTo Try.prog (loopN Try.f79 0) (L79aa.T m f a8) (L79aa.H m f a8) (Exit.exit 0) (L79aa.X m f (.e1 : L79aa.O)) (L79aa.XH m f (.e1 : L79aa.O)) := by
  have h_ := L79aa.spec m f hm ((((↑m : Int) - a8).toNat) + 1) a8 hinv (Nat.lt_succ_self _)
  unfold L79aa.run at hN
  simp only [hN] at h_
  exact h_

noncomputable def r79a.v (m : Nat) (f : Nat → Int) : Int := (match L79aa.run m f 0 with | .e0 h1d0 => h1d0 | .e1 => -1 )
theorem r79a (m : Nat) (f : Nat → Int) (hm : m ≤ 9223372036854775807) (h : AHeap) : Ret Try.prog 79 ([ivs m f, AV.fn 63 []]) h (AV.int IntKind.i64 (r79a.v m f)) h := by
  have o0 : m ≤ (9223372036854775807 : Nat) := by first | assumption | omega | (simp_all; done)
  have o1 : (0 : Int) ≤ (↑m : Int) ∨ (0 : Int) ≤ (0 : Int) := by first | assumption | omega | (simp_all; done)
  cases h1 : L79aa.run m f 0 with
  | e0 h1d0 =>
    exact Ret.of_run1 mix [(AV.int IntKind.i64 (r79a.v m f))] Try.func79 rfl [.loop (others 19 [0, 1, 7, 8]) (Exit.ret) (L79aa.X m f (L79aa.O.e0 h1d0)) (L79aa.XH m f (L79aa.O.e0 h1d0))] (by simp) (by simp) (kmp (by kernel_rfl) (And.intro (L79aa.e0 (m) (f) o0 (0) (And.intro (show (0 : Int) ≤ (0 : Int) by first | decide | exact Int.NonNeg.mk _) o1) h1d0 h1) (And.intro (show (AV.int IntKind.i64 h1d0) = ((AV.int IntKind.i64 (r79a.v m f))) by first | (simp only [r79a.v, h1, cond_true, cond_false]; done) | (try unfold r79a.v; try simp only [h1, cond_true, cond_false]; try rfl; done) | rfl) trivial))) h
  | e1 =>
    exact Ret.of_run1 mix [(AV.int IntKind.i64 (r79a.v m f))] Try.func79 rfl [.loop (others 19 [0, 1, 7, 8]) (Exit.exit 0) (L79aa.X m f L79aa.O.e1) (L79aa.XH m f L79aa.O.e1)] (by simp) (by simp) (kmp (by kernel_rfl) (And.intro (L79aa.e1 (m) (f) o0 (0) (And.intro (show (0 : Int) ≤ (0 : Int) by first | decide | exact Int.NonNeg.mk _) o1) h1) (And.intro (show (AV.int IntKind.i64 (-1)) = ((AV.int IntKind.i64 (r79a.v m f))) by first | (simp only [r79a.v, h1, cond_true, cond_false]; done) | (try unfold r79a.v; try simp only [h1, cond_true, cond_false]; try rfl; done) | rfl) trivial))) h

noncomputable def r62a.v (m : Nat) (f : Nat → Int) : Bool := decide (r79a.v m f ≥ 0)
theorem r62a (m : Nat) (f : Nat → Int) (hm : m ≤ 9223372036854775807) (h : AHeap) : Ret Try.prog 62 ([ivs m f, AV.fn 63 []]) h (AV.bool (r62a.v m f)) h := by
  have o0 : m ≤ (9223372036854775807 : Nat) := by first | assumption | omega | (simp_all; done)
  exact Ret.of_run1 mix [(AV.bool (r62a.v m f))] Try.func62 rfl [.ret (AV.int IntKind.i64 (r79a.v m f)) ([])] (by simp) (by simp) (kmp (by kernel_rfl) (And.intro (r79a (m) (f) o0 ([])) (And.intro (show (AV.bool (decide (r79a.v m f ≥ 0))) = ((AV.bool (r62a.v m f))) by first | (simp only [r62a.v, cond_true, cond_false]; done) | (try unfold r62a.v; try rfl; done) | rfl) trivial))) h

inductive L79ba.O where
  | e0 (a0 : Int)
  | e1
noncomputable def L79ba.T (m : Nat) (f : Nat → Int) (a8 : Int) : List AV := mkT 19 [(0, AV.sl 1 m fun (i : Nat) => AV.int IntKind.i64 (f i)), (1, AV.fn 64 []), (7, AV.int IntKind.i64 (↑m : Int)), (8, AV.int IntKind.i64 a8)]
noncomputable def L79ba.H (m : Nat) (f : Nat → Int) (a8 : Int) : AHeap := []
def L79ba.inv (m : Nat) (f : Nat → Int) (a8 : Int) : Prop := 0 ≤ a8 ∧ (a8 ≤ (↑m : Int) ∨ a8 ≤ 0)
noncomputable def L79ba.mu (m : Nat) (f : Nat → Int) (a8 : Int) : Nat := ((↑m : Int) - a8).toNat
noncomputable def L79ba.E : L79ba.O → Exit
  | .e0 a0 => Exit.ret
  | .e1 => Exit.exit 0
noncomputable def L79ba.X (m : Nat) (f : Nat → Int) : L79ba.O → List AV
  | .e0 a0 => mkT 19 [(4, (AV.int IntKind.i64 a0))]
  | .e1 => mkT 19 []
noncomputable def L79ba.XH (m : Nat) (f : Nat → Int) : L79ba.O → AHeap
  | .e0 a0 => ([])
  | .e1 => ([])
noncomputable def L79ba.N (m : Nat) (f : Nat → Int) : Nat → Int → L79ba.O
  | 0, _ => .e0 default
  | k_ + 1, a8 => (bif decide (a8 < (↑m : Int)) then (bif r64.v (f a8.toNat) then (.e0 (a8)) else (L79ba.N m f k_ (IntKind.i64.wrap (a8 + 1)))) else (.e1))
noncomputable def L79ba.run (m : Nat) (f : Nat → Int) (a8 : Int) : L79ba.O := L79ba.N m f ((((↑m : Int) - a8).toNat) + 1) a8
def L79ba.Next (m : Nat) (f : Nat → Int) (k_ : Nat) (z_ : Int) (T_ : List AV) (h_ : AHeap) : Prop := LNextP (fun (z_ : Int) => L79ba.T m f z_) (fun (z_ : Int) => L79ba.H m f z_) (fun (z_ : Int) => L79ba.inv m f z_) (fun (z_ : Int) => L79ba.mu m f z_) (fun (k_ : Nat) (z_ : Int) => L79ba.N m f k_ z_) k_ z_ T_ h_
def L79ba.End (m : Nat) (f : Nat → Int) (k_ : Nat) (z_ : Int) (e_ : Exit) (T_ : List AV) (h_ : AHeap) : Prop := LEndP (fun (z_ : Int) => L79ba.H m f z_) (fun (k_ : Nat) (z_ : Int) => L79ba.N m f k_ z_) L79ba.E (L79ba.X m f) (L79ba.XH m f) k_ z_ e_ T_ h_
theorem L79ba.nx (m : Nat) (f : Nat → Int) {k_ : Nat} {z_ : Int} {h_ : AHeap} (s_ : Int) (h1 : L79ba.inv m f s_) (h2 : L79ba.mu m f s_ < L79ba.mu m f z_) (h3 : L79ba.N m f k_ s_ = L79ba.N m f (k_ + 1) z_) (h4 : PopOk (L79ba.H m f z_) h_ (L79ba.T m f s_) (L79ba.H m f s_)) : LNextP (fun (z_ : Int) => L79ba.T m f z_) (fun (z_ : Int) => L79ba.H m f z_) (fun (z_ : Int) => L79ba.inv m f z_) (fun (z_ : Int) => L79ba.mu m f z_) (fun (k_ : Nat) (z_ : Int) => L79ba.N m f k_ z_) k_ z_ (L79ba.T m f s_) h_ := LNextP.mk (Tm := (fun (z_ : Int) => L79ba.T m f z_)) (Hp := (fun (z_ : Int) => L79ba.H m f z_)) (inv := (fun (z_ : Int) => L79ba.inv m f z_)) (mu := (fun (z_ : Int) => L79ba.mu m f z_)) (l := (fun (k_ : Nat) (z_ : Int) => L79ba.N m f k_ z_)) s_ h1 h2 h3 h4
theorem L79ba.en (m : Nat) (f : Nat → Int) {k_ : Nat} {z_ : Int} {h_ : AHeap} (o_ : L79ba.O) (h3 : L79ba.N m f (k_ + 1) z_ = o_) (h4 : PopOk (L79ba.H m f z_) h_ (L79ba.X m f o_) (L79ba.XH m f o_)) : LEndP (fun (z_ : Int) => L79ba.H m f z_) (fun (k_ : Nat) (z_ : Int) => L79ba.N m f k_ z_) L79ba.E (L79ba.X m f) (L79ba.XH m f) k_ z_ (L79ba.E o_) (L79ba.X m f o_) h_ := LEndP.mk (Hp := (fun (z_ : Int) => L79ba.H m f z_)) (l := (fun (k_ : Nat) (z_ : Int) => L79ba.N m f k_ z_)) (oE := L79ba.E) (oT := L79ba.X m f) (oH := L79ba.XH m f) o_ h3 h4
theorem L79ba.spec (m : Nat) (f : Nat → Int) (hm : m ≤ 9223372036854775807) (k_ : Nat) (z_ : Int) (hi_ : L79ba.inv m f z_) (hm_ : L79ba.mu m f z_ < k_) : LoopTo Try.prog (loopN Try.f79 0) (L79ba.T m f z_) (L79ba.H m f z_) (L79ba.E (L79ba.N m f k_ z_)) (L79ba.X m f (L79ba.N m f k_ z_)) (L79ba.XH m f (L79ba.N m f k_ z_)) := by
  refine LoopTo.fuelP mix (fun (z_ : Int) => L79ba.T m f z_) (fun (z_ : Int) => L79ba.H m f z_) (fun (z_ : Int) => L79ba.inv m f z_) (fun (z_ : Int) => L79ba.mu m f z_) (fun (k_ : Nat) (z_ : Int) => L79ba.N m f k_ z_) L79ba.E (L79ba.X m f) (L79ba.XH m f) (others 19 [0, 1, 7, 8]) (others 19 [4]) (others 19 []) ?_ k_ z_ hi_ hm_
  clear hm_ hi_ z_ k_
  intro k_ z_ hinv hmu
  revert hinv hmu; revert z_; intro a8 hinv hmu
  have hinv : 0 ≤ a8 ∧ (a8 ≤ (↑m : Int) ∨ a8 ≤ 0) := hinv
  have hmu : (((↑m : Int) - a8).toNat) < k_ + 1 := hmu
  cases h1 : decide (a8 < (↑m : Int)) with
  | true =>
    have h1p := of_decide_eq_true h1
    have o0 : (0 : Int) ≤ a8 := by first | assumption | omega | (simp_all; done)
    have o1 : a8 < (↑m : Int) := by first | assumption | omega | (simp_all; done)
    cases h2 : r64.v (f a8.toNat) with
    | true =>
      exact ⟨[.b true, .ret (AV.bool (r64.v (f a8.toNat))) ([]), .b true], kmp (by kernel_rfl) (And.intro h1 (And.intro (And.intro o0 o1) (And.intro (r64 (f a8.toNat) ([])) (And.intro h2 (L79ba.en m f (k_ := k_) (z_ := a8) (.e0 (a8) : L79ba.O) (by first | (simp only [L79ba.N, h1, h2, cond_true, cond_false]; done) | (try unfold L79ba.N; try simp only [h1, cond_true, cond_false]; try simp only [h2, cond_true, cond_false]; try rfl; done)) PopOk.same)))))⟩
    | false =>
      try have := IntWalk.i64_in (a8 + 1) (by omega)
      have o2 : (0 : Int) ≤ IntKind.i64.wrap (a8 + (1 : Int)) := by first | assumption | omega | (simp_all; done)
      have o3 : IntKind.i64.wrap (a8 + (1 : Int)) ≤ (↑m : Int) ∨ IntKind.i64.wrap (a8 + (1 : Int)) ≤ (0 : Int) := by first | assumption | omega | (simp_all; done)
      have o4 : ((↑m : Int) - IntKind.i64.wrap (a8 + (1 : Int))).toNat < ((↑m : Int) - a8).toNat := by first | assumption | omega | (simp_all; done)
      exact ⟨[.b true, .ret (AV.bool (r64.v (f a8.toNat))) ([]), .b false], kmp (by kernel_rfl) (And.intro h1 (And.intro (And.intro o0 o1) (And.intro (r64 (f a8.toNat) ([])) (And.intro h2 (L79ba.nx m f (k_ := k_) (z_ := a8) (IntKind.i64.wrap (a8 + 1)) (And.intro o2 o3) o4 (by first | (simp only [L79ba.N, h1, h2, cond_true, cond_false]; done) | (try unfold L79ba.N; try simp only [h1, cond_true, cond_false]; try simp only [h2, cond_true, cond_false]; try rfl; done)) PopOk.same)))))⟩
  | false =>
    have h1p := of_decide_eq_false h1
    exact ⟨[.b false], kmp (by kernel_rfl) (And.intro h1 (L79ba.en m f (k_ := k_) (z_ := a8) (.e1 : L79ba.O) (by first | (simp only [L79ba.N, h1, cond_true, cond_false]; done) | (try unfold L79ba.N; try simp only [h1, cond_true, cond_false]; try rfl; done)) PopOk.same))⟩
theorem L79ba.e0 (m : Nat) (f : Nat → Int) (hm : m ≤ 9223372036854775807) (a8 : Int) (hinv : L79ba.inv m f a8) (a0 : Int) (hN : L79ba.run m f a8 = (.e0 a0 : L79ba.O)) : LoopTo Try.prog (loopN Try.f79 0) (L79ba.T m f a8) (L79ba.H m f a8) (Exit.ret) (L79ba.X m f (.e0 a0 : L79ba.O)) (L79ba.XH m f (.e0 a0 : L79ba.O)) := by
  have h_ := L79ba.spec m f hm ((((↑m : Int) - a8).toNat) + 1) a8 hinv (Nat.lt_succ_self _)
  unfold L79ba.run at hN
  simp only [hN] at h_
  exact h_
theorem L79ba.e1 (m : Nat) (f : Nat → Int) (hm : m ≤ 9223372036854775807) (a8 : Int) (hinv : L79ba.inv m f a8) (hN : L79ba.run m f a8 = (.e1 : L79ba.O)) : LoopTo Try.prog (loopN Try.f79 0) (L79ba.T m f a8) (L79ba.H m f a8) (Exit.exit 0) (L79ba.X m f (.e1 : L79ba.O)) (L79ba.XH m f (.e1 : L79ba.O)) := by
  have h_ := L79ba.spec m f hm ((((↑m : Int) - a8).toNat) + 1) a8 hinv (Nat.lt_succ_self _)
  unfold L79ba.run at hN
  simp only [hN] at h_
  exact h_

noncomputable def r79b.v (m : Nat) (f : Nat → Int) : Int := (match L79ba.run m f 0 with | .e0 h1d0 => h1d0 | .e1 => -1 )
theorem r79b (m : Nat) (f : Nat → Int) (hm : m ≤ 9223372036854775807) (h : AHeap) : Ret Try.prog 79 ([ivs m f, AV.fn 64 []]) h (AV.int IntKind.i64 (r79b.v m f)) h := by
  have o0 : m ≤ (9223372036854775807 : Nat) := by first | assumption | omega | (simp_all; done)
  have o1 : (0 : Int) ≤ (↑m : Int) ∨ (0 : Int) ≤ (0 : Int) := by first | assumption | omega | (simp_all; done)
  cases h1 : L79ba.run m f 0 with
  | e0 h1d0 =>
    exact Ret.of_run1 mix [(AV.int IntKind.i64 (r79b.v m f))] Try.func79 rfl [.loop (others 19 [0, 1, 7, 8]) (Exit.ret) (L79ba.X m f (L79ba.O.e0 h1d0)) (L79ba.XH m f (L79ba.O.e0 h1d0))] (by simp) (by simp) (kmp (by kernel_rfl) (And.intro (L79ba.e0 (m) (f) o0 (0) (And.intro (show (0 : Int) ≤ (0 : Int) by first | decide | exact Int.NonNeg.mk _) o1) h1d0 h1) (And.intro (show (AV.int IntKind.i64 h1d0) = ((AV.int IntKind.i64 (r79b.v m f))) by first | (simp only [r79b.v, h1, cond_true, cond_false]; done) | (try unfold r79b.v; try simp only [h1, cond_true, cond_false]; try rfl; done) | rfl) trivial))) h
  | e1 =>
    exact Ret.of_run1 mix [(AV.int IntKind.i64 (r79b.v m f))] Try.func79 rfl [.loop (others 19 [0, 1, 7, 8]) (Exit.exit 0) (L79ba.X m f L79ba.O.e1) (L79ba.XH m f L79ba.O.e1)] (by simp) (by simp) (kmp (by kernel_rfl) (And.intro (L79ba.e1 (m) (f) o0 (0) (And.intro (show (0 : Int) ≤ (0 : Int) by first | decide | exact Int.NonNeg.mk _) o1) h1) (And.intro (show (AV.int IntKind.i64 (-1)) = ((AV.int IntKind.i64 (r79b.v m f))) by first | (simp only [r79b.v, h1, cond_true, cond_false]; done) | (try unfold r79b.v; try simp only [h1, cond_true, cond_false]; try rfl; done) | rfl) trivial))) h

noncomputable def r62b.v (m : Nat) (f : Nat → Int) : Bool := decide (r79b.v m f ≥ 0)
theorem r62b (m : Nat) (f : Nat → Int) (hm : m ≤ 9223372036854775807) (h : AHeap) : Ret Try.prog 62 ([ivs m f, AV.fn 64 []]) h (AV.bool (r62b.v m f)) h := by
  have o0 : m ≤ (9223372036854775807 : Nat) := by first | assumption | omega | (simp_all; done)
  exact Ret.of_run1 mix [(AV.bool (r62b.v m f))] Try.func62 rfl [.ret (AV.int IntKind.i64 (r79b.v m f)) ([])] (by simp) (by simp) (kmp (by kernel_rfl) (And.intro (r79b (m) (f) o0 ([])) (And.intro (show (AV.bool (decide (r79b.v m f ≥ 0))) = ((AV.bool (r62b.v m f))) by first | (simp only [r62b.v, cond_true, cond_false]; done) | (try unfold r62b.v; try rfl; done) | rfl) trivial))) h

end Go.Proofs.Ytjdbmmilcihpoaa

/- The inputs of the wall's laws of layouts. Conditions: none. -/
open Go
namespace Go.Proofs.Ytjdbmmilcihpoaa
open Go.ChangeShapes Go.WideShapes Go.ChangeAt Go.RowKit
set_option maxRecDepth 100000
theorem own : ownKnob Try.prog.godebug = none := by kernel_rfl
theorem laidOut : laidOutB Try.prog = true := by kernel_rfl

theorem lf_int {P : Program} {a : AV} (h : LfFits P [.int .i64] [a]) : ∃ n, a = .int .i64 n := by
  obtain ⟨n, _, e, _, rfl⟩ := h
  cases e
  exact ⟨n, rfl⟩
theorem lf_sl {P : Program} {k e sz : Nat} {a : AV} (h : LfFits P [.sl k e sz] [a]) : ∃ n f, a = .sl sz n f ∧ n ≤ maxLen ∧ ∀ i, i < n → Fits P k e (f i).cells := by
  obtain ⟨n, f, _, e, h1, h2, rfl⟩ := h
  cases e
  exact ⟨n, f, rfl, h1, h2⟩
theorem arg_int {a : AV} (h : FitsV Try.prog 5 3 a) : ∃ n, a = .int .i64 n :=
  lf_int (fitsV_one (by kernel_rfl) (by kernel_rfl : flat Try.prog 5 3 = some [.int .i64]) h)
theorem flat4_3 : flat Try.prog 4 3 = some [.int .i64] := by kernel_rfl
theorem arg_ints {a : AV} (h : FitsV Try.prog 5 22 a) : ∃ (m : Nat) (f : Nat → Int), m ≤ 9223372036854775807 ∧ Imp a (ivs m f) := by
  obtain ⟨n, f, e, h1, h2⟩ := lf_sl (fitsV_one (by kernel_rfl) (by kernel_rfl : flat Try.prog 5 22 = some [.sl 4 3 1]) h)
  obtain ⟨r, hr⟩ := imp_ints flat4_3 h2
  rw [e]
  exact ⟨n, r, le_max h1, hr⟩
end Go.Proofs.Ytjdbmmilcihpoaa

/- the wall seat's contracts: arguments of layouts, and lists. -/
open Go
namespace Go.Proofs.Ytjdbmmilcihpoaa
set_option linter.unusedSimpArgs false
set_option linter.unusedVariables false
set_option maxHeartbeats 0
set_option maxRecDepth 100000
inductive L32a.O where
  | e0
  | e1
noncomputable def L32a.T (L : Int) (j : Int) (l : Int) (n : Nat) (f : Nat → Int) (m : Nat) (g : Nat → Int) (a11 : Int) : List AV := mkT 63 [(3, AV.sl 1 n fun (i : Nat) => AV.int IntKind.i64 (f i)), (11, AV.int IntKind.i64 a11)]
noncomputable def L32a.H (L : Int) (j : Int) (l : Int) (n : Nat) (f : Nat → Int) (m : Nat) (g : Nat → Int) (a11 : Int) : AHeap := []
def L32a.inv (L : Int) (j : Int) (l : Int) (n : Nat) (f : Nat → Int) (m : Nat) (g : Nat → Int) (a11 : Int) : Prop := 1 ≤ a11 ∧ (a11 ≤ (↑n : Int) ∨ a11 ≤ 1)
noncomputable def L32a.mu (L : Int) (j : Int) (l : Int) (n : Nat) (f : Nat → Int) (m : Nat) (g : Nat → Int) (a11 : Int) : Nat := ((↑n : Int) - a11).toNat
noncomputable def L32a.E : L32a.O → Exit
  | .e0 => Exit.ret
  | .e1 => Exit.exit 1
noncomputable def L32a.X (L : Int) (j : Int) (l : Int) (n : Nat) (f : Nat → Int) (m : Nat) (g : Nat → Int) : L32a.O → List AV
  | .e0 => mkT 63 [(10, (AV.int IntKind.i64 1))]
  | .e1 => mkT 63 []
noncomputable def L32a.XH (L : Int) (j : Int) (l : Int) (n : Nat) (f : Nat → Int) (m : Nat) (g : Nat → Int) : L32a.O → AHeap
  | .e0 => ([])
  | .e1 => ([])
noncomputable def L32a.N (n : Nat) (f : Nat → Int) : Nat → Int → L32a.O
  | 0, _ => .e0
  | k_ + 1, a11 => (bif decide (a11 < (↑n : Int)) then (bif decide (f (IntKind.i64.wrap (a11 - 1)).toNat ≥ f a11.toNat) then (.e0) else (L32a.N n f k_ (IntKind.i64.wrap (a11 + 1)))) else (.e1))
noncomputable def L32a.run (n : Nat) (f : Nat → Int) (a11 : Int) : L32a.O := L32a.N n f ((((↑n : Int) - a11).toNat) + 1) a11
def L32a.Next (L : Int) (j : Int) (l : Int) (n : Nat) (f : Nat → Int) (m : Nat) (g : Nat → Int) (k_ : Nat) (z_ : Int) (T_ : List AV) (h_ : AHeap) : Prop := LNextP (fun (z_ : Int) => L32a.T L j l n f m g z_) (fun (z_ : Int) => L32a.H L j l n f m g z_) (fun (z_ : Int) => L32a.inv L j l n f m g z_) (fun (z_ : Int) => L32a.mu L j l n f m g z_) (fun (k_ : Nat) (z_ : Int) => L32a.N n f k_ z_) k_ z_ T_ h_
def L32a.End (L : Int) (j : Int) (l : Int) (n : Nat) (f : Nat → Int) (m : Nat) (g : Nat → Int) (k_ : Nat) (z_ : Int) (e_ : Exit) (T_ : List AV) (h_ : AHeap) : Prop := LEndP (fun (z_ : Int) => L32a.H L j l n f m g z_) (fun (k_ : Nat) (z_ : Int) => L32a.N n f k_ z_) L32a.E (L32a.X L j l n f m g) (L32a.XH L j l n f m g) k_ z_ e_ T_ h_
theorem L32a.nx (L : Int) (j : Int) (l : Int) (n : Nat) (f : Nat → Int) (m : Nat) (g : Nat → Int) {k_ : Nat} {z_ : Int} {h_ : AHeap} (s_ : Int) (h1 : L32a.inv L j l n f m g s_) (h2 : L32a.mu L j l n f m g s_ < L32a.mu L j l n f m g z_) (h3 : L32a.N n f k_ s_ = L32a.N n f (k_ + 1) z_) (h4 : PopOk (L32a.H L j l n f m g z_) h_ (L32a.T L j l n f m g s_) (L32a.H L j l n f m g s_)) : LNextP (fun (z_ : Int) => L32a.T L j l n f m g z_) (fun (z_ : Int) => L32a.H L j l n f m g z_) (fun (z_ : Int) => L32a.inv L j l n f m g z_) (fun (z_ : Int) => L32a.mu L j l n f m g z_) (fun (k_ : Nat) (z_ : Int) => L32a.N n f k_ z_) k_ z_ (L32a.T L j l n f m g s_) h_ := LNextP.mk (Tm := (fun (z_ : Int) => L32a.T L j l n f m g z_)) (Hp := (fun (z_ : Int) => L32a.H L j l n f m g z_)) (inv := (fun (z_ : Int) => L32a.inv L j l n f m g z_)) (mu := (fun (z_ : Int) => L32a.mu L j l n f m g z_)) (l := (fun (k_ : Nat) (z_ : Int) => L32a.N n f k_ z_)) s_ h1 h2 h3 h4
theorem L32a.en (L : Int) (j : Int) (l : Int) (n : Nat) (f : Nat → Int) (m : Nat) (g : Nat → Int) {k_ : Nat} {z_ : Int} {h_ : AHeap} (o_ : L32a.O) (h3 : L32a.N n f (k_ + 1) z_ = o_) (h4 : PopOk (L32a.H L j l n f m g z_) h_ (L32a.X L j l n f m g o_) (L32a.XH L j l n f m g o_)) : LEndP (fun (z_ : Int) => L32a.H L j l n f m g z_) (fun (k_ : Nat) (z_ : Int) => L32a.N n f k_ z_) L32a.E (L32a.X L j l n f m g) (L32a.XH L j l n f m g) k_ z_ (L32a.E o_) (L32a.X L j l n f m g o_) h_ := LEndP.mk (Hp := (fun (z_ : Int) => L32a.H L j l n f m g z_)) (l := (fun (k_ : Nat) (z_ : Int) => L32a.N n f k_ z_)) (oE := L32a.E) (oT := L32a.X L j l n f m g) (oH := L32a.XH L j l n f m g) o_ h3 h4
theorem L32a.spec (L : Int) (j : Int) (l : Int) (n : Nat) (f : Nat → Int) (hn : n ≤ 9223372036854775807) (m : Nat) (g : Nat → Int) (hm : m ≤ 9223372036854775807) (k0_1 : decide ((↑n : Int) > 16) = false) (p0_1 : ¬(↑n : Int) > 16) (k0_2 : decide ((↑m : Int) > 200) = false) (p0_2 : ¬(↑m : Int) > 200) (k0_3 : r51.v L 1 20000 = true) (k0_4 : r51.v j 0 1000 = true) (k0_5 : r51.v l 0 20000 = true) (k0_6 : r62a.v n f = false) (k0_7 : r62b.v m g = false) (k0_8 : ((↑n : Int) == 0) = false) (p0_8 : (↑n : Int) ≠ 0) (k_ : Nat) (z_ : Int) (hi_ : L32a.inv L j l n f m g z_) (hm_ : L32a.mu L j l n f m g z_ < k_) : LoopTo Try.prog (loopN Try.f32 0) (L32a.T L j l n f m g z_) (L32a.H L j l n f m g z_) (L32a.E (L32a.N n f k_ z_)) (L32a.X L j l n f m g (L32a.N n f k_ z_)) (L32a.XH L j l n f m g (L32a.N n f k_ z_)) := by
  refine LoopTo.fuelP mix (fun (z_ : Int) => L32a.T L j l n f m g z_) (fun (z_ : Int) => L32a.H L j l n f m g z_) (fun (z_ : Int) => L32a.inv L j l n f m g z_) (fun (z_ : Int) => L32a.mu L j l n f m g z_) (fun (k_ : Nat) (z_ : Int) => L32a.N n f k_ z_) L32a.E (L32a.X L j l n f m g) (L32a.XH L j l n f m g) (others 63 [3, 11]) (others 63 [10]) (others 63 []) ?_ k_ z_ hi_ hm_
  clear hm_ hi_ z_ k_
  intro k_ z_ hinv hmu
  revert hinv hmu; revert z_; intro a11 hinv hmu
  have hinv : 1 ≤ a11 ∧ (a11 ≤ (↑n : Int) ∨ a11 ≤ 1) := hinv
  have hmu : (((↑n : Int) - a11).toNat) < k_ + 1 := hmu
  cases h1 : decide (a11 < (↑n : Int)) with
  | true =>
    have h1p := of_decide_eq_true h1
    try have := IntWalk.i64_in (a11 - 1) (by omega)
    have o0 : (0 : Int) ≤ IntKind.i64.wrap (a11 - (1 : Int)) := by first | assumption | omega | (simp_all; done)
    have o1 : IntKind.i64.wrap (a11 - (1 : Int)) < (↑n : Int) := by first | assumption | omega | (simp_all; done)
    have o2 : (0 : Int) ≤ a11 := by first | assumption | omega | (simp_all; done)
    have o3 : a11 < (↑n : Int) := by first | assumption | omega | (simp_all; done)
    cases h2 : decide (f (IntKind.i64.wrap (a11 - 1)).toNat ≥ f a11.toNat) with
    | true =>
      have h2p := of_decide_eq_true h2
      exact ⟨[.b true, .b true], kmp (by kernel_rfl) (And.intro h1 (And.intro (And.intro o0 o1) (And.intro (And.intro o2 o3) (And.intro h2 (L32a.en L j l n f m g (k_ := k_) (z_ := a11) (.e0 : L32a.O) (by first | (simp only [L32a.N, h1, h2, cond_true, cond_false]; done) | (try unfold L32a.N; try simp only [h1, cond_true, cond_false]; try simp only [h2, cond_true, cond_false]; try rfl; done)) PopOk.same)))))⟩
    | false =>
      have h2p := of_decide_eq_false h2
      try have := IntWalk.i64_in (a11 + 1) (by omega)
      have o4 : (1 : Int) ≤ IntKind.i64.wrap (a11 + (1 : Int)) := by first | assumption | omega | (simp_all; done)
      have o5 : IntKind.i64.wrap (a11 + (1 : Int)) ≤ (↑n : Int) ∨ IntKind.i64.wrap (a11 + (1 : Int)) ≤ (1 : Int) := by first | assumption | omega | (simp_all; done)
      have o6 : ((↑n : Int) - IntKind.i64.wrap (a11 + (1 : Int))).toNat < ((↑n : Int) - a11).toNat := by first | assumption | omega | (simp_all; done)
      exact ⟨[.b true, .b false], kmp (by kernel_rfl) (And.intro h1 (And.intro (And.intro o0 o1) (And.intro (And.intro o2 o3) (And.intro h2 (L32a.nx L j l n f m g (k_ := k_) (z_ := a11) (IntKind.i64.wrap (a11 + 1)) (And.intro o4 o5) o6 (by first | (simp only [L32a.N, h1, h2, cond_true, cond_false]; done) | (try unfold L32a.N; try simp only [h1, cond_true, cond_false]; try simp only [h2, cond_true, cond_false]; try rfl; done)) PopOk.same)))))⟩
  | false =>
    have h1p := of_decide_eq_false h1
    exact ⟨[.b false], kmp (by kernel_rfl) (And.intro h1 (L32a.en L j l n f m g (k_ := k_) (z_ := a11) (.e1 : L32a.O) (by first | (simp only [L32a.N, h1, cond_true, cond_false]; done) | (try unfold L32a.N; try simp only [h1, cond_true, cond_false]; try rfl; done)) PopOk.same))⟩
theorem L32a.e0 (L : Int) (j : Int) (l : Int) (n : Nat) (f : Nat → Int) (hn : n ≤ 9223372036854775807) (m : Nat) (g : Nat → Int) (hm : m ≤ 9223372036854775807) (k0_1 : decide ((↑n : Int) > 16) = false) (p0_1 : ¬(↑n : Int) > 16) (k0_2 : decide ((↑m : Int) > 200) = false) (p0_2 : ¬(↑m : Int) > 200) (k0_3 : r51.v L 1 20000 = true) (k0_4 : r51.v j 0 1000 = true) (k0_5 : r51.v l 0 20000 = true) (k0_6 : r62a.v n f = false) (k0_7 : r62b.v m g = false) (k0_8 : ((↑n : Int) == 0) = false) (p0_8 : (↑n : Int) ≠ 0) (a11 : Int) (hinv : L32a.inv L j l n f m g a11) (hN : L32a.run n f a11 = (.e0 : L32a.O)) : LoopTo Try.prog (loopN Try.f32 0) (L32a.T L j l n f m g a11) (L32a.H L j l n f m g a11) (Exit.ret) (L32a.X L j l n f m g (.e0 : L32a.O)) (L32a.XH L j l n f m g (.e0 : L32a.O)) := by
  have h_ := L32a.spec L j l n f hn m g hm k0_1 p0_1 k0_2 p0_2 k0_3 k0_4 k0_5 k0_6 k0_7 k0_8 p0_8 ((((↑n : Int) - a11).toNat) + 1) a11 hinv (Nat.lt_succ_self _)
  unfold L32a.run at hN
  simp only [hN] at h_
  exact h_
theorem L32a.e1 (L : Int) (j : Int) (l : Int) (n : Nat) (f : Nat → Int) (hn : n ≤ 9223372036854775807) (m : Nat) (g : Nat → Int) (hm : m ≤ 9223372036854775807) (k0_1 : decide ((↑n : Int) > 16) = false) (p0_1 : ¬(↑n : Int) > 16) (k0_2 : decide ((↑m : Int) > 200) = false) (p0_2 : ¬(↑m : Int) > 200) (k0_3 : r51.v L 1 20000 = true) (k0_4 : r51.v j 0 1000 = true) (k0_5 : r51.v l 0 20000 = true) (k0_6 : r62a.v n f = false) (k0_7 : r62b.v m g = false) (k0_8 : ((↑n : Int) == 0) = false) (p0_8 : (↑n : Int) ≠ 0) (a11 : Int) (hinv : L32a.inv L j l n f m g a11) (hN : L32a.run n f a11 = (.e1 : L32a.O)) : LoopTo Try.prog (loopN Try.f32 0) (L32a.T L j l n f m g a11) (L32a.H L j l n f m g a11) (Exit.exit 1) (L32a.X L j l n f m g (.e1 : L32a.O)) (L32a.XH L j l n f m g (.e1 : L32a.O)) := by
  have h_ := L32a.spec L j l n f hn m g hm k0_1 p0_1 k0_2 p0_2 k0_3 k0_4 k0_5 k0_6 k0_7 k0_8 p0_8 ((((↑n : Int) - a11).toNat) + 1) a11 hinv (Nat.lt_succ_self _)
  unfold L32a.run at hN
  simp only [hN] at h_
  exact h_

noncomputable def r32.v (L : Int) (j : Int) (l : Int) (n : Nat) (f : Nat → Int) (m : Nat) (g : Nat → Int) : Int := (bif decide ((↑n : Int) > 16) then 7 else (bif decide ((↑m : Int) > 200) then 7 else (bif r51.v L 1 20000 then (bif r51.v j 0 1000 then (bif r51.v l 0 20000 then (bif r62a.v n f then 6 else (bif r62b.v m g then 6 else (bif (↑n : Int) == 0 then 1 else (match L32a.run n f 1 with | .e0 => 1 | .e1 => 0 )))) else 6) else 6) else 6)))
theorem r32 (L : Int) (j : Int) (l : Int) (n : Nat) (f : Nat → Int) (hn : n ≤ 9223372036854775807) (m : Nat) (g : Nat → Int) (hm : m ≤ 9223372036854775807) (h : AHeap) : Ret Try.prog 32 ([AV.int IntKind.i64 L, AV.int IntKind.i64 j, AV.int IntKind.i64 l, ivs n f, ivs m g]) h (AV.int IntKind.i64 (r32.v L j l n f m g)) h := by
  cases h1 : decide ((↑n : Int) > 16) with
  | true =>
    have h1p := of_decide_eq_true h1
    exact Ret.of_run1 mix [(AV.int IntKind.i64 (r32.v L j l n f m g))] Try.func32 rfl [.b true, .b true, .b true, .b true, .b true] (by simp) (by simp) (kmp (by kernel_rfl) (And.intro h1 (And.intro h1 (And.intro h1 (And.intro h1 (And.intro (rfl : true = true) (And.intro (show (AV.int IntKind.i64 7) = ((AV.int IntKind.i64 (r32.v L j l n f m g))) by first | (simp only [r32.v, h1, cond_true, cond_false]; done) | (try unfold r32.v; try simp only [h1, cond_true, cond_false]; try rfl; done) | rfl) trivial))))))) h
  | false =>
    have h1p := of_decide_eq_false h1
    cases h2 : decide ((↑m : Int) > 200) with
    | true =>
      have h2p := of_decide_eq_true h2
      exact Ret.of_run1 mix [(AV.int IntKind.i64 (r32.v L j l n f m g))] Try.func32 rfl [.b false, .b false, .b false, .b false, .b true] (by simp) (by simp) (kmp (by kernel_rfl) (And.intro h1 (And.intro h1 (And.intro h1 (And.intro h1 (And.intro h2 (And.intro (show (AV.int IntKind.i64 7) = ((AV.int IntKind.i64 (r32.v L j l n f m g))) by first | (simp only [r32.v, h1, h2, cond_true, cond_false]; done) | (try unfold r32.v; try simp only [h1, cond_true, cond_false]; try simp only [h2, cond_true, cond_false]; try rfl; done) | rfl) trivial))))))) h
    | false =>
      have h2p := of_decide_eq_false h2
      cases h3 : r51.v L 1 20000 with
      | true =>
        cases h4 : r51.v j 0 1000 with
        | true =>
          cases h5 : r51.v l 0 20000 with
          | true =>
            have o0 : n ≤ (9223372036854775807 : Nat) := by first | assumption | omega | (simp_all; done)
            cases h6 : r62a.v n f with
            | true =>
              exact Ret.of_run1 mix [(AV.int IntKind.i64 (r32.v L j l n f m g))] Try.func32 rfl [.b false, .b false, .b false, .b false, .b false, .ret (AV.bool (r51.v L 1 20000)) ([]), .b false, .b false, .ret (AV.bool (r51.v j 0 1000)) ([]), .b false, .b false, .b false, .b false, .ret (AV.bool (r51.v l 0 20000)) ([]), .b false, .b false, .b false, .b false, .ret (AV.bool (r62a.v n f)) ([]), .b false, .b true, .b true, .b true, .b true] (by simp) (by simp) (kmp (by kernel_rfl) (And.intro h1 (And.intro h1 (And.intro h1 (And.intro h1 (And.intro h2 (And.intro (r51 (L) (1) (20000) ([])) (And.intro (show (bnot (r51.v L 1 20000)) = false by rw [h3]; try rfl) (And.intro (show (bnot (r51.v L 1 20000)) = false by rw [h3]; try rfl) (And.intro (r51 (j) (0) (1000) ([])) (And.intro (show (bnot (r51.v L 1 20000)) = false by rw [h3]; try rfl) (And.intro (show (bnot (r51.v L 1 20000)) = false by rw [h3]; try rfl) (And.intro (show (bnot (r51.v j 0 1000)) = false by rw [h4]; try rfl) (And.intro (show (bnot (r51.v j 0 1000)) = false by rw [h4]; try rfl) (And.intro (r51 (l) (0) (20000) ([])) (And.intro (show (bnot (r51.v j 0 1000)) = false by rw [h4]; try rfl) (And.intro (show (bnot (r51.v j 0 1000)) = false by rw [h4]; try rfl) (And.intro (show (bnot (r51.v l 0 20000)) = false by rw [h5]; try rfl) (And.intro (show (bnot (r51.v l 0 20000)) = false by rw [h5]; try rfl) (And.intro (r62a (n) (f) o0 ([])) (And.intro (show (bnot (r51.v l 0 20000)) = false by rw [h5]; try rfl) (And.intro h6 (And.intro h6 (And.intro h6 (And.intro (rfl : true = true) (And.intro (show (AV.int IntKind.i64 6) = ((AV.int IntKind.i64 (r32.v L j l n f m g))) by first | (simp only [r32.v, h1, h2, h3, h4, h5, h6, cond_true, cond_false]; done) | (try unfold r32.v; try simp only [h1, cond_true, cond_false]; try simp only [h2, cond_true, cond_false]; try simp only [h3, cond_true, cond_false]; try simp only [h4, cond_true, cond_false]; try simp only [h5, cond_true, cond_false]; try simp only [h6, cond_true, cond_false]; try rfl; done) | rfl) trivial)))))))))))))))))))))))))) h
            | false =>
              have o1 : m ≤ (9223372036854775807 : Nat) := by first | assumption | omega | (simp_all; done)
              cases h7 : r62b.v m g with
              | true =>
                exact Ret.of_run1 mix [(AV.int IntKind.i64 (r32.v L j l n f m g))] Try.func32 rfl [.b false, .b false, .b false, .b false, .b false, .ret (AV.bool (r51.v L 1 20000)) ([]), .b false, .b false, .ret (AV.bool (r51.v j 0 1000)) ([]), .b false, .b false, .b false, .b false, .ret (AV.bool (r51.v l 0 20000)) ([]), .b false, .b false, .b false, .b false, .ret (AV.bool (r62a.v n f)) ([]), .b false, .b false, .b false, .ret (AV.bool (r62b.v m g)) ([]), .b false, .b true] (by simp) (by simp) (kmp (by kernel_rfl) (And.intro h1 (And.intro h1 (And.intro h1 (And.intro h1 (And.intro h2 (And.intro (r51 (L) (1) (20000) ([])) (And.intro (show (bnot (r51.v L 1 20000)) = false by rw [h3]; try rfl) (And.intro (show (bnot (r51.v L 1 20000)) = false by rw [h3]; try rfl) (And.intro (r51 (j) (0) (1000) ([])) (And.intro (show (bnot (r51.v L 1 20000)) = false by rw [h3]; try rfl) (And.intro (show (bnot (r51.v L 1 20000)) = false by rw [h3]; try rfl) (And.intro (show (bnot (r51.v j 0 1000)) = false by rw [h4]; try rfl) (And.intro (show (bnot (r51.v j 0 1000)) = false by rw [h4]; try rfl) (And.intro (r51 (l) (0) (20000) ([])) (And.intro (show (bnot (r51.v j 0 1000)) = false by rw [h4]; try rfl) (And.intro (show (bnot (r51.v j 0 1000)) = false by rw [h4]; try rfl) (And.intro (show (bnot (r51.v l 0 20000)) = false by rw [h5]; try rfl) (And.intro (show (bnot (r51.v l 0 20000)) = false by rw [h5]; try rfl) (And.intro (r62a (n) (f) o0 ([])) (And.intro (show (bnot (r51.v l 0 20000)) = false by rw [h5]; try rfl) (And.intro h6 (And.intro h6 (And.intro (r62b (m) (g) o1 ([])) (And.intro h6 (And.intro h7 (And.intro (show (AV.int IntKind.i64 6) = ((AV.int IntKind.i64 (r32.v L j l n f m g))) by first | (simp only [r32.v, h1, h2, h3, h4, h5, h6, h7, cond_true, cond_false]; done) | (try unfold r32.v; try simp only [h1, cond_true, cond_false]; try simp only [h2, cond_true, cond_false]; try simp only [h3, cond_true, cond_false]; try simp only [h4, cond_true, cond_false]; try simp only [h5, cond_true, cond_false]; try simp only [h6, cond_true, cond_false]; try simp only [h7, cond_true, cond_false]; try rfl; done) | rfl) trivial))))))))))))))))))))))))))) h
              | false =>
                cases h8 : (↑n : Int) == 0 with
                | true =>
                  have h8p := eq_of_beq h8
                  exact Ret.of_run1 mix [(AV.int IntKind.i64 (r32.v L j l n f m g))] Try.func32 rfl [.b false, .b false, .b false, .b false, .b false, .ret (AV.bool (r51.v L 1 20000)) ([]), .b false, .b false, .ret (AV.bool (r51.v j 0 1000)) ([]), .b false, .b false, .b false, .b false, .ret (AV.bool (r51.v l 0 20000)) ([]), .b false, .b false, .b false, .b false, .ret (AV.bool (r62a.v n f)) ([]), .b false, .b false, .b false, .ret (AV.bool (r62b.v m g)) ([]), .b false, .b false, .b true] (by simp) (by simp) (kmp (by kernel_rfl) (And.intro h1 (And.intro h1 (And.intro h1 (And.intro h1 (And.intro h2 (And.intro (r51 (L) (1) (20000) ([])) (And.intro (show (bnot (r51.v L 1 20000)) = false by rw [h3]; try rfl) (And.intro (show (bnot (r51.v L 1 20000)) = false by rw [h3]; try rfl) (And.intro (r51 (j) (0) (1000) ([])) (And.intro (show (bnot (r51.v L 1 20000)) = false by rw [h3]; try rfl) (And.intro (show (bnot (r51.v L 1 20000)) = false by rw [h3]; try rfl) (And.intro (show (bnot (r51.v j 0 1000)) = false by rw [h4]; try rfl) (And.intro (show (bnot (r51.v j 0 1000)) = false by rw [h4]; try rfl) (And.intro (r51 (l) (0) (20000) ([])) (And.intro (show (bnot (r51.v j 0 1000)) = false by rw [h4]; try rfl) (And.intro (show (bnot (r51.v j 0 1000)) = false by rw [h4]; try rfl) (And.intro (show (bnot (r51.v l 0 20000)) = false by rw [h5]; try rfl) (And.intro (show (bnot (r51.v l 0 20000)) = false by rw [h5]; try rfl) (And.intro (r62a (n) (f) o0 ([])) (And.intro (show (bnot (r51.v l 0 20000)) = false by rw [h5]; try rfl) (And.intro h6 (And.intro h6 (And.intro (r62b (m) (g) o1 ([])) (And.intro h6 (And.intro h7 (And.intro h8 (And.intro (show (AV.int IntKind.i64 1) = ((AV.int IntKind.i64 (r32.v L j l n f m g))) by first | (simp only [r32.v, h1, h2, h3, h4, h5, h6, h7, h8, cond_true, cond_false]; done) | (try unfold r32.v; try simp only [h1, cond_true, cond_false]; try simp only [h2, cond_true, cond_false]; try simp only [h3, cond_true, cond_false]; try simp only [h4, cond_true, cond_false]; try simp only [h5, cond_true, cond_false]; try simp only [h6, cond_true, cond_false]; try simp only [h7, cond_true, cond_false]; try simp only [h8, cond_true, cond_false]; try rfl; done) | rfl) trivial)))))))))))))))))))))))))))) h
                | false =>
                  have h8p := ne_of_beq_false h8
                  have o2 : decide ((↑n : Int) > (16 : Int)) = false := by first | assumption | omega | (simp_all; done)
                  have o3 : ¬(↑n : Int) > (16 : Int) := by first | assumption | (simp_all; done)
                  have o4 : decide ((↑m : Int) > (200 : Int)) = false := by first | assumption | omega | (simp_all; done)
                  have o5 : ¬(↑m : Int) > (200 : Int) := by first | assumption | (simp_all; done)
                  have o6 : r51.v L (1 : Int) (20000 : Int) = true := by first | assumption | omega | (simp_all; done)
                  have o7 : r51.v j (0 : Int) (1000 : Int) = true := by first | assumption | omega | (simp_all; done)
                  have o8 : r51.v l (0 : Int) (20000 : Int) = true := by first | assumption | omega | (simp_all; done)
                  have o9 : r62a.v n f = false := by first | assumption | omega | (simp_all; done)
                  have o10 : r62b.v m g = false := by first | assumption | omega | (simp_all; done)
                  have o11 : ((↑n : Int) == (0 : Int)) = false := by first | assumption | omega | (simp_all; done)
                  have o12 : (↑n : Int) ≠ (0 : Int) := by first | assumption | omega | (simp_all; done)
                  have o13 : (1 : Int) ≤ (↑n : Int) ∨ (1 : Int) ≤ (1 : Int) := by first | assumption | omega | (simp_all; done)
                  cases h9 : L32a.run n f 1 with
                  | e0 =>
                    exact Ret.of_run1 mix [(AV.int IntKind.i64 (r32.v L j l n f m g))] Try.func32 rfl [.b false, .b false, .b false, .b false, .b false, .ret (AV.bool (r51.v L 1 20000)) ([]), .b false, .b false, .ret (AV.bool (r51.v j 0 1000)) ([]), .b false, .b false, .b false, .b false, .ret (AV.bool (r51.v l 0 20000)) ([]), .b false, .b false, .b false, .b false, .ret (AV.bool (r62a.v n f)) ([]), .b false, .b false, .b false, .ret (AV.bool (r62b.v m g)) ([]), .b false, .b false, .b false, .loop (others 63 [3, 11]) (Exit.ret) (L32a.X L j l n f m g L32a.O.e0) (L32a.XH L j l n f m g L32a.O.e0)] (by simp) (by simp) (kmp (by kernel_rfl) (And.intro h1 (And.intro h1 (And.intro h1 (And.intro h1 (And.intro h2 (And.intro (r51 (L) (1) (20000) ([])) (And.intro (show (bnot (r51.v L 1 20000)) = false by rw [h3]; try rfl) (And.intro (show (bnot (r51.v L 1 20000)) = false by rw [h3]; try rfl) (And.intro (r51 (j) (0) (1000) ([])) (And.intro (show (bnot (r51.v L 1 20000)) = false by rw [h3]; try rfl) (And.intro (show (bnot (r51.v L 1 20000)) = false by rw [h3]; try rfl) (And.intro (show (bnot (r51.v j 0 1000)) = false by rw [h4]; try rfl) (And.intro (show (bnot (r51.v j 0 1000)) = false by rw [h4]; try rfl) (And.intro (r51 (l) (0) (20000) ([])) (And.intro (show (bnot (r51.v j 0 1000)) = false by rw [h4]; try rfl) (And.intro (show (bnot (r51.v j 0 1000)) = false by rw [h4]; try rfl) (And.intro (show (bnot (r51.v l 0 20000)) = false by rw [h5]; try rfl) (And.intro (show (bnot (r51.v l 0 20000)) = false by rw [h5]; try rfl) (And.intro (r62a (n) (f) o0 ([])) (And.intro (show (bnot (r51.v l 0 20000)) = false by rw [h5]; try rfl) (And.intro h6 (And.intro h6 (And.intro (r62b (m) (g) o1 ([])) (And.intro h6 (And.intro h7 (And.intro h8 (And.intro (L32a.e0 (L) (j) (l) (n) (f) o0 (m) (g) o1 o2 o3 o4 o5 o6 o7 o8 o9 o10 o11 o12 (1) (And.intro (show (1 : Int) ≤ (1 : Int) by first | decide | exact Int.NonNeg.mk _) o13) h9) (And.intro (show (AV.int IntKind.i64 1) = ((AV.int IntKind.i64 (r32.v L j l n f m g))) by first | (simp only [r32.v, h1, h2, h3, h4, h5, h6, h7, h8, h9, cond_true, cond_false]; done) | (try unfold r32.v; try simp only [h1, cond_true, cond_false]; try simp only [h2, cond_true, cond_false]; try simp only [h3, cond_true, cond_false]; try simp only [h4, cond_true, cond_false]; try simp only [h5, cond_true, cond_false]; try simp only [h6, cond_true, cond_false]; try simp only [h7, cond_true, cond_false]; try simp only [h8, cond_true, cond_false]; try simp only [h9, cond_true, cond_false]; try rfl; done) | rfl) trivial))))))))))))))))))))))))))))) h
                  | e1 =>
                    exact Ret.of_run1 mix [(AV.int IntKind.i64 (r32.v L j l n f m g))] Try.func32 rfl [.b false, .b false, .b false, .b false, .b false, .ret (AV.bool (r51.v L 1 20000)) ([]), .b false, .b false, .ret (AV.bool (r51.v j 0 1000)) ([]), .b false, .b false, .b false, .b false, .ret (AV.bool (r51.v l 0 20000)) ([]), .b false, .b false, .b false, .b false, .ret (AV.bool (r62a.v n f)) ([]), .b false, .b false, .b false, .ret (AV.bool (r62b.v m g)) ([]), .b false, .b false, .b false, .loop (others 63 [3, 11]) (Exit.exit 1) (L32a.X L j l n f m g L32a.O.e1) (L32a.XH L j l n f m g L32a.O.e1)] (by simp) (by simp) (kmp (by kernel_rfl) (And.intro h1 (And.intro h1 (And.intro h1 (And.intro h1 (And.intro h2 (And.intro (r51 (L) (1) (20000) ([])) (And.intro (show (bnot (r51.v L 1 20000)) = false by rw [h3]; try rfl) (And.intro (show (bnot (r51.v L 1 20000)) = false by rw [h3]; try rfl) (And.intro (r51 (j) (0) (1000) ([])) (And.intro (show (bnot (r51.v L 1 20000)) = false by rw [h3]; try rfl) (And.intro (show (bnot (r51.v L 1 20000)) = false by rw [h3]; try rfl) (And.intro (show (bnot (r51.v j 0 1000)) = false by rw [h4]; try rfl) (And.intro (show (bnot (r51.v j 0 1000)) = false by rw [h4]; try rfl) (And.intro (r51 (l) (0) (20000) ([])) (And.intro (show (bnot (r51.v j 0 1000)) = false by rw [h4]; try rfl) (And.intro (show (bnot (r51.v j 0 1000)) = false by rw [h4]; try rfl) (And.intro (show (bnot (r51.v l 0 20000)) = false by rw [h5]; try rfl) (And.intro (show (bnot (r51.v l 0 20000)) = false by rw [h5]; try rfl) (And.intro (r62a (n) (f) o0 ([])) (And.intro (show (bnot (r51.v l 0 20000)) = false by rw [h5]; try rfl) (And.intro h6 (And.intro h6 (And.intro (r62b (m) (g) o1 ([])) (And.intro h6 (And.intro h7 (And.intro h8 (And.intro (L32a.e1 (L) (j) (l) (n) (f) o0 (m) (g) o1 o2 o3 o4 o5 o6 o7 o8 o9 o10 o11 o12 (1) (And.intro (show (1 : Int) ≤ (1 : Int) by first | decide | exact Int.NonNeg.mk _) o13) h9) (And.intro (show (AV.int IntKind.i64 0) = ((AV.int IntKind.i64 (r32.v L j l n f m g))) by first | (simp only [r32.v, h1, h2, h3, h4, h5, h6, h7, h8, h9, cond_true, cond_false]; done) | (try unfold r32.v; try simp only [h1, cond_true, cond_false]; try simp only [h2, cond_true, cond_false]; try simp only [h3, cond_true, cond_false]; try simp only [h4, cond_true, cond_false]; try simp only [h5, cond_true, cond_false]; try simp only [h6, cond_true, cond_false]; try simp only [h7, cond_true, cond_false]; try simp only [h8, cond_true, cond_false]; try simp only [h9, cond_true, cond_false]; try rfl; done) | rfl) trivial))))))))))))))))))))))))))))) h
          | false =>
            exact Ret.of_run1 mix [(AV.int IntKind.i64 (r32.v L j l n f m g))] Try.func32 rfl [.b false, .b false, .b false, .b false, .b false, .ret (AV.bool (r51.v L 1 20000)) ([]), .b false, .b false, .ret (AV.bool (r51.v j 0 1000)) ([]), .b false, .b false, .b false, .b false, .ret (AV.bool (r51.v l 0 20000)) ([]), .b false, .b false, .b true, .b true, .b true, .b true, .b true, .b true, .b true] (by simp) (by simp) (kmp (by kernel_rfl) (And.intro h1 (And.intro h1 (And.intro h1 (And.intro h1 (And.intro h2 (And.intro (r51 (L) (1) (20000) ([])) (And.intro (show (bnot (r51.v L 1 20000)) = false by rw [h3]; try rfl) (And.intro (show (bnot (r51.v L 1 20000)) = false by rw [h3]; try rfl) (And.intro (r51 (j) (0) (1000) ([])) (And.intro (show (bnot (r51.v L 1 20000)) = false by rw [h3]; try rfl) (And.intro (show (bnot (r51.v L 1 20000)) = false by rw [h3]; try rfl) (And.intro (show (bnot (r51.v j 0 1000)) = false by rw [h4]; try rfl) (And.intro (show (bnot (r51.v j 0 1000)) = false by rw [h4]; try rfl) (And.intro (r51 (l) (0) (20000) ([])) (And.intro (show (bnot (r51.v j 0 1000)) = false by rw [h4]; try rfl) (And.intro (show (bnot (r51.v j 0 1000)) = false by rw [h4]; try rfl) (And.intro (show (bnot (r51.v l 0 20000)) = true by rw [h5]; try rfl) (And.intro (show (bnot (r51.v l 0 20000)) = true by rw [h5]; try rfl) (And.intro (show (bnot (r51.v l 0 20000)) = true by rw [h5]; try rfl) (And.intro (rfl : true = true) (And.intro (rfl : true = true) (And.intro (rfl : true = true) (And.intro (rfl : true = true) (And.intro (show (AV.int IntKind.i64 6) = ((AV.int IntKind.i64 (r32.v L j l n f m g))) by first | (simp only [r32.v, h1, h2, h3, h4, h5, cond_true, cond_false]; done) | (try unfold r32.v; try simp only [h1, cond_true, cond_false]; try simp only [h2, cond_true, cond_false]; try simp only [h3, cond_true, cond_false]; try simp only [h4, cond_true, cond_false]; try simp only [h5, cond_true, cond_false]; try rfl; done) | rfl) trivial))))))))))))))))))))))))) h
        | false =>
          exact Ret.of_run1 mix [(AV.int IntKind.i64 (r32.v L j l n f m g))] Try.func32 rfl [.b false, .b false, .b false, .b false, .b false, .ret (AV.bool (r51.v L 1 20000)) ([]), .b false, .b false, .ret (AV.bool (r51.v j 0 1000)) ([]), .b false, .b false, .b true, .b true, .b true, .b true, .b true, .b true, .b true, .b true, .b true, .b true, .b true] (by simp) (by simp) (kmp (by kernel_rfl) (And.intro h1 (And.intro h1 (And.intro h1 (And.intro h1 (And.intro h2 (And.intro (r51 (L) (1) (20000) ([])) (And.intro (show (bnot (r51.v L 1 20000)) = false by rw [h3]; try rfl) (And.intro (show (bnot (r51.v L 1 20000)) = false by rw [h3]; try rfl) (And.intro (r51 (j) (0) (1000) ([])) (And.intro (show (bnot (r51.v L 1 20000)) = false by rw [h3]; try rfl) (And.intro (show (bnot (r51.v L 1 20000)) = false by rw [h3]; try rfl) (And.intro (show (bnot (r51.v j 0 1000)) = true by rw [h4]; try rfl) (And.intro (show (bnot (r51.v j 0 1000)) = true by rw [h4]; try rfl) (And.intro (show (bnot (r51.v j 0 1000)) = true by rw [h4]; try rfl) (And.intro (show (bnot (r51.v j 0 1000)) = true by rw [h4]; try rfl) (And.intro (rfl : true = true) (And.intro (rfl : true = true) (And.intro (rfl : true = true) (And.intro (rfl : true = true) (And.intro (rfl : true = true) (And.intro (rfl : true = true) (And.intro (rfl : true = true) (And.intro (show (AV.int IntKind.i64 6) = ((AV.int IntKind.i64 (r32.v L j l n f m g))) by first | (simp only [r32.v, h1, h2, h3, h4, cond_true, cond_false]; done) | (try unfold r32.v; try simp only [h1, cond_true, cond_false]; try simp only [h2, cond_true, cond_false]; try simp only [h3, cond_true, cond_false]; try simp only [h4, cond_true, cond_false]; try rfl; done) | rfl) trivial)))))))))))))))))))))))) h
      | false =>
        exact Ret.of_run1 mix [(AV.int IntKind.i64 (r32.v L j l n f m g))] Try.func32 rfl [.b false, .b false, .b false, .b false, .b false, .ret (AV.bool (r51.v L 1 20000)) ([]), .b true, .b true, .b true, .b true, .b true, .b true, .b true, .b true, .b true, .b true, .b true, .b true, .b true, .b true, .b true] (by simp) (by simp) (kmp (by kernel_rfl) (And.intro h1 (And.intro h1 (And.intro h1 (And.intro h1 (And.intro h2 (And.intro (r51 (L) (1) (20000) ([])) (And.intro (show (bnot (r51.v L 1 20000)) = true by rw [h3]; try rfl) (And.intro (show (bnot (r51.v L 1 20000)) = true by rw [h3]; try rfl) (And.intro (show (bnot (r51.v L 1 20000)) = true by rw [h3]; try rfl) (And.intro (show (bnot (r51.v L 1 20000)) = true by rw [h3]; try rfl) (And.intro (rfl : true = true) (And.intro (rfl : true = true) (And.intro (rfl : true = true) (And.intro (rfl : true = true) (And.intro (rfl : true = true) (And.intro (rfl : true = true) (And.intro (rfl : true = true) (And.intro (rfl : true = true) (And.intro (rfl : true = true) (And.intro (rfl : true = true) (And.intro (rfl : true = true) (And.intro (show (AV.int IntKind.i64 6) = ((AV.int IntKind.i64 (r32.v L j l n f m g))) by first | (simp only [r32.v, h1, h2, h3, cond_true, cond_false]; done) | (try unfold r32.v; try simp only [h1, cond_true, cond_false]; try simp only [h2, cond_true, cond_false]; try simp only [h3, cond_true, cond_false]; try rfl; done) | rfl) trivial))))))))))))))))))))))) h

inductive L15a.O where
  | e0
  | e1
noncomputable def L15a.T (L : Int) (j : Int) (l : Int) (n : Nat) (f : Nat → Int) (m : Nat) (g : Nat → Int) (a11 : Int) : List AV := mkT 78 [(3, AV.sl 1 n fun (i : Nat) => AV.int IntKind.i64 (f i)), (4, AV.sl 1 m fun (i : Nat) => AV.int IntKind.i64 (g i)), (11, AV.int IntKind.i64 a11)]
noncomputable def L15a.H (L : Int) (j : Int) (l : Int) (n : Nat) (f : Nat → Int) (m : Nat) (g : Nat → Int) (a11 : Int) : AHeap := []
def L15a.inv (L : Int) (j : Int) (l : Int) (n : Nat) (f : Nat → Int) (m : Nat) (g : Nat → Int) (a11 : Int) : Prop := 0 ≤ a11 ∧ (a11 ≤ (↑n : Int) ∨ a11 ≤ 0)
noncomputable def L15a.mu (L : Int) (j : Int) (l : Int) (n : Nat) (f : Nat → Int) (m : Nat) (g : Nat → Int) (a11 : Int) : Nat := ((↑n : Int) - a11).toNat
noncomputable def L15a.E : L15a.O → Exit
  | .e0 => Exit.ret
  | .e1 => Exit.exit 0
noncomputable def L15a.X (L : Int) (j : Int) (l : Int) (n : Nat) (f : Nat → Int) (m : Nat) (g : Nat → Int) : L15a.O → List AV
  | .e0 => mkT 78 [(10, (AV.int IntKind.i64 6))]
  | .e1 => mkT 78 [(3, (AV.sl 1 n fun (i : Nat) => AV.int IntKind.i64 (f i))), (4, (AV.sl 1 m fun (i : Nat) => AV.int IntKind.i64 (g i)))]
noncomputable def L15a.XH (L : Int) (j : Int) (l : Int) (n : Nat) (f : Nat → Int) (m : Nat) (g : Nat → Int) : L15a.O → AHeap
  | .e0 => ([])
  | .e1 => ([])
noncomputable def L15a.N (n : Nat) (f : Nat → Int) : Nat → Int → L15a.O
  | 0, _ => .e0
  | k_ + 1, a11 => (bif decide (a11 < (↑n : Int)) then (bif r37.v (f a11.toNat) 1 20000 then (L15a.N n f k_ (IntKind.i64.wrap (a11 + 1))) else (.e0)) else (.e1))
noncomputable def L15a.run (n : Nat) (f : Nat → Int) (a11 : Int) : L15a.O := L15a.N n f ((((↑n : Int) - a11).toNat) + 1) a11
def L15a.Next (L : Int) (j : Int) (l : Int) (n : Nat) (f : Nat → Int) (m : Nat) (g : Nat → Int) (k_ : Nat) (z_ : Int) (T_ : List AV) (h_ : AHeap) : Prop := LNextP (fun (z_ : Int) => L15a.T L j l n f m g z_) (fun (z_ : Int) => L15a.H L j l n f m g z_) (fun (z_ : Int) => L15a.inv L j l n f m g z_) (fun (z_ : Int) => L15a.mu L j l n f m g z_) (fun (k_ : Nat) (z_ : Int) => L15a.N n f k_ z_) k_ z_ T_ h_
def L15a.End (L : Int) (j : Int) (l : Int) (n : Nat) (f : Nat → Int) (m : Nat) (g : Nat → Int) (k_ : Nat) (z_ : Int) (e_ : Exit) (T_ : List AV) (h_ : AHeap) : Prop := LEndP (fun (z_ : Int) => L15a.H L j l n f m g z_) (fun (k_ : Nat) (z_ : Int) => L15a.N n f k_ z_) L15a.E (L15a.X L j l n f m g) (L15a.XH L j l n f m g) k_ z_ e_ T_ h_
theorem L15a.nx (L : Int) (j : Int) (l : Int) (n : Nat) (f : Nat → Int) (m : Nat) (g : Nat → Int) {k_ : Nat} {z_ : Int} {h_ : AHeap} (s_ : Int) (h1 : L15a.inv L j l n f m g s_) (h2 : L15a.mu L j l n f m g s_ < L15a.mu L j l n f m g z_) (h3 : L15a.N n f k_ s_ = L15a.N n f (k_ + 1) z_) (h4 : PopOk (L15a.H L j l n f m g z_) h_ (L15a.T L j l n f m g s_) (L15a.H L j l n f m g s_)) : LNextP (fun (z_ : Int) => L15a.T L j l n f m g z_) (fun (z_ : Int) => L15a.H L j l n f m g z_) (fun (z_ : Int) => L15a.inv L j l n f m g z_) (fun (z_ : Int) => L15a.mu L j l n f m g z_) (fun (k_ : Nat) (z_ : Int) => L15a.N n f k_ z_) k_ z_ (L15a.T L j l n f m g s_) h_ := LNextP.mk (Tm := (fun (z_ : Int) => L15a.T L j l n f m g z_)) (Hp := (fun (z_ : Int) => L15a.H L j l n f m g z_)) (inv := (fun (z_ : Int) => L15a.inv L j l n f m g z_)) (mu := (fun (z_ : Int) => L15a.mu L j l n f m g z_)) (l := (fun (k_ : Nat) (z_ : Int) => L15a.N n f k_ z_)) s_ h1 h2 h3 h4
theorem L15a.en (L : Int) (j : Int) (l : Int) (n : Nat) (f : Nat → Int) (m : Nat) (g : Nat → Int) {k_ : Nat} {z_ : Int} {h_ : AHeap} (o_ : L15a.O) (h3 : L15a.N n f (k_ + 1) z_ = o_) (h4 : PopOk (L15a.H L j l n f m g z_) h_ (L15a.X L j l n f m g o_) (L15a.XH L j l n f m g o_)) : LEndP (fun (z_ : Int) => L15a.H L j l n f m g z_) (fun (k_ : Nat) (z_ : Int) => L15a.N n f k_ z_) L15a.E (L15a.X L j l n f m g) (L15a.XH L j l n f m g) k_ z_ (L15a.E o_) (L15a.X L j l n f m g o_) h_ := LEndP.mk (Hp := (fun (z_ : Int) => L15a.H L j l n f m g z_)) (l := (fun (k_ : Nat) (z_ : Int) => L15a.N n f k_ z_)) (oE := L15a.E) (oT := L15a.X L j l n f m g) (oH := L15a.XH L j l n f m g) o_ h3 h4
theorem L15a.spec (L : Int) (j : Int) (l : Int) (n : Nat) (f : Nat → Int) (hn : n ≤ 9223372036854775807) (m : Nat) (g : Nat → Int) (hm : m ≤ 9223372036854775807) (k0_1 : decide ((↑n : Int) > 16) = false) (p0_1 : ¬(↑n : Int) > 16) (k0_2 : decide ((↑m : Int) > 200) = false) (p0_2 : ¬(↑m : Int) > 200) (k0_3 : r37.v L 1 20000 = true) (k0_4 : r37.v j 0 1000 = true) (k0_5 : r37.v l 0 20000 = true) (k_ : Nat) (z_ : Int) (hi_ : L15a.inv L j l n f m g z_) (hm_ : L15a.mu L j l n f m g z_ < k_) : LoopTo Try.prog (loopN Try.f15 0) (L15a.T L j l n f m g z_) (L15a.H L j l n f m g z_) (L15a.E (L15a.N n f k_ z_)) (L15a.X L j l n f m g (L15a.N n f k_ z_)) (L15a.XH L j l n f m g (L15a.N n f k_ z_)) := by
  refine LoopTo.fuelP mix (fun (z_ : Int) => L15a.T L j l n f m g z_) (fun (z_ : Int) => L15a.H L j l n f m g z_) (fun (z_ : Int) => L15a.inv L j l n f m g z_) (fun (z_ : Int) => L15a.mu L j l n f m g z_) (fun (k_ : Nat) (z_ : Int) => L15a.N n f k_ z_) L15a.E (L15a.X L j l n f m g) (L15a.XH L j l n f m g) (others 78 [3, 4, 11]) (others 78 [10]) (others 78 [3, 4]) ?_ k_ z_ hi_ hm_
  clear hm_ hi_ z_ k_
  intro k_ z_ hinv hmu
  revert hinv hmu; revert z_; intro a11 hinv hmu
  have hinv : 0 ≤ a11 ∧ (a11 ≤ (↑n : Int) ∨ a11 ≤ 0) := hinv
  have hmu : (((↑n : Int) - a11).toNat) < k_ + 1 := hmu
  cases h1 : decide (a11 < (↑n : Int)) with
  | true =>
    have h1p := of_decide_eq_true h1
    have o0 : (0 : Int) ≤ a11 := by first | assumption | omega | (simp_all; done)
    have o1 : a11 < (↑n : Int) := by first | assumption | omega | (simp_all; done)
    cases h2 : r37.v (f a11.toNat) 1 20000 with
    | true =>
      try have := IntWalk.i64_in (a11 + 1) (by omega)
      have o2 : (0 : Int) ≤ IntKind.i64.wrap (a11 + (1 : Int)) := by first | assumption | omega | (simp_all; done)
      have o3 : IntKind.i64.wrap (a11 + (1 : Int)) ≤ (↑n : Int) ∨ IntKind.i64.wrap (a11 + (1 : Int)) ≤ (0 : Int) := by first | assumption | omega | (simp_all; done)
      have o4 : ((↑n : Int) - IntKind.i64.wrap (a11 + (1 : Int))).toNat < ((↑n : Int) - a11).toNat := by first | assumption | omega | (simp_all; done)
      exact ⟨[.b true, .ret (AV.bool (r37.v (f a11.toNat) 1 20000)) ([]), .b false], kmp (by kernel_rfl) (And.intro h1 (And.intro (And.intro o0 o1) (And.intro (r37 (f a11.toNat) (1) (20000) ([])) (And.intro (show (bnot (r37.v (f a11.toNat) 1 20000)) = false by rw [h2]; try rfl) (L15a.nx L j l n f m g (k_ := k_) (z_ := a11) (IntKind.i64.wrap (a11 + 1)) (And.intro o2 o3) o4 (by first | (simp only [L15a.N, h1, h2, cond_true, cond_false]; done) | (try unfold L15a.N; try simp only [h1, cond_true, cond_false]; try simp only [h2, cond_true, cond_false]; try rfl; done)) PopOk.same)))))⟩
    | false =>
      exact ⟨[.b true, .ret (AV.bool (r37.v (f a11.toNat) 1 20000)) ([]), .b true], kmp (by kernel_rfl) (And.intro h1 (And.intro (And.intro o0 o1) (And.intro (r37 (f a11.toNat) (1) (20000) ([])) (And.intro (show (bnot (r37.v (f a11.toNat) 1 20000)) = true by rw [h2]; try rfl) (L15a.en L j l n f m g (k_ := k_) (z_ := a11) (.e0 : L15a.O) (by first | (simp only [L15a.N, h1, h2, cond_true, cond_false]; done) | (try unfold L15a.N; try simp only [h1, cond_true, cond_false]; try simp only [h2, cond_true, cond_false]; try rfl; done)) PopOk.same)))))⟩
  | false =>
    have h1p := of_decide_eq_false h1
    exact ⟨[.b false], kmp (by kernel_rfl) (And.intro h1 (L15a.en L j l n f m g (k_ := k_) (z_ := a11) (.e1 : L15a.O) (by first | (simp only [L15a.N, h1, cond_true, cond_false]; done) | (try unfold L15a.N; try simp only [h1, cond_true, cond_false]; try rfl; done)) PopOk.same))⟩
theorem L15a.e0 (L : Int) (j : Int) (l : Int) (n : Nat) (f : Nat → Int) (hn : n ≤ 9223372036854775807) (m : Nat) (g : Nat → Int) (hm : m ≤ 9223372036854775807) (k0_1 : decide ((↑n : Int) > 16) = false) (p0_1 : ¬(↑n : Int) > 16) (k0_2 : decide ((↑m : Int) > 200) = false) (p0_2 : ¬(↑m : Int) > 200) (k0_3 : r37.v L 1 20000 = true) (k0_4 : r37.v j 0 1000 = true) (k0_5 : r37.v l 0 20000 = true) (a11 : Int) (hinv : L15a.inv L j l n f m g a11) (hN : L15a.run n f a11 = (.e0 : L15a.O)) : LoopTo Try.prog (loopN Try.f15 0) (L15a.T L j l n f m g a11) (L15a.H L j l n f m g a11) (Exit.ret) (L15a.X L j l n f m g (.e0 : L15a.O)) (L15a.XH L j l n f m g (.e0 : L15a.O)) := by
  have h_ := L15a.spec L j l n f hn m g hm k0_1 p0_1 k0_2 p0_2 k0_3 k0_4 k0_5 ((((↑n : Int) - a11).toNat) + 1) a11 hinv (Nat.lt_succ_self _)
  unfold L15a.run at hN
  simp only [hN] at h_
  exact h_
theorem L15a.e1 (L : Int) (j : Int) (l : Int) (n : Nat) (f : Nat → Int) (hn : n ≤ 9223372036854775807) (m : Nat) (g : Nat → Int) (hm : m ≤ 9223372036854775807) (k0_1 : decide ((↑n : Int) > 16) = false) (p0_1 : ¬(↑n : Int) > 16) (k0_2 : decide ((↑m : Int) > 200) = false) (p0_2 : ¬(↑m : Int) > 200) (k0_3 : r37.v L 1 20000 = true) (k0_4 : r37.v j 0 1000 = true) (k0_5 : r37.v l 0 20000 = true) (a11 : Int) (hinv : L15a.inv L j l n f m g a11) (hN : L15a.run n f a11 = (.e1 : L15a.O)) : LoopTo Try.prog (loopN Try.f15 0) (L15a.T L j l n f m g a11) (L15a.H L j l n f m g a11) (Exit.exit 0) (L15a.X L j l n f m g (.e1 : L15a.O)) (L15a.XH L j l n f m g (.e1 : L15a.O)) := by
  have h_ := L15a.spec L j l n f hn m g hm k0_1 p0_1 k0_2 p0_2 k0_3 k0_4 k0_5 ((((↑n : Int) - a11).toNat) + 1) a11 hinv (Nat.lt_succ_self _)
  unfold L15a.run at hN
  simp only [hN] at h_
  exact h_

inductive L15b.O where
  | e0
  | e1
noncomputable def L15b.T (L : Int) (j : Int) (l : Int) (n : Nat) (f : Nat → Int) (m : Nat) (g : Nat → Int) (b12 : Int) : List AV := mkT 78 [(3, AV.sl 1 n fun (i : Nat) => AV.int IntKind.i64 (f i)), (4, AV.sl 1 m fun (i : Nat) => AV.int IntKind.i64 (g i)), (12, AV.int IntKind.i64 b12)]
noncomputable def L15b.H (L : Int) (j : Int) (l : Int) (n : Nat) (f : Nat → Int) (m : Nat) (g : Nat → Int) (b12 : Int) : AHeap := []
def L15b.inv (L : Int) (j : Int) (l : Int) (n : Nat) (f : Nat → Int) (m : Nat) (g : Nat → Int) (b12 : Int) : Prop := 0 ≤ b12 ∧ (b12 ≤ (↑m : Int) ∨ b12 ≤ 0)
noncomputable def L15b.mu (L : Int) (j : Int) (l : Int) (n : Nat) (f : Nat → Int) (m : Nat) (g : Nat → Int) (b12 : Int) : Nat := ((↑m : Int) - b12).toNat
noncomputable def L15b.E : L15b.O → Exit
  | .e0 => Exit.ret
  | .e1 => Exit.exit 2
noncomputable def L15b.X (L : Int) (j : Int) (l : Int) (n : Nat) (f : Nat → Int) (m : Nat) (g : Nat → Int) : L15b.O → List AV
  | .e0 => mkT 78 [(10, (AV.int IntKind.i64 6))]
  | .e1 => mkT 78 [(3, (AV.sl 1 n fun (i : Nat) => AV.int IntKind.i64 (f i)))]
noncomputable def L15b.XH (L : Int) (j : Int) (l : Int) (n : Nat) (f : Nat → Int) (m : Nat) (g : Nat → Int) : L15b.O → AHeap
  | .e0 => ([])
  | .e1 => ([])
noncomputable def L15b.N (m : Nat) (g : Nat → Int) : Nat → Int → L15b.O
  | 0, _ => .e0
  | k_ + 1, b12 => (bif decide (b12 < (↑m : Int)) then (bif r37.v (g b12.toNat) 0 40000 then (L15b.N m g k_ (IntKind.i64.wrap (b12 + 1))) else (.e0)) else (.e1))
noncomputable def L15b.run (m : Nat) (g : Nat → Int) (b12 : Int) : L15b.O := L15b.N m g ((((↑m : Int) - b12).toNat) + 1) b12
def L15b.Next (L : Int) (j : Int) (l : Int) (n : Nat) (f : Nat → Int) (m : Nat) (g : Nat → Int) (k_ : Nat) (z_ : Int) (T_ : List AV) (h_ : AHeap) : Prop := LNextP (fun (z_ : Int) => L15b.T L j l n f m g z_) (fun (z_ : Int) => L15b.H L j l n f m g z_) (fun (z_ : Int) => L15b.inv L j l n f m g z_) (fun (z_ : Int) => L15b.mu L j l n f m g z_) (fun (k_ : Nat) (z_ : Int) => L15b.N m g k_ z_) k_ z_ T_ h_
def L15b.End (L : Int) (j : Int) (l : Int) (n : Nat) (f : Nat → Int) (m : Nat) (g : Nat → Int) (k_ : Nat) (z_ : Int) (e_ : Exit) (T_ : List AV) (h_ : AHeap) : Prop := LEndP (fun (z_ : Int) => L15b.H L j l n f m g z_) (fun (k_ : Nat) (z_ : Int) => L15b.N m g k_ z_) L15b.E (L15b.X L j l n f m g) (L15b.XH L j l n f m g) k_ z_ e_ T_ h_
theorem L15b.nx (L : Int) (j : Int) (l : Int) (n : Nat) (f : Nat → Int) (m : Nat) (g : Nat → Int) {k_ : Nat} {z_ : Int} {h_ : AHeap} (s_ : Int) (h1 : L15b.inv L j l n f m g s_) (h2 : L15b.mu L j l n f m g s_ < L15b.mu L j l n f m g z_) (h3 : L15b.N m g k_ s_ = L15b.N m g (k_ + 1) z_) (h4 : PopOk (L15b.H L j l n f m g z_) h_ (L15b.T L j l n f m g s_) (L15b.H L j l n f m g s_)) : LNextP (fun (z_ : Int) => L15b.T L j l n f m g z_) (fun (z_ : Int) => L15b.H L j l n f m g z_) (fun (z_ : Int) => L15b.inv L j l n f m g z_) (fun (z_ : Int) => L15b.mu L j l n f m g z_) (fun (k_ : Nat) (z_ : Int) => L15b.N m g k_ z_) k_ z_ (L15b.T L j l n f m g s_) h_ := LNextP.mk (Tm := (fun (z_ : Int) => L15b.T L j l n f m g z_)) (Hp := (fun (z_ : Int) => L15b.H L j l n f m g z_)) (inv := (fun (z_ : Int) => L15b.inv L j l n f m g z_)) (mu := (fun (z_ : Int) => L15b.mu L j l n f m g z_)) (l := (fun (k_ : Nat) (z_ : Int) => L15b.N m g k_ z_)) s_ h1 h2 h3 h4
theorem L15b.en (L : Int) (j : Int) (l : Int) (n : Nat) (f : Nat → Int) (m : Nat) (g : Nat → Int) {k_ : Nat} {z_ : Int} {h_ : AHeap} (o_ : L15b.O) (h3 : L15b.N m g (k_ + 1) z_ = o_) (h4 : PopOk (L15b.H L j l n f m g z_) h_ (L15b.X L j l n f m g o_) (L15b.XH L j l n f m g o_)) : LEndP (fun (z_ : Int) => L15b.H L j l n f m g z_) (fun (k_ : Nat) (z_ : Int) => L15b.N m g k_ z_) L15b.E (L15b.X L j l n f m g) (L15b.XH L j l n f m g) k_ z_ (L15b.E o_) (L15b.X L j l n f m g o_) h_ := LEndP.mk (Hp := (fun (z_ : Int) => L15b.H L j l n f m g z_)) (l := (fun (k_ : Nat) (z_ : Int) => L15b.N m g k_ z_)) (oE := L15b.E) (oT := L15b.X L j l n f m g) (oH := L15b.XH L j l n f m g) o_ h3 h4
theorem L15b.spec (L : Int) (j : Int) (l : Int) (n : Nat) (f : Nat → Int) (hn : n ≤ 9223372036854775807) (m : Nat) (g : Nat → Int) (hm : m ≤ 9223372036854775807) (k1_1 : decide ((↑n : Int) > 16) = false) (p1_1 : ¬(↑n : Int) > 16) (k1_2 : decide ((↑m : Int) > 200) = false) (p1_2 : ¬(↑m : Int) > 200) (k1_3 : r37.v L 1 20000 = true) (k1_4 : r37.v j 0 1000 = true) (k1_5 : r37.v l 0 20000 = true) (k_ : Nat) (z_ : Int) (hi_ : L15b.inv L j l n f m g z_) (hm_ : L15b.mu L j l n f m g z_ < k_) : LoopTo Try.prog (loopN Try.f15 1) (L15b.T L j l n f m g z_) (L15b.H L j l n f m g z_) (L15b.E (L15b.N m g k_ z_)) (L15b.X L j l n f m g (L15b.N m g k_ z_)) (L15b.XH L j l n f m g (L15b.N m g k_ z_)) := by
  refine LoopTo.fuelP mix (fun (z_ : Int) => L15b.T L j l n f m g z_) (fun (z_ : Int) => L15b.H L j l n f m g z_) (fun (z_ : Int) => L15b.inv L j l n f m g z_) (fun (z_ : Int) => L15b.mu L j l n f m g z_) (fun (k_ : Nat) (z_ : Int) => L15b.N m g k_ z_) L15b.E (L15b.X L j l n f m g) (L15b.XH L j l n f m g) (others 78 [3, 4, 12]) (others 78 [10]) (others 78 [3]) ?_ k_ z_ hi_ hm_
  clear hm_ hi_ z_ k_
  intro k_ z_ hinv hmu
  revert hinv hmu; revert z_; intro b12 hinv hmu
  have hinv : 0 ≤ b12 ∧ (b12 ≤ (↑m : Int) ∨ b12 ≤ 0) := hinv
  have hmu : (((↑m : Int) - b12).toNat) < k_ + 1 := hmu
  cases h1 : decide (b12 < (↑m : Int)) with
  | true =>
    have h1p := of_decide_eq_true h1
    have o0 : (0 : Int) ≤ b12 := by first | assumption | omega | (simp_all; done)
    have o1 : b12 < (↑m : Int) := by first | assumption | omega | (simp_all; done)
    cases h2 : r37.v (g b12.toNat) 0 40000 with
    | true =>
      try have := IntWalk.i64_in (b12 + 1) (by omega)
      have o2 : (0 : Int) ≤ IntKind.i64.wrap (b12 + (1 : Int)) := by first | assumption | omega | (simp_all; done)
      have o3 : IntKind.i64.wrap (b12 + (1 : Int)) ≤ (↑m : Int) ∨ IntKind.i64.wrap (b12 + (1 : Int)) ≤ (0 : Int) := by first | assumption | omega | (simp_all; done)
      have o4 : ((↑m : Int) - IntKind.i64.wrap (b12 + (1 : Int))).toNat < ((↑m : Int) - b12).toNat := by first | assumption | omega | (simp_all; done)
      exact ⟨[.b true, .ret (AV.bool (r37.v (g b12.toNat) 0 40000)) ([]), .b false], kmp (by kernel_rfl) (And.intro h1 (And.intro (And.intro o0 o1) (And.intro (r37 (g b12.toNat) (0) (40000) ([])) (And.intro (show (bnot (r37.v (g b12.toNat) 0 40000)) = false by rw [h2]; try rfl) (L15b.nx L j l n f m g (k_ := k_) (z_ := b12) (IntKind.i64.wrap (b12 + 1)) (And.intro o2 o3) o4 (by first | (simp only [L15b.N, h1, h2, cond_true, cond_false]; done) | (try unfold L15b.N; try simp only [h1, cond_true, cond_false]; try simp only [h2, cond_true, cond_false]; try rfl; done)) PopOk.same)))))⟩
    | false =>
      exact ⟨[.b true, .ret (AV.bool (r37.v (g b12.toNat) 0 40000)) ([]), .b true], kmp (by kernel_rfl) (And.intro h1 (And.intro (And.intro o0 o1) (And.intro (r37 (g b12.toNat) (0) (40000) ([])) (And.intro (show (bnot (r37.v (g b12.toNat) 0 40000)) = true by rw [h2]; try rfl) (L15b.en L j l n f m g (k_ := k_) (z_ := b12) (.e0 : L15b.O) (by first | (simp only [L15b.N, h1, h2, cond_true, cond_false]; done) | (try unfold L15b.N; try simp only [h1, cond_true, cond_false]; try simp only [h2, cond_true, cond_false]; try rfl; done)) PopOk.same)))))⟩
  | false =>
    have h1p := of_decide_eq_false h1
    exact ⟨[.b false], kmp (by kernel_rfl) (And.intro h1 (L15b.en L j l n f m g (k_ := k_) (z_ := b12) (.e1 : L15b.O) (by first | (simp only [L15b.N, h1, cond_true, cond_false]; done) | (try unfold L15b.N; try simp only [h1, cond_true, cond_false]; try rfl; done)) PopOk.same))⟩
theorem L15b.e0 (L : Int) (j : Int) (l : Int) (n : Nat) (f : Nat → Int) (hn : n ≤ 9223372036854775807) (m : Nat) (g : Nat → Int) (hm : m ≤ 9223372036854775807) (k1_1 : decide ((↑n : Int) > 16) = false) (p1_1 : ¬(↑n : Int) > 16) (k1_2 : decide ((↑m : Int) > 200) = false) (p1_2 : ¬(↑m : Int) > 200) (k1_3 : r37.v L 1 20000 = true) (k1_4 : r37.v j 0 1000 = true) (k1_5 : r37.v l 0 20000 = true) (b12 : Int) (hinv : L15b.inv L j l n f m g b12) (hN : L15b.run m g b12 = (.e0 : L15b.O)) : LoopTo Try.prog (loopN Try.f15 1) (L15b.T L j l n f m g b12) (L15b.H L j l n f m g b12) (Exit.ret) (L15b.X L j l n f m g (.e0 : L15b.O)) (L15b.XH L j l n f m g (.e0 : L15b.O)) := by
  have h_ := L15b.spec L j l n f hn m g hm k1_1 p1_1 k1_2 p1_2 k1_3 k1_4 k1_5 ((((↑m : Int) - b12).toNat) + 1) b12 hinv (Nat.lt_succ_self _)
  unfold L15b.run at hN
  simp only [hN] at h_
  exact h_
theorem L15b.e1 (L : Int) (j : Int) (l : Int) (n : Nat) (f : Nat → Int) (hn : n ≤ 9223372036854775807) (m : Nat) (g : Nat → Int) (hm : m ≤ 9223372036854775807) (k1_1 : decide ((↑n : Int) > 16) = false) (p1_1 : ¬(↑n : Int) > 16) (k1_2 : decide ((↑m : Int) > 200) = false) (p1_2 : ¬(↑m : Int) > 200) (k1_3 : r37.v L 1 20000 = true) (k1_4 : r37.v j 0 1000 = true) (k1_5 : r37.v l 0 20000 = true) (b12 : Int) (hinv : L15b.inv L j l n f m g b12) (hN : L15b.run m g b12 = (.e1 : L15b.O)) : LoopTo Try.prog (loopN Try.f15 1) (L15b.T L j l n f m g b12) (L15b.H L j l n f m g b12) (Exit.exit 2) (L15b.X L j l n f m g (.e1 : L15b.O)) (L15b.XH L j l n f m g (.e1 : L15b.O)) := by
  have h_ := L15b.spec L j l n f hn m g hm k1_1 p1_1 k1_2 p1_2 k1_3 k1_4 k1_5 ((((↑m : Int) - b12).toNat) + 1) b12 hinv (Nat.lt_succ_self _)
  unfold L15b.run at hN
  simp only [hN] at h_
  exact h_

inductive L15c.O where
  | e0
  | e1
noncomputable def L15c.T (L : Int) (j : Int) (l : Int) (n : Nat) (f : Nat → Int) (m : Nat) (c13 : Int) : List AV := mkT 78 [(3, AV.sl 1 n fun (i : Nat) => AV.int IntKind.i64 (f i)), (13, AV.int IntKind.i64 c13)]
noncomputable def L15c.H (L : Int) (j : Int) (l : Int) (n : Nat) (f : Nat → Int) (m : Nat) (c13 : Int) : AHeap := []
def L15c.inv (L : Int) (j : Int) (l : Int) (n : Nat) (f : Nat → Int) (m : Nat) (c13 : Int) : Prop := 1 ≤ c13 ∧ (c13 ≤ (↑n : Int) ∨ c13 ≤ 1)
noncomputable def L15c.mu (L : Int) (j : Int) (l : Int) (n : Nat) (f : Nat → Int) (m : Nat) (c13 : Int) : Nat := ((↑n : Int) - c13).toNat
noncomputable def L15c.E : L15c.O → Exit
  | .e0 => Exit.ret
  | .e1 => Exit.exit 4
noncomputable def L15c.X (L : Int) (j : Int) (l : Int) (n : Nat) (f : Nat → Int) (m : Nat) : L15c.O → List AV
  | .e0 => mkT 78 [(10, (AV.int IntKind.i64 1))]
  | .e1 => mkT 78 [(3, (AV.sl 1 n fun (i : Nat) => AV.int IntKind.i64 (f i)))]
noncomputable def L15c.XH (L : Int) (j : Int) (l : Int) (n : Nat) (f : Nat → Int) (m : Nat) : L15c.O → AHeap
  | .e0 => ([])
  | .e1 => ([])
noncomputable def L15c.N (n : Nat) (f : Nat → Int) : Nat → Int → L15c.O
  | 0, _ => .e0
  | k_ + 1, c13 => (bif decide (c13 < (↑n : Int)) then (bif decide (f (IntKind.i64.wrap (c13 - 1)).toNat ≥ f c13.toNat) then (.e0) else (L15c.N n f k_ (IntKind.i64.wrap (c13 + 1)))) else (.e1))
noncomputable def L15c.run (n : Nat) (f : Nat → Int) (c13 : Int) : L15c.O := L15c.N n f ((((↑n : Int) - c13).toNat) + 1) c13
def L15c.Next (L : Int) (j : Int) (l : Int) (n : Nat) (f : Nat → Int) (m : Nat) (k_ : Nat) (z_ : Int) (T_ : List AV) (h_ : AHeap) : Prop := LNextP (fun (z_ : Int) => L15c.T L j l n f m z_) (fun (z_ : Int) => L15c.H L j l n f m z_) (fun (z_ : Int) => L15c.inv L j l n f m z_) (fun (z_ : Int) => L15c.mu L j l n f m z_) (fun (k_ : Nat) (z_ : Int) => L15c.N n f k_ z_) k_ z_ T_ h_
def L15c.End (L : Int) (j : Int) (l : Int) (n : Nat) (f : Nat → Int) (m : Nat) (k_ : Nat) (z_ : Int) (e_ : Exit) (T_ : List AV) (h_ : AHeap) : Prop := LEndP (fun (z_ : Int) => L15c.H L j l n f m z_) (fun (k_ : Nat) (z_ : Int) => L15c.N n f k_ z_) L15c.E (L15c.X L j l n f m) (L15c.XH L j l n f m) k_ z_ e_ T_ h_
theorem L15c.nx (L : Int) (j : Int) (l : Int) (n : Nat) (f : Nat → Int) (m : Nat) {k_ : Nat} {z_ : Int} {h_ : AHeap} (s_ : Int) (h1 : L15c.inv L j l n f m s_) (h2 : L15c.mu L j l n f m s_ < L15c.mu L j l n f m z_) (h3 : L15c.N n f k_ s_ = L15c.N n f (k_ + 1) z_) (h4 : PopOk (L15c.H L j l n f m z_) h_ (L15c.T L j l n f m s_) (L15c.H L j l n f m s_)) : LNextP (fun (z_ : Int) => L15c.T L j l n f m z_) (fun (z_ : Int) => L15c.H L j l n f m z_) (fun (z_ : Int) => L15c.inv L j l n f m z_) (fun (z_ : Int) => L15c.mu L j l n f m z_) (fun (k_ : Nat) (z_ : Int) => L15c.N n f k_ z_) k_ z_ (L15c.T L j l n f m s_) h_ := LNextP.mk (Tm := (fun (z_ : Int) => L15c.T L j l n f m z_)) (Hp := (fun (z_ : Int) => L15c.H L j l n f m z_)) (inv := (fun (z_ : Int) => L15c.inv L j l n f m z_)) (mu := (fun (z_ : Int) => L15c.mu L j l n f m z_)) (l := (fun (k_ : Nat) (z_ : Int) => L15c.N n f k_ z_)) s_ h1 h2 h3 h4
theorem L15c.en (L : Int) (j : Int) (l : Int) (n : Nat) (f : Nat → Int) (m : Nat) {k_ : Nat} {z_ : Int} {h_ : AHeap} (o_ : L15c.O) (h3 : L15c.N n f (k_ + 1) z_ = o_) (h4 : PopOk (L15c.H L j l n f m z_) h_ (L15c.X L j l n f m o_) (L15c.XH L j l n f m o_)) : LEndP (fun (z_ : Int) => L15c.H L j l n f m z_) (fun (k_ : Nat) (z_ : Int) => L15c.N n f k_ z_) L15c.E (L15c.X L j l n f m) (L15c.XH L j l n f m) k_ z_ (L15c.E o_) (L15c.X L j l n f m o_) h_ := LEndP.mk (Hp := (fun (z_ : Int) => L15c.H L j l n f m z_)) (l := (fun (k_ : Nat) (z_ : Int) => L15c.N n f k_ z_)) (oE := L15c.E) (oT := L15c.X L j l n f m) (oH := L15c.XH L j l n f m) o_ h3 h4
theorem L15c.spec (L : Int) (j : Int) (l : Int) (n : Nat) (f : Nat → Int) (hn : n ≤ 9223372036854775807) (m : Nat) (hm : m ≤ 9223372036854775807) (k2_1 : decide ((↑n : Int) > 16) = false) (p2_1 : ¬(↑n : Int) > 16) (k2_2 : decide ((↑m : Int) > 200) = false) (p2_2 : ¬(↑m : Int) > 200) (k2_3 : r37.v L 1 20000 = true) (k2_4 : r37.v j 0 1000 = true) (k2_5 : r37.v l 0 20000 = true) (k_ : Nat) (z_ : Int) (hi_ : L15c.inv L j l n f m z_) (hm_ : L15c.mu L j l n f m z_ < k_) : LoopTo Try.prog (loopN Try.f15 2) (L15c.T L j l n f m z_) (L15c.H L j l n f m z_) (L15c.E (L15c.N n f k_ z_)) (L15c.X L j l n f m (L15c.N n f k_ z_)) (L15c.XH L j l n f m (L15c.N n f k_ z_)) := by
  refine LoopTo.fuelP mix (fun (z_ : Int) => L15c.T L j l n f m z_) (fun (z_ : Int) => L15c.H L j l n f m z_) (fun (z_ : Int) => L15c.inv L j l n f m z_) (fun (z_ : Int) => L15c.mu L j l n f m z_) (fun (k_ : Nat) (z_ : Int) => L15c.N n f k_ z_) L15c.E (L15c.X L j l n f m) (L15c.XH L j l n f m) (others 78 [3, 13]) (others 78 [10]) (others 78 [3]) ?_ k_ z_ hi_ hm_
  clear hm_ hi_ z_ k_
  intro k_ z_ hinv hmu
  revert hinv hmu; revert z_; intro c13 hinv hmu
  have hinv : 1 ≤ c13 ∧ (c13 ≤ (↑n : Int) ∨ c13 ≤ 1) := hinv
  have hmu : (((↑n : Int) - c13).toNat) < k_ + 1 := hmu
  cases h1 : decide (c13 < (↑n : Int)) with
  | true =>
    have h1p := of_decide_eq_true h1
    try have := IntWalk.i64_in (c13 - 1) (by omega)
    have o0 : (0 : Int) ≤ IntKind.i64.wrap (c13 - (1 : Int)) := by first | assumption | omega | (simp_all; done)
    have o1 : IntKind.i64.wrap (c13 - (1 : Int)) < (↑n : Int) := by first | assumption | omega | (simp_all; done)
    have o2 : (0 : Int) ≤ c13 := by first | assumption | omega | (simp_all; done)
    have o3 : c13 < (↑n : Int) := by first | assumption | omega | (simp_all; done)
    cases h2 : decide (f (IntKind.i64.wrap (c13 - 1)).toNat ≥ f c13.toNat) with
    | true =>
      have h2p := of_decide_eq_true h2
      exact ⟨[.b true, .b true], kmp (by kernel_rfl) (And.intro h1 (And.intro (And.intro o0 o1) (And.intro (And.intro o2 o3) (And.intro h2 (L15c.en L j l n f m (k_ := k_) (z_ := c13) (.e0 : L15c.O) (by first | (simp only [L15c.N, h1, h2, cond_true, cond_false]; done) | (try unfold L15c.N; try simp only [h1, cond_true, cond_false]; try simp only [h2, cond_true, cond_false]; try rfl; done)) PopOk.same)))))⟩
    | false =>
      have h2p := of_decide_eq_false h2
      try have := IntWalk.i64_in (c13 + 1) (by omega)
      have o4 : (1 : Int) ≤ IntKind.i64.wrap (c13 + (1 : Int)) := by first | assumption | omega | (simp_all; done)
      have o5 : IntKind.i64.wrap (c13 + (1 : Int)) ≤ (↑n : Int) ∨ IntKind.i64.wrap (c13 + (1 : Int)) ≤ (1 : Int) := by first | assumption | omega | (simp_all; done)
      have o6 : ((↑n : Int) - IntKind.i64.wrap (c13 + (1 : Int))).toNat < ((↑n : Int) - c13).toNat := by first | assumption | omega | (simp_all; done)
      exact ⟨[.b true, .b false], kmp (by kernel_rfl) (And.intro h1 (And.intro (And.intro o0 o1) (And.intro (And.intro o2 o3) (And.intro h2 (L15c.nx L j l n f m (k_ := k_) (z_ := c13) (IntKind.i64.wrap (c13 + 1)) (And.intro o4 o5) o6 (by first | (simp only [L15c.N, h1, h2, cond_true, cond_false]; done) | (try unfold L15c.N; try simp only [h1, cond_true, cond_false]; try simp only [h2, cond_true, cond_false]; try rfl; done)) PopOk.same)))))⟩
  | false =>
    have h1p := of_decide_eq_false h1
    exact ⟨[.b false], kmp (by kernel_rfl) (And.intro h1 (L15c.en L j l n f m (k_ := k_) (z_ := c13) (.e1 : L15c.O) (by first | (simp only [L15c.N, h1, cond_true, cond_false]; done) | (try unfold L15c.N; try simp only [h1, cond_true, cond_false]; try rfl; done)) PopOk.same))⟩
theorem L15c.e0 (L : Int) (j : Int) (l : Int) (n : Nat) (f : Nat → Int) (hn : n ≤ 9223372036854775807) (m : Nat) (hm : m ≤ 9223372036854775807) (k2_1 : decide ((↑n : Int) > 16) = false) (p2_1 : ¬(↑n : Int) > 16) (k2_2 : decide ((↑m : Int) > 200) = false) (p2_2 : ¬(↑m : Int) > 200) (k2_3 : r37.v L 1 20000 = true) (k2_4 : r37.v j 0 1000 = true) (k2_5 : r37.v l 0 20000 = true) (c13 : Int) (hinv : L15c.inv L j l n f m c13) (hN : L15c.run n f c13 = (.e0 : L15c.O)) : LoopTo Try.prog (loopN Try.f15 2) (L15c.T L j l n f m c13) (L15c.H L j l n f m c13) (Exit.ret) (L15c.X L j l n f m (.e0 : L15c.O)) (L15c.XH L j l n f m (.e0 : L15c.O)) := by
  have h_ := L15c.spec L j l n f hn m hm k2_1 p2_1 k2_2 p2_2 k2_3 k2_4 k2_5 ((((↑n : Int) - c13).toNat) + 1) c13 hinv (Nat.lt_succ_self _)
  unfold L15c.run at hN
  simp only [hN] at h_
  exact h_
theorem L15c.e1 (L : Int) (j : Int) (l : Int) (n : Nat) (f : Nat → Int) (hn : n ≤ 9223372036854775807) (m : Nat) (hm : m ≤ 9223372036854775807) (k2_1 : decide ((↑n : Int) > 16) = false) (p2_1 : ¬(↑n : Int) > 16) (k2_2 : decide ((↑m : Int) > 200) = false) (p2_2 : ¬(↑m : Int) > 200) (k2_3 : r37.v L 1 20000 = true) (k2_4 : r37.v j 0 1000 = true) (k2_5 : r37.v l 0 20000 = true) (c13 : Int) (hinv : L15c.inv L j l n f m c13) (hN : L15c.run n f c13 = (.e1 : L15c.O)) : LoopTo Try.prog (loopN Try.f15 2) (L15c.T L j l n f m c13) (L15c.H L j l n f m c13) (Exit.exit 4) (L15c.X L j l n f m (.e1 : L15c.O)) (L15c.XH L j l n f m (.e1 : L15c.O)) := by
  have h_ := L15c.spec L j l n f hn m hm k2_1 p2_1 k2_2 p2_2 k2_3 k2_4 k2_5 ((((↑n : Int) - c13).toNat) + 1) c13 hinv (Nat.lt_succ_self _)
  unfold L15c.run at hN
  simp only [hN] at h_
  exact h_

noncomputable def r15.v (L : Int) (j : Int) (l : Int) (n : Nat) (f : Nat → Int) (m : Nat) (g : Nat → Int) : Int := (bif decide ((↑n : Int) > 16) then 7 else (bif decide ((↑m : Int) > 200) then 7 else (bif r37.v L 1 20000 then (bif r37.v j 0 1000 then (bif r37.v l 0 20000 then (match L15a.run n f 0 with | .e0 => 6 | .e1 => (match L15b.run m g 0 with | .e0 => 6 | .e1 => (match L15c.run n f 1 with | .e0 => 1 | .e1 => (bif (↑n : Int) == 0 then 1 else 0) ) ) ) else 6) else 6) else 6)))
theorem r15 (L : Int) (j : Int) (l : Int) (n : Nat) (f : Nat → Int) (hn : n ≤ 9223372036854775807) (m : Nat) (g : Nat → Int) (hm : m ≤ 9223372036854775807) (h : AHeap) : Ret Try.prog 15 ([AV.int IntKind.i64 L, AV.int IntKind.i64 j, AV.int IntKind.i64 l, ivs n f, ivs m g]) h (AV.int IntKind.i64 (r15.v L j l n f m g)) h := by
  cases h1 : decide ((↑n : Int) > 16) with
  | true =>
    have h1p := of_decide_eq_true h1
    exact Ret.of_run1 mix [(AV.int IntKind.i64 (r15.v L j l n f m g))] Try.func15 rfl [.b true, .b true, .b true, .b true, .b true] (by simp) (by simp) (kmp (by kernel_rfl) (And.intro h1 (And.intro h1 (And.intro h1 (And.intro h1 (And.intro (rfl : true = true) (And.intro (show (AV.int IntKind.i64 7) = ((AV.int IntKind.i64 (r15.v L j l n f m g))) by first | (simp only [r15.v, h1, cond_true, cond_false]; done) | (try unfold r15.v; try simp only [h1, cond_true, cond_false]; try rfl; done) | rfl) trivial))))))) h
  | false =>
    have h1p := of_decide_eq_false h1
    cases h2 : decide ((↑m : Int) > 200) with
    | true =>
      have h2p := of_decide_eq_true h2
      exact Ret.of_run1 mix [(AV.int IntKind.i64 (r15.v L j l n f m g))] Try.func15 rfl [.b false, .b false, .b false, .b false, .b true] (by simp) (by simp) (kmp (by kernel_rfl) (And.intro h1 (And.intro h1 (And.intro h1 (And.intro h1 (And.intro h2 (And.intro (show (AV.int IntKind.i64 7) = ((AV.int IntKind.i64 (r15.v L j l n f m g))) by first | (simp only [r15.v, h1, h2, cond_true, cond_false]; done) | (try unfold r15.v; try simp only [h1, cond_true, cond_false]; try simp only [h2, cond_true, cond_false]; try rfl; done) | rfl) trivial))))))) h
    | false =>
      have h2p := of_decide_eq_false h2
      cases h3 : r37.v L 1 20000 with
      | true =>
        cases h4 : r37.v j 0 1000 with
        | true =>
          cases h5 : r37.v l 0 20000 with
          | true =>
            have o0 : n ≤ (9223372036854775807 : Nat) := by first | assumption | omega | (simp_all; done)
            have o1 : m ≤ (9223372036854775807 : Nat) := by first | assumption | omega | (simp_all; done)
            have o2 : decide ((↑n : Int) > (16 : Int)) = false := by first | assumption | omega | (simp_all; done)
            have o3 : ¬(↑n : Int) > (16 : Int) := by first | assumption | (simp_all; done)
            have o4 : decide ((↑m : Int) > (200 : Int)) = false := by first | assumption | omega | (simp_all; done)
            have o5 : ¬(↑m : Int) > (200 : Int) := by first | assumption | (simp_all; done)
            have o6 : r37.v L (1 : Int) (20000 : Int) = true := by first | assumption | omega | (simp_all; done)
            have o7 : r37.v j (0 : Int) (1000 : Int) = true := by first | assumption | omega | (simp_all; done)
            have o8 : r37.v l (0 : Int) (20000 : Int) = true := by first | assumption | omega | (simp_all; done)
            have o9 : (0 : Int) ≤ (↑n : Int) ∨ (0 : Int) ≤ (0 : Int) := by first | assumption | omega | (simp_all; done)
            cases h6 : L15a.run n f 0 with
            | e0 =>
              exact Ret.of_run1 mix [(AV.int IntKind.i64 (r15.v L j l n f m g))] Try.func15 rfl [.b false, .b false, .b false, .b false, .b false, .ret (AV.bool (r37.v L 1 20000)) ([]), .b false, .b false, .ret (AV.bool (r37.v j 0 1000)) ([]), .b false, .b false, .b false, .b false, .ret (AV.bool (r37.v l 0 20000)) ([]), .b false, .b false, .b false, .loop (others 78 [3, 4, 11]) (Exit.ret) (L15a.X L j l n f m g L15a.O.e0) (L15a.XH L j l n f m g L15a.O.e0)] (by simp) (by simp) (kmp (by kernel_rfl) (And.intro h1 (And.intro h1 (And.intro h1 (And.intro h1 (And.intro h2 (And.intro (r37 (L) (1) (20000) ([])) (And.intro (show (bnot (r37.v L 1 20000)) = false by rw [h3]; try rfl) (And.intro (show (bnot (r37.v L 1 20000)) = false by rw [h3]; try rfl) (And.intro (r37 (j) (0) (1000) ([])) (And.intro (show (bnot (r37.v L 1 20000)) = false by rw [h3]; try rfl) (And.intro (show (bnot (r37.v L 1 20000)) = false by rw [h3]; try rfl) (And.intro (show (bnot (r37.v j 0 1000)) = false by rw [h4]; try rfl) (And.intro (show (bnot (r37.v j 0 1000)) = false by rw [h4]; try rfl) (And.intro (r37 (l) (0) (20000) ([])) (And.intro (show (bnot (r37.v j 0 1000)) = false by rw [h4]; try rfl) (And.intro (show (bnot (r37.v j 0 1000)) = false by rw [h4]; try rfl) (And.intro (show (bnot (r37.v l 0 20000)) = false by rw [h5]; try rfl) (And.intro (L15a.e0 (L) (j) (l) (n) (f) o0 (m) (g) o1 o2 o3 o4 o5 o6 o7 o8 (0) (And.intro (show (0 : Int) ≤ (0 : Int) by first | decide | exact Int.NonNeg.mk _) o9) h6) (And.intro (show (AV.int IntKind.i64 6) = ((AV.int IntKind.i64 (r15.v L j l n f m g))) by first | (simp only [r15.v, h1, h2, h3, h4, h5, h6, cond_true, cond_false]; done) | (try unfold r15.v; try simp only [h1, cond_true, cond_false]; try simp only [h2, cond_true, cond_false]; try simp only [h3, cond_true, cond_false]; try simp only [h4, cond_true, cond_false]; try simp only [h5, cond_true, cond_false]; try simp only [h6, cond_true, cond_false]; try rfl; done) | rfl) trivial)))))))))))))))))))) h
            | e1 =>
              have o10 : (0 : Int) ≤ (↑m : Int) ∨ (0 : Int) ≤ (0 : Int) := by first | assumption | omega | (simp_all; done)
              cases h7 : L15b.run m g 0 with
              | e0 =>
                exact Ret.of_run1 mix [(AV.int IntKind.i64 (r15.v L j l n f m g))] Try.func15 rfl [.b false, .b false, .b false, .b false, .b false, .ret (AV.bool (r37.v L 1 20000)) ([]), .b false, .b false, .ret (AV.bool (r37.v j 0 1000)) ([]), .b false, .b false, .b false, .b false, .ret (AV.bool (r37.v l 0 20000)) ([]), .b false, .b false, .b false, .loop (others 78 [3, 4, 11]) (Exit.exit 0) (L15a.X L j l n f m g L15a.O.e1) (L15a.XH L j l n f m g L15a.O.e1), .loop (others 78 [3, 4, 12]) (Exit.ret) (L15b.X L j l n f m g L15b.O.e0) (L15b.XH L j l n f m g L15b.O.e0)] (by simp) (by simp) (kmp (by kernel_rfl) (And.intro h1 (And.intro h1 (And.intro h1 (And.intro h1 (And.intro h2 (And.intro (r37 (L) (1) (20000) ([])) (And.intro (show (bnot (r37.v L 1 20000)) = false by rw [h3]; try rfl) (And.intro (show (bnot (r37.v L 1 20000)) = false by rw [h3]; try rfl) (And.intro (r37 (j) (0) (1000) ([])) (And.intro (show (bnot (r37.v L 1 20000)) = false by rw [h3]; try rfl) (And.intro (show (bnot (r37.v L 1 20000)) = false by rw [h3]; try rfl) (And.intro (show (bnot (r37.v j 0 1000)) = false by rw [h4]; try rfl) (And.intro (show (bnot (r37.v j 0 1000)) = false by rw [h4]; try rfl) (And.intro (r37 (l) (0) (20000) ([])) (And.intro (show (bnot (r37.v j 0 1000)) = false by rw [h4]; try rfl) (And.intro (show (bnot (r37.v j 0 1000)) = false by rw [h4]; try rfl) (And.intro (show (bnot (r37.v l 0 20000)) = false by rw [h5]; try rfl) (And.intro (L15a.e1 (L) (j) (l) (n) (f) o0 (m) (g) o1 o2 o3 o4 o5 o6 o7 o8 (0) (And.intro (show (0 : Int) ≤ (0 : Int) by first | decide | exact Int.NonNeg.mk _) o9) h6) (And.intro (L15b.e0 (L) (j) (l) (n) (f) o0 (m) (g) o1 o2 o3 o4 o5 o6 o7 o8 (0) (And.intro (show (0 : Int) ≤ (0 : Int) by first | decide | exact Int.NonNeg.mk _) o10) h7) (And.intro (show (AV.int IntKind.i64 6) = ((AV.int IntKind.i64 (r15.v L j l n f m g))) by first | (simp only [r15.v, h1, h2, h3, h4, h5, h6, h7, cond_true, cond_false]; done) | (try unfold r15.v; try simp only [h1, cond_true, cond_false]; try simp only [h2, cond_true, cond_false]; try simp only [h3, cond_true, cond_false]; try simp only [h4, cond_true, cond_false]; try simp only [h5, cond_true, cond_false]; try simp only [h6, cond_true, cond_false]; try simp only [h7, cond_true, cond_false]; try rfl; done) | rfl) trivial))))))))))))))))))))) h
              | e1 =>
                have o11 : (1 : Int) ≤ (↑n : Int) ∨ (1 : Int) ≤ (1 : Int) := by first | assumption | omega | (simp_all; done)
                cases h8 : L15c.run n f 1 with
                | e0 =>
                  exact Ret.of_run1 mix [(AV.int IntKind.i64 (r15.v L j l n f m g))] Try.func15 rfl [.b false, .b false, .b false, .b false, .b false, .ret (AV.bool (r37.v L 1 20000)) ([]), .b false, .b false, .ret (AV.bool (r37.v j 0 1000)) ([]), .b false, .b false, .b false, .b false, .ret (AV.bool (r37.v l 0 20000)) ([]), .b false, .b false, .b false, .loop (others 78 [3, 4, 11]) (Exit.exit 0) (L15a.X L j l n f m g L15a.O.e1) (L15a.XH L j l n f m g L15a.O.e1), .loop (others 78 [3, 4, 12]) (Exit.exit 2) (L15b.X L j l n f m g L15b.O.e1) (L15b.XH L j l n f m g L15b.O.e1), .loop (others 78 [3, 13]) (Exit.ret) (L15c.X L j l n f m L15c.O.e0) (L15c.XH L j l n f m L15c.O.e0)] (by simp) (by simp) (kmp (by kernel_rfl) (And.intro h1 (And.intro h1 (And.intro h1 (And.intro h1 (And.intro h2 (And.intro (r37 (L) (1) (20000) ([])) (And.intro (show (bnot (r37.v L 1 20000)) = false by rw [h3]; try rfl) (And.intro (show (bnot (r37.v L 1 20000)) = false by rw [h3]; try rfl) (And.intro (r37 (j) (0) (1000) ([])) (And.intro (show (bnot (r37.v L 1 20000)) = false by rw [h3]; try rfl) (And.intro (show (bnot (r37.v L 1 20000)) = false by rw [h3]; try rfl) (And.intro (show (bnot (r37.v j 0 1000)) = false by rw [h4]; try rfl) (And.intro (show (bnot (r37.v j 0 1000)) = false by rw [h4]; try rfl) (And.intro (r37 (l) (0) (20000) ([])) (And.intro (show (bnot (r37.v j 0 1000)) = false by rw [h4]; try rfl) (And.intro (show (bnot (r37.v j 0 1000)) = false by rw [h4]; try rfl) (And.intro (show (bnot (r37.v l 0 20000)) = false by rw [h5]; try rfl) (And.intro (L15a.e1 (L) (j) (l) (n) (f) o0 (m) (g) o1 o2 o3 o4 o5 o6 o7 o8 (0) (And.intro (show (0 : Int) ≤ (0 : Int) by first | decide | exact Int.NonNeg.mk _) o9) h6) (And.intro (L15b.e1 (L) (j) (l) (n) (f) o0 (m) (g) o1 o2 o3 o4 o5 o6 o7 o8 (0) (And.intro (show (0 : Int) ≤ (0 : Int) by first | decide | exact Int.NonNeg.mk _) o10) h7) (And.intro (L15c.e0 (L) (j) (l) (n) (f) o0 (m) o1 o2 o3 o4 o5 o6 o7 o8 (1) (And.intro (show (1 : Int) ≤ (1 : Int) by first | decide | exact Int.NonNeg.mk _) o11) h8) (And.intro (show (AV.int IntKind.i64 1) = ((AV.int IntKind.i64 (r15.v L j l n f m g))) by first | (simp only [r15.v, h1, h2, h3, h4, h5, h6, h7, h8, cond_true, cond_false]; done) | (try unfold r15.v; try simp only [h1, cond_true, cond_false]; try simp only [h2, cond_true, cond_false]; try simp only [h3, cond_true, cond_false]; try simp only [h4, cond_true, cond_false]; try simp only [h5, cond_true, cond_false]; try simp only [h6, cond_true, cond_false]; try simp only [h7, cond_true, cond_false]; try simp only [h8, cond_true, cond_false]; try rfl; done) | rfl) trivial)))))))))))))))))))))) h
                | e1 =>
                  cases h9 : (↑n : Int) == 0 with
                  | true =>
                    have h9p := eq_of_beq h9
                    exact Ret.of_run1 mix [(AV.int IntKind.i64 (r15.v L j l n f m g))] Try.func15 rfl [.b false, .b false, .b false, .b false, .b false, .ret (AV.bool (r37.v L 1 20000)) ([]), .b false, .b false, .ret (AV.bool (r37.v j 0 1000)) ([]), .b false, .b false, .b false, .b false, .ret (AV.bool (r37.v l 0 20000)) ([]), .b false, .b false, .b false, .loop (others 78 [3, 4, 11]) (Exit.exit 0) (L15a.X L j l n f m g L15a.O.e1) (L15a.XH L j l n f m g L15a.O.e1), .loop (others 78 [3, 4, 12]) (Exit.exit 2) (L15b.X L j l n f m g L15b.O.e1) (L15b.XH L j l n f m g L15b.O.e1), .loop (others 78 [3, 13]) (Exit.exit 4) (L15c.X L j l n f m L15c.O.e1) (L15c.XH L j l n f m L15c.O.e1), .b true] (by simp) (by simp) (kmp (by kernel_rfl) (And.intro h1 (And.intro h1 (And.intro h1 (And.intro h1 (And.intro h2 (And.intro (r37 (L) (1) (20000) ([])) (And.intro (show (bnot (r37.v L 1 20000)) = false by rw [h3]; try rfl) (And.intro (show (bnot (r37.v L 1 20000)) = false by rw [h3]; try rfl) (And.intro (r37 (j) (0) (1000) ([])) (And.intro (show (bnot (r37.v L 1 20000)) = false by rw [h3]; try rfl) (And.intro (show (bnot (r37.v L 1 20000)) = false by rw [h3]; try rfl) (And.intro (show (bnot (r37.v j 0 1000)) = false by rw [h4]; try rfl) (And.intro (show (bnot (r37.v j 0 1000)) = false by rw [h4]; try rfl) (And.intro (r37 (l) (0) (20000) ([])) (And.intro (show (bnot (r37.v j 0 1000)) = false by rw [h4]; try rfl) (And.intro (show (bnot (r37.v j 0 1000)) = false by rw [h4]; try rfl) (And.intro (show (bnot (r37.v l 0 20000)) = false by rw [h5]; try rfl) (And.intro (L15a.e1 (L) (j) (l) (n) (f) o0 (m) (g) o1 o2 o3 o4 o5 o6 o7 o8 (0) (And.intro (show (0 : Int) ≤ (0 : Int) by first | decide | exact Int.NonNeg.mk _) o9) h6) (And.intro (L15b.e1 (L) (j) (l) (n) (f) o0 (m) (g) o1 o2 o3 o4 o5 o6 o7 o8 (0) (And.intro (show (0 : Int) ≤ (0 : Int) by first | decide | exact Int.NonNeg.mk _) o10) h7) (And.intro (L15c.e1 (L) (j) (l) (n) (f) o0 (m) o1 o2 o3 o4 o5 o6 o7 o8 (1) (And.intro (show (1 : Int) ≤ (1 : Int) by first | decide | exact Int.NonNeg.mk _) o11) h8) (And.intro h9 (And.intro (show (AV.int IntKind.i64 1) = ((AV.int IntKind.i64 (r15.v L j l n f m g))) by first | (simp only [r15.v, h1, h2, h3, h4, h5, h9, h6, h7, h8, cond_true, cond_false]; done) | (try unfold r15.v; try simp only [h1, cond_true, cond_false]; try simp only [h2, cond_true, cond_false]; try simp only [h3, cond_true, cond_false]; try simp only [h4, cond_true, cond_false]; try simp only [h5, cond_true, cond_false]; try simp only [h9, cond_true, cond_false]; try simp only [h6, cond_true, cond_false]; try simp only [h7, cond_true, cond_false]; try simp only [h8, cond_true, cond_false]; try rfl; done) | rfl) trivial))))))))))))))))))))))) h
                  | false =>
                    have h9p := ne_of_beq_false h9
                    exact Ret.of_run1 mix [(AV.int IntKind.i64 (r15.v L j l n f m g))] Try.func15 rfl [.b false, .b false, .b false, .b false, .b false, .ret (AV.bool (r37.v L 1 20000)) ([]), .b false, .b false, .ret (AV.bool (r37.v j 0 1000)) ([]), .b false, .b false, .b false, .b false, .ret (AV.bool (r37.v l 0 20000)) ([]), .b false, .b false, .b false, .loop (others 78 [3, 4, 11]) (Exit.exit 0) (L15a.X L j l n f m g L15a.O.e1) (L15a.XH L j l n f m g L15a.O.e1), .loop (others 78 [3, 4, 12]) (Exit.exit 2) (L15b.X L j l n f m g L15b.O.e1) (L15b.XH L j l n f m g L15b.O.e1), .loop (others 78 [3, 13]) (Exit.exit 4) (L15c.X L j l n f m L15c.O.e1) (L15c.XH L j l n f m L15c.O.e1), .b false] (by simp) (by simp) (kmp (by kernel_rfl) (And.intro h1 (And.intro h1 (And.intro h1 (And.intro h1 (And.intro h2 (And.intro (r37 (L) (1) (20000) ([])) (And.intro (show (bnot (r37.v L 1 20000)) = false by rw [h3]; try rfl) (And.intro (show (bnot (r37.v L 1 20000)) = false by rw [h3]; try rfl) (And.intro (r37 (j) (0) (1000) ([])) (And.intro (show (bnot (r37.v L 1 20000)) = false by rw [h3]; try rfl) (And.intro (show (bnot (r37.v L 1 20000)) = false by rw [h3]; try rfl) (And.intro (show (bnot (r37.v j 0 1000)) = false by rw [h4]; try rfl) (And.intro (show (bnot (r37.v j 0 1000)) = false by rw [h4]; try rfl) (And.intro (r37 (l) (0) (20000) ([])) (And.intro (show (bnot (r37.v j 0 1000)) = false by rw [h4]; try rfl) (And.intro (show (bnot (r37.v j 0 1000)) = false by rw [h4]; try rfl) (And.intro (show (bnot (r37.v l 0 20000)) = false by rw [h5]; try rfl) (And.intro (L15a.e1 (L) (j) (l) (n) (f) o0 (m) (g) o1 o2 o3 o4 o5 o6 o7 o8 (0) (And.intro (show (0 : Int) ≤ (0 : Int) by first | decide | exact Int.NonNeg.mk _) o9) h6) (And.intro (L15b.e1 (L) (j) (l) (n) (f) o0 (m) (g) o1 o2 o3 o4 o5 o6 o7 o8 (0) (And.intro (show (0 : Int) ≤ (0 : Int) by first | decide | exact Int.NonNeg.mk _) o10) h7) (And.intro (L15c.e1 (L) (j) (l) (n) (f) o0 (m) o1 o2 o3 o4 o5 o6 o7 o8 (1) (And.intro (show (1 : Int) ≤ (1 : Int) by first | decide | exact Int.NonNeg.mk _) o11) h8) (And.intro h9 (And.intro (show (AV.int IntKind.i64 0) = ((AV.int IntKind.i64 (r15.v L j l n f m g))) by first | (simp only [r15.v, h1, h2, h3, h4, h5, h9, h6, h7, h8, cond_true, cond_false]; done) | (try unfold r15.v; try simp only [h1, cond_true, cond_false]; try simp only [h2, cond_true, cond_false]; try simp only [h3, cond_true, cond_false]; try simp only [h4, cond_true, cond_false]; try simp only [h5, cond_true, cond_false]; try simp only [h9, cond_true, cond_false]; try simp only [h6, cond_true, cond_false]; try simp only [h7, cond_true, cond_false]; try simp only [h8, cond_true, cond_false]; try rfl; done) | rfl) trivial))))))))))))))))))))))) h
          | false =>
            exact Ret.of_run1 mix [(AV.int IntKind.i64 (r15.v L j l n f m g))] Try.func15 rfl [.b false, .b false, .b false, .b false, .b false, .ret (AV.bool (r37.v L 1 20000)) ([]), .b false, .b false, .ret (AV.bool (r37.v j 0 1000)) ([]), .b false, .b false, .b false, .b false, .ret (AV.bool (r37.v l 0 20000)) ([]), .b false, .b false, .b true] (by simp) (by simp) (kmp (by kernel_rfl) (And.intro h1 (And.intro h1 (And.intro h1 (And.intro h1 (And.intro h2 (And.intro (r37 (L) (1) (20000) ([])) (And.intro (show (bnot (r37.v L 1 20000)) = false by rw [h3]; try rfl) (And.intro (show (bnot (r37.v L 1 20000)) = false by rw [h3]; try rfl) (And.intro (r37 (j) (0) (1000) ([])) (And.intro (show (bnot (r37.v L 1 20000)) = false by rw [h3]; try rfl) (And.intro (show (bnot (r37.v L 1 20000)) = false by rw [h3]; try rfl) (And.intro (show (bnot (r37.v j 0 1000)) = false by rw [h4]; try rfl) (And.intro (show (bnot (r37.v j 0 1000)) = false by rw [h4]; try rfl) (And.intro (r37 (l) (0) (20000) ([])) (And.intro (show (bnot (r37.v j 0 1000)) = false by rw [h4]; try rfl) (And.intro (show (bnot (r37.v j 0 1000)) = false by rw [h4]; try rfl) (And.intro (show (bnot (r37.v l 0 20000)) = true by rw [h5]; try rfl) (And.intro (show (AV.int IntKind.i64 6) = ((AV.int IntKind.i64 (r15.v L j l n f m g))) by first | (simp only [r15.v, h1, h2, h3, h4, h5, cond_true, cond_false]; done) | (try unfold r15.v; try simp only [h1, cond_true, cond_false]; try simp only [h2, cond_true, cond_false]; try simp only [h3, cond_true, cond_false]; try simp only [h4, cond_true, cond_false]; try simp only [h5, cond_true, cond_false]; try rfl; done) | rfl) trivial))))))))))))))))))) h
        | false =>
          exact Ret.of_run1 mix [(AV.int IntKind.i64 (r15.v L j l n f m g))] Try.func15 rfl [.b false, .b false, .b false, .b false, .b false, .ret (AV.bool (r37.v L 1 20000)) ([]), .b false, .b false, .ret (AV.bool (r37.v j 0 1000)) ([]), .b false, .b false, .b true, .b true, .b true, .b true, .b true] (by simp) (by simp) (kmp (by kernel_rfl) (And.intro h1 (And.intro h1 (And.intro h1 (And.intro h1 (And.intro h2 (And.intro (r37 (L) (1) (20000) ([])) (And.intro (show (bnot (r37.v L 1 20000)) = false by rw [h3]; try rfl) (And.intro (show (bnot (r37.v L 1 20000)) = false by rw [h3]; try rfl) (And.intro (r37 (j) (0) (1000) ([])) (And.intro (show (bnot (r37.v L 1 20000)) = false by rw [h3]; try rfl) (And.intro (show (bnot (r37.v L 1 20000)) = false by rw [h3]; try rfl) (And.intro (show (bnot (r37.v j 0 1000)) = true by rw [h4]; try rfl) (And.intro (show (bnot (r37.v j 0 1000)) = true by rw [h4]; try rfl) (And.intro (show (bnot (r37.v j 0 1000)) = true by rw [h4]; try rfl) (And.intro (show (bnot (r37.v j 0 1000)) = true by rw [h4]; try rfl) (And.intro (rfl : true = true) (And.intro (show (AV.int IntKind.i64 6) = ((AV.int IntKind.i64 (r15.v L j l n f m g))) by first | (simp only [r15.v, h1, h2, h3, h4, cond_true, cond_false]; done) | (try unfold r15.v; try simp only [h1, cond_true, cond_false]; try simp only [h2, cond_true, cond_false]; try simp only [h3, cond_true, cond_false]; try simp only [h4, cond_true, cond_false]; try rfl; done) | rfl) trivial)))))))))))))))))) h
      | false =>
        exact Ret.of_run1 mix [(AV.int IntKind.i64 (r15.v L j l n f m g))] Try.func15 rfl [.b false, .b false, .b false, .b false, .b false, .ret (AV.bool (r37.v L 1 20000)) ([]), .b true, .b true, .b true, .b true, .b true, .b true, .b true, .b true, .b true] (by simp) (by simp) (kmp (by kernel_rfl) (And.intro h1 (And.intro h1 (And.intro h1 (And.intro h1 (And.intro h2 (And.intro (r37 (L) (1) (20000) ([])) (And.intro (show (bnot (r37.v L 1 20000)) = true by rw [h3]; try rfl) (And.intro (show (bnot (r37.v L 1 20000)) = true by rw [h3]; try rfl) (And.intro (show (bnot (r37.v L 1 20000)) = true by rw [h3]; try rfl) (And.intro (show (bnot (r37.v L 1 20000)) = true by rw [h3]; try rfl) (And.intro (rfl : true = true) (And.intro (rfl : true = true) (And.intro (rfl : true = true) (And.intro (rfl : true = true) (And.intro (rfl : true = true) (And.intro (show (AV.int IntKind.i64 6) = ((AV.int IntKind.i64 (r15.v L j l n f m g))) by first | (simp only [r15.v, h1, h2, h3, cond_true, cond_false]; done) | (try unfold r15.v; try simp only [h1, cond_true, cond_false]; try simp only [h2, cond_true, cond_false]; try simp only [h3, cond_true, cond_false]; try rfl; done) | rfl) trivial))))))))))))))))) h

noncomputable def r10.v (L : Int) (n : Nat) (m : Nat) : Bool := (bif decide (L > 300) then (bif decide (L ≤ 20000) then false else (bif decide ((↑n : Int) ≤ 20) then (bif decide ((↑m : Int) ≤ 20) then true else (bif decide ((↑m : Int) > 200) then decide ((↑m : Int) ≤ 210) else false)) else false)) else (bif decide ((↑n : Int) ≤ 20) then (bif decide ((↑m : Int) ≤ 20) then true else (bif decide ((↑m : Int) > 200) then decide ((↑m : Int) ≤ 210) else false)) else false))
theorem r10 (L : Int) (n : Nat) (f : Nat → Int) (hn : n ≤ 9223372036854775807) (m : Nat) (g : Nat → Int) (hm : m ≤ 9223372036854775807) (h : AHeap) : Ret Try.prog 10 ([AV.int IntKind.i64 L, ivs n f, ivs m g]) h (AV.bool (r10.v L n m)) h := by
  cases h1 : decide (L > 300) with
  | true =>
    have h1p := of_decide_eq_true h1
    cases h2 : decide (L ≤ 20000) with
    | true =>
      have h2p := of_decide_eq_true h2
      exact Ret.of_run1 mix [(AV.bool (r10.v L n m))] Try.func10 rfl [.b true, .b true, .b true, .b true] (by simp) (by simp) (kmp (by kernel_rfl) (And.intro h1 (And.intro h1 (And.intro h1 (And.intro h2 (And.intro (show (AV.bool false) = ((AV.bool (r10.v L n m))) by first | (simp only [r10.v, h1, h2, cond_true, cond_false]; done) | (try unfold r10.v; try simp only [h1, cond_true, cond_false]; try simp only [h2, cond_true, cond_false]; try rfl; done) | rfl) trivial)))))) h
    | false =>
      have h2p := of_decide_eq_false h2
      cases h3 : decide ((↑n : Int) ≤ 20) with
      | true =>
        have h3p := of_decide_eq_true h3
        cases h4 : decide ((↑m : Int) ≤ 20) with
        | true =>
          have h4p := of_decide_eq_true h4
          exact Ret.of_run1 mix [(AV.bool (r10.v L n m))] Try.func10 rfl [.b true, .b true, .b true, .b false, .b true, .b true, .b true, .b true, .b true, .b true, .b true, .b true, .b true, .b true, .b true, .b true] (by simp) (by simp) (kmp (by kernel_rfl) (And.intro h1 (And.intro h1 (And.intro h1 (And.intro h2 (And.intro h3 (And.intro h3 (And.intro h3 (And.intro h3 (And.intro h4 (And.intro h4 (And.intro h4 (And.intro h4 (And.intro h4 (And.intro h3 (And.intro h4 (And.intro h3 (And.intro (show (AV.bool true) = ((AV.bool (r10.v L n m))) by first | (simp only [r10.v, h1, h2, h3, h4, cond_true, cond_false]; done) | (try unfold r10.v; try simp only [h1, cond_true, cond_false]; try simp only [h2, cond_true, cond_false]; try simp only [h3, cond_true, cond_false]; try simp only [h4, cond_true, cond_false]; try rfl; done) | rfl) trivial)))))))))))))))))) h
        | false =>
          have h4p := of_decide_eq_false h4
          cases h5 : decide ((↑m : Int) > 200) with
          | true =>
            have h5p := of_decide_eq_true h5
            exact Ret.of_run1 mix [(AV.bool (r10.v L n m))] Try.func10 rfl [.b true, .b true, .b true, .b false, .b true, .b true, .b true, .b true, .b false, .b false, .b false, .b false, .b true, .b true, .b true, .b false, .b true, .b true, .b false, .b true] (by simp) (by simp) (kmp (by kernel_rfl) (And.intro h1 (And.intro h1 (And.intro h1 (And.intro h2 (And.intro h3 (And.intro h3 (And.intro h3 (And.intro h3 (And.intro h4 (And.intro h4 (And.intro h4 (And.intro h4 (And.intro h5 (And.intro h5 (And.intro h5 (And.intro h4 (And.intro h5 (And.intro h3 (And.intro h4 (And.intro h3 (And.intro (show (AV.bool (decide ((↑m : Int) ≤ 210))) = ((AV.bool (r10.v L n m))) by first | (simp only [r10.v, h1, h2, h3, h4, h5, cond_true, cond_false]; done) | (try unfold r10.v; try simp only [h1, cond_true, cond_false]; try simp only [h2, cond_true, cond_false]; try simp only [h3, cond_true, cond_false]; try simp only [h4, cond_true, cond_false]; try simp only [h5, cond_true, cond_false]; try rfl; done) | rfl) trivial)))))))))))))))))))))) h
          | false =>
            have h5p := of_decide_eq_false h5
            exact Ret.of_run1 mix [(AV.bool (r10.v L n m))] Try.func10 rfl [.b true, .b true, .b true, .b false, .b true, .b true, .b true, .b true, .b false, .b false, .b false, .b false, .b false, .b false, .b false, .b false, .b false, .b true, .b false, .b true] (by simp) (by simp) (kmp (by kernel_rfl) (And.intro h1 (And.intro h1 (And.intro h1 (And.intro h2 (And.intro h3 (And.intro h3 (And.intro h3 (And.intro h3 (And.intro h4 (And.intro h4 (And.intro h4 (And.intro h4 (And.intro h5 (And.intro h5 (And.intro h5 (And.intro h4 (And.intro h5 (And.intro h3 (And.intro h4 (And.intro h3 (And.intro (show (AV.bool false) = ((AV.bool (r10.v L n m))) by first | (simp only [r10.v, h1, h2, h3, h4, h5, cond_true, cond_false]; done) | (try unfold r10.v; try simp only [h1, cond_true, cond_false]; try simp only [h2, cond_true, cond_false]; try simp only [h3, cond_true, cond_false]; try simp only [h4, cond_true, cond_false]; try simp only [h5, cond_true, cond_false]; try rfl; done) | rfl) trivial)))))))))))))))))))))) h
      | false =>
        have h3p := of_decide_eq_false h3
        exact Ret.of_run1 mix [(AV.bool (r10.v L n m))] Try.func10 rfl [.b true, .b true, .b true, .b false, .b false, .b false, .b false, .b false, .b false, .b false] (by simp) (by simp) (kmp (by kernel_rfl) (And.intro h1 (And.intro h1 (And.intro h1 (And.intro h2 (And.intro h3 (And.intro h3 (And.intro h3 (And.intro h3 (And.intro h3 (And.intro h3 (And.intro (show (AV.bool false) = ((AV.bool (r10.v L n m))) by first | (simp only [r10.v, h1, h2, h3, cond_true, cond_false]; done) | (try unfold r10.v; try simp only [h1, cond_true, cond_false]; try simp only [h2, cond_true, cond_false]; try simp only [h3, cond_true, cond_false]; try rfl; done) | rfl) trivial)))))))))))) h
  | false =>
    have h1p := of_decide_eq_false h1
    cases h2 : decide ((↑n : Int) ≤ 20) with
    | true =>
      have h2p := of_decide_eq_true h2
      cases h3 : decide ((↑m : Int) ≤ 20) with
      | true =>
        have h3p := of_decide_eq_true h3
        exact Ret.of_run1 mix [(AV.bool (r10.v L n m))] Try.func10 rfl [.b false, .b false, .b false, .b false, .b true, .b true, .b true, .b true, .b true, .b true, .b true, .b true, .b true, .b true, .b true, .b true] (by simp) (by simp) (kmp (by kernel_rfl) (And.intro h1 (And.intro h1 (And.intro h1 (And.intro (rfl : false = false) (And.intro h2 (And.intro h2 (And.intro h2 (And.intro h2 (And.intro h3 (And.intro h3 (And.intro h3 (And.intro h3 (And.intro h3 (And.intro h2 (And.intro h3 (And.intro h2 (And.intro (show (AV.bool true) = ((AV.bool (r10.v L n m))) by first | (simp only [r10.v, h1, h2, h3, cond_true, cond_false]; done) | (try unfold r10.v; try simp only [h1, cond_true, cond_false]; try simp only [h2, cond_true, cond_false]; try simp only [h3, cond_true, cond_false]; try rfl; done) | rfl) trivial)))))))))))))))))) h
      | false =>
        have h3p := of_decide_eq_false h3
        cases h4 : decide ((↑m : Int) > 200) with
        | true =>
          have h4p := of_decide_eq_true h4
          exact Ret.of_run1 mix [(AV.bool (r10.v L n m))] Try.func10 rfl [.b false, .b false, .b false, .b false, .b true, .b true, .b true, .b true, .b false, .b false, .b false, .b false, .b true, .b true, .b true, .b false, .b true, .b true, .b false, .b true] (by simp) (by simp) (kmp (by kernel_rfl) (And.intro h1 (And.intro h1 (And.intro h1 (And.intro (rfl : false = false) (And.intro h2 (And.intro h2 (And.intro h2 (And.intro h2 (And.intro h3 (And.intro h3 (And.intro h3 (And.intro h3 (And.intro h4 (And.intro h4 (And.intro h4 (And.intro h3 (And.intro h4 (And.intro h2 (And.intro h3 (And.intro h2 (And.intro (show (AV.bool (decide ((↑m : Int) ≤ 210))) = ((AV.bool (r10.v L n m))) by first | (simp only [r10.v, h1, h2, h3, h4, cond_true, cond_false]; done) | (try unfold r10.v; try simp only [h1, cond_true, cond_false]; try simp only [h2, cond_true, cond_false]; try simp only [h3, cond_true, cond_false]; try simp only [h4, cond_true, cond_false]; try rfl; done) | rfl) trivial)))))))))))))))))))))) h
        | false =>
          have h4p := of_decide_eq_false h4
          exact Ret.of_run1 mix [(AV.bool (r10.v L n m))] Try.func10 rfl [.b false, .b false, .b false, .b false, .b true, .b true, .b true, .b true, .b false, .b false, .b false, .b false, .b false, .b false, .b false, .b false, .b false, .b true, .b false, .b true] (by simp) (by simp) (kmp (by kernel_rfl) (And.intro h1 (And.intro h1 (And.intro h1 (And.intro (rfl : false = false) (And.intro h2 (And.intro h2 (And.intro h2 (And.intro h2 (And.intro h3 (And.intro h3 (And.intro h3 (And.intro h3 (And.intro h4 (And.intro h4 (And.intro h4 (And.intro h3 (And.intro h4 (And.intro h2 (And.intro h3 (And.intro h2 (And.intro (show (AV.bool false) = ((AV.bool (r10.v L n m))) by first | (simp only [r10.v, h1, h2, h3, h4, cond_true, cond_false]; done) | (try unfold r10.v; try simp only [h1, cond_true, cond_false]; try simp only [h2, cond_true, cond_false]; try simp only [h3, cond_true, cond_false]; try simp only [h4, cond_true, cond_false]; try rfl; done) | rfl) trivial)))))))))))))))))))))) h
    | false =>
      have h2p := of_decide_eq_false h2
      exact Ret.of_run1 mix [(AV.bool (r10.v L n m))] Try.func10 rfl [.b false, .b false, .b false, .b false, .b false, .b false, .b false, .b false, .b false, .b false] (by simp) (by simp) (kmp (by kernel_rfl) (And.intro h1 (And.intro h1 (And.intro h1 (And.intro (rfl : false = false) (And.intro h2 (And.intro h2 (And.intro h2 (And.intro h2 (And.intro h2 (And.intro h2 (And.intro (show (AV.bool false) = ((AV.bool (r10.v L n m))) by first | (simp only [r10.v, h1, h2, cond_true, cond_false]; done) | (try unfold r10.v; try simp only [h1, cond_true, cond_false]; try simp only [h2, cond_true, cond_false]; try rfl; done) | rfl) trivial)))))))))))) h

inductive L17a.O where
  | e0
  | e1
noncomputable def L17a.T (n : Nat) (f : Nat → Int) (m : Nat) (g : Nat → Int) (a5 : Int) : List AV := mkT 26 [(0, AV.sl 1 n fun (i : Nat) => AV.int IntKind.i64 (f i)), (1, AV.sl 1 m fun (i : Nat) => AV.int IntKind.i64 (g i)), (5, AV.int IntKind.i64 a5)]
noncomputable def L17a.H (n : Nat) (f : Nat → Int) (m : Nat) (g : Nat → Int) (a5 : Int) : AHeap := []
def L17a.inv (n : Nat) (f : Nat → Int) (m : Nat) (g : Nat → Int) (a5 : Int) : Prop := 0 ≤ a5 ∧ (a5 ≤ (↑n : Int) ∨ a5 ≤ 0)
noncomputable def L17a.mu (n : Nat) (f : Nat → Int) (m : Nat) (g : Nat → Int) (a5 : Int) : Nat := ((↑n : Int) - a5).toNat
noncomputable def L17a.E : L17a.O → Exit
  | .e0 => Exit.ret
  | .e1 => Exit.exit 0
noncomputable def L17a.X (n : Nat) (f : Nat → Int) (m : Nat) (g : Nat → Int) : L17a.O → List AV
  | .e0 => mkT 26 [(4, (AV.bool false))]
  | .e1 => mkT 26 []
noncomputable def L17a.XH (n : Nat) (f : Nat → Int) (m : Nat) (g : Nat → Int) : L17a.O → AHeap
  | .e0 => ([])
  | .e1 => ([])
noncomputable def L17a.N (n : Nat) (f : Nat → Int) (g : Nat → Int) : Nat → Int → L17a.O
  | 0, _ => .e0
  | k_ + 1, a5 => (bif decide (a5 < (↑n : Int)) then (bif f a5.toNat == g a5.toNat then (L17a.N n f g k_ (IntKind.i64.wrap (a5 + 1))) else (.e0)) else (.e1))
noncomputable def L17a.run (n : Nat) (f : Nat → Int) (g : Nat → Int) (a5 : Int) : L17a.O := L17a.N n f g ((((↑n : Int) - a5).toNat) + 1) a5
def L17a.Next (n : Nat) (f : Nat → Int) (m : Nat) (g : Nat → Int) (k_ : Nat) (z_ : Int) (T_ : List AV) (h_ : AHeap) : Prop := LNextP (fun (z_ : Int) => L17a.T n f m g z_) (fun (z_ : Int) => L17a.H n f m g z_) (fun (z_ : Int) => L17a.inv n f m g z_) (fun (z_ : Int) => L17a.mu n f m g z_) (fun (k_ : Nat) (z_ : Int) => L17a.N n f g k_ z_) k_ z_ T_ h_
def L17a.End (n : Nat) (f : Nat → Int) (m : Nat) (g : Nat → Int) (k_ : Nat) (z_ : Int) (e_ : Exit) (T_ : List AV) (h_ : AHeap) : Prop := LEndP (fun (z_ : Int) => L17a.H n f m g z_) (fun (k_ : Nat) (z_ : Int) => L17a.N n f g k_ z_) L17a.E (L17a.X n f m g) (L17a.XH n f m g) k_ z_ e_ T_ h_
theorem L17a.nx (n : Nat) (f : Nat → Int) (m : Nat) (g : Nat → Int) {k_ : Nat} {z_ : Int} {h_ : AHeap} (s_ : Int) (h1 : L17a.inv n f m g s_) (h2 : L17a.mu n f m g s_ < L17a.mu n f m g z_) (h3 : L17a.N n f g k_ s_ = L17a.N n f g (k_ + 1) z_) (h4 : PopOk (L17a.H n f m g z_) h_ (L17a.T n f m g s_) (L17a.H n f m g s_)) : LNextP (fun (z_ : Int) => L17a.T n f m g z_) (fun (z_ : Int) => L17a.H n f m g z_) (fun (z_ : Int) => L17a.inv n f m g z_) (fun (z_ : Int) => L17a.mu n f m g z_) (fun (k_ : Nat) (z_ : Int) => L17a.N n f g k_ z_) k_ z_ (L17a.T n f m g s_) h_ := LNextP.mk (Tm := (fun (z_ : Int) => L17a.T n f m g z_)) (Hp := (fun (z_ : Int) => L17a.H n f m g z_)) (inv := (fun (z_ : Int) => L17a.inv n f m g z_)) (mu := (fun (z_ : Int) => L17a.mu n f m g z_)) (l := (fun (k_ : Nat) (z_ : Int) => L17a.N n f g k_ z_)) s_ h1 h2 h3 h4
theorem L17a.en (n : Nat) (f : Nat → Int) (m : Nat) (g : Nat → Int) {k_ : Nat} {z_ : Int} {h_ : AHeap} (o_ : L17a.O) (h3 : L17a.N n f g (k_ + 1) z_ = o_) (h4 : PopOk (L17a.H n f m g z_) h_ (L17a.X n f m g o_) (L17a.XH n f m g o_)) : LEndP (fun (z_ : Int) => L17a.H n f m g z_) (fun (k_ : Nat) (z_ : Int) => L17a.N n f g k_ z_) L17a.E (L17a.X n f m g) (L17a.XH n f m g) k_ z_ (L17a.E o_) (L17a.X n f m g o_) h_ := LEndP.mk (Hp := (fun (z_ : Int) => L17a.H n f m g z_)) (l := (fun (k_ : Nat) (z_ : Int) => L17a.N n f g k_ z_)) (oE := L17a.E) (oT := L17a.X n f m g) (oH := L17a.XH n f m g) o_ h3 h4
theorem L17a.spec (n : Nat) (f : Nat → Int) (hn : n ≤ 9223372036854775807) (m : Nat) (g : Nat → Int) (hm : m ≤ 9223372036854775807) (k0_1 : ((↑n : Int) == (↑m : Int)) = true) (p0_1 : (↑n : Int) = (↑m : Int)) (k_ : Nat) (z_ : Int) (hi_ : L17a.inv n f m g z_) (hm_ : L17a.mu n f m g z_ < k_) : LoopTo Try.prog (loopN Try.f17 0) (L17a.T n f m g z_) (L17a.H n f m g z_) (L17a.E (L17a.N n f g k_ z_)) (L17a.X n f m g (L17a.N n f g k_ z_)) (L17a.XH n f m g (L17a.N n f g k_ z_)) := by
  refine LoopTo.fuelP mix (fun (z_ : Int) => L17a.T n f m g z_) (fun (z_ : Int) => L17a.H n f m g z_) (fun (z_ : Int) => L17a.inv n f m g z_) (fun (z_ : Int) => L17a.mu n f m g z_) (fun (k_ : Nat) (z_ : Int) => L17a.N n f g k_ z_) L17a.E (L17a.X n f m g) (L17a.XH n f m g) (others 26 [0, 1, 5]) (others 26 [4]) (others 26 []) ?_ k_ z_ hi_ hm_
  clear hm_ hi_ z_ k_
  intro k_ z_ hinv hmu
  revert hinv hmu; revert z_; intro a5 hinv hmu
  have hinv : 0 ≤ a5 ∧ (a5 ≤ (↑n : Int) ∨ a5 ≤ 0) := hinv
  have hmu : (((↑n : Int) - a5).toNat) < k_ + 1 := hmu
  cases h1 : decide (a5 < (↑n : Int)) with
  | true =>
    have h1p := of_decide_eq_true h1
    have o0 : (0 : Int) ≤ a5 := by first | assumption | omega | (simp_all; done)
    have o1 : a5 < (↑n : Int) := by first | assumption | omega | (simp_all; done)
    have o2 : a5 < (↑m : Int) := by first | assumption | omega | (simp_all; done)
    cases h2 : f a5.toNat == g a5.toNat with
    | true =>
      have h2p := eq_of_beq h2
      try have := IntWalk.i64_in (a5 + 1) (by omega)
      have o3 : (0 : Int) ≤ IntKind.i64.wrap (a5 + (1 : Int)) := by first | assumption | omega | (simp_all; done)
      have o4 : IntKind.i64.wrap (a5 + (1 : Int)) ≤ (↑n : Int) ∨ IntKind.i64.wrap (a5 + (1 : Int)) ≤ (0 : Int) := by first | assumption | omega | (simp_all; done)
      have o5 : ((↑n : Int) - IntKind.i64.wrap (a5 + (1 : Int))).toNat < ((↑n : Int) - a5).toNat := by first | assumption | omega | (simp_all; done)
      exact ⟨[.b true, .b false], kmp (by kernel_rfl) (And.intro h1 (And.intro (And.intro o0 o1) (And.intro (And.intro o0 o2) (And.intro (show (bnot (f a5.toNat == g a5.toNat)) = false by rw [h2]; try rfl) (L17a.nx n f m g (k_ := k_) (z_ := a5) (IntKind.i64.wrap (a5 + 1)) (And.intro o3 o4) o5 (by first | (simp only [L17a.N, h1, h2, cond_true, cond_false]; done) | (try unfold L17a.N; try simp only [h1, cond_true, cond_false]; try simp only [h2, cond_true, cond_false]; try rfl; done)) PopOk.same)))))⟩
    | false =>
      have h2p := ne_of_beq_false h2
      exact ⟨[.b true, .b true], kmp (by kernel_rfl) (And.intro h1 (And.intro (And.intro o0 o1) (And.intro (And.intro o0 o2) (And.intro (show (bnot (f a5.toNat == g a5.toNat)) = true by rw [h2]; try rfl) (L17a.en n f m g (k_ := k_) (z_ := a5) (.e0 : L17a.O) (by first | (simp only [L17a.N, h1, h2, cond_true, cond_false]; done) | (try unfold L17a.N; try simp only [h1, cond_true, cond_false]; try simp only [h2, cond_true, cond_false]; try rfl; done)) PopOk.same)))))⟩
  | false =>
    have h1p := of_decide_eq_false h1
    exact ⟨[.b false], kmp (by kernel_rfl) (And.intro h1 (L17a.en n f m g (k_ := k_) (z_ := a5) (.e1 : L17a.O) (by first | (simp only [L17a.N, h1, cond_true, cond_false]; done) | (try unfold L17a.N; try simp only [h1, cond_true, cond_false]; try rfl; done)) PopOk.same))⟩
theorem L17a.e0 (n : Nat) (f : Nat → Int) (hn : n ≤ 9223372036854775807) (m : Nat) (g : Nat → Int) (hm : m ≤ 9223372036854775807) (k0_1 : ((↑n : Int) == (↑m : Int)) = true) (p0_1 : (↑n : Int) = (↑m : Int)) (a5 : Int) (hinv : L17a.inv n f m g a5) (hN : L17a.run n f g a5 = (.e0 : L17a.O)) : LoopTo Try.prog (loopN Try.f17 0) (L17a.T n f m g a5) (L17a.H n f m g a5) (Exit.ret) (L17a.X n f m g (.e0 : L17a.O)) (L17a.XH n f m g (.e0 : L17a.O)) := by
  have h_ := L17a.spec n f hn m g hm k0_1 p0_1 ((((↑n : Int) - a5).toNat) + 1) a5 hinv (Nat.lt_succ_self _)
  unfold L17a.run at hN
  simp only [hN] at h_
  exact h_
theorem L17a.e1 (n : Nat) (f : Nat → Int) (hn : n ≤ 9223372036854775807) (m : Nat) (g : Nat → Int) (hm : m ≤ 9223372036854775807) (k0_1 : ((↑n : Int) == (↑m : Int)) = true) (p0_1 : (↑n : Int) = (↑m : Int)) (a5 : Int) (hinv : L17a.inv n f m g a5) (hN : L17a.run n f g a5 = (.e1 : L17a.O)) : LoopTo Try.prog (loopN Try.f17 0) (L17a.T n f m g a5) (L17a.H n f m g a5) (Exit.exit 0) (L17a.X n f m g (.e1 : L17a.O)) (L17a.XH n f m g (.e1 : L17a.O)) := by
  have h_ := L17a.spec n f hn m g hm k0_1 p0_1 ((((↑n : Int) - a5).toNat) + 1) a5 hinv (Nat.lt_succ_self _)
  unfold L17a.run at hN
  simp only [hN] at h_
  exact h_

noncomputable def r17.v (n : Nat) (f : Nat → Int) (m : Nat) (g : Nat → Int) : Bool := (bif (↑n : Int) == (↑m : Int) then (match L17a.run n f g 0 with | .e0 => false | .e1 => true ) else false)
theorem r17 (n : Nat) (f : Nat → Int) (hn : n ≤ 9223372036854775807) (m : Nat) (g : Nat → Int) (hm : m ≤ 9223372036854775807) (h : AHeap) : Ret Try.prog 17 ([ivs n f, ivs m g]) h (AV.bool (r17.v n f m g)) h := by
  cases h1 : (↑n : Int) == (↑m : Int) with
  | true =>
    have h1p := eq_of_beq h1
    have o0 : n ≤ (9223372036854775807 : Nat) := by first | assumption | omega | (simp_all; done)
    have o1 : m ≤ (9223372036854775807 : Nat) := by first | assumption | omega | (simp_all; done)
    have o2 : ((↑n : Int) == (↑m : Int)) = true := by first | assumption | omega | (simp_all; done)
    have o3 : (↑n : Int) = (↑m : Int) := by first | assumption | omega | (simp_all; done)
    have o4 : (0 : Int) ≤ (↑n : Int) ∨ (0 : Int) ≤ (0 : Int) := by first | assumption | omega | (simp_all; done)
    cases h2 : L17a.run n f g 0 with
    | e0 =>
      exact Ret.of_run1 mix [(AV.bool (r17.v n f m g))] Try.func17 rfl [.b false, .loop (others 26 [0, 1, 5]) (Exit.ret) (L17a.X n f m g L17a.O.e0) (L17a.XH n f m g L17a.O.e0)] (by simp) (by simp) (kmp (by kernel_rfl) (And.intro (show (bnot ((↑n : Int) == (↑m : Int))) = false by rw [h1]; try rfl) (And.intro (L17a.e0 (n) (f) o0 (m) (g) o1 o2 o3 (0) (And.intro (show (0 : Int) ≤ (0 : Int) by first | decide | exact Int.NonNeg.mk _) o4) h2) (And.intro (show (AV.bool false) = ((AV.bool (r17.v n f m g))) by first | (simp only [r17.v, h1, h2, cond_true, cond_false]; done) | (try unfold r17.v; try simp only [h1, cond_true, cond_false]; try simp only [h2, cond_true, cond_false]; try rfl; done) | rfl) trivial)))) h
    | e1 =>
      exact Ret.of_run1 mix [(AV.bool (r17.v n f m g))] Try.func17 rfl [.b false, .loop (others 26 [0, 1, 5]) (Exit.exit 0) (L17a.X n f m g L17a.O.e1) (L17a.XH n f m g L17a.O.e1)] (by simp) (by simp) (kmp (by kernel_rfl) (And.intro (show (bnot ((↑n : Int) == (↑m : Int))) = false by rw [h1]; try rfl) (And.intro (L17a.e1 (n) (f) o0 (m) (g) o1 o2 o3 (0) (And.intro (show (0 : Int) ≤ (0 : Int) by first | decide | exact Int.NonNeg.mk _) o4) h2) (And.intro (show (AV.bool true) = ((AV.bool (r17.v n f m g))) by first | (simp only [r17.v, h1, h2, cond_true, cond_false]; done) | (try unfold r17.v; try simp only [h1, cond_true, cond_false]; try simp only [h2, cond_true, cond_false]; try rfl; done) | rfl) trivial)))) h
  | false =>
    have h1p := ne_of_beq_false h1
    exact Ret.of_run1 mix [(AV.bool (r17.v n f m g))] Try.func17 rfl [.b true] (by simp) (by simp) (kmp (by kernel_rfl) (And.intro (show (bnot ((↑n : Int) == (↑m : Int))) = true by rw [h1]; try rfl) (And.intro (show (AV.bool false) = ((AV.bool (r17.v n f m g))) by first | (simp only [r17.v, h1, cond_true, cond_false]; done) | (try unfold r17.v; try simp only [h1, cond_true, cond_false]; try rfl; done) | rfl) trivial))) h

inductive L19a.O where
  | e0 (a0 : Bool)
  | e1
noncomputable def L19a.T (n : Nat) (f : Nat → Int) (m : Nat) (g : Nat → Int) (a5 : Int) : List AV := mkT 41 [(0, AV.sl 1 n fun (i : Nat) => AV.int IntKind.i64 (f i)), (1, AV.sl 1 m fun (i : Nat) => AV.int IntKind.i64 (g i)), (5, AV.int IntKind.i64 a5)]
noncomputable def L19a.H (n : Nat) (f : Nat → Int) (m : Nat) (g : Nat → Int) (a5 : Int) : AHeap := []
def L19a.inv (n : Nat) (f : Nat → Int) (m : Nat) (g : Nat → Int) (a5 : Int) : Prop := 0 ≤ a5 ∧ (a5 ≤ (↑n : Int) ∨ a5 ≤ 0)
noncomputable def L19a.mu (n : Nat) (f : Nat → Int) (m : Nat) (g : Nat → Int) (a5 : Int) : Nat := ((↑n : Int) - a5).toNat
noncomputable def L19a.E : L19a.O → Exit
  | .e0 a0 => Exit.ret
  | .e1 => Exit.exit 0
noncomputable def L19a.X (n : Nat) (f : Nat → Int) (m : Nat) (g : Nat → Int) : L19a.O → List AV
  | .e0 a0 => mkT 41 [(4, (AV.bool a0))]
  | .e1 => mkT 41 [(0, (AV.sl 1 n fun (i : Nat) => AV.int IntKind.i64 (f i))), (1, (AV.sl 1 m fun (i : Nat) => AV.int IntKind.i64 (g i)))]
noncomputable def L19a.XH (n : Nat) (f : Nat → Int) (m : Nat) (g : Nat → Int) : L19a.O → AHeap
  | .e0 a0 => ([])
  | .e1 => ([])
noncomputable def L19a.N (n : Nat) (f : Nat → Int) (m : Nat) (g : Nat → Int) : Nat → Int → L19a.O
  | 0, _ => .e0 default
  | k_ + 1, a5 => (bif decide (a5 < (↑n : Int)) then (bif decide (a5 < (↑m : Int)) then (bif f a5.toNat == g a5.toNat then (L19a.N n f m g k_ (IntKind.i64.wrap (a5 + 1))) else (.e0 (decide (f a5.toNat < g a5.toNat)))) else (.e1)) else (.e1))
noncomputable def L19a.run (n : Nat) (f : Nat → Int) (m : Nat) (g : Nat → Int) (a5 : Int) : L19a.O := L19a.N n f m g ((((↑n : Int) - a5).toNat) + 1) a5
def L19a.Next (n : Nat) (f : Nat → Int) (m : Nat) (g : Nat → Int) (k_ : Nat) (z_ : Int) (T_ : List AV) (h_ : AHeap) : Prop := LNextP (fun (z_ : Int) => L19a.T n f m g z_) (fun (z_ : Int) => L19a.H n f m g z_) (fun (z_ : Int) => L19a.inv n f m g z_) (fun (z_ : Int) => L19a.mu n f m g z_) (fun (k_ : Nat) (z_ : Int) => L19a.N n f m g k_ z_) k_ z_ T_ h_
def L19a.End (n : Nat) (f : Nat → Int) (m : Nat) (g : Nat → Int) (k_ : Nat) (z_ : Int) (e_ : Exit) (T_ : List AV) (h_ : AHeap) : Prop := LEndP (fun (z_ : Int) => L19a.H n f m g z_) (fun (k_ : Nat) (z_ : Int) => L19a.N n f m g k_ z_) L19a.E (L19a.X n f m g) (L19a.XH n f m g) k_ z_ e_ T_ h_
theorem L19a.nx (n : Nat) (f : Nat → Int) (m : Nat) (g : Nat → Int) {k_ : Nat} {z_ : Int} {h_ : AHeap} (s_ : Int) (h1 : L19a.inv n f m g s_) (h2 : L19a.mu n f m g s_ < L19a.mu n f m g z_) (h3 : L19a.N n f m g k_ s_ = L19a.N n f m g (k_ + 1) z_) (h4 : PopOk (L19a.H n f m g z_) h_ (L19a.T n f m g s_) (L19a.H n f m g s_)) : LNextP (fun (z_ : Int) => L19a.T n f m g z_) (fun (z_ : Int) => L19a.H n f m g z_) (fun (z_ : Int) => L19a.inv n f m g z_) (fun (z_ : Int) => L19a.mu n f m g z_) (fun (k_ : Nat) (z_ : Int) => L19a.N n f m g k_ z_) k_ z_ (L19a.T n f m g s_) h_ := LNextP.mk (Tm := (fun (z_ : Int) => L19a.T n f m g z_)) (Hp := (fun (z_ : Int) => L19a.H n f m g z_)) (inv := (fun (z_ : Int) => L19a.inv n f m g z_)) (mu := (fun (z_ : Int) => L19a.mu n f m g z_)) (l := (fun (k_ : Nat) (z_ : Int) => L19a.N n f m g k_ z_)) s_ h1 h2 h3 h4
theorem L19a.en (n : Nat) (f : Nat → Int) (m : Nat) (g : Nat → Int) {k_ : Nat} {z_ : Int} {h_ : AHeap} (o_ : L19a.O) (h3 : L19a.N n f m g (k_ + 1) z_ = o_) (h4 : PopOk (L19a.H n f m g z_) h_ (L19a.X n f m g o_) (L19a.XH n f m g o_)) : LEndP (fun (z_ : Int) => L19a.H n f m g z_) (fun (k_ : Nat) (z_ : Int) => L19a.N n f m g k_ z_) L19a.E (L19a.X n f m g) (L19a.XH n f m g) k_ z_ (L19a.E o_) (L19a.X n f m g o_) h_ := LEndP.mk (Hp := (fun (z_ : Int) => L19a.H n f m g z_)) (l := (fun (k_ : Nat) (z_ : Int) => L19a.N n f m g k_ z_)) (oE := L19a.E) (oT := L19a.X n f m g) (oH := L19a.XH n f m g) o_ h3 h4
theorem L19a.spec (n : Nat) (f : Nat → Int) (hn : n ≤ 9223372036854775807) (m : Nat) (g : Nat → Int) (hm : m ≤ 9223372036854775807) (k_ : Nat) (z_ : Int) (hi_ : L19a.inv n f m g z_) (hm_ : L19a.mu n f m g z_ < k_) : LoopTo Try.prog (loopN Try.f19 0) (L19a.T n f m g z_) (L19a.H n f m g z_) (L19a.E (L19a.N n f m g k_ z_)) (L19a.X n f m g (L19a.N n f m g k_ z_)) (L19a.XH n f m g (L19a.N n f m g k_ z_)) := by
  refine LoopTo.fuelP mix (fun (z_ : Int) => L19a.T n f m g z_) (fun (z_ : Int) => L19a.H n f m g z_) (fun (z_ : Int) => L19a.inv n f m g z_) (fun (z_ : Int) => L19a.mu n f m g z_) (fun (k_ : Nat) (z_ : Int) => L19a.N n f m g k_ z_) L19a.E (L19a.X n f m g) (L19a.XH n f m g) (others 41 [0, 1, 5]) (others 41 [4]) (others 41 [0, 1]) ?_ k_ z_ hi_ hm_
  clear hm_ hi_ z_ k_
  intro k_ z_ hinv hmu
  revert hinv hmu; revert z_; intro a5 hinv hmu
  have hinv : 0 ≤ a5 ∧ (a5 ≤ (↑n : Int) ∨ a5 ≤ 0) := hinv
  have hmu : (((↑n : Int) - a5).toNat) < k_ + 1 := hmu
  cases h1 : decide (a5 < (↑n : Int)) with
  | true =>
    have h1p := of_decide_eq_true h1
    cases h2 : decide (a5 < (↑m : Int)) with
    | true =>
      have h2p := of_decide_eq_true h2
      have o0 : (0 : Int) ≤ a5 := by first | assumption | omega | (simp_all; done)
      have o1 : a5 < (↑n : Int) := by first | assumption | omega | (simp_all; done)
      have o2 : a5 < (↑m : Int) := by first | assumption | omega | (simp_all; done)
      cases h3 : f a5.toNat == g a5.toNat with
      | true =>
        have h3p := eq_of_beq h3
        try have := IntWalk.i64_in (a5 + 1) (by omega)
        have o3 : (0 : Int) ≤ IntKind.i64.wrap (a5 + (1 : Int)) := by first | assumption | omega | (simp_all; done)
        have o4 : IntKind.i64.wrap (a5 + (1 : Int)) ≤ (↑n : Int) ∨ IntKind.i64.wrap (a5 + (1 : Int)) ≤ (0 : Int) := by first | assumption | omega | (simp_all; done)
        have o5 : ((↑n : Int) - IntKind.i64.wrap (a5 + (1 : Int))).toNat < ((↑n : Int) - a5).toNat := by first | assumption | omega | (simp_all; done)
        exact ⟨[.b true, .b true, .b true, .b true, .b true, .b true, .b false], kmp (by kernel_rfl) (And.intro h1 (And.intro h1 (And.intro h1 (And.intro h1 (And.intro h1 (And.intro h2 (And.intro (And.intro o0 o1) (And.intro (And.intro o0 o2) (And.intro (show (bnot (f a5.toNat == g a5.toNat)) = false by rw [h3]; try rfl) (L19a.nx n f m g (k_ := k_) (z_ := a5) (IntKind.i64.wrap (a5 + 1)) (And.intro o3 o4) o5 (by first | (simp only [L19a.N, h1, h2, h3, cond_true, cond_false]; done) | (try unfold L19a.N; try simp only [h1, cond_true, cond_false]; try simp only [h2, cond_true, cond_false]; try simp only [h3, cond_true, cond_false]; try rfl; done)) PopOk.same))))))))))⟩
      | false =>
        have h3p := ne_of_beq_false h3
        exact ⟨[.b true, .b true, .b true, .b true, .b true, .b true, .b true], kmp (by kernel_rfl) (And.intro h1 (And.intro h1 (And.intro h1 (And.intro h1 (And.intro h1 (And.intro h2 (And.intro (And.intro o0 o1) (And.intro (And.intro o0 o2) (And.intro (show (bnot (f a5.toNat == g a5.toNat)) = true by rw [h3]; try rfl) (And.intro (And.intro o0 o1) (And.intro (And.intro o0 o2) (L19a.en n f m g (k_ := k_) (z_ := a5) (.e0 (decide (f a5.toNat < g a5.toNat)) : L19a.O) (by first | (simp only [L19a.N, h1, h2, h3, cond_true, cond_false]; done) | (try unfold L19a.N; try simp only [h1, cond_true, cond_false]; try simp only [h2, cond_true, cond_false]; try simp only [h3, cond_true, cond_false]; try rfl; done)) PopOk.same))))))))))))⟩
    | false =>
      have h2p := of_decide_eq_false h2
      exact ⟨[.b true, .b true, .b true, .b true, .b true, .b false], kmp (by kernel_rfl) (And.intro h1 (And.intro h1 (And.intro h1 (And.intro h1 (And.intro h1 (And.intro h2 (L19a.en n f m g (k_ := k_) (z_ := a5) (.e1 : L19a.O) (by first | (simp only [L19a.N, h1, h2, cond_true, cond_false]; done) | (try unfold L19a.N; try simp only [h1, cond_true, cond_false]; try simp only [h2, cond_true, cond_false]; try rfl; done)) PopOk.same)))))))⟩
  | false =>
    have h1p := of_decide_eq_false h1
    exact ⟨[.b false, .b false, .b false, .b false, .b false, .b false], kmp (by kernel_rfl) (And.intro h1 (And.intro h1 (And.intro h1 (And.intro h1 (And.intro h1 (And.intro (rfl : false = false) (L19a.en n f m g (k_ := k_) (z_ := a5) (.e1 : L19a.O) (by first | (simp only [L19a.N, h1, cond_true, cond_false]; done) | (try unfold L19a.N; try simp only [h1, cond_true, cond_false]; try rfl; done)) PopOk.same)))))))⟩
theorem L19a.e0 (n : Nat) (f : Nat → Int) (hn : n ≤ 9223372036854775807) (m : Nat) (g : Nat → Int) (hm : m ≤ 9223372036854775807) (a5 : Int) (hinv : L19a.inv n f m g a5) (a0 : Bool) (hN : L19a.run n f m g a5 = (.e0 a0 : L19a.O)) : LoopTo Try.prog (loopN Try.f19 0) (L19a.T n f m g a5) (L19a.H n f m g a5) (Exit.ret) (L19a.X n f m g (.e0 a0 : L19a.O)) (L19a.XH n f m g (.e0 a0 : L19a.O)) := by
  have h_ := L19a.spec n f hn m g hm ((((↑n : Int) - a5).toNat) + 1) a5 hinv (Nat.lt_succ_self _)
  unfold L19a.run at hN
  simp only [hN] at h_
  exact h_
theorem L19a.e1 (n : Nat) (f : Nat → Int) (hn : n ≤ 9223372036854775807) (m : Nat) (g : Nat → Int) (hm : m ≤ 9223372036854775807) (a5 : Int) (hinv : L19a.inv n f m g a5) (hN : L19a.run n f m g a5 = (.e1 : L19a.O)) : LoopTo Try.prog (loopN Try.f19 0) (L19a.T n f m g a5) (L19a.H n f m g a5) (Exit.exit 0) (L19a.X n f m g (.e1 : L19a.O)) (L19a.XH n f m g (.e1 : L19a.O)) := by
  have h_ := L19a.spec n f hn m g hm ((((↑n : Int) - a5).toNat) + 1) a5 hinv (Nat.lt_succ_self _)
  unfold L19a.run at hN
  simp only [hN] at h_
  exact h_

noncomputable def r19.v (n : Nat) (f : Nat → Int) (m : Nat) (g : Nat → Int) : Bool := (match L19a.run n f m g 0 with | .e0 h1d0 => h1d0 | .e1 => decide ((↑n : Int) < (↑m : Int)) )
theorem r19 (n : Nat) (f : Nat → Int) (hn : n ≤ 9223372036854775807) (m : Nat) (g : Nat → Int) (hm : m ≤ 9223372036854775807) (h : AHeap) : Ret Try.prog 19 ([ivs n f, ivs m g]) h (AV.bool (r19.v n f m g)) h := by
  have o0 : n ≤ (9223372036854775807 : Nat) := by first | assumption | omega | (simp_all; done)
  have o1 : m ≤ (9223372036854775807 : Nat) := by first | assumption | omega | (simp_all; done)
  have o2 : (0 : Int) ≤ (↑n : Int) ∨ (0 : Int) ≤ (0 : Int) := by first | assumption | omega | (simp_all; done)
  cases h1 : L19a.run n f m g 0 with
  | e0 h1d0 =>
    exact Ret.of_run1 mix [(AV.bool (r19.v n f m g))] Try.func19 rfl [.loop (others 41 [0, 1, 5]) (Exit.ret) (L19a.X n f m g (L19a.O.e0 h1d0)) (L19a.XH n f m g (L19a.O.e0 h1d0))] (by simp) (by simp) (kmp (by kernel_rfl) (And.intro (L19a.e0 (n) (f) o0 (m) (g) o1 (0) (And.intro (show (0 : Int) ≤ (0 : Int) by first | decide | exact Int.NonNeg.mk _) o2) h1d0 h1) (And.intro (show (AV.bool h1d0) = ((AV.bool (r19.v n f m g))) by first | (simp only [r19.v, h1, cond_true, cond_false]; done) | (try unfold r19.v; try simp only [h1, cond_true, cond_false]; try rfl; done) | rfl) trivial))) h
  | e1 =>
    exact Ret.of_run1 mix [(AV.bool (r19.v n f m g))] Try.func19 rfl [.loop (others 41 [0, 1, 5]) (Exit.exit 0) (L19a.X n f m g L19a.O.e1) (L19a.XH n f m g L19a.O.e1)] (by simp) (by simp) (kmp (by kernel_rfl) (And.intro (L19a.e1 (n) (f) o0 (m) (g) o1 (0) (And.intro (show (0 : Int) ≤ (0 : Int) by first | decide | exact Int.NonNeg.mk _) o2) h1) (And.intro (show (AV.bool (decide ((↑n : Int) < (↑m : Int)))) = ((AV.bool (r19.v n f m g))) by first | (simp only [r19.v, h1, cond_true, cond_false]; done) | (try unfold r19.v; try simp only [h1, cond_true, cond_false]; try rfl; done) | rfl) trivial))) h

inductive L66a.O where
  | e0 (a0 : Int)
  | e1
noncomputable def L66a.T (n : Nat) (f : Nat → Int) (x : Int) (a8 : Int) : List AV := mkT 19 [(0, AV.sl 1 n fun (i : Nat) => AV.int IntKind.i64 (f i)), (1, AV.int IntKind.i64 x), (7, AV.int IntKind.i64 (↑n : Int)), (8, AV.int IntKind.i64 a8)]
noncomputable def L66a.H (n : Nat) (f : Nat → Int) (x : Int) (a8 : Int) : AHeap := []
def L66a.inv (n : Nat) (f : Nat → Int) (x : Int) (a8 : Int) : Prop := 0 ≤ a8 ∧ (a8 ≤ (↑n : Int) ∨ a8 ≤ 0)
noncomputable def L66a.mu (n : Nat) (f : Nat → Int) (x : Int) (a8 : Int) : Nat := ((↑n : Int) - a8).toNat
noncomputable def L66a.E : L66a.O → Exit
  | .e0 a0 => Exit.ret
  | .e1 => Exit.exit 0
noncomputable def L66a.X (n : Nat) (f : Nat → Int) (x : Int) : L66a.O → List AV
  | .e0 a0 => mkT 19 [(4, (AV.int IntKind.i64 a0))]
  | .e1 => mkT 19 []
noncomputable def L66a.XH (n : Nat) (f : Nat → Int) (x : Int) : L66a.O → AHeap
  | .e0 a0 => ([])
  | .e1 => ([])
noncomputable def L66a.N (n : Nat) (f : Nat → Int) (x : Int) : Nat → Int → L66a.O
  | 0, _ => .e0 default
  | k_ + 1, a8 => (bif decide (a8 < (↑n : Int)) then (bif x == f a8.toNat then (.e0 (a8)) else (L66a.N n f x k_ (IntKind.i64.wrap (a8 + 1)))) else (.e1))
noncomputable def L66a.run (n : Nat) (f : Nat → Int) (x : Int) (a8 : Int) : L66a.O := L66a.N n f x ((((↑n : Int) - a8).toNat) + 1) a8
def L66a.Next (n : Nat) (f : Nat → Int) (x : Int) (k_ : Nat) (z_ : Int) (T_ : List AV) (h_ : AHeap) : Prop := LNextP (fun (z_ : Int) => L66a.T n f x z_) (fun (z_ : Int) => L66a.H n f x z_) (fun (z_ : Int) => L66a.inv n f x z_) (fun (z_ : Int) => L66a.mu n f x z_) (fun (k_ : Nat) (z_ : Int) => L66a.N n f x k_ z_) k_ z_ T_ h_
def L66a.End (n : Nat) (f : Nat → Int) (x : Int) (k_ : Nat) (z_ : Int) (e_ : Exit) (T_ : List AV) (h_ : AHeap) : Prop := LEndP (fun (z_ : Int) => L66a.H n f x z_) (fun (k_ : Nat) (z_ : Int) => L66a.N n f x k_ z_) L66a.E (L66a.X n f x) (L66a.XH n f x) k_ z_ e_ T_ h_
theorem L66a.nx (n : Nat) (f : Nat → Int) (x : Int) {k_ : Nat} {z_ : Int} {h_ : AHeap} (s_ : Int) (h1 : L66a.inv n f x s_) (h2 : L66a.mu n f x s_ < L66a.mu n f x z_) (h3 : L66a.N n f x k_ s_ = L66a.N n f x (k_ + 1) z_) (h4 : PopOk (L66a.H n f x z_) h_ (L66a.T n f x s_) (L66a.H n f x s_)) : LNextP (fun (z_ : Int) => L66a.T n f x z_) (fun (z_ : Int) => L66a.H n f x z_) (fun (z_ : Int) => L66a.inv n f x z_) (fun (z_ : Int) => L66a.mu n f x z_) (fun (k_ : Nat) (z_ : Int) => L66a.N n f x k_ z_) k_ z_ (L66a.T n f x s_) h_ := LNextP.mk (Tm := (fun (z_ : Int) => L66a.T n f x z_)) (Hp := (fun (z_ : Int) => L66a.H n f x z_)) (inv := (fun (z_ : Int) => L66a.inv n f x z_)) (mu := (fun (z_ : Int) => L66a.mu n f x z_)) (l := (fun (k_ : Nat) (z_ : Int) => L66a.N n f x k_ z_)) s_ h1 h2 h3 h4
theorem L66a.en (n : Nat) (f : Nat → Int) (x : Int) {k_ : Nat} {z_ : Int} {h_ : AHeap} (o_ : L66a.O) (h3 : L66a.N n f x (k_ + 1) z_ = o_) (h4 : PopOk (L66a.H n f x z_) h_ (L66a.X n f x o_) (L66a.XH n f x o_)) : LEndP (fun (z_ : Int) => L66a.H n f x z_) (fun (k_ : Nat) (z_ : Int) => L66a.N n f x k_ z_) L66a.E (L66a.X n f x) (L66a.XH n f x) k_ z_ (L66a.E o_) (L66a.X n f x o_) h_ := LEndP.mk (Hp := (fun (z_ : Int) => L66a.H n f x z_)) (l := (fun (k_ : Nat) (z_ : Int) => L66a.N n f x k_ z_)) (oE := L66a.E) (oT := L66a.X n f x) (oH := L66a.XH n f x) o_ h3 h4
theorem L66a.spec (n : Nat) (f : Nat → Int) (hn : n ≤ 9223372036854775807) (x : Int) (k_ : Nat) (z_ : Int) (hi_ : L66a.inv n f x z_) (hm_ : L66a.mu n f x z_ < k_) : LoopTo Try.prog (loopN Try.f66 0) (L66a.T n f x z_) (L66a.H n f x z_) (L66a.E (L66a.N n f x k_ z_)) (L66a.X n f x (L66a.N n f x k_ z_)) (L66a.XH n f x (L66a.N n f x k_ z_)) := by
  refine LoopTo.fuelP mix (fun (z_ : Int) => L66a.T n f x z_) (fun (z_ : Int) => L66a.H n f x z_) (fun (z_ : Int) => L66a.inv n f x z_) (fun (z_ : Int) => L66a.mu n f x z_) (fun (k_ : Nat) (z_ : Int) => L66a.N n f x k_ z_) L66a.E (L66a.X n f x) (L66a.XH n f x) (others 19 [0, 1, 7, 8]) (others 19 [4]) (others 19 []) ?_ k_ z_ hi_ hm_
  clear hm_ hi_ z_ k_
  intro k_ z_ hinv hmu
  revert hinv hmu; revert z_; intro a8 hinv hmu
  have hinv : 0 ≤ a8 ∧ (a8 ≤ (↑n : Int) ∨ a8 ≤ 0) := hinv
  have hmu : (((↑n : Int) - a8).toNat) < k_ + 1 := hmu
  cases h1 : decide (a8 < (↑n : Int)) with
  | true =>
    have h1p := of_decide_eq_true h1
    have o0 : (0 : Int) ≤ a8 := by first | assumption | omega | (simp_all; done)
    have o1 : a8 < (↑n : Int) := by first | assumption | omega | (simp_all; done)
    cases h2 : x == f a8.toNat with
    | true =>
      have h2p := eq_of_beq h2
      exact ⟨[.b true, .b true], kmp (by kernel_rfl) (And.intro h1 (And.intro (And.intro o0 o1) (And.intro h2 (L66a.en n f x (k_ := k_) (z_ := a8) (.e0 (a8) : L66a.O) (by first | (simp only [L66a.N, h1, h2, cond_true, cond_false]; done) | (try unfold L66a.N; try simp only [h1, cond_true, cond_false]; try simp only [h2, cond_true, cond_false]; try rfl; done)) PopOk.same))))⟩
    | false =>
      have h2p := ne_of_beq_false h2
      try have := IntWalk.i64_in (a8 + 1) (by omega)
      have o2 : (0 : Int) ≤ IntKind.i64.wrap (a8 + (1 : Int)) := by first | assumption | omega | (simp_all; done)
      have o3 : IntKind.i64.wrap (a8 + (1 : Int)) ≤ (↑n : Int) ∨ IntKind.i64.wrap (a8 + (1 : Int)) ≤ (0 : Int) := by first | assumption | omega | (simp_all; done)
      have o4 : ((↑n : Int) - IntKind.i64.wrap (a8 + (1 : Int))).toNat < ((↑n : Int) - a8).toNat := by first | assumption | omega | (simp_all; done)
      exact ⟨[.b true, .b false], kmp (by kernel_rfl) (And.intro h1 (And.intro (And.intro o0 o1) (And.intro h2 (L66a.nx n f x (k_ := k_) (z_ := a8) (IntKind.i64.wrap (a8 + 1)) (And.intro o2 o3) o4 (by first | (simp only [L66a.N, h1, h2, cond_true, cond_false]; done) | (try unfold L66a.N; try simp only [h1, cond_true, cond_false]; try simp only [h2, cond_true, cond_false]; try rfl; done)) PopOk.same))))⟩
  | false =>
    have h1p := of_decide_eq_false h1
    exact ⟨[.b false], kmp (by kernel_rfl) (And.intro h1 (L66a.en n f x (k_ := k_) (z_ := a8) (.e1 : L66a.O) (by first | (simp only [L66a.N, h1, cond_true, cond_false]; done) | (try unfold L66a.N; try simp only [h1, cond_true, cond_false]; try rfl; done)) PopOk.same))⟩
theorem L66a.e0 (n : Nat) (f : Nat → Int) (hn : n ≤ 9223372036854775807) (x : Int) (a8 : Int) (hinv : L66a.inv n f x a8) (a0 : Int) (hN : L66a.run n f x a8 = (.e0 a0 : L66a.O)) : LoopTo Try.prog (loopN Try.f66 0) (L66a.T n f x a8) (L66a.H n f x a8) (Exit.ret) (L66a.X n f x (.e0 a0 : L66a.O)) (L66a.XH n f x (.e0 a0 : L66a.O)) := by
  have h_ := L66a.spec n f hn x ((((↑n : Int) - a8).toNat) + 1) a8 hinv (Nat.lt_succ_self _)
  unfold L66a.run at hN
  simp only [hN] at h_
  exact h_
theorem L66a.e1 (n : Nat) (f : Nat → Int) (hn : n ≤ 9223372036854775807) (x : Int) (a8 : Int) (hinv : L66a.inv n f x a8) (hN : L66a.run n f x a8 = (.e1 : L66a.O)) : LoopTo Try.prog (loopN Try.f66 0) (L66a.T n f x a8) (L66a.H n f x a8) (Exit.exit 0) (L66a.X n f x (.e1 : L66a.O)) (L66a.XH n f x (.e1 : L66a.O)) := by
  have h_ := L66a.spec n f hn x ((((↑n : Int) - a8).toNat) + 1) a8 hinv (Nat.lt_succ_self _)
  unfold L66a.run at hN
  simp only [hN] at h_
  exact h_

noncomputable def r66.v (n : Nat) (f : Nat → Int) (x : Int) : Int := (match L66a.run n f x 0 with | .e0 h1d0 => h1d0 | .e1 => -1 )
theorem r66 (n : Nat) (f : Nat → Int) (hn : n ≤ 9223372036854775807) (x : Int) (h : AHeap) : Ret Try.prog 66 ([ivs n f, AV.int IntKind.i64 x]) h (AV.int IntKind.i64 (r66.v n f x)) h := by
  have o0 : n ≤ (9223372036854775807 : Nat) := by first | assumption | omega | (simp_all; done)
  have o1 : (0 : Int) ≤ (↑n : Int) ∨ (0 : Int) ≤ (0 : Int) := by first | assumption | omega | (simp_all; done)
  cases h1 : L66a.run n f x 0 with
  | e0 h1d0 =>
    exact Ret.of_run1 mix [(AV.int IntKind.i64 (r66.v n f x))] Try.func66 rfl [.loop (others 19 [0, 1, 7, 8]) (Exit.ret) (L66a.X n f x (L66a.O.e0 h1d0)) (L66a.XH n f x (L66a.O.e0 h1d0))] (by simp) (by simp) (kmp (by kernel_rfl) (And.intro (L66a.e0 (n) (f) o0 (x) (0) (And.intro (show (0 : Int) ≤ (0 : Int) by first | decide | exact Int.NonNeg.mk _) o1) h1d0 h1) (And.intro (show (AV.int IntKind.i64 h1d0) = ((AV.int IntKind.i64 (r66.v n f x))) by first | (simp only [r66.v, h1, cond_true, cond_false]; done) | (try unfold r66.v; try simp only [h1, cond_true, cond_false]; try rfl; done) | rfl) trivial))) h
  | e1 =>
    exact Ret.of_run1 mix [(AV.int IntKind.i64 (r66.v n f x))] Try.func66 rfl [.loop (others 19 [0, 1, 7, 8]) (Exit.exit 0) (L66a.X n f x L66a.O.e1) (L66a.XH n f x L66a.O.e1)] (by simp) (by simp) (kmp (by kernel_rfl) (And.intro (L66a.e1 (n) (f) o0 (x) (0) (And.intro (show (0 : Int) ≤ (0 : Int) by first | decide | exact Int.NonNeg.mk _) o1) h1) (And.intro (show (AV.int IntKind.i64 (-1)) = ((AV.int IntKind.i64 (r66.v n f x))) by first | (simp only [r66.v, h1, cond_true, cond_false]; done) | (try unfold r66.v; try simp only [h1, cond_true, cond_false]; try rfl; done) | rfl) trivial))) h

noncomputable def r35.v (n : Nat) (f : Nat → Int) (x : Int) : Bool := decide (r66.v n f x ≥ 0)
theorem r35 (n : Nat) (f : Nat → Int) (hn : n ≤ 9223372036854775807) (x : Int) (h : AHeap) : Ret Try.prog 35 ([ivs n f, AV.int IntKind.i64 x]) h (AV.bool (r35.v n f x)) h := by
  have o0 : n ≤ (9223372036854775807 : Nat) := by first | assumption | omega | (simp_all; done)
  exact Ret.of_run1 mix [(AV.bool (r35.v n f x))] Try.func35 rfl [.ret (AV.int IntKind.i64 (r66.v n f x)) ([])] (by simp) (by simp) (kmp (by kernel_rfl) (And.intro (r66 (n) (f) o0 (x) ([])) (And.intro (show (AV.bool (decide (r66.v n f x ≥ 0))) = ((AV.bool (r35.v n f x))) by first | (simp only [r35.v, cond_true, cond_false]; done) | (try unfold r35.v; try rfl; done) | rfl) trivial))) h

end Go.Proofs.Ytjdbmmilcihpoaa

/- the wall seat's contracts: Laid. -/
open Go
namespace Go.Proofs.Ytjdbmmilcihpoaa
set_option linter.unusedSimpArgs false
set_option linter.unusedVariables false
set_option maxHeartbeats 0
set_option maxRecDepth 100000
inductive L13a.O where
  | e0
  | e1 (a0 : Int)
noncomputable def L13a.T (L : Int) (j : Int) (l : Int) (n : Nat) (f : Nat → Int) (m : Nat) (g : Nat → Int) (k : Nat) (s : Nat → Int) (a13 : Int) (a30 : Int) : List AV := mkT 67 [(0, AV.int IntKind.i64 L), (1, AV.int IntKind.i64 j), (2, AV.int IntKind.i64 l), (3, AV.sl 1 n fun (i : Nat) => AV.int IntKind.i64 (f i)), (4, AV.sl 1 m fun (i : Nat) => AV.int IntKind.i64 (g i)), (5, AV.sl 1 k fun (i : Nat) => AV.int IntKind.i64 (s i)), (13, AV.int IntKind.i64 a13), (28, AV.sl 1 k fun (i : Nat) => AV.int IntKind.i64 (s i)), (29, AV.int IntKind.i64 (↑k : Int)), (30, AV.int IntKind.i64 a30)]
noncomputable def L13a.H (L : Int) (j : Int) (l : Int) (n : Nat) (f : Nat → Int) (m : Nat) (g : Nat → Int) (k : Nat) (s : Nat → Int) (a13 : Int) (a30 : Int) : AHeap := []
def L13a.inv (L : Int) (j : Int) (l : Int) (n : Nat) (f : Nat → Int) (m : Nat) (g : Nat → Int) (k : Nat) (s : Nat → Int) (a13 : Int) (a30 : Int) : Prop := 0 ≤ a30 ∧ (a30 ≤ (↑k : Int) ∨ a30 ≤ 0)
noncomputable def L13a.mu (L : Int) (j : Int) (l : Int) (n : Nat) (f : Nat → Int) (m : Nat) (g : Nat → Int) (k : Nat) (s : Nat → Int) (a13 : Int) (a30 : Int) : Nat := ((↑k : Int) - a30).toNat
noncomputable def L13a.E : L13a.O → Exit
  | .e0 => Exit.ret
  | .e1 a0 => Exit.exit 0
noncomputable def L13a.X (L : Int) (j : Int) (l : Int) (n : Nat) (f : Nat → Int) (m : Nat) (g : Nat → Int) (k : Nat) (s : Nat → Int) : L13a.O → List AV
  | .e0 => mkT 67 [(12, (AV.bool false))]
  | .e1 a0 => mkT 67 [(0, (AV.int IntKind.i64 L)), (13, (AV.int IntKind.i64 a0))]
noncomputable def L13a.XH (L : Int) (j : Int) (l : Int) (n : Nat) (f : Nat → Int) (m : Nat) (g : Nat → Int) (k : Nat) (s : Nat → Int) : L13a.O → AHeap
  | .e0 => ([])
  | .e1 a0 => ([])
noncomputable def L13a.N (L : Int) (j : Int) (l : Int) (n : Nat) (f : Nat → Int) (m : Nat) (g : Nat → Int) (k : Nat) (s : Nat → Int) : Nat → Int → Int → L13a.O
  | 0, _, _ => .e0
  | k_ + 1, a13, a30 => (bif decide (a30 < (↑k : Int)) then (bif r35.v n f (s a30.toNat) then (bif decide (s a30.toNat > IntKind.i64.wrap (L - a13)) then (.e0) else (bif decide (a30 < IntKind.i64.wrap ((↑k : Int) - 1)) then (bif r34.v (IntKind.i64.wrap (a13 + s a30.toNat)) j l m g then (L13a.N L j l n f m g k s k_ (IntKind.i64.wrap (IntKind.i64.wrap (a13 + s a30.toNat) + j)) (IntKind.i64.wrap (a30 + 1))) else (.e0)) else (L13a.N L j l n f m g k s k_ (IntKind.i64.wrap (a13 + s a30.toNat)) (IntKind.i64.wrap (a30 + 1))))) else (.e0)) else (.e1 (a13)))
noncomputable def L13a.run (L : Int) (j : Int) (l : Int) (n : Nat) (f : Nat → Int) (m : Nat) (g : Nat → Int) (k : Nat) (s : Nat → Int) (a13 : Int) (a30 : Int) : L13a.O := L13a.N L j l n f m g k s ((((↑k : Int) - a30).toNat) + 1) a13 a30
def L13a.Next (L : Int) (j : Int) (l : Int) (n : Nat) (f : Nat → Int) (m : Nat) (g : Nat → Int) (k : Nat) (s : Nat → Int) (k_ : Nat) (z_ : Int × Int) (T_ : List AV) (h_ : AHeap) : Prop := LNextP (fun (z_ : Int × Int) => L13a.T L j l n f m g k s z_.1 z_.2) (fun (z_ : Int × Int) => L13a.H L j l n f m g k s z_.1 z_.2) (fun (z_ : Int × Int) => L13a.inv L j l n f m g k s z_.1 z_.2) (fun (z_ : Int × Int) => L13a.mu L j l n f m g k s z_.1 z_.2) (fun (k_ : Nat) (z_ : Int × Int) => L13a.N L j l n f m g k s k_ z_.1 z_.2) k_ z_ T_ h_
def L13a.End (L : Int) (j : Int) (l : Int) (n : Nat) (f : Nat → Int) (m : Nat) (g : Nat → Int) (k : Nat) (s : Nat → Int) (k_ : Nat) (z_ : Int × Int) (e_ : Exit) (T_ : List AV) (h_ : AHeap) : Prop := LEndP (fun (z_ : Int × Int) => L13a.H L j l n f m g k s z_.1 z_.2) (fun (k_ : Nat) (z_ : Int × Int) => L13a.N L j l n f m g k s k_ z_.1 z_.2) L13a.E (L13a.X L j l n f m g k s) (L13a.XH L j l n f m g k s) k_ z_ e_ T_ h_
theorem L13a.nx (L : Int) (j : Int) (l : Int) (n : Nat) (f : Nat → Int) (m : Nat) (g : Nat → Int) (k : Nat) (s : Nat → Int) {k_ : Nat} {z_ : Int × Int} {h_ : AHeap} (s_ : Int × Int) (h1 : L13a.inv L j l n f m g k s s_.1 s_.2) (h2 : L13a.mu L j l n f m g k s s_.1 s_.2 < L13a.mu L j l n f m g k s z_.1 z_.2) (h3 : L13a.N L j l n f m g k s k_ s_.1 s_.2 = L13a.N L j l n f m g k s (k_ + 1) z_.1 z_.2) (h4 : PopOk (L13a.H L j l n f m g k s z_.1 z_.2) h_ (L13a.T L j l n f m g k s s_.1 s_.2) (L13a.H L j l n f m g k s s_.1 s_.2)) : LNextP (fun (z_ : Int × Int) => L13a.T L j l n f m g k s z_.1 z_.2) (fun (z_ : Int × Int) => L13a.H L j l n f m g k s z_.1 z_.2) (fun (z_ : Int × Int) => L13a.inv L j l n f m g k s z_.1 z_.2) (fun (z_ : Int × Int) => L13a.mu L j l n f m g k s z_.1 z_.2) (fun (k_ : Nat) (z_ : Int × Int) => L13a.N L j l n f m g k s k_ z_.1 z_.2) k_ z_ (L13a.T L j l n f m g k s s_.1 s_.2) h_ := LNextP.mk (Tm := (fun (z_ : Int × Int) => L13a.T L j l n f m g k s z_.1 z_.2)) (Hp := (fun (z_ : Int × Int) => L13a.H L j l n f m g k s z_.1 z_.2)) (inv := (fun (z_ : Int × Int) => L13a.inv L j l n f m g k s z_.1 z_.2)) (mu := (fun (z_ : Int × Int) => L13a.mu L j l n f m g k s z_.1 z_.2)) (l := (fun (k_ : Nat) (z_ : Int × Int) => L13a.N L j l n f m g k s k_ z_.1 z_.2)) s_ h1 h2 h3 h4
theorem L13a.en (L : Int) (j : Int) (l : Int) (n : Nat) (f : Nat → Int) (m : Nat) (g : Nat → Int) (k : Nat) (s : Nat → Int) {k_ : Nat} {z_ : Int × Int} {h_ : AHeap} (o_ : L13a.O) (h3 : L13a.N L j l n f m g k s (k_ + 1) z_.1 z_.2 = o_) (h4 : PopOk (L13a.H L j l n f m g k s z_.1 z_.2) h_ (L13a.X L j l n f m g k s o_) (L13a.XH L j l n f m g k s o_)) : LEndP (fun (z_ : Int × Int) => L13a.H L j l n f m g k s z_.1 z_.2) (fun (k_ : Nat) (z_ : Int × Int) => L13a.N L j l n f m g k s k_ z_.1 z_.2) L13a.E (L13a.X L j l n f m g k s) (L13a.XH L j l n f m g k s) k_ z_ (L13a.E o_) (L13a.X L j l n f m g k s o_) h_ := LEndP.mk (Hp := (fun (z_ : Int × Int) => L13a.H L j l n f m g k s z_.1 z_.2)) (l := (fun (k_ : Nat) (z_ : Int × Int) => L13a.N L j l n f m g k s k_ z_.1 z_.2)) (oE := L13a.E) (oT := L13a.X L j l n f m g k s) (oH := L13a.XH L j l n f m g k s) o_ h3 h4
theorem L13a.spec (L : Int) (j : Int) (l : Int) (n : Nat) (f : Nat → Int) (hn : n ≤ 9223372036854775807) (m : Nat) (g : Nat → Int) (hm : m ≤ 9223372036854775807) (k : Nat) (s : Nat → Int) (hk : k ≤ 9223372036854775807) (k0_1 : (r32.v L j l n f m g == 0) = true) (p0_1 : r32.v L j l n f m g = 0) (k0_2 : ((↑k : Int) == 0) = false) (p0_2 : (↑k : Int) ≠ 0) (k_ : Nat) (z_ : Int × Int) (hi_ : L13a.inv L j l n f m g k s z_.1 z_.2) (hm_ : L13a.mu L j l n f m g k s z_.1 z_.2 < k_) : LoopTo Try.prog (loopN Try.f13 0) (L13a.T L j l n f m g k s z_.1 z_.2) (L13a.H L j l n f m g k s z_.1 z_.2) (L13a.E (L13a.N L j l n f m g k s k_ z_.1 z_.2)) (L13a.X L j l n f m g k s (L13a.N L j l n f m g k s k_ z_.1 z_.2)) (L13a.XH L j l n f m g k s (L13a.N L j l n f m g k s k_ z_.1 z_.2)) := by
  refine LoopTo.fuelP mix (fun (z_ : Int × Int) => L13a.T L j l n f m g k s z_.1 z_.2) (fun (z_ : Int × Int) => L13a.H L j l n f m g k s z_.1 z_.2) (fun (z_ : Int × Int) => L13a.inv L j l n f m g k s z_.1 z_.2) (fun (z_ : Int × Int) => L13a.mu L j l n f m g k s z_.1 z_.2) (fun (k_ : Nat) (z_ : Int × Int) => L13a.N L j l n f m g k s k_ z_.1 z_.2) L13a.E (L13a.X L j l n f m g k s) (L13a.XH L j l n f m g k s) (others 67 [0, 1, 2, 3, 4, 5, 13, 28, 29, 30]) (others 67 [12]) (others 67 [0, 13]) ?_ k_ z_ hi_ hm_
  clear hm_ hi_ z_ k_
  intro k_ z_ hinv hmu
  obtain ⟨a13, a30⟩ := z_
  have hinv : 0 ≤ a30 ∧ (a30 ≤ (↑k : Int) ∨ a30 ≤ 0) := hinv
  have hmu : (((↑k : Int) - a30).toNat) < k_ + 1 := hmu
  cases h1 : decide (a30 < (↑k : Int)) with
  | true =>
    have h1p := of_decide_eq_true h1
    have o0 : (0 : Int) ≤ a30 := by first | assumption | omega | (simp_all; done)
    have o1 : a30 < (↑k : Int) := by first | assumption | omega | (simp_all; done)
    have o2 : n ≤ (9223372036854775807 : Nat) := by first | assumption | omega | (simp_all; done)
    cases h2 : r35.v n f (s a30.toNat) with
    | true =>
      cases h3 : decide (s a30.toNat > IntKind.i64.wrap (L - a13)) with
      | true =>
        have h3p := of_decide_eq_true h3
        exact ⟨[.b true, .ret (AV.bool (r35.v n f (s a30.toNat))) ([]), .b false, .b false, .b false, .b false, .b false, .b false, .b true], kmp (by kernel_rfl) (And.intro h1 (And.intro (And.intro o0 o1) (And.intro (r35 (n) (f) o2 (s a30.toNat) ([])) (And.intro (show (bnot (r35.v n f (s a30.toNat))) = false by rw [h2]; try rfl) (And.intro (show (bnot (r35.v n f (s a30.toNat))) = false by rw [h2]; try rfl) (And.intro (show (bnot (r35.v n f (s a30.toNat))) = false by rw [h2]; try rfl) (And.intro (show (bnot (r35.v n f (s a30.toNat))) = false by rw [h2]; try rfl) (And.intro (show (bnot (r35.v n f (s a30.toNat))) = false by rw [h2]; try rfl) (And.intro (show (bnot (r35.v n f (s a30.toNat))) = false by rw [h2]; try rfl) (And.intro h3 (L13a.en L j l n f m g k s (k_ := k_) (z_ := (a13, a30)) (.e0 : L13a.O) (by first | (simp only [L13a.N, h1, h2, h3, cond_true, cond_false]; done) | (try unfold L13a.N; try simp only [h1, cond_true, cond_false]; try simp only [h2, cond_true, cond_false]; try simp only [h3, cond_true, cond_false]; try rfl; done)) PopOk.same)))))))))))⟩
      | false =>
        have h3p := of_decide_eq_false h3
        cases h4 : decide (a30 < IntKind.i64.wrap ((↑k : Int) - 1)) with
        | true =>
          have h4p := of_decide_eq_true h4
          have o3 : m ≤ (9223372036854775807 : Nat) := by first | assumption | omega | (simp_all; done)
          cases h5 : r34.v (IntKind.i64.wrap (a13 + s a30.toNat)) j l m g with
          | true =>
            try have := IntWalk.i64_in (a30 + 1) (by omega)
            have o4 : (0 : Int) ≤ IntKind.i64.wrap (a30 + (1 : Int)) := by first | assumption | omega | (simp_all; done)
            have o5 : IntKind.i64.wrap (a30 + (1 : Int)) ≤ (↑k : Int) ∨ IntKind.i64.wrap (a30 + (1 : Int)) ≤ (0 : Int) := by first | assumption | omega | (simp_all; done)
            have o6 : ((↑k : Int) - IntKind.i64.wrap (a30 + (1 : Int))).toNat < ((↑k : Int) - a30).toNat := by first | assumption | omega | (simp_all; done)
            exact ⟨[.b true, .ret (AV.bool (r35.v n f (s a30.toNat))) ([]), .b false, .b false, .b false, .b false, .b false, .b false, .b false, .b true, .ret (AV.bool (r34.v (IntKind.i64.wrap (a13 + s a30.toNat)) j l m g)) ([]), .b false], kmp (by kernel_rfl) (And.intro h1 (And.intro (And.intro o0 o1) (And.intro (r35 (n) (f) o2 (s a30.toNat) ([])) (And.intro (show (bnot (r35.v n f (s a30.toNat))) = false by rw [h2]; try rfl) (And.intro (show (bnot (r35.v n f (s a30.toNat))) = false by rw [h2]; try rfl) (And.intro (show (bnot (r35.v n f (s a30.toNat))) = false by rw [h2]; try rfl) (And.intro (show (bnot (r35.v n f (s a30.toNat))) = false by rw [h2]; try rfl) (And.intro (show (bnot (r35.v n f (s a30.toNat))) = false by rw [h2]; try rfl) (And.intro (show (bnot (r35.v n f (s a30.toNat))) = false by rw [h2]; try rfl) (And.intro h3 (And.intro h4 (And.intro (r34 (IntKind.i64.wrap (a13 + s a30.toNat)) (j) (l) (m) (g) o3 ([])) (And.intro (show (bnot (r34.v (IntKind.i64.wrap (a13 + s a30.toNat)) j l m g)) = false by rw [h5]; try rfl) (L13a.nx L j l n f m g k s (k_ := k_) (z_ := (a13, a30)) ((IntKind.i64.wrap (IntKind.i64.wrap (a13 + s a30.toNat) + j), IntKind.i64.wrap (a30 + 1))) (And.intro o4 o5) o6 (by first | (simp only [L13a.N, h1, h2, h3, h4, h5, cond_true, cond_false]; done) | (try unfold L13a.N; try simp only [h1, cond_true, cond_false]; try simp only [h2, cond_true, cond_false]; try simp only [h3, cond_true, cond_false]; try simp only [h4, cond_true, cond_false]; try simp only [h5, cond_true, cond_false]; try rfl; done)) PopOk.same))))))))))))))⟩
          | false =>
            exact ⟨[.b true, .ret (AV.bool (r35.v n f (s a30.toNat))) ([]), .b false, .b false, .b false, .b false, .b false, .b false, .b false, .b true, .ret (AV.bool (r34.v (IntKind.i64.wrap (a13 + s a30.toNat)) j l m g)) ([]), .b true], kmp (by kernel_rfl) (And.intro h1 (And.intro (And.intro o0 o1) (And.intro (r35 (n) (f) o2 (s a30.toNat) ([])) (And.intro (show (bnot (r35.v n f (s a30.toNat))) = false by rw [h2]; try rfl) (And.intro (show (bnot (r35.v n f (s a30.toNat))) = false by rw [h2]; try rfl) (And.intro (show (bnot (r35.v n f (s a30.toNat))) = false by rw [h2]; try rfl) (And.intro (show (bnot (r35.v n f (s a30.toNat))) = false by rw [h2]; try rfl) (And.intro (show (bnot (r35.v n f (s a30.toNat))) = false by rw [h2]; try rfl) (And.intro (show (bnot (r35.v n f (s a30.toNat))) = false by rw [h2]; try rfl) (And.intro h3 (And.intro h4 (And.intro (r34 (IntKind.i64.wrap (a13 + s a30.toNat)) (j) (l) (m) (g) o3 ([])) (And.intro (show (bnot (r34.v (IntKind.i64.wrap (a13 + s a30.toNat)) j l m g)) = true by rw [h5]; try rfl) (L13a.en L j l n f m g k s (k_ := k_) (z_ := (a13, a30)) (.e0 : L13a.O) (by first | (simp only [L13a.N, h1, h2, h3, h4, h5, cond_true, cond_false]; done) | (try unfold L13a.N; try simp only [h1, cond_true, cond_false]; try simp only [h2, cond_true, cond_false]; try simp only [h3, cond_true, cond_false]; try simp only [h4, cond_true, cond_false]; try simp only [h5, cond_true, cond_false]; try rfl; done)) PopOk.same))))))))))))))⟩
        | false =>
          have h4p := of_decide_eq_false h4
          try have := IntWalk.i64_in (a30 + 1) (by omega)
          have o4 : (0 : Int) ≤ IntKind.i64.wrap (a30 + (1 : Int)) := by first | assumption | omega | (simp_all; done)
          have o5 : IntKind.i64.wrap (a30 + (1 : Int)) ≤ (↑k : Int) ∨ IntKind.i64.wrap (a30 + (1 : Int)) ≤ (0 : Int) := by first | assumption | omega | (simp_all; done)
          have o6 : ((↑k : Int) - IntKind.i64.wrap (a30 + (1 : Int))).toNat < ((↑k : Int) - a30).toNat := by first | assumption | omega | (simp_all; done)
          exact ⟨[.b true, .ret (AV.bool (r35.v n f (s a30.toNat))) ([]), .b false, .b false, .b false, .b false, .b false, .b false, .b false, .b false], kmp (by kernel_rfl) (And.intro h1 (And.intro (And.intro o0 o1) (And.intro (r35 (n) (f) o2 (s a30.toNat) ([])) (And.intro (show (bnot (r35.v n f (s a30.toNat))) = false by rw [h2]; try rfl) (And.intro (show (bnot (r35.v n f (s a30.toNat))) = false by rw [h2]; try rfl) (And.intro (show (bnot (r35.v n f (s a30.toNat))) = false by rw [h2]; try rfl) (And.intro (show (bnot (r35.v n f (s a30.toNat))) = false by rw [h2]; try rfl) (And.intro (show (bnot (r35.v n f (s a30.toNat))) = false by rw [h2]; try rfl) (And.intro (show (bnot (r35.v n f (s a30.toNat))) = false by rw [h2]; try rfl) (And.intro h3 (And.intro h4 (L13a.nx L j l n f m g k s (k_ := k_) (z_ := (a13, a30)) ((IntKind.i64.wrap (a13 + s a30.toNat), IntKind.i64.wrap (a30 + 1))) (And.intro o4 o5) o6 (by first | (simp only [L13a.N, h1, h2, h3, h4, cond_true, cond_false]; done) | (try unfold L13a.N; try simp only [h1, cond_true, cond_false]; try simp only [h2, cond_true, cond_false]; try simp only [h3, cond_true, cond_false]; try simp only [h4, cond_true, cond_false]; try rfl; done)) PopOk.same))))))))))))⟩
    | false =>
      exact ⟨[.b true, .ret (AV.bool (r35.v n f (s a30.toNat))) ([]), .b true, .b true, .b true, .b true, .b true, .b true, .b true], kmp (by kernel_rfl) (And.intro h1 (And.intro (And.intro o0 o1) (And.intro (r35 (n) (f) o2 (s a30.toNat) ([])) (And.intro (show (bnot (r35.v n f (s a30.toNat))) = true by rw [h2]; try rfl) (And.intro (show (bnot (r35.v n f (s a30.toNat))) = true by rw [h2]; try rfl) (And.intro (show (bnot (r35.v n f (s a30.toNat))) = true by rw [h2]; try rfl) (And.intro (show (bnot (r35.v n f (s a30.toNat))) = true by rw [h2]; try rfl) (And.intro (show (bnot (r35.v n f (s a30.toNat))) = true by rw [h2]; try rfl) (And.intro (show (bnot (r35.v n f (s a30.toNat))) = true by rw [h2]; try rfl) (And.intro (rfl : true = true) (L13a.en L j l n f m g k s (k_ := k_) (z_ := (a13, a30)) (.e0 : L13a.O) (by first | (simp only [L13a.N, h1, h2, cond_true, cond_false]; done) | (try unfold L13a.N; try simp only [h1, cond_true, cond_false]; try simp only [h2, cond_true, cond_false]; try rfl; done)) PopOk.same)))))))))))⟩
  | false =>
    have h1p := of_decide_eq_false h1
    exact ⟨[.b false], kmp (by kernel_rfl) (And.intro h1 (L13a.en L j l n f m g k s (k_ := k_) (z_ := (a13, a30)) (.e1 (a13) : L13a.O) (by first | (simp only [L13a.N, h1, cond_true, cond_false]; done) | (try unfold L13a.N; try simp only [h1, cond_true, cond_false]; try rfl; done)) PopOk.same))⟩
theorem L13a.e0 (L : Int) (j : Int) (l : Int) (n : Nat) (f : Nat → Int) (hn : n ≤ 9223372036854775807) (m : Nat) (g : Nat → Int) (hm : m ≤ 9223372036854775807) (k : Nat) (s : Nat → Int) (hk : k ≤ 9223372036854775807) (k0_1 : (r32.v L j l n f m g == 0) = true) (p0_1 : r32.v L j l n f m g = 0) (k0_2 : ((↑k : Int) == 0) = false) (p0_2 : (↑k : Int) ≠ 0) (a13 : Int) (a30 : Int) (hinv : L13a.inv L j l n f m g k s a13 a30) (hN : L13a.run L j l n f m g k s a13 a30 = (.e0 : L13a.O)) : LoopTo Try.prog (loopN Try.f13 0) (L13a.T L j l n f m g k s a13 a30) (L13a.H L j l n f m g k s a13 a30) (Exit.ret) (L13a.X L j l n f m g k s (.e0 : L13a.O)) (L13a.XH L j l n f m g k s (.e0 : L13a.O)) := by
  have h_ := L13a.spec L j l n f hn m g hm k s hk k0_1 p0_1 k0_2 p0_2 ((((↑k : Int) - a30).toNat) + 1) (a13, a30) hinv (Nat.lt_succ_self _)
  unfold L13a.run at hN
  simp only [hN] at h_
  exact h_
theorem L13a.e1 (L : Int) (j : Int) (l : Int) (n : Nat) (f : Nat → Int) (hn : n ≤ 9223372036854775807) (m : Nat) (g : Nat → Int) (hm : m ≤ 9223372036854775807) (k : Nat) (s : Nat → Int) (hk : k ≤ 9223372036854775807) (k0_1 : (r32.v L j l n f m g == 0) = true) (p0_1 : r32.v L j l n f m g = 0) (k0_2 : ((↑k : Int) == 0) = false) (p0_2 : (↑k : Int) ≠ 0) (a13 : Int) (a30 : Int) (hinv : L13a.inv L j l n f m g k s a13 a30) (a0 : Int) (hN : L13a.run L j l n f m g k s a13 a30 = (.e1 a0 : L13a.O)) : LoopTo Try.prog (loopN Try.f13 0) (L13a.T L j l n f m g k s a13 a30) (L13a.H L j l n f m g k s a13 a30) (Exit.exit 0) (L13a.X L j l n f m g k s (.e1 a0 : L13a.O)) (L13a.XH L j l n f m g k s (.e1 a0 : L13a.O)) := by
  have h_ := L13a.spec L j l n f hn m g hm k s hk k0_1 p0_1 k0_2 p0_2 ((((↑k : Int) - a30).toNat) + 1) (a13, a30) hinv (Nat.lt_succ_self _)
  unfold L13a.run at hN
  simp only [hN] at h_
  exact h_

noncomputable def r13.v (L : Int) (j : Int) (l : Int) (n : Nat) (f : Nat → Int) (m : Nat) (g : Nat → Int) (k : Nat) (s : Nat → Int) : Bool := (bif r32.v L j l n f m g == 0 then (bif (↑k : Int) == 0 then false else (match L13a.run L j l n f m g k s 0 0 with | .e0 => false | .e1 h3d0 => h3d0 == L )) else false)
theorem r13 (L : Int) (j : Int) (l : Int) (n : Nat) (f : Nat → Int) (hn : n ≤ 9223372036854775807) (m : Nat) (g : Nat → Int) (hm : m ≤ 9223372036854775807) (k : Nat) (s : Nat → Int) (hk : k ≤ 9223372036854775807) (h : AHeap) : Ret Try.prog 13 ([AV.int IntKind.i64 L, AV.int IntKind.i64 j, AV.int IntKind.i64 l, ivs n f, ivs m g, ivs k s]) h (AV.bool (r13.v L j l n f m g k s)) h := by
  have o0 : n ≤ (9223372036854775807 : Nat) := by first | assumption | omega | (simp_all; done)
  have o1 : m ≤ (9223372036854775807 : Nat) := by first | assumption | omega | (simp_all; done)
  cases h1 : r32.v L j l n f m g == 0 with
  | true =>
    have h1p := eq_of_beq h1
    cases h2 : (↑k : Int) == 0 with
    | true =>
      have h2p := eq_of_beq h2
      exact Ret.of_run1 mix [(AV.bool (r13.v L j l n f m g k s))] Try.func13 rfl [.ret (AV.int IntKind.i64 (r32.v L j l n f m g)) ([]), .b false, .b false, .b false, .b false, .b true] (by simp) (by simp) (kmp (by kernel_rfl) (And.intro (r32 (L) (j) (l) (n) (f) o0 (m) (g) o1 ([])) (And.intro (show (bnot (r32.v L j l n f m g == 0)) = false by rw [h1]; try rfl) (And.intro (show (bnot (r32.v L j l n f m g == 0)) = false by rw [h1]; try rfl) (And.intro (show (bnot (r32.v L j l n f m g == 0)) = false by rw [h1]; try rfl) (And.intro (show (bnot (r32.v L j l n f m g == 0)) = false by rw [h1]; try rfl) (And.intro h2 (And.intro (show (AV.bool false) = ((AV.bool (r13.v L j l n f m g k s))) by first | (simp only [r13.v, h1, h2, cond_true, cond_false]; done) | (try unfold r13.v; try simp only [h1, cond_true, cond_false]; try simp only [h2, cond_true, cond_false]; try rfl; done) | rfl) trivial)))))))) h
    | false =>
      have h2p := ne_of_beq_false h2
      have o2 : k ≤ (9223372036854775807 : Nat) := by first | assumption | omega | (simp_all; done)
      have o3 : (r32.v L j l n f m g == (0 : Int)) = true := by first | assumption | omega | (simp_all; done)
      have o4 : r32.v L j l n f m g = (0 : Int) := by first | assumption | omega | (simp_all; done)
      have o5 : ((↑k : Int) == (0 : Int)) = false := by first | assumption | omega | (simp_all; done)
      have o6 : (↑k : Int) ≠ (0 : Int) := by first | assumption | omega | (simp_all; done)
      have o7 : (0 : Int) ≤ (↑k : Int) ∨ (0 : Int) ≤ (0 : Int) := by first | assumption | omega | (simp_all; done)
      cases h3 : L13a.run L j l n f m g k s 0 0 with
      | e0 =>
        exact Ret.of_run1 mix [(AV.bool (r13.v L j l n f m g k s))] Try.func13 rfl [.ret (AV.int IntKind.i64 (r32.v L j l n f m g)) ([]), .b false, .b false, .b false, .b false, .b false, .loop (others 67 [0, 1, 2, 3, 4, 5, 13, 28, 29, 30]) (Exit.ret) (L13a.X L j l n f m g k s L13a.O.e0) (L13a.XH L j l n f m g k s L13a.O.e0)] (by simp) (by simp) (kmp (by kernel_rfl) (And.intro (r32 (L) (j) (l) (n) (f) o0 (m) (g) o1 ([])) (And.intro (show (bnot (r32.v L j l n f m g == 0)) = false by rw [h1]; try rfl) (And.intro (show (bnot (r32.v L j l n f m g == 0)) = false by rw [h1]; try rfl) (And.intro (show (bnot (r32.v L j l n f m g == 0)) = false by rw [h1]; try rfl) (And.intro (show (bnot (r32.v L j l n f m g == 0)) = false by rw [h1]; try rfl) (And.intro h2 (And.intro (L13a.e0 (L) (j) (l) (n) (f) o0 (m) (g) o1 (k) (s) o2 o3 o4 o5 o6 (0) (0) (And.intro (show (0 : Int) ≤ (0 : Int) by first | decide | exact Int.NonNeg.mk _) o7) h3) (And.intro (show (AV.bool false) = ((AV.bool (r13.v L j l n f m g k s))) by first | (simp only [r13.v, h1, h2, h3, cond_true, cond_false]; done) | (try unfold r13.v; try simp only [h1, cond_true, cond_false]; try simp only [h2, cond_true, cond_false]; try simp only [h3, cond_true, cond_false]; try rfl; done) | rfl) trivial))))))))) h
      | e1 h3d0 =>
        exact Ret.of_run1 mix [(AV.bool (r13.v L j l n f m g k s))] Try.func13 rfl [.ret (AV.int IntKind.i64 (r32.v L j l n f m g)) ([]), .b false, .b false, .b false, .b false, .b false, .loop (others 67 [0, 1, 2, 3, 4, 5, 13, 28, 29, 30]) (Exit.exit 0) (L13a.X L j l n f m g k s (L13a.O.e1 h3d0)) (L13a.XH L j l n f m g k s (L13a.O.e1 h3d0))] (by simp) (by simp) (kmp (by kernel_rfl) (And.intro (r32 (L) (j) (l) (n) (f) o0 (m) (g) o1 ([])) (And.intro (show (bnot (r32.v L j l n f m g == 0)) = false by rw [h1]; try rfl) (And.intro (show (bnot (r32.v L j l n f m g == 0)) = false by rw [h1]; try rfl) (And.intro (show (bnot (r32.v L j l n f m g == 0)) = false by rw [h1]; try rfl) (And.intro (show (bnot (r32.v L j l n f m g == 0)) = false by rw [h1]; try rfl) (And.intro h2 (And.intro (L13a.e1 (L) (j) (l) (n) (f) o0 (m) (g) o1 (k) (s) o2 o3 o4 o5 o6 (0) (0) (And.intro (show (0 : Int) ≤ (0 : Int) by first | decide | exact Int.NonNeg.mk _) o7) h3d0 h3) (And.intro (show (AV.bool (h3d0 == L)) = ((AV.bool (r13.v L j l n f m g k s))) by first | (simp only [r13.v, h1, h2, h3, cond_true, cond_false]; done) | (try unfold r13.v; try simp only [h1, cond_true, cond_false]; try simp only [h2, cond_true, cond_false]; try simp only [h3, cond_true, cond_false]; try rfl; done) | rfl) trivial))))))))) h
  | false =>
    have h1p := ne_of_beq_false h1
    exact Ret.of_run1 mix [(AV.bool (r13.v L j l n f m g k s))] Try.func13 rfl [.ret (AV.int IntKind.i64 (r32.v L j l n f m g)) ([]), .b true, .b true, .b true, .b true, .b true] (by simp) (by simp) (kmp (by kernel_rfl) (And.intro (r32 (L) (j) (l) (n) (f) o0 (m) (g) o1 ([])) (And.intro (show (bnot (r32.v L j l n f m g == 0)) = true by rw [h1]; try rfl) (And.intro (show (bnot (r32.v L j l n f m g == 0)) = true by rw [h1]; try rfl) (And.intro (show (bnot (r32.v L j l n f m g == 0)) = true by rw [h1]; try rfl) (And.intro (show (bnot (r32.v L j l n f m g == 0)) = true by rw [h1]; try rfl) (And.intro (rfl : true = true) (And.intro (show (AV.bool false) = ((AV.bool (r13.v L j l n f m g k s))) by first | (simp only [r13.v, h1, cond_true, cond_false]; done) | (try unfold r13.v; try simp only [h1, cond_true, cond_false]; try rfl; done) | rfl) trivial)))))))) h

inductive L14ab.O where
  | e0 (a0 : Bool)
noncomputable def L14ab.T (L : Int) (j : Int) (l : Int) (n : Nat) (f : Nat → Int) (m : Nat) (g : Nat → Int) (k : Nat) (s : Nat → Int) (a13 : Int) (a14 : Int) (b15 : Bool) (b16 : Int) : List AV := mkT 83 [(0, AV.int IntKind.i64 L), (1, AV.int IntKind.i64 j), (2, AV.int IntKind.i64 l), (3, AV.sl 1 n fun (i : Nat) => AV.int IntKind.i64 (f i)), (4, AV.sl 1 m fun (i : Nat) => AV.int IntKind.i64 (g i)), (5, AV.sl 1 k fun (i : Nat) => AV.int IntKind.i64 (s i)), (13, AV.int IntKind.i64 a13), (14, AV.int IntKind.i64 a14), (15, AV.bool b15), (16, AV.int IntKind.i64 b16)]
noncomputable def L14ab.H (L : Int) (j : Int) (l : Int) (n : Nat) (f : Nat → Int) (m : Nat) (g : Nat → Int) (k : Nat) (s : Nat → Int) (a13 : Int) (a14 : Int) (b15 : Bool) (b16 : Int) : AHeap := []
def L14ab.inv (L : Int) (j : Int) (l : Int) (n : Nat) (f : Nat → Int) (m : Nat) (g : Nat → Int) (k : Nat) (s : Nat → Int) (a13 : Int) (a14 : Int) (b15 : Bool) (b16 : Int) : Prop := 0 ≤ b16 ∧ (b16 ≤ (↑n : Int) ∨ b16 ≤ 0)
noncomputable def L14ab.mu (L : Int) (j : Int) (l : Int) (n : Nat) (f : Nat → Int) (m : Nat) (g : Nat → Int) (k : Nat) (s : Nat → Int) (a13 : Int) (a14 : Int) (b15 : Bool) (b16 : Int) : Nat := ((↑n : Int) - b16).toNat
noncomputable def L14ab.E : L14ab.O → Exit
  | .e0 a0 => Exit.exit 2
noncomputable def L14ab.X (L : Int) (j : Int) (l : Int) (n : Nat) (f : Nat → Int) (m : Nat) (g : Nat → Int) (k : Nat) (s : Nat → Int) (a13 : Int) (a14 : Int) : L14ab.O → List AV
  | .e0 a0 => mkT 83 [(0, (AV.int IntKind.i64 L)), (1, (AV.int IntKind.i64 j)), (2, (AV.int IntKind.i64 l)), (3, (AV.sl 1 n fun (i : Nat) => AV.int IntKind.i64 (f i))), (4, (AV.sl 1 m fun (i : Nat) => AV.int IntKind.i64 (g i))), (5, (AV.sl 1 k fun (i : Nat) => AV.int IntKind.i64 (s i))), (13, (AV.int IntKind.i64 a13)), (14, (AV.int IntKind.i64 a14)), (15, (AV.bool a0))]
noncomputable def L14ab.XH (L : Int) (j : Int) (l : Int) (n : Nat) (f : Nat → Int) (m : Nat) (g : Nat → Int) (k : Nat) (s : Nat → Int) (a13 : Int) (a14 : Int) : L14ab.O → AHeap
  | .e0 a0 => ([])
noncomputable def L14ab.N (n : Nat) (f : Nat → Int) (s : Nat → Int) (a14 : Int) : Nat → Bool → Int → L14ab.O
  | 0, _, _ => .e0 default
  | k_ + 1, b15, b16 => (bif decide (b16 < (↑n : Int)) then (bif b15 then (L14ab.N n f s a14 k_ (true) (IntKind.i64.wrap (b16 + 1))) else (L14ab.N n f s a14 k_ (f b16.toNat == s a14.toNat) (IntKind.i64.wrap (b16 + 1)))) else (.e0 (b15)))
noncomputable def L14ab.run (n : Nat) (f : Nat → Int) (s : Nat → Int) (a14 : Int) (b15 : Bool) (b16 : Int) : L14ab.O := L14ab.N n f s a14 ((((↑n : Int) - b16).toNat) + 1) b15 b16
def L14ab.Next (L : Int) (j : Int) (l : Int) (n : Nat) (f : Nat → Int) (m : Nat) (g : Nat → Int) (k : Nat) (s : Nat → Int) (a13 : Int) (a14 : Int) (k_ : Nat) (z_ : Bool × Int) (T_ : List AV) (h_ : AHeap) : Prop := LNextP (fun (z_ : Bool × Int) => L14ab.T L j l n f m g k s a13 a14 z_.1 z_.2) (fun (z_ : Bool × Int) => L14ab.H L j l n f m g k s a13 a14 z_.1 z_.2) (fun (z_ : Bool × Int) => L14ab.inv L j l n f m g k s a13 a14 z_.1 z_.2) (fun (z_ : Bool × Int) => L14ab.mu L j l n f m g k s a13 a14 z_.1 z_.2) (fun (k_ : Nat) (z_ : Bool × Int) => L14ab.N n f s a14 k_ z_.1 z_.2) k_ z_ T_ h_
def L14ab.End (L : Int) (j : Int) (l : Int) (n : Nat) (f : Nat → Int) (m : Nat) (g : Nat → Int) (k : Nat) (s : Nat → Int) (a13 : Int) (a14 : Int) (k_ : Nat) (z_ : Bool × Int) (e_ : Exit) (T_ : List AV) (h_ : AHeap) : Prop := LEndP (fun (z_ : Bool × Int) => L14ab.H L j l n f m g k s a13 a14 z_.1 z_.2) (fun (k_ : Nat) (z_ : Bool × Int) => L14ab.N n f s a14 k_ z_.1 z_.2) L14ab.E (L14ab.X L j l n f m g k s a13 a14) (L14ab.XH L j l n f m g k s a13 a14) k_ z_ e_ T_ h_
theorem L14ab.nx (L : Int) (j : Int) (l : Int) (n : Nat) (f : Nat → Int) (m : Nat) (g : Nat → Int) (k : Nat) (s : Nat → Int) (a13 : Int) (a14 : Int) {k_ : Nat} {z_ : Bool × Int} {h_ : AHeap} (s_ : Bool × Int) (h1 : L14ab.inv L j l n f m g k s a13 a14 s_.1 s_.2) (h2 : L14ab.mu L j l n f m g k s a13 a14 s_.1 s_.2 < L14ab.mu L j l n f m g k s a13 a14 z_.1 z_.2) (h3 : L14ab.N n f s a14 k_ s_.1 s_.2 = L14ab.N n f s a14 (k_ + 1) z_.1 z_.2) (h4 : PopOk (L14ab.H L j l n f m g k s a13 a14 z_.1 z_.2) h_ (L14ab.T L j l n f m g k s a13 a14 s_.1 s_.2) (L14ab.H L j l n f m g k s a13 a14 s_.1 s_.2)) : LNextP (fun (z_ : Bool × Int) => L14ab.T L j l n f m g k s a13 a14 z_.1 z_.2) (fun (z_ : Bool × Int) => L14ab.H L j l n f m g k s a13 a14 z_.1 z_.2) (fun (z_ : Bool × Int) => L14ab.inv L j l n f m g k s a13 a14 z_.1 z_.2) (fun (z_ : Bool × Int) => L14ab.mu L j l n f m g k s a13 a14 z_.1 z_.2) (fun (k_ : Nat) (z_ : Bool × Int) => L14ab.N n f s a14 k_ z_.1 z_.2) k_ z_ (L14ab.T L j l n f m g k s a13 a14 s_.1 s_.2) h_ := LNextP.mk (Tm := (fun (z_ : Bool × Int) => L14ab.T L j l n f m g k s a13 a14 z_.1 z_.2)) (Hp := (fun (z_ : Bool × Int) => L14ab.H L j l n f m g k s a13 a14 z_.1 z_.2)) (inv := (fun (z_ : Bool × Int) => L14ab.inv L j l n f m g k s a13 a14 z_.1 z_.2)) (mu := (fun (z_ : Bool × Int) => L14ab.mu L j l n f m g k s a13 a14 z_.1 z_.2)) (l := (fun (k_ : Nat) (z_ : Bool × Int) => L14ab.N n f s a14 k_ z_.1 z_.2)) s_ h1 h2 h3 h4
theorem L14ab.en (L : Int) (j : Int) (l : Int) (n : Nat) (f : Nat → Int) (m : Nat) (g : Nat → Int) (k : Nat) (s : Nat → Int) (a13 : Int) (a14 : Int) {k_ : Nat} {z_ : Bool × Int} {h_ : AHeap} (o_ : L14ab.O) (h3 : L14ab.N n f s a14 (k_ + 1) z_.1 z_.2 = o_) (h4 : PopOk (L14ab.H L j l n f m g k s a13 a14 z_.1 z_.2) h_ (L14ab.X L j l n f m g k s a13 a14 o_) (L14ab.XH L j l n f m g k s a13 a14 o_)) : LEndP (fun (z_ : Bool × Int) => L14ab.H L j l n f m g k s a13 a14 z_.1 z_.2) (fun (k_ : Nat) (z_ : Bool × Int) => L14ab.N n f s a14 k_ z_.1 z_.2) L14ab.E (L14ab.X L j l n f m g k s a13 a14) (L14ab.XH L j l n f m g k s a13 a14) k_ z_ (L14ab.E o_) (L14ab.X L j l n f m g k s a13 a14 o_) h_ := LEndP.mk (Hp := (fun (z_ : Bool × Int) => L14ab.H L j l n f m g k s a13 a14 z_.1 z_.2)) (l := (fun (k_ : Nat) (z_ : Bool × Int) => L14ab.N n f s a14 k_ z_.1 z_.2)) (oE := L14ab.E) (oT := L14ab.X L j l n f m g k s a13 a14) (oH := L14ab.XH L j l n f m g k s a13 a14) o_ h3 h4
theorem L14ab.spec (L : Int) (j : Int) (l : Int) (n : Nat) (f : Nat → Int) (hn : n ≤ 9223372036854775807) (m : Nat) (g : Nat → Int) (hm : m ≤ 9223372036854775807) (k : Nat) (s : Nat → Int) (hk : k ≤ 9223372036854775807) (k0_1 : (r15.v L j l n f m g == 0) = true) (p0_1 : r15.v L j l n f m g = 0) (k0_2 : ((↑k : Int) == 0) = false) (p0_2 : (↑k : Int) ≠ 0) (a13 : Int) (a14 : Int) (i14a_0 : 0 ≤ a14) (i14a_1 : a14 ≤ (↑k : Int) ∨ a14 ≤ 0) (k1_1 : decide (a14 < (↑k : Int)) = true) (p1_1 : a14 < (↑k : Int)) (k_ : Nat) (z_ : Bool × Int) (hi_ : L14ab.inv L j l n f m g k s a13 a14 z_.1 z_.2) (hm_ : L14ab.mu L j l n f m g k s a13 a14 z_.1 z_.2 < k_) : LoopTo Try.prog (loopN Try.f14 1) (L14ab.T L j l n f m g k s a13 a14 z_.1 z_.2) (L14ab.H L j l n f m g k s a13 a14 z_.1 z_.2) (L14ab.E (L14ab.N n f s a14 k_ z_.1 z_.2)) (L14ab.X L j l n f m g k s a13 a14 (L14ab.N n f s a14 k_ z_.1 z_.2)) (L14ab.XH L j l n f m g k s a13 a14 (L14ab.N n f s a14 k_ z_.1 z_.2)) := by
  refine LoopTo.fuelP mix (fun (z_ : Bool × Int) => L14ab.T L j l n f m g k s a13 a14 z_.1 z_.2) (fun (z_ : Bool × Int) => L14ab.H L j l n f m g k s a13 a14 z_.1 z_.2) (fun (z_ : Bool × Int) => L14ab.inv L j l n f m g k s a13 a14 z_.1 z_.2) (fun (z_ : Bool × Int) => L14ab.mu L j l n f m g k s a13 a14 z_.1 z_.2) (fun (k_ : Nat) (z_ : Bool × Int) => L14ab.N n f s a14 k_ z_.1 z_.2) L14ab.E (L14ab.X L j l n f m g k s a13 a14) (L14ab.XH L j l n f m g k s a13 a14) (others 83 [0, 1, 2, 3, 4, 5, 13, 14, 15, 16]) (others 83 [12]) (others 83 [0, 1, 2, 3, 4, 5, 13, 14, 15]) ?_ k_ z_ hi_ hm_
  clear hm_ hi_ z_ k_
  intro k_ z_ hinv hmu
  obtain ⟨b15, b16⟩ := z_
  have hinv : 0 ≤ b16 ∧ (b16 ≤ (↑n : Int) ∨ b16 ≤ 0) := hinv
  have hmu : (((↑n : Int) - b16).toNat) < k_ + 1 := hmu
  cases h1 : decide (b16 < (↑n : Int)) with
  | true =>
    have h1p := of_decide_eq_true h1
    cases boolIs b15 with
    | true h2 =>
      try have := IntWalk.i64_in (b16 + 1) (by omega)
      have o0 : (0 : Int) ≤ IntKind.i64.wrap (b16 + (1 : Int)) := by first | assumption | omega | (simp_all; done)
      have o1 : IntKind.i64.wrap (b16 + (1 : Int)) ≤ (↑n : Int) ∨ IntKind.i64.wrap (b16 + (1 : Int)) ≤ (0 : Int) := by first | assumption | omega | (simp_all; done)
      have o2 : ((↑n : Int) - IntKind.i64.wrap (b16 + (1 : Int))).toNat < ((↑n : Int) - b16).toNat := by first | assumption | omega | (simp_all; done)
      exact ⟨[.b true, .b true, .b true, .b true, .b true, .b true, .b true, .b true, .b true, .b true, .b true], kmp (by kernel_rfl) (And.intro h1 (And.intro h2 (And.intro h2 (And.intro h2 (And.intro h2 (And.intro h2 (And.intro h2 (And.intro h2 (And.intro h2 (And.intro h2 (And.intro h2 (L14ab.nx L j l n f m g k s a13 a14 (k_ := k_) (z_ := (b15, b16)) ((true, IntKind.i64.wrap (b16 + 1))) (And.intro o0 o1) o2 (by first | (simp only [L14ab.N, h1, h2, cond_true, cond_false]; done) | (try unfold L14ab.N; try simp only [h1, cond_true, cond_false]; try simp only [h2, cond_true, cond_false]; try rfl; done)) PopOk.same))))))))))))⟩
    | false h2 =>
      have o3 : (0 : Int) ≤ b16 := by first | assumption | omega | (simp_all; done)
      have o4 : b16 < (↑n : Int) := by first | assumption | omega | (simp_all; done)
      have o5 : (0 : Int) ≤ a14 := by first | assumption | omega | (simp_all; done)
      have o6 : a14 < (↑k : Int) := by first | assumption | omega | (simp_all; done)
      try have := IntWalk.i64_in (b16 + 1) (by omega)
      have o0 : (0 : Int) ≤ IntKind.i64.wrap (b16 + (1 : Int)) := by first | assumption | omega | (simp_all; done)
      have o1 : IntKind.i64.wrap (b16 + (1 : Int)) ≤ (↑n : Int) ∨ IntKind.i64.wrap (b16 + (1 : Int)) ≤ (0 : Int) := by first | assumption | omega | (simp_all; done)
      have o2 : ((↑n : Int) - IntKind.i64.wrap (b16 + (1 : Int))).toNat < ((↑n : Int) - b16).toNat := by first | assumption | omega | (simp_all; done)
      exact ⟨[.b true, .b false, .b false, .b false, .b false, .b false, .b false, .b false, .b false, .b false, .b false], kmp (by kernel_rfl) (And.intro h1 (And.intro h2 (And.intro h2 (And.intro h2 (And.intro (And.intro o3 o4) (And.intro h2 (And.intro h2 (And.intro h2 (And.intro h2 (And.intro (And.intro o5 o6) (And.intro h2 (And.intro h2 (And.intro h2 (L14ab.nx L j l n f m g k s a13 a14 (k_ := k_) (z_ := (b15, b16)) ((f b16.toNat == s a14.toNat, IntKind.i64.wrap (b16 + 1))) (And.intro o0 o1) o2 (by first | (simp only [L14ab.N, h1, h2, cond_true, cond_false]; done) | (try unfold L14ab.N; try simp only [h1, cond_true, cond_false]; try simp only [h2, cond_true, cond_false]; try rfl; done)) PopOk.same))))))))))))))⟩
  | false =>
    have h1p := of_decide_eq_false h1
    exact ⟨[.b false], kmp (by kernel_rfl) (And.intro h1 (L14ab.en L j l n f m g k s a13 a14 (k_ := k_) (z_ := (b15, b16)) (.e0 (b15) : L14ab.O) (by first | (simp only [L14ab.N, h1, cond_true, cond_false]; done) | (try unfold L14ab.N; try simp only [h1, cond_true, cond_false]; try rfl; done)) PopOk.same))⟩
theorem L14ab.e0 (L : Int) (j : Int) (l : Int) (n : Nat) (f : Nat → Int) (hn : n ≤ 9223372036854775807) (m : Nat) (g : Nat → Int) (hm : m ≤ 9223372036854775807) (k : Nat) (s : Nat → Int) (hk : k ≤ 9223372036854775807) (k0_1 : (r15.v L j l n f m g == 0) = true) (p0_1 : r15.v L j l n f m g = 0) (k0_2 : ((↑k : Int) == 0) = false) (p0_2 : (↑k : Int) ≠ 0) (a13 : Int) (a14 : Int) (i14a_0 : 0 ≤ a14) (i14a_1 : a14 ≤ (↑k : Int) ∨ a14 ≤ 0) (k1_1 : decide (a14 < (↑k : Int)) = true) (p1_1 : a14 < (↑k : Int)) (b15 : Bool) (b16 : Int) (hinv : L14ab.inv L j l n f m g k s a13 a14 b15 b16) (a0 : Bool) (hN : L14ab.run n f s a14 b15 b16 = (.e0 a0 : L14ab.O)) : LoopTo Try.prog (loopN Try.f14 1) (L14ab.T L j l n f m g k s a13 a14 b15 b16) (L14ab.H L j l n f m g k s a13 a14 b15 b16) (Exit.exit 2) (L14ab.X L j l n f m g k s a13 a14 (.e0 a0 : L14ab.O)) (L14ab.XH L j l n f m g k s a13 a14 (.e0 a0 : L14ab.O)) := by
  have h_ := L14ab.spec L j l n f hn m g hm k s hk k0_1 p0_1 k0_2 p0_2 a13 a14 i14a_0 i14a_1 k1_1 p1_1 ((((↑n : Int) - b16).toNat) + 1) (b15, b16) hinv (Nat.lt_succ_self _)
  unfold L14ab.run at hN
  simp only [hN] at h_
  exact h_

inductive L14a.O where
  | e0
  | e1 (a0 : Int)
noncomputable def L14a.T (L : Int) (j : Int) (l : Int) (n : Nat) (f : Nat → Int) (m : Nat) (g : Nat → Int) (k : Nat) (s : Nat → Int) (a13 : Int) (a14 : Int) : List AV := mkT 83 [(0, AV.int IntKind.i64 L), (1, AV.int IntKind.i64 j), (2, AV.int IntKind.i64 l), (3, AV.sl 1 n fun (i : Nat) => AV.int IntKind.i64 (f i)), (4, AV.sl 1 m fun (i : Nat) => AV.int IntKind.i64 (g i)), (5, AV.sl 1 k fun (i : Nat) => AV.int IntKind.i64 (s i)), (13, AV.int IntKind.i64 a13), (14, AV.int IntKind.i64 a14)]
noncomputable def L14a.H (L : Int) (j : Int) (l : Int) (n : Nat) (f : Nat → Int) (m : Nat) (g : Nat → Int) (k : Nat) (s : Nat → Int) (a13 : Int) (a14 : Int) : AHeap := []
def L14a.inv (L : Int) (j : Int) (l : Int) (n : Nat) (f : Nat → Int) (m : Nat) (g : Nat → Int) (k : Nat) (s : Nat → Int) (a13 : Int) (a14 : Int) : Prop := 0 ≤ a14 ∧ (a14 ≤ (↑k : Int) ∨ a14 ≤ 0)
noncomputable def L14a.mu (L : Int) (j : Int) (l : Int) (n : Nat) (f : Nat → Int) (m : Nat) (g : Nat → Int) (k : Nat) (s : Nat → Int) (a13 : Int) (a14 : Int) : Nat := ((↑k : Int) - a14).toNat
noncomputable def L14a.E : L14a.O → Exit
  | .e0 => Exit.ret
  | .e1 a0 => Exit.exit 0
noncomputable def L14a.X (L : Int) (j : Int) (l : Int) (n : Nat) (f : Nat → Int) (m : Nat) (g : Nat → Int) (k : Nat) (s : Nat → Int) : L14a.O → List AV
  | .e0 => mkT 83 [(12, (AV.bool false))]
  | .e1 a0 => mkT 83 [(0, (AV.int IntKind.i64 L)), (13, (AV.int IntKind.i64 a0))]
noncomputable def L14a.XH (L : Int) (j : Int) (l : Int) (n : Nat) (f : Nat → Int) (m : Nat) (g : Nat → Int) (k : Nat) (s : Nat → Int) : L14a.O → AHeap
  | .e0 => ([])
  | .e1 a0 => ([])
noncomputable def L14a.N (L : Int) (j : Int) (l : Int) (n : Nat) (f : Nat → Int) (m : Nat) (g : Nat → Int) (k : Nat) (s : Nat → Int) : Nat → Int → Int → L14a.O
  | 0, _, _ => .e0
  | k_ + 1, a13, a14 => (bif decide (a14 < (↑k : Int)) then (match L14ab.run n f s a14 false 0 with | .e0 h2d0 => (bif h2d0 then (bif decide (a13 > L) then (.e0) else (bif decide (a14 < IntKind.i64.wrap ((↑k : Int) - 1)) then (bif r36.v (IntKind.i64.wrap (a13 + s a14.toNat)) j l m g then (L14a.N L j l n f m g k s k_ (IntKind.i64.wrap (IntKind.i64.wrap (a13 + s a14.toNat) + j)) (IntKind.i64.wrap (a14 + 1))) else (.e0)) else (L14a.N L j l n f m g k s k_ (IntKind.i64.wrap (a13 + s a14.toNat)) (IntKind.i64.wrap (a14 + 1))))) else (.e0)) ) else (.e1 (a13)))
noncomputable def L14a.run (L : Int) (j : Int) (l : Int) (n : Nat) (f : Nat → Int) (m : Nat) (g : Nat → Int) (k : Nat) (s : Nat → Int) (a13 : Int) (a14 : Int) : L14a.O := L14a.N L j l n f m g k s ((((↑k : Int) - a14).toNat) + 1) a13 a14
def L14a.Next (L : Int) (j : Int) (l : Int) (n : Nat) (f : Nat → Int) (m : Nat) (g : Nat → Int) (k : Nat) (s : Nat → Int) (k_ : Nat) (z_ : Int × Int) (T_ : List AV) (h_ : AHeap) : Prop := LNextP (fun (z_ : Int × Int) => L14a.T L j l n f m g k s z_.1 z_.2) (fun (z_ : Int × Int) => L14a.H L j l n f m g k s z_.1 z_.2) (fun (z_ : Int × Int) => L14a.inv L j l n f m g k s z_.1 z_.2) (fun (z_ : Int × Int) => L14a.mu L j l n f m g k s z_.1 z_.2) (fun (k_ : Nat) (z_ : Int × Int) => L14a.N L j l n f m g k s k_ z_.1 z_.2) k_ z_ T_ h_
def L14a.End (L : Int) (j : Int) (l : Int) (n : Nat) (f : Nat → Int) (m : Nat) (g : Nat → Int) (k : Nat) (s : Nat → Int) (k_ : Nat) (z_ : Int × Int) (e_ : Exit) (T_ : List AV) (h_ : AHeap) : Prop := LEndP (fun (z_ : Int × Int) => L14a.H L j l n f m g k s z_.1 z_.2) (fun (k_ : Nat) (z_ : Int × Int) => L14a.N L j l n f m g k s k_ z_.1 z_.2) L14a.E (L14a.X L j l n f m g k s) (L14a.XH L j l n f m g k s) k_ z_ e_ T_ h_
theorem L14a.nx (L : Int) (j : Int) (l : Int) (n : Nat) (f : Nat → Int) (m : Nat) (g : Nat → Int) (k : Nat) (s : Nat → Int) {k_ : Nat} {z_ : Int × Int} {h_ : AHeap} (s_ : Int × Int) (h1 : L14a.inv L j l n f m g k s s_.1 s_.2) (h2 : L14a.mu L j l n f m g k s s_.1 s_.2 < L14a.mu L j l n f m g k s z_.1 z_.2) (h3 : L14a.N L j l n f m g k s k_ s_.1 s_.2 = L14a.N L j l n f m g k s (k_ + 1) z_.1 z_.2) (h4 : PopOk (L14a.H L j l n f m g k s z_.1 z_.2) h_ (L14a.T L j l n f m g k s s_.1 s_.2) (L14a.H L j l n f m g k s s_.1 s_.2)) : LNextP (fun (z_ : Int × Int) => L14a.T L j l n f m g k s z_.1 z_.2) (fun (z_ : Int × Int) => L14a.H L j l n f m g k s z_.1 z_.2) (fun (z_ : Int × Int) => L14a.inv L j l n f m g k s z_.1 z_.2) (fun (z_ : Int × Int) => L14a.mu L j l n f m g k s z_.1 z_.2) (fun (k_ : Nat) (z_ : Int × Int) => L14a.N L j l n f m g k s k_ z_.1 z_.2) k_ z_ (L14a.T L j l n f m g k s s_.1 s_.2) h_ := LNextP.mk (Tm := (fun (z_ : Int × Int) => L14a.T L j l n f m g k s z_.1 z_.2)) (Hp := (fun (z_ : Int × Int) => L14a.H L j l n f m g k s z_.1 z_.2)) (inv := (fun (z_ : Int × Int) => L14a.inv L j l n f m g k s z_.1 z_.2)) (mu := (fun (z_ : Int × Int) => L14a.mu L j l n f m g k s z_.1 z_.2)) (l := (fun (k_ : Nat) (z_ : Int × Int) => L14a.N L j l n f m g k s k_ z_.1 z_.2)) s_ h1 h2 h3 h4
theorem L14a.en (L : Int) (j : Int) (l : Int) (n : Nat) (f : Nat → Int) (m : Nat) (g : Nat → Int) (k : Nat) (s : Nat → Int) {k_ : Nat} {z_ : Int × Int} {h_ : AHeap} (o_ : L14a.O) (h3 : L14a.N L j l n f m g k s (k_ + 1) z_.1 z_.2 = o_) (h4 : PopOk (L14a.H L j l n f m g k s z_.1 z_.2) h_ (L14a.X L j l n f m g k s o_) (L14a.XH L j l n f m g k s o_)) : LEndP (fun (z_ : Int × Int) => L14a.H L j l n f m g k s z_.1 z_.2) (fun (k_ : Nat) (z_ : Int × Int) => L14a.N L j l n f m g k s k_ z_.1 z_.2) L14a.E (L14a.X L j l n f m g k s) (L14a.XH L j l n f m g k s) k_ z_ (L14a.E o_) (L14a.X L j l n f m g k s o_) h_ := LEndP.mk (Hp := (fun (z_ : Int × Int) => L14a.H L j l n f m g k s z_.1 z_.2)) (l := (fun (k_ : Nat) (z_ : Int × Int) => L14a.N L j l n f m g k s k_ z_.1 z_.2)) (oE := L14a.E) (oT := L14a.X L j l n f m g k s) (oH := L14a.XH L j l n f m g k s) o_ h3 h4
theorem L14a.spec (L : Int) (j : Int) (l : Int) (n : Nat) (f : Nat → Int) (hn : n ≤ 9223372036854775807) (m : Nat) (g : Nat → Int) (hm : m ≤ 9223372036854775807) (k : Nat) (s : Nat → Int) (hk : k ≤ 9223372036854775807) (k0_1 : (r15.v L j l n f m g == 0) = true) (p0_1 : r15.v L j l n f m g = 0) (k0_2 : ((↑k : Int) == 0) = false) (p0_2 : (↑k : Int) ≠ 0) (k_ : Nat) (z_ : Int × Int) (hi_ : L14a.inv L j l n f m g k s z_.1 z_.2) (hm_ : L14a.mu L j l n f m g k s z_.1 z_.2 < k_) : LoopTo Try.prog (loopN Try.f14 0) (L14a.T L j l n f m g k s z_.1 z_.2) (L14a.H L j l n f m g k s z_.1 z_.2) (L14a.E (L14a.N L j l n f m g k s k_ z_.1 z_.2)) (L14a.X L j l n f m g k s (L14a.N L j l n f m g k s k_ z_.1 z_.2)) (L14a.XH L j l n f m g k s (L14a.N L j l n f m g k s k_ z_.1 z_.2)) := by
  refine LoopTo.fuelP mix (fun (z_ : Int × Int) => L14a.T L j l n f m g k s z_.1 z_.2) (fun (z_ : Int × Int) => L14a.H L j l n f m g k s z_.1 z_.2) (fun (z_ : Int × Int) => L14a.inv L j l n f m g k s z_.1 z_.2) (fun (z_ : Int × Int) => L14a.mu L j l n f m g k s z_.1 z_.2) (fun (k_ : Nat) (z_ : Int × Int) => L14a.N L j l n f m g k s k_ z_.1 z_.2) L14a.E (L14a.X L j l n f m g k s) (L14a.XH L j l n f m g k s) (others 83 [0, 1, 2, 3, 4, 5, 13, 14]) (others 83 [12]) (others 83 [0, 13]) ?_ k_ z_ hi_ hm_
  clear hm_ hi_ z_ k_
  intro k_ z_ hinv hmu
  obtain ⟨a13, a14⟩ := z_
  have hinv : 0 ≤ a14 ∧ (a14 ≤ (↑k : Int) ∨ a14 ≤ 0) := hinv
  have hmu : (((↑k : Int) - a14).toNat) < k_ + 1 := hmu
  cases h1 : decide (a14 < (↑k : Int)) with
  | true =>
    have h1p := of_decide_eq_true h1
    have o0 : n ≤ (9223372036854775807 : Nat) := by first | assumption | omega | (simp_all; done)
    have o1 : m ≤ (9223372036854775807 : Nat) := by first | assumption | omega | (simp_all; done)
    have o2 : k ≤ (9223372036854775807 : Nat) := by first | assumption | omega | (simp_all; done)
    have o3 : (r15.v L j l n f m g == (0 : Int)) = true := by first | assumption | omega | (simp_all; done)
    have o4 : r15.v L j l n f m g = (0 : Int) := by first | assumption | omega | (simp_all; done)
    have o5 : ((↑k : Int) == (0 : Int)) = false := by first | assumption | omega | (simp_all; done)
    have o6 : (↑k : Int) ≠ (0 : Int) := by first | assumption | omega | (simp_all; done)
    have o7 : (0 : Int) ≤ a14 := by first | assumption | omega | (simp_all; done)
    have o8 : a14 ≤ (↑k : Int) ∨ a14 ≤ (0 : Int) := by first | assumption | omega | (simp_all; done)
    have o9 : decide (a14 < (↑k : Int)) = true := by first | assumption | omega | (simp_all; done)
    have o10 : a14 < (↑k : Int) := by first | assumption | omega | (simp_all; done)
    have o11 : (0 : Int) ≤ (↑n : Int) ∨ (0 : Int) ≤ (0 : Int) := by first | assumption | omega | (simp_all; done)
    cases h2 : L14ab.run n f s a14 false 0 with
    | e0 h2d0 =>
      cases boolIs h2d0 with
      | true h3 =>
        cases h4 : decide (a13 > L) with
        | true =>
          have h4p := of_decide_eq_true h4
          exact ⟨[.b true, .loop (others 83 [0, 1, 2, 3, 4, 5, 13, 14, 15, 16]) (Exit.exit 2) (L14ab.X L j l n f m g k s a13 a14 (L14ab.O.e0 h2d0)) (L14ab.XH L j l n f m g k s a13 a14 (L14ab.O.e0 h2d0)), .b false, .b false, .b false, .b false, .b true], kmp (by kernel_rfl) (And.intro h1 (And.intro (L14ab.e0 (L) (j) (l) (n) (f) o0 (m) (g) o1 (k) (s) o2 o3 o4 o5 o6 (a13) (a14) o7 o8 o9 o10 (false) (0) (And.intro (show (0 : Int) ≤ (0 : Int) by first | decide | exact Int.NonNeg.mk _) o11) h2d0 h2) (And.intro (show (bnot h2d0) = false by rw [h3]; try rfl) (And.intro (show (bnot h2d0) = false by rw [h3]; try rfl) (And.intro (show (bnot h2d0) = false by rw [h3]; try rfl) (And.intro (show (bnot h2d0) = false by rw [h3]; try rfl) (And.intro h4 (L14a.en L j l n f m g k s (k_ := k_) (z_ := (a13, a14)) (.e0 : L14a.O) (by first | (simp only [L14a.N, h1, h3, h4, h2, cond_true, cond_false]; done) | (try unfold L14a.N; try simp only [h1, cond_true, cond_false]; try simp only [h3, cond_true, cond_false]; try simp only [h4, cond_true, cond_false]; try simp only [h2, cond_true, cond_false]; try rfl; done)) PopOk.same))))))))⟩
        | false =>
          have h4p := of_decide_eq_false h4
          cases h5 : decide (a14 < IntKind.i64.wrap ((↑k : Int) - 1)) with
          | true =>
            have h5p := of_decide_eq_true h5
            cases h6 : r36.v (IntKind.i64.wrap (a13 + s a14.toNat)) j l m g with
            | true =>
              try have := IntWalk.i64_in (a14 + 1) (by omega)
              have o12 : (0 : Int) ≤ IntKind.i64.wrap (a14 + (1 : Int)) := by first | assumption | omega | (simp_all; done)
              have o13 : IntKind.i64.wrap (a14 + (1 : Int)) ≤ (↑k : Int) ∨ IntKind.i64.wrap (a14 + (1 : Int)) ≤ (0 : Int) := by first | assumption | omega | (simp_all; done)
              have o14 : ((↑k : Int) - IntKind.i64.wrap (a14 + (1 : Int))).toNat < ((↑k : Int) - a14).toNat := by first | assumption | omega | (simp_all; done)
              exact ⟨[.b true, .loop (others 83 [0, 1, 2, 3, 4, 5, 13, 14, 15, 16]) (Exit.exit 2) (L14ab.X L j l n f m g k s a13 a14 (L14ab.O.e0 h2d0)) (L14ab.XH L j l n f m g k s a13 a14 (L14ab.O.e0 h2d0)), .b false, .b false, .b false, .b false, .b false, .b true, .ret (AV.bool (r36.v (IntKind.i64.wrap (a13 + s a14.toNat)) j l m g)) ([]), .b false], kmp (by kernel_rfl) (And.intro h1 (And.intro (L14ab.e0 (L) (j) (l) (n) (f) o0 (m) (g) o1 (k) (s) o2 o3 o4 o5 o6 (a13) (a14) o7 o8 o9 o10 (false) (0) (And.intro (show (0 : Int) ≤ (0 : Int) by first | decide | exact Int.NonNeg.mk _) o11) h2d0 h2) (And.intro (show (bnot h2d0) = false by rw [h3]; try rfl) (And.intro (show (bnot h2d0) = false by rw [h3]; try rfl) (And.intro (show (bnot h2d0) = false by rw [h3]; try rfl) (And.intro (show (bnot h2d0) = false by rw [h3]; try rfl) (And.intro h4 (And.intro (And.intro o7 o10) (And.intro h5 (And.intro (r36 (IntKind.i64.wrap (a13 + s a14.toNat)) (j) (l) (m) (g) o1 ([])) (And.intro (show (bnot (r36.v (IntKind.i64.wrap (a13 + s a14.toNat)) j l m g)) = false by rw [h6]; try rfl) (L14a.nx L j l n f m g k s (k_ := k_) (z_ := (a13, a14)) ((IntKind.i64.wrap (IntKind.i64.wrap (a13 + s a14.toNat) + j), IntKind.i64.wrap (a14 + 1))) (And.intro o12 o13) o14 (by first | (simp only [L14a.N, h1, h3, h4, h5, h6, h2, cond_true, cond_false]; done) | (try unfold L14a.N; try simp only [h1, cond_true, cond_false]; try simp only [h3, cond_true, cond_false]; try simp only [h4, cond_true, cond_false]; try simp only [h5, cond_true, cond_false]; try simp only [h6, cond_true, cond_false]; try simp only [h2, cond_true, cond_false]; try rfl; done)) PopOk.same))))))))))))⟩
            | false =>
              exact ⟨[.b true, .loop (others 83 [0, 1, 2, 3, 4, 5, 13, 14, 15, 16]) (Exit.exit 2) (L14ab.X L j l n f m g k s a13 a14 (L14ab.O.e0 h2d0)) (L14ab.XH L j l n f m g k s a13 a14 (L14ab.O.e0 h2d0)), .b false, .b false, .b false, .b false, .b false, .b true, .ret (AV.bool (r36.v (IntKind.i64.wrap (a13 + s a14.toNat)) j l m g)) ([]), .b true], kmp (by kernel_rfl) (And.intro h1 (And.intro (L14ab.e0 (L) (j) (l) (n) (f) o0 (m) (g) o1 (k) (s) o2 o3 o4 o5 o6 (a13) (a14) o7 o8 o9 o10 (false) (0) (And.intro (show (0 : Int) ≤ (0 : Int) by first | decide | exact Int.NonNeg.mk _) o11) h2d0 h2) (And.intro (show (bnot h2d0) = false by rw [h3]; try rfl) (And.intro (show (bnot h2d0) = false by rw [h3]; try rfl) (And.intro (show (bnot h2d0) = false by rw [h3]; try rfl) (And.intro (show (bnot h2d0) = false by rw [h3]; try rfl) (And.intro h4 (And.intro (And.intro o7 o10) (And.intro h5 (And.intro (r36 (IntKind.i64.wrap (a13 + s a14.toNat)) (j) (l) (m) (g) o1 ([])) (And.intro (show (bnot (r36.v (IntKind.i64.wrap (a13 + s a14.toNat)) j l m g)) = true by rw [h6]; try rfl) (L14a.en L j l n f m g k s (k_ := k_) (z_ := (a13, a14)) (.e0 : L14a.O) (by first | (simp only [L14a.N, h1, h3, h4, h5, h6, h2, cond_true, cond_false]; done) | (try unfold L14a.N; try simp only [h1, cond_true, cond_false]; try simp only [h3, cond_true, cond_false]; try simp only [h4, cond_true, cond_false]; try simp only [h5, cond_true, cond_false]; try simp only [h6, cond_true, cond_false]; try simp only [h2, cond_true, cond_false]; try rfl; done)) PopOk.same))))))))))))⟩
          | false =>
            have h5p := of_decide_eq_false h5
            try have := IntWalk.i64_in (a14 + 1) (by omega)
            have o12 : (0 : Int) ≤ IntKind.i64.wrap (a14 + (1 : Int)) := by first | assumption | omega | (simp_all; done)
            have o13 : IntKind.i64.wrap (a14 + (1 : Int)) ≤ (↑k : Int) ∨ IntKind.i64.wrap (a14 + (1 : Int)) ≤ (0 : Int) := by first | assumption | omega | (simp_all; done)
            have o14 : ((↑k : Int) - IntKind.i64.wrap (a14 + (1 : Int))).toNat < ((↑k : Int) - a14).toNat := by first | assumption | omega | (simp_all; done)
            exact ⟨[.b true, .loop (others 83 [0, 1, 2, 3, 4, 5, 13, 14, 15, 16]) (Exit.exit 2) (L14ab.X L j l n f m g k s a13 a14 (L14ab.O.e0 h2d0)) (L14ab.XH L j l n f m g k s a13 a14 (L14ab.O.e0 h2d0)), .b false, .b false, .b false, .b false, .b false, .b false], kmp (by kernel_rfl) (And.intro h1 (And.intro (L14ab.e0 (L) (j) (l) (n) (f) o0 (m) (g) o1 (k) (s) o2 o3 o4 o5 o6 (a13) (a14) o7 o8 o9 o10 (false) (0) (And.intro (show (0 : Int) ≤ (0 : Int) by first | decide | exact Int.NonNeg.mk _) o11) h2d0 h2) (And.intro (show (bnot h2d0) = false by rw [h3]; try rfl) (And.intro (show (bnot h2d0) = false by rw [h3]; try rfl) (And.intro (show (bnot h2d0) = false by rw [h3]; try rfl) (And.intro (show (bnot h2d0) = false by rw [h3]; try rfl) (And.intro h4 (And.intro (And.intro o7 o10) (And.intro h5 (L14a.nx L j l n f m g k s (k_ := k_) (z_ := (a13, a14)) ((IntKind.i64.wrap (a13 + s a14.toNat), IntKind.i64.wrap (a14 + 1))) (And.intro o12 o13) o14 (by first | (simp only [L14a.N, h1, h3, h4, h5, h2, cond_true, cond_false]; done) | (try unfold L14a.N; try simp only [h1, cond_true, cond_false]; try simp only [h3, cond_true, cond_false]; try simp only [h4, cond_true, cond_false]; try simp only [h5, cond_true, cond_false]; try simp only [h2, cond_true, cond_false]; try rfl; done)) PopOk.same))))))))))⟩
      | false h3 =>
        exact ⟨[.b true, .loop (others 83 [0, 1, 2, 3, 4, 5, 13, 14, 15, 16]) (Exit.exit 2) (L14ab.X L j l n f m g k s a13 a14 (L14ab.O.e0 h2d0)) (L14ab.XH L j l n f m g k s a13 a14 (L14ab.O.e0 h2d0)), .b true, .b true, .b true, .b true, .b true], kmp (by kernel_rfl) (And.intro h1 (And.intro (L14ab.e0 (L) (j) (l) (n) (f) o0 (m) (g) o1 (k) (s) o2 o3 o4 o5 o6 (a13) (a14) o7 o8 o9 o10 (false) (0) (And.intro (show (0 : Int) ≤ (0 : Int) by first | decide | exact Int.NonNeg.mk _) o11) h2d0 h2) (And.intro (show (bnot h2d0) = true by rw [h3]; try rfl) (And.intro (show (bnot h2d0) = true by rw [h3]; try rfl) (And.intro (show (bnot h2d0) = true by rw [h3]; try rfl) (And.intro (show (bnot h2d0) = true by rw [h3]; try rfl) (And.intro (rfl : true = true) (L14a.en L j l n f m g k s (k_ := k_) (z_ := (a13, a14)) (.e0 : L14a.O) (by first | (simp only [L14a.N, h1, h3, h2, cond_true, cond_false]; done) | (try unfold L14a.N; try simp only [h1, cond_true, cond_false]; try simp only [h3, cond_true, cond_false]; try simp only [h2, cond_true, cond_false]; try rfl; done)) PopOk.same))))))))⟩
  | false =>
    have h1p := of_decide_eq_false h1
    exact ⟨[.b false], kmp (by kernel_rfl) (And.intro h1 (L14a.en L j l n f m g k s (k_ := k_) (z_ := (a13, a14)) (.e1 (a13) : L14a.O) (by first | (simp only [L14a.N, h1, cond_true, cond_false]; done) | (try unfold L14a.N; try simp only [h1, cond_true, cond_false]; try rfl; done)) PopOk.same))⟩
theorem L14a.e0 (L : Int) (j : Int) (l : Int) (n : Nat) (f : Nat → Int) (hn : n ≤ 9223372036854775807) (m : Nat) (g : Nat → Int) (hm : m ≤ 9223372036854775807) (k : Nat) (s : Nat → Int) (hk : k ≤ 9223372036854775807) (k0_1 : (r15.v L j l n f m g == 0) = true) (p0_1 : r15.v L j l n f m g = 0) (k0_2 : ((↑k : Int) == 0) = false) (p0_2 : (↑k : Int) ≠ 0) (a13 : Int) (a14 : Int) (hinv : L14a.inv L j l n f m g k s a13 a14) (hN : L14a.run L j l n f m g k s a13 a14 = (.e0 : L14a.O)) : LoopTo Try.prog (loopN Try.f14 0) (L14a.T L j l n f m g k s a13 a14) (L14a.H L j l n f m g k s a13 a14) (Exit.ret) (L14a.X L j l n f m g k s (.e0 : L14a.O)) (L14a.XH L j l n f m g k s (.e0 : L14a.O)) := by
  have h_ := L14a.spec L j l n f hn m g hm k s hk k0_1 p0_1 k0_2 p0_2 ((((↑k : Int) - a14).toNat) + 1) (a13, a14) hinv (Nat.lt_succ_self _)
  unfold L14a.run at hN
  simp only [hN] at h_
  exact h_
theorem L14a.e1 (L : Int) (j : Int) (l : Int) (n : Nat) (f : Nat → Int) (hn : n ≤ 9223372036854775807) (m : Nat) (g : Nat → Int) (hm : m ≤ 9223372036854775807) (k : Nat) (s : Nat → Int) (hk : k ≤ 9223372036854775807) (k0_1 : (r15.v L j l n f m g == 0) = true) (p0_1 : r15.v L j l n f m g = 0) (k0_2 : ((↑k : Int) == 0) = false) (p0_2 : (↑k : Int) ≠ 0) (a13 : Int) (a14 : Int) (hinv : L14a.inv L j l n f m g k s a13 a14) (a0 : Int) (hN : L14a.run L j l n f m g k s a13 a14 = (.e1 a0 : L14a.O)) : LoopTo Try.prog (loopN Try.f14 0) (L14a.T L j l n f m g k s a13 a14) (L14a.H L j l n f m g k s a13 a14) (Exit.exit 0) (L14a.X L j l n f m g k s (.e1 a0 : L14a.O)) (L14a.XH L j l n f m g k s (.e1 a0 : L14a.O)) := by
  have h_ := L14a.spec L j l n f hn m g hm k s hk k0_1 p0_1 k0_2 p0_2 ((((↑k : Int) - a14).toNat) + 1) (a13, a14) hinv (Nat.lt_succ_self _)
  unfold L14a.run at hN
  simp only [hN] at h_
  exact h_

noncomputable def r14.v (L : Int) (j : Int) (l : Int) (n : Nat) (f : Nat → Int) (m : Nat) (g : Nat → Int) (k : Nat) (s : Nat → Int) : Bool := (bif r15.v L j l n f m g == 0 then (bif (↑k : Int) == 0 then false else (match L14a.run L j l n f m g k s 0 0 with | .e0 => false | .e1 h3d0 => h3d0 == L )) else false)
theorem r14 (L : Int) (j : Int) (l : Int) (n : Nat) (f : Nat → Int) (hn : n ≤ 9223372036854775807) (m : Nat) (g : Nat → Int) (hm : m ≤ 9223372036854775807) (k : Nat) (s : Nat → Int) (hk : k ≤ 9223372036854775807) (h : AHeap) : Ret Try.prog 14 ([AV.int IntKind.i64 L, AV.int IntKind.i64 j, AV.int IntKind.i64 l, ivs n f, ivs m g, ivs k s]) h (AV.bool (r14.v L j l n f m g k s)) h := by
  have o0 : n ≤ (9223372036854775807 : Nat) := by first | assumption | omega | (simp_all; done)
  have o1 : m ≤ (9223372036854775807 : Nat) := by first | assumption | omega | (simp_all; done)
  cases h1 : r15.v L j l n f m g == 0 with
  | true =>
    have h1p := eq_of_beq h1
    cases h2 : (↑k : Int) == 0 with
    | true =>
      have h2p := eq_of_beq h2
      exact Ret.of_run1 mix [(AV.bool (r14.v L j l n f m g k s))] Try.func14 rfl [.ret (AV.int IntKind.i64 (r15.v L j l n f m g)) ([]), .b false, .b false, .b false, .b false, .b true] (by simp) (by simp) (kmp (by kernel_rfl) (And.intro (r15 (L) (j) (l) (n) (f) o0 (m) (g) o1 ([])) (And.intro (show (bnot (r15.v L j l n f m g == 0)) = false by rw [h1]; try rfl) (And.intro (show (bnot (r15.v L j l n f m g == 0)) = false by rw [h1]; try rfl) (And.intro (show (bnot (r15.v L j l n f m g == 0)) = false by rw [h1]; try rfl) (And.intro (show (bnot (r15.v L j l n f m g == 0)) = false by rw [h1]; try rfl) (And.intro h2 (And.intro (show (AV.bool false) = ((AV.bool (r14.v L j l n f m g k s))) by first | (simp only [r14.v, h1, h2, cond_true, cond_false]; done) | (try unfold r14.v; try simp only [h1, cond_true, cond_false]; try simp only [h2, cond_true, cond_false]; try rfl; done) | rfl) trivial)))))))) h
    | false =>
      have h2p := ne_of_beq_false h2
      have o2 : k ≤ (9223372036854775807 : Nat) := by first | assumption | omega | (simp_all; done)
      have o3 : (r15.v L j l n f m g == (0 : Int)) = true := by first | assumption | omega | (simp_all; done)
      have o4 : r15.v L j l n f m g = (0 : Int) := by first | assumption | omega | (simp_all; done)
      have o5 : ((↑k : Int) == (0 : Int)) = false := by first | assumption | omega | (simp_all; done)
      have o6 : (↑k : Int) ≠ (0 : Int) := by first | assumption | omega | (simp_all; done)
      have o7 : (0 : Int) ≤ (↑k : Int) ∨ (0 : Int) ≤ (0 : Int) := by first | assumption | omega | (simp_all; done)
      cases h3 : L14a.run L j l n f m g k s 0 0 with
      | e0 =>
        exact Ret.of_run1 mix [(AV.bool (r14.v L j l n f m g k s))] Try.func14 rfl [.ret (AV.int IntKind.i64 (r15.v L j l n f m g)) ([]), .b false, .b false, .b false, .b false, .b false, .loop (others 83 [0, 1, 2, 3, 4, 5, 13, 14]) (Exit.ret) (L14a.X L j l n f m g k s L14a.O.e0) (L14a.XH L j l n f m g k s L14a.O.e0)] (by simp) (by simp) (kmp (by kernel_rfl) (And.intro (r15 (L) (j) (l) (n) (f) o0 (m) (g) o1 ([])) (And.intro (show (bnot (r15.v L j l n f m g == 0)) = false by rw [h1]; try rfl) (And.intro (show (bnot (r15.v L j l n f m g == 0)) = false by rw [h1]; try rfl) (And.intro (show (bnot (r15.v L j l n f m g == 0)) = false by rw [h1]; try rfl) (And.intro (show (bnot (r15.v L j l n f m g == 0)) = false by rw [h1]; try rfl) (And.intro h2 (And.intro (L14a.e0 (L) (j) (l) (n) (f) o0 (m) (g) o1 (k) (s) o2 o3 o4 o5 o6 (0) (0) (And.intro (show (0 : Int) ≤ (0 : Int) by first | decide | exact Int.NonNeg.mk _) o7) h3) (And.intro (show (AV.bool false) = ((AV.bool (r14.v L j l n f m g k s))) by first | (simp only [r14.v, h1, h2, h3, cond_true, cond_false]; done) | (try unfold r14.v; try simp only [h1, cond_true, cond_false]; try simp only [h2, cond_true, cond_false]; try simp only [h3, cond_true, cond_false]; try rfl; done) | rfl) trivial))))))))) h
      | e1 h3d0 =>
        exact Ret.of_run1 mix [(AV.bool (r14.v L j l n f m g k s))] Try.func14 rfl [.ret (AV.int IntKind.i64 (r15.v L j l n f m g)) ([]), .b false, .b false, .b false, .b false, .b false, .loop (others 83 [0, 1, 2, 3, 4, 5, 13, 14]) (Exit.exit 0) (L14a.X L j l n f m g k s (L14a.O.e1 h3d0)) (L14a.XH L j l n f m g k s (L14a.O.e1 h3d0))] (by simp) (by simp) (kmp (by kernel_rfl) (And.intro (r15 (L) (j) (l) (n) (f) o0 (m) (g) o1 ([])) (And.intro (show (bnot (r15.v L j l n f m g == 0)) = false by rw [h1]; try rfl) (And.intro (show (bnot (r15.v L j l n f m g == 0)) = false by rw [h1]; try rfl) (And.intro (show (bnot (r15.v L j l n f m g == 0)) = false by rw [h1]; try rfl) (And.intro (show (bnot (r15.v L j l n f m g == 0)) = false by rw [h1]; try rfl) (And.intro h2 (And.intro (L14a.e1 (L) (j) (l) (n) (f) o0 (m) (g) o1 (k) (s) o2 o3 o4 o5 o6 (0) (0) (And.intro (show (0 : Int) ≤ (0 : Int) by first | decide | exact Int.NonNeg.mk _) o7) h3d0 h3) (And.intro (show (AV.bool (h3d0 == L)) = ((AV.bool (r14.v L j l n f m g k s))) by first | (simp only [r14.v, h1, h2, h3, cond_true, cond_false]; done) | (try unfold r14.v; try simp only [h1, cond_true, cond_false]; try simp only [h2, cond_true, cond_false]; try simp only [h3, cond_true, cond_false]; try rfl; done) | rfl) trivial))))))))) h
  | false =>
    have h1p := ne_of_beq_false h1
    exact Ret.of_run1 mix [(AV.bool (r14.v L j l n f m g k s))] Try.func14 rfl [.ret (AV.int IntKind.i64 (r15.v L j l n f m g)) ([]), .b true, .b true, .b true, .b true, .b true] (by simp) (by simp) (kmp (by kernel_rfl) (And.intro (r15 (L) (j) (l) (n) (f) o0 (m) (g) o1 ([])) (And.intro (show (bnot (r15.v L j l n f m g == 0)) = true by rw [h1]; try rfl) (And.intro (show (bnot (r15.v L j l n f m g == 0)) = true by rw [h1]; try rfl) (And.intro (show (bnot (r15.v L j l n f m g == 0)) = true by rw [h1]; try rfl) (And.intro (show (bnot (r15.v L j l n f m g == 0)) = true by rw [h1]; try rfl) (And.intro (rfl : true = true) (And.intro (show (AV.bool false) = ((AV.bool (r14.v L j l n f m g k s))) by first | (simp only [r14.v, h1, cond_true, cond_false]; done) | (try unfold r14.v; try simp only [h1, cond_true, cond_false]; try rfl; done) | rfl) trivial)))))))) h

end Go.Proofs.Ytjdbmmilcihpoaa

/- Plain laws: arguments of layouts. Conditions: none. -/
open Go
namespace Go.Proofs.Ytjdbmmilcihpoaa
set_option linter.unusedVariables false
set_option linter.unusedSimpArgs false
variable {L j l : Int} {n m : Nat} {f g : Nat → Int}

theorem i64_small {x : Int} (h : -9223372036854775808 ≤ x ∧ x ≤ 9223372036854775807) : IntKind.i64.wrap x = x := IntWalk.i64_in x (by omega)

/-- Allowed arguments of a layout. -/
structure LOk (L j l : Int) (n : Nat) (f : Nat → Int) (m : Nat) (g : Nat → Int) : Prop where
  l1 : 1 ≤ L
  l2 : L ≤ 20000
  j1 : 0 ≤ j
  j2 : j ≤ 1000
  p1 : 0 ≤ l
  p2 : l ≤ 20000
  n1 : 1 ≤ n
  n2 : n ≤ 16
  m2 : m ≤ 200
  f1 : ∀ i, i < n → 1 ≤ f i
  f2 : ∀ i, i < n → f i ≤ 20000
  f3 : ∀ i, i + 1 < n → f i < f (i + 1)
  g1 : ∀ i, i < m → 0 ≤ g i
  g2 : ∀ i, i < m → g i ≤ 40000

theorem bd_len (h : LOk L j l n f m g) : (1 ≤ L ∧ L ≤ 20000 ∧ 0 ≤ j ∧ j ≤ 1000 ∧ n ≤ 16 ∧ m ≤ 200) ∧ 1 ≤ n ∧ IntKind.i64.wrap (L - 1) = L - 1 ∧ IntKind.i64.wrap (L + 1) = L + 1 := ⟨⟨h.l1, h.l2, h.j1, h.j2, h.n2, h.m2⟩, h.n1, i64_small (by have := h.l1; have := h.l2; omega), i64_small (by have := h.l1; have := h.l2; omega)⟩
theorem bd_sz (h : LOk L j l n f m g) {i : Int} (h1 : i < n) (h0 : 0 ≤ i) : 1 ≤ f i.toNat ∧ f i.toNat ≤ 20000 :=
  ⟨h.f1 _ (by omega), h.f2 _ (by omega)⟩
theorem wr_0 {a b j : Int} (h1 : 0 ≤ a) (h2 : a ≤ 30000) (h3 : 1 ≤ b) (h4 : b ≤ 20000) (h5 : 0 ≤ j) (h6 : j ≤ 1000) : 0 ≤ IntKind.i64.wrap (IntKind.i64.wrap (a + b) + j) := by
  rw [i64_small (x := a + b) (by omega), i64_small (by omega)]; omega
end Go.Proofs.Ytjdbmmilcihpoaa
