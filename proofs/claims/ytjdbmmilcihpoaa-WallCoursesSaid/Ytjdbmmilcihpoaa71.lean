/- Contracts of the functions and plain laws, part 1. Conditions: none. -/
import Derived.Test.YtjdbmmilcihpoaaW3
import Derived.Test.YtjdbmmilcihpoaaChecked
import Derived.KernelRfl
import Derived.IntWalk
import Derived.Test.YtjdbmmilcihpoaaRows
import Derived.Shelf.Small.Bits

namespace Go.Proofs.Ytjdbmmilcihpoaa
theorem Ai {a b : Prop} (x : a) (y : b) : a ∧ b := ⟨x, y⟩
end Go.Proofs.Ytjdbmmilcihpoaa
namespace Go.Proofs.Ytjdbmmilcihpoaa
abbrev iv (n : Int) : AV := AV.int .i64 n
end Go.Proofs.Ytjdbmmilcihpoaa
open Go
namespace Go.Proofs.Ytjdbmmilcihpoaa
set_option linter.unusedVariables false
set_option linter.unusedSimpArgs false
theorem mix : Try.prog.follows .mixedOrders = true := Try.checked.mixed
end Go.Proofs.Ytjdbmmilcihpoaa
open Go
namespace Go.Proofs.Ytjdbmmilcihpoaa
set_option linter.unusedSimpArgs false
set_option linter.unusedVariables false
set_option maxHeartbeats 0
set_option maxRecDepth 100000
def ivs (m : Nat) (f : Nat → Int) : AV := .sl 1 m (fun i => .int .i64 (f i))
@[simp] theorem low_ivs (lo m : Nat) (f : Nat → Int) : Low lo (ivs m f) = True := by unfold ivs; simp
noncomputable def r37.v (n : Int) (a : Int) (b : Int) : Bool := (bif decide (n ≥ a) then decide (n ≤ b) else false)
theorem r37 (n : Int) (a : Int) (b : Int) (h : AHeap) : Ret Try.prog 37 ([iv n, iv a, iv b]) h (AV.bool (r37.v n a b)) h := by
 cases h1 : decide (n ≥ a) with
 | true =>
  have h1p := of_decide_eq_true h1
  exact Ret.of_run1 mix [(AV.bool (r37.v n a b))] Try.func37 rfl [.b true, .b true, .b true, .b true] (by simp) (by simp) (kmp (by kernel_rfl) (Ai h1 (Ai h1 (Ai h1 (Ai h1 (Ai (show (AV.bool (decide (n ≤ b))) = ((AV.bool (r37.v n a b))) by simp only [r37.v, h1, cond_true, cond_false]) trivial)))))) h
 | false =>
  have h1p := of_decide_eq_false h1
  exact Ret.of_run1 mix [(AV.bool (r37.v n a b))] Try.func37 rfl [.b false, .b false, .b false, .b false] (by simp) (by simp) (kmp (by kernel_rfl) (Ai h1 (Ai h1 (Ai h1 (Ai h1 (Ai (show (AV.bool false) = ((AV.bool (r37.v n a b))) by simp only [r37.v, h1, cond_true, cond_false]) trivial)))))) h
noncomputable def r51.v (n : Int) (a : Int) (b : Int) : Bool := (bif decide (n ≥ a) then decide (n ≤ b) else false)
theorem r51 (n : Int) (a : Int) (b : Int) (h : AHeap) : Ret Try.prog 51 ([iv n, iv a, iv b]) h (AV.bool (r51.v n a b)) h := by
 cases h1 : decide (n ≥ a) with
 | true =>
  have h1p := of_decide_eq_true h1
  exact Ret.of_run1 mix [(AV.bool (r51.v n a b))] Try.func51 rfl [.b true, .b true, .b true, .b true] (by simp) (by simp) (kmp (by kernel_rfl) (Ai h1 (Ai h1 (Ai h1 (Ai h1 (Ai (show (AV.bool (decide (n ≤ b))) = ((AV.bool (r51.v n a b))) by simp only [r51.v, h1, cond_true, cond_false]) trivial)))))) h
 | false =>
  have h1p := of_decide_eq_false h1
  exact Ret.of_run1 mix [(AV.bool (r51.v n a b))] Try.func51 rfl [.b false, .b false, .b false, .b false] (by simp) (by simp) (kmp (by kernel_rfl) (Ai h1 (Ai h1 (Ai h1 (Ai h1 (Ai (show (AV.bool false) = ((AV.bool (r51.v n a b))) by simp only [r51.v, h1, cond_true, cond_false]) trivial)))))) h
noncomputable def r46.v (a : Int) (b : Int) (l : Int) : Bool := decide ((if IntKind.i64.wrap (b - a) > IntKind.i64.wrap (a - b) then IntKind.i64.wrap (b - a) else IntKind.i64.wrap (a - b)) < IntKind.i64.wrap (2 * l))
theorem r46 (a : Int) (b : Int) (l : Int) (h : AHeap) : Ret Try.prog 46 ([iv a, iv b, iv l]) h (AV.bool (r46.v a b l)) h := by
 exact Ret.of_run1 mix [(AV.bool (r46.v a b l))] Try.func46 rfl [] (by simp) (by simp) (kmp (by kernel_rfl) (Ai (show (AV.bool (decide ((if IntKind.i64.wrap (b - a) > IntKind.i64.wrap (a - b) then IntKind.i64.wrap (b - a) else IntKind.i64.wrap (a - b)) < IntKind.i64.wrap (2 * l)))) = ((AV.bool (r46.v a b l))) by simp only [r46.v, cond_true, cond_false]) trivial)) h
noncomputable def r65.v (at_ : Int) (j : Int) (l : Int) (b : Int) : Bool := r46.v (IntKind.i64.wrap (IntKind.i64.wrap (2 * at_) + j)) b l
noncomputable abbrev r65.h0 (at_ : Int) (j : Int) (l : Int) (b : Int) : AHeap := ([AObj.var (iv at_), AObj.var (iv j), AObj.var (iv l)])
theorem r65 (at_ : Int) (j : Int) (l : Int) (b : Int) : Ret Try.prog 65 ([iv b, AV.ptr 0 1 1 0 0, AV.ptr 1 1 1 0 0, AV.ptr 2 1 1 0 0]) (r65.h0 at_ j l b) (AV.bool (r65.v at_ j l b)) (r65.h0 at_ j l b) := by
 exact Ret.of_runH mix [(AV.bool (r65.v at_ j l b))] (r65.h0 at_ j l b) Try.func65 rfl [.ret (AV.bool (r46.v (IntKind.i64.wrap (IntKind.i64.wrap (2 * at_) + j)) b l)) (r65.h0 at_ j l b)] (by simp) (kmp (by kernel_rfl) (Ai (r46 (IntKind.i64.wrap (IntKind.i64.wrap (2 * at_) + j)) (b) (l) (r65.h0 at_ j l b)) (Ai (Ai (show (AV.bool (r46.v (IntKind.i64.wrap (IntKind.i64.wrap (2 * at_) + j)) b l)) = ((AV.bool (r65.v at_ j l b))) by simp only [r65.v, cond_true, cond_false]) trivial) (rfl : ([AObj.var (iv at_), AObj.var (iv j), AObj.var (iv l)] : AHeap) = [AObj.var (iv at_), AObj.var (iv j), AObj.var (iv l)]))))
inductive L79ca.O where
 | e0 (a0 : Int)
 | e1
noncomputable def L79ca.T (at_ : Int) (j : Int) (l : Int) (m : Nat) (f : Nat → Int) (a8 : Int) : List AV := mkT 19 [(0, AV.sl 1 m fun (i : Nat) => iv (f i)), (1, AV.fn 65 [AV.ptr 0 1 1 0 0, AV.ptr 1 1 1 0 0, AV.ptr 2 1 1 0 0]), (7, iv (↑m : Int)), (8, iv a8)]
noncomputable def L79ca.H (at_ : Int) (j : Int) (l : Int) (m : Nat) (f : Nat → Int) (a8 : Int) : AHeap := [AObj.var (iv at_), AObj.var (iv j), AObj.var (iv l)]
def L79ca.inv (at_ : Int) (j : Int) (l : Int) (m : Nat) (f : Nat → Int) (a8 : Int) : Prop := 0 ≤ a8 ∧ (a8 ≤ (↑m : Int) ∨ a8 ≤ 0)
noncomputable def L79ca.mu (at_ : Int) (j : Int) (l : Int) (m : Nat) (f : Nat → Int) (a8 : Int) : Nat := ((↑m : Int) - a8).toNat
noncomputable def L79ca.E : L79ca.O → Exit
 | .e0 a0 => Exit.ret
 | .e1 => Exit.exit 0
noncomputable def L79ca.X (at_ : Int) (j : Int) (l : Int) (m : Nat) (f : Nat → Int) : L79ca.O → List AV
 | .e0 a0 => mkT 19 [(4, (iv a0))]
 | .e1 => mkT 19 []
noncomputable def L79ca.XH (at_ : Int) (j : Int) (l : Int) (m : Nat) (f : Nat → Int) : L79ca.O → AHeap
 | .e0 a0 => ([AObj.var (iv at_), AObj.var (iv j), AObj.var (iv l)])
 | .e1 => ([AObj.var (iv at_), AObj.var (iv j), AObj.var (iv l)])
noncomputable def L79ca.N (at_ : Int) (j : Int) (l : Int) (m : Nat) (f : Nat → Int) : Nat → Int → L79ca.O
 | 0, _ => .e0 default
 | k_ + 1, a8 => (bif decide (a8 < (↑m : Int)) then (bif r65.v at_ j l (f a8.toNat) then (.e0 (a8)) else (L79ca.N at_ j l m f k_ (IntKind.i64.wrap (a8 + 1)))) else (.e1))
noncomputable def L79ca.run (at_ : Int) (j : Int) (l : Int) (m : Nat) (f : Nat → Int) (a8 : Int) : L79ca.O := L79ca.N at_ j l m f ((((↑m : Int) - a8).toNat) + 1) a8
theorem L79ca.nx (at_ : Int) (j : Int) (l : Int) (m : Nat) (f : Nat → Int) {k_ : Nat} {z_ : Int} {h_ : AHeap} (s_ : Int) (h1 : L79ca.inv at_ j l m f s_) (h2 : L79ca.mu at_ j l m f s_ < L79ca.mu at_ j l m f z_) (h3 : L79ca.N at_ j l m f k_ s_ = L79ca.N at_ j l m f (k_ + 1) z_) (h4 : PopOk (L79ca.H at_ j l m f z_) h_ (L79ca.T at_ j l m f s_) (L79ca.H at_ j l m f s_)) : LNextP (L79ca.T at_ j l m f) (L79ca.H at_ j l m f) (L79ca.inv at_ j l m f) (L79ca.mu at_ j l m f) (L79ca.N at_ j l m f) k_ z_ (L79ca.T at_ j l m f s_) h_ := LNextP.mk s_ h1 h2 h3 h4
theorem L79ca.en (at_ : Int) (j : Int) (l : Int) (m : Nat) (f : Nat → Int) {k_ : Nat} {z_ : Int} {h_ : AHeap} (o_ : L79ca.O) (h3 : L79ca.N at_ j l m f (k_ + 1) z_ = o_) (h4 : PopOk (L79ca.H at_ j l m f z_) h_ (L79ca.X at_ j l m f o_) (L79ca.XH at_ j l m f o_)) : LEndP (L79ca.H at_ j l m f) (L79ca.N at_ j l m f) L79ca.E (L79ca.X at_ j l m f) (L79ca.XH at_ j l m f) k_ z_ (L79ca.E o_) (L79ca.X at_ j l m f o_) h_ := LEndP.mk o_ h3 h4
theorem L79ca.spec (at_ : Int) (j : Int) (l : Int) (m : Nat) (f : Nat → Int) (hm : m ≤ 9223372036854775807) (k_ : Nat) (z_ : Int) (hi_ : L79ca.inv at_ j l m f z_) (hm_ : L79ca.mu at_ j l m f z_ < k_) : LoopTo Try.prog (loopN Try.f79 0) (L79ca.T at_ j l m f z_) (L79ca.H at_ j l m f z_) (L79ca.E (L79ca.N at_ j l m f k_ z_)) (L79ca.X at_ j l m f (L79ca.N at_ j l m f k_ z_)) (L79ca.XH at_ j l m f (L79ca.N at_ j l m f k_ z_)) := by
 refine LoopTo.fuelP mix (L79ca.T at_ j l m f) (L79ca.H at_ j l m f) (L79ca.inv at_ j l m f) (L79ca.mu at_ j l m f) (L79ca.N at_ j l m f) L79ca.E (L79ca.X at_ j l m f) (L79ca.XH at_ j l m f) (others 19 [0, 1, 7, 8]) (others 19 [4]) (others 19 []) ?_ k_ z_ hi_ hm_
 clear hm_ hi_ z_ k_
 intro k_ z_ hinv hmu
 revert hinv hmu; revert z_; intro a8 hinv hmu
 have hinv : 0 ≤ a8 ∧ (a8 ≤ (↑m : Int) ∨ a8 ≤ 0) := hinv
 have hmu : (((↑m : Int) - a8).toNat) < k_ + 1 := hmu
 cases h1 : decide (a8 < (↑m : Int)) with
 | true =>
  have h1p := of_decide_eq_true h1
  have o0 : (0 : Int) ≤ a8 := by omega
  have o1 : a8 < (↑m : Int) := by assumption
  cases h2 : r65.v at_ j l (f a8.toNat) with
  | true =>
   exact ⟨[.b true, .ret (AV.bool (r65.v at_ j l (f a8.toNat))) ([AObj.var (iv at_), AObj.var (iv j), AObj.var (iv l)]), .b true], kmp (by kernel_rfl) (Ai h1 (Ai (Ai o0 o1) (Ai (r65 (at_) (j) (l) (f a8.toNat)) (Ai h2 (L79ca.en at_ j l m f (k_ := k_) (z_ := a8) (.e0 (a8) : L79ca.O) (by simp only [L79ca.N, h1, h2, cond_true, cond_false]) PopOk.same)))))⟩
  | false =>
   try have := IntWalk.i64_in (a8 + 1) (by omega)
   have o2 : (0 : Int) ≤ IntKind.i64.wrap (a8 + (1 : Int)) := by omega
   have o3 : IntKind.i64.wrap (a8 + (1 : Int)) ≤ (↑m : Int) ∨ IntKind.i64.wrap (a8 + (1 : Int)) ≤ (0 : Int) := by omega
   have o4 : ((↑m : Int) - IntKind.i64.wrap (a8 + (1 : Int))).toNat < ((↑m : Int) - a8).toNat := by omega
   exact ⟨[.b true, .ret (AV.bool (r65.v at_ j l (f a8.toNat))) ([AObj.var (iv at_), AObj.var (iv j), AObj.var (iv l)]), .b false], kmp (by kernel_rfl) (Ai h1 (Ai (Ai o0 o1) (Ai (r65 (at_) (j) (l) (f a8.toNat)) (Ai h2 (L79ca.nx at_ j l m f (k_ := k_) (z_ := a8) (IntKind.i64.wrap (a8 + 1)) (Ai o2 o3) o4 (by simp only [L79ca.N, h1, h2, cond_true, cond_false]) PopOk.same)))))⟩
 | false =>
  have h1p := of_decide_eq_false h1
  exact ⟨[.b false], kmp (by kernel_rfl) (Ai h1 (L79ca.en at_ j l m f (k_ := k_) (z_ := a8) (.e1 : L79ca.O) (by simp only [L79ca.N, h1, cond_true, cond_false]) PopOk.same))⟩
theorem L79ca.e0 (at_ : Int) (j : Int) (l : Int) (m : Nat) (f : Nat → Int) (hm : m ≤ 9223372036854775807) (a8 : Int) (hinv : L79ca.inv at_ j l m f a8) (a0 : Int) (hN : L79ca.run at_ j l m f a8 = (.e0 a0 : L79ca.O)) : LoopTo Try.prog (loopN Try.f79 0) (L79ca.T at_ j l m f a8) (L79ca.H at_ j l m f a8) (Exit.ret) (L79ca.X at_ j l m f (.e0 a0 : L79ca.O)) (L79ca.XH at_ j l m f (.e0 a0 : L79ca.O)) := by
 have h_ := L79ca.spec at_ j l m f hm ((((↑m : Int) - a8).toNat) + 1) a8 hinv (Nat.lt_succ_self _)
 unfold L79ca.run at hN
 simp only [hN] at h_
 exact h_
theorem L79ca.e1 (at_ : Int) (j : Int) (l : Int) (m : Nat) (f : Nat → Int) (hm : m ≤ 9223372036854775807) (a8 : Int) (hinv : L79ca.inv at_ j l m f a8) (hN : L79ca.run at_ j l m f a8 = (.e1 : L79ca.O)) : LoopTo Try.prog (loopN Try.f79 0) (L79ca.T at_ j l m f a8) (L79ca.H at_ j l m f a8) (Exit.exit 0) (L79ca.X at_ j l m f (.e1 : L79ca.O)) (L79ca.XH at_ j l m f (.e1 : L79ca.O)) := by
 have h_ := L79ca.spec at_ j l m f hm ((((↑m : Int) - a8).toNat) + 1) a8 hinv (Nat.lt_succ_self _)
 unfold L79ca.run at hN
 simp only [hN] at h_
 exact h_
noncomputable def r79c.v (at_ : Int) (j : Int) (l : Int) (m : Nat) (f : Nat → Int) : Int := (match L79ca.run at_ j l m f 0 with | .e0 h1d0 => h1d0 | .e1 => -1 )
noncomputable abbrev r79c.h0 (at_ : Int) (j : Int) (l : Int) (m : Nat) (f : Nat → Int) : AHeap := ([AObj.var (iv at_), AObj.var (iv j), AObj.var (iv l)])
theorem r79c (at_ : Int) (j : Int) (l : Int) (m : Nat) (f : Nat → Int) (hm : m ≤ 9223372036854775807) : Ret Try.prog 79 ([ivs m f, AV.fn 65 [AV.ptr 0 1 1 0 0, AV.ptr 1 1 1 0 0, AV.ptr 2 1 1 0 0]]) (r79c.h0 at_ j l m f) (iv (r79c.v at_ j l m f)) (r79c.h0 at_ j l m f) := by
 have o0 : m ≤ (9223372036854775807 : Nat) := by assumption
 have o1 : (0 : Int) ≤ (↑m : Int) ∨ (0 : Int) ≤ (0 : Int) := by omega
 cases h1 : L79ca.run at_ j l m f 0 with
 | e0 h1d0 =>
  exact Ret.of_runH mix [(iv (r79c.v at_ j l m f))] (r79c.h0 at_ j l m f) Try.func79 rfl [.loop (others 19 [0, 1, 7, 8]) (Exit.ret) (L79ca.X at_ j l m f (L79ca.O.e0 h1d0)) (L79ca.XH at_ j l m f (L79ca.O.e0 h1d0))] (by simp) (kmp (by kernel_rfl) (Ai (L79ca.e0 (at_) (j) (l) (m) (f) o0 (0) (Ai (show (0 : Int) ≤ (0 : Int) by decide) o1) h1d0 h1) (Ai (Ai (show (iv h1d0) = ((iv (r79c.v at_ j l m f))) by simp only [r79c.v, h1, cond_true, cond_false]) trivial) (rfl : ([AObj.var (iv at_), AObj.var (iv j), AObj.var (iv l)] : AHeap) = [AObj.var (iv at_), AObj.var (iv j), AObj.var (iv l)]))))
 | e1 =>
  exact Ret.of_runH mix [(iv (r79c.v at_ j l m f))] (r79c.h0 at_ j l m f) Try.func79 rfl [.loop (others 19 [0, 1, 7, 8]) (Exit.exit 0) (L79ca.X at_ j l m f L79ca.O.e1) (L79ca.XH at_ j l m f L79ca.O.e1)] (by simp) (kmp (by kernel_rfl) (Ai (L79ca.e1 (at_) (j) (l) (m) (f) o0 (0) (Ai (show (0 : Int) ≤ (0 : Int) by decide) o1) h1) (Ai (Ai (show (iv (-1)) = ((iv (r79c.v at_ j l m f))) by simp only [r79c.v, h1, cond_true, cond_false]) trivial) (rfl : ([AObj.var (iv at_), AObj.var (iv j), AObj.var (iv l)] : AHeap) = [AObj.var (iv at_), AObj.var (iv j), AObj.var (iv l)]))))
noncomputable def r62c.v (at_ : Int) (j : Int) (l : Int) (m : Nat) (f : Nat → Int) : Bool := decide (r79c.v at_ j l m f ≥ 0)
noncomputable abbrev r62c.h0 (at_ : Int) (j : Int) (l : Int) (m : Nat) (f : Nat → Int) : AHeap := ([AObj.var (iv at_), AObj.var (iv j), AObj.var (iv l)])
theorem r62c (at_ : Int) (j : Int) (l : Int) (m : Nat) (f : Nat → Int) (hm : m ≤ 9223372036854775807) : Ret Try.prog 62 ([ivs m f, AV.fn 65 [AV.ptr 0 1 1 0 0, AV.ptr 1 1 1 0 0, AV.ptr 2 1 1 0 0]]) (r62c.h0 at_ j l m f) (AV.bool (r62c.v at_ j l m f)) (r62c.h0 at_ j l m f) := by
 have o0 : m ≤ (9223372036854775807 : Nat) := by assumption
 exact Ret.of_runH mix [(AV.bool (r62c.v at_ j l m f))] (r62c.h0 at_ j l m f) Try.func62 rfl [.ret (iv (r79c.v at_ j l m f)) (r62c.h0 at_ j l m f)] (by simp) (kmp (by kernel_rfl) (Ai (r79c (at_) (j) (l) (m) (f) o0) (Ai (Ai (show (AV.bool (decide (r79c.v at_ j l m f ≥ 0))) = ((AV.bool (r62c.v at_ j l m f))) by simp only [r62c.v, cond_true, cond_false]) trivial) (rfl : ([AObj.var (iv at_), AObj.var (iv j), AObj.var (iv l)] : AHeap) = [AObj.var (iv at_), AObj.var (iv j), AObj.var (iv l)]))))
noncomputable def r34.v (at_ : Int) (j : Int) (l : Int) (m : Nat) (f : Nat → Int) : Bool := bnot (r62c.v at_ j l m f)
theorem r34 (at_ : Int) (j : Int) (l : Int) (m : Nat) (f : Nat → Int) (hm : m ≤ 9223372036854775807) (h : AHeap) : Ret Try.prog 34 ([iv at_, iv j, iv l, ivs m f]) h (AV.bool (r34.v at_ j l m f)) h := by
 have o0 : m ≤ (9223372036854775807 : Nat) := by assumption
 exact Ret.of_run1 mix [(AV.bool (r34.v at_ j l m f))] Try.func34 rfl [.ret (AV.bool (r62c.v at_ j l m f)) ([AObj.var (iv at_), AObj.var (iv j), AObj.var (iv l)])] (by simp) (by simp) (kmp (by kernel_rfl) (Ai (r62c (at_) (j) (l) (m) (f) o0) (Ai (show (AV.bool (bnot (r62c.v at_ j l m f))) = ((AV.bool (r34.v at_ j l m f))) by simp only [r34.v, cond_true, cond_false]) trivial))) h
noncomputable def r63.v (n : Int) : Bool := bnot (r51.v n 1 20000)
theorem r63 (n : Int) (h : AHeap) : Ret Try.prog 63 ([iv n]) h (AV.bool (r63.v n)) h := by
 exact Ret.of_run1 mix [(AV.bool (r63.v n))] Try.func63 rfl [.ret (AV.bool (r51.v n 1 20000)) ([])] (by simp) (by simp) (kmp (by kernel_rfl) (Ai (r51 (n) (1) (20000) ([])) (Ai (show (AV.bool (bnot (r51.v n 1 20000))) = ((AV.bool (r63.v n))) by simp only [r63.v, cond_true, cond_false]) trivial))) h
noncomputable def r64.v (n : Int) : Bool := bnot (r51.v n 0 40000)
theorem r64 (n : Int) (h : AHeap) : Ret Try.prog 64 ([iv n]) h (AV.bool (r64.v n)) h := by
 exact Ret.of_run1 mix [(AV.bool (r64.v n))] Try.func64 rfl [.ret (AV.bool (r51.v n 0 40000)) ([])] (by simp) (by simp) (kmp (by kernel_rfl) (Ai (r51 (n) (0) (40000) ([])) (Ai (show (AV.bool (bnot (r51.v n 0 40000))) = ((AV.bool (r64.v n))) by simp only [r64.v, cond_true, cond_false]) trivial))) h
inductive L79aa.O where
 | e0 (a0 : Int)
 | e1
noncomputable def L79aa.T (m : Nat) (f : Nat → Int) (a8 : Int) : List AV := mkT 19 [(0, AV.sl 1 m fun (i : Nat) => iv (f i)), (1, AV.fn 63 []), (7, iv (↑m : Int)), (8, iv a8)]
noncomputable def L79aa.H (m : Nat) (f : Nat → Int) (a8 : Int) : AHeap := []
def L79aa.inv (m : Nat) (f : Nat → Int) (a8 : Int) : Prop := 0 ≤ a8 ∧ (a8 ≤ (↑m : Int) ∨ a8 ≤ 0)
noncomputable def L79aa.mu (m : Nat) (f : Nat → Int) (a8 : Int) : Nat := ((↑m : Int) - a8).toNat
noncomputable def L79aa.E : L79aa.O → Exit
 | .e0 a0 => Exit.ret
 | .e1 => Exit.exit 0
noncomputable def L79aa.X (m : Nat) (f : Nat → Int) : L79aa.O → List AV
 | .e0 a0 => mkT 19 [(4, (iv a0))]
 | .e1 => mkT 19 []
noncomputable def L79aa.XH (m : Nat) (f : Nat → Int) : L79aa.O → AHeap
 | .e0 a0 => ([])
 | .e1 => ([])
noncomputable def L79aa.N (m : Nat) (f : Nat → Int) : Nat → Int → L79aa.O
 | 0, _ => .e0 default
 | k_ + 1, a8 => (bif decide (a8 < (↑m : Int)) then (bif r63.v (f a8.toNat) then (.e0 (a8)) else (L79aa.N m f k_ (IntKind.i64.wrap (a8 + 1)))) else (.e1))
noncomputable def L79aa.run (m : Nat) (f : Nat → Int) (a8 : Int) : L79aa.O := L79aa.N m f ((((↑m : Int) - a8).toNat) + 1) a8
theorem L79aa.nx (m : Nat) (f : Nat → Int) {k_ : Nat} {z_ : Int} {h_ : AHeap} (s_ : Int) (h1 : L79aa.inv m f s_) (h2 : L79aa.mu m f s_ < L79aa.mu m f z_) (h3 : L79aa.N m f k_ s_ = L79aa.N m f (k_ + 1) z_) (h4 : PopOk (L79aa.H m f z_) h_ (L79aa.T m f s_) (L79aa.H m f s_)) : LNextP (L79aa.T m f) (L79aa.H m f) (L79aa.inv m f) (L79aa.mu m f) (L79aa.N m f) k_ z_ (L79aa.T m f s_) h_ := LNextP.mk s_ h1 h2 h3 h4
theorem L79aa.en (m : Nat) (f : Nat → Int) {k_ : Nat} {z_ : Int} {h_ : AHeap} (o_ : L79aa.O) (h3 : L79aa.N m f (k_ + 1) z_ = o_) (h4 : PopOk (L79aa.H m f z_) h_ (L79aa.X m f o_) (L79aa.XH m f o_)) : LEndP (L79aa.H m f) (L79aa.N m f) L79aa.E (L79aa.X m f) (L79aa.XH m f) k_ z_ (L79aa.E o_) (L79aa.X m f o_) h_ := LEndP.mk o_ h3 h4
theorem L79aa.spec (m : Nat) (f : Nat → Int) (hm : m ≤ 9223372036854775807) (k_ : Nat) (z_ : Int) (hi_ : L79aa.inv m f z_) (hm_ : L79aa.mu m f z_ < k_) : LoopTo Try.prog (loopN Try.f79 0) (L79aa.T m f z_) (L79aa.H m f z_) (L79aa.E (L79aa.N m f k_ z_)) (L79aa.X m f (L79aa.N m f k_ z_)) (L79aa.XH m f (L79aa.N m f k_ z_)) := by
 refine LoopTo.fuelP mix (L79aa.T m f) (L79aa.H m f) (L79aa.inv m f) (L79aa.mu m f) (L79aa.N m f) L79aa.E (L79aa.X m f) (L79aa.XH m f) (others 19 [0, 1, 7, 8]) (others 19 [4]) (others 19 []) ?_ k_ z_ hi_ hm_
 clear hm_ hi_ z_ k_
 intro k_ z_ hinv hmu
 revert hinv hmu; revert z_; intro a8 hinv hmu
 have hinv : 0 ≤ a8 ∧ (a8 ≤ (↑m : Int) ∨ a8 ≤ 0) := hinv
 have hmu : (((↑m : Int) - a8).toNat) < k_ + 1 := hmu
 cases h1 : decide (a8 < (↑m : Int)) with
 | true =>
  have h1p := of_decide_eq_true h1
  have o0 : (0 : Int) ≤ a8 := by omega
  have o1 : a8 < (↑m : Int) := by assumption
  cases h2 : r63.v (f a8.toNat) with
  | true =>
   exact ⟨[.b true, .ret (AV.bool (r63.v (f a8.toNat))) ([]), .b true], kmp (by kernel_rfl) (Ai h1 (Ai (Ai o0 o1) (Ai (r63 (f a8.toNat) ([])) (Ai h2 (L79aa.en m f (k_ := k_) (z_ := a8) (.e0 (a8) : L79aa.O) (by simp only [L79aa.N, h1, h2, cond_true, cond_false]) PopOk.same)))))⟩
  | false =>
   try have := IntWalk.i64_in (a8 + 1) (by omega)
   have o2 : (0 : Int) ≤ IntKind.i64.wrap (a8 + (1 : Int)) := by omega
   have o3 : IntKind.i64.wrap (a8 + (1 : Int)) ≤ (↑m : Int) ∨ IntKind.i64.wrap (a8 + (1 : Int)) ≤ (0 : Int) := by omega
   have o4 : ((↑m : Int) - IntKind.i64.wrap (a8 + (1 : Int))).toNat < ((↑m : Int) - a8).toNat := by omega
   exact ⟨[.b true, .ret (AV.bool (r63.v (f a8.toNat))) ([]), .b false], kmp (by kernel_rfl) (Ai h1 (Ai (Ai o0 o1) (Ai (r63 (f a8.toNat) ([])) (Ai h2 (L79aa.nx m f (k_ := k_) (z_ := a8) (IntKind.i64.wrap (a8 + 1)) (Ai o2 o3) o4 (by simp only [L79aa.N, h1, h2, cond_true, cond_false]) PopOk.same)))))⟩
 | false =>
  have h1p := of_decide_eq_false h1
  exact ⟨[.b false], kmp (by kernel_rfl) (Ai h1 (L79aa.en m f (k_ := k_) (z_ := a8) (.e1 : L79aa.O) (by simp only [L79aa.N, h1, cond_true, cond_false]) PopOk.same))⟩
theorem L79aa.e0 (m : Nat) (f : Nat → Int) (hm : m ≤ 9223372036854775807) (a8 : Int) (hinv : L79aa.inv m f a8) (a0 : Int) (hN : L79aa.run m f a8 = (.e0 a0 : L79aa.O)) : LoopTo Try.prog (loopN Try.f79 0) (L79aa.T m f a8) (L79aa.H m f a8) (Exit.ret) (L79aa.X m f (.e0 a0 : L79aa.O)) (L79aa.XH m f (.e0 a0 : L79aa.O)) := by
 have h_ := L79aa.spec m f hm ((((↑m : Int) - a8).toNat) + 1) a8 hinv (Nat.lt_succ_self _)
 unfold L79aa.run at hN
 simp only [hN] at h_
 exact h_
theorem L79aa.e1 (m : Nat) (f : Nat → Int) (hm : m ≤ 9223372036854775807) (a8 : Int) (hinv : L79aa.inv m f a8) (hN : L79aa.run m f a8 = (.e1 : L79aa.O)) : LoopTo Try.prog (loopN Try.f79 0) (L79aa.T m f a8) (L79aa.H m f a8) (Exit.exit 0) (L79aa.X m f (.e1 : L79aa.O)) (L79aa.XH m f (.e1 : L79aa.O)) := by
 have h_ := L79aa.spec m f hm ((((↑m : Int) - a8).toNat) + 1) a8 hinv (Nat.lt_succ_self _)
 unfold L79aa.run at hN
 simp only [hN] at h_
 exact h_
noncomputable def r79a.v (m : Nat) (f : Nat → Int) : Int := (match L79aa.run m f 0 with | .e0 h1d0 => h1d0 | .e1 => -1 )
theorem r79a (m : Nat) (f : Nat → Int) (hm : m ≤ 9223372036854775807) (h : AHeap) : Ret Try.prog 79 ([ivs m f, AV.fn 63 []]) h (iv (r79a.v m f)) h := by
 have o0 : m ≤ (9223372036854775807 : Nat) := by assumption
 have o1 : (0 : Int) ≤ (↑m : Int) ∨ (0 : Int) ≤ (0 : Int) := by omega
 cases h1 : L79aa.run m f 0 with
 | e0 h1d0 =>
  exact Ret.of_run1 mix [(iv (r79a.v m f))] Try.func79 rfl [.loop (others 19 [0, 1, 7, 8]) (Exit.ret) (L79aa.X m f (L79aa.O.e0 h1d0)) (L79aa.XH m f (L79aa.O.e0 h1d0))] (by simp) (by simp) (kmp (by kernel_rfl) (Ai (L79aa.e0 (m) (f) o0 (0) (Ai (show (0 : Int) ≤ (0 : Int) by decide) o1) h1d0 h1) (Ai (show (iv h1d0) = ((iv (r79a.v m f))) by simp only [r79a.v, h1, cond_true, cond_false]) trivial))) h
 | e1 =>
  exact Ret.of_run1 mix [(iv (r79a.v m f))] Try.func79 rfl [.loop (others 19 [0, 1, 7, 8]) (Exit.exit 0) (L79aa.X m f L79aa.O.e1) (L79aa.XH m f L79aa.O.e1)] (by simp) (by simp) (kmp (by kernel_rfl) (Ai (L79aa.e1 (m) (f) o0 (0) (Ai (show (0 : Int) ≤ (0 : Int) by decide) o1) h1) (Ai (show (iv (-1)) = ((iv (r79a.v m f))) by simp only [r79a.v, h1, cond_true, cond_false]) trivial))) h
noncomputable def r62a.v (m : Nat) (f : Nat → Int) : Bool := decide (r79a.v m f ≥ 0)
theorem r62a (m : Nat) (f : Nat → Int) (hm : m ≤ 9223372036854775807) (h : AHeap) : Ret Try.prog 62 ([ivs m f, AV.fn 63 []]) h (AV.bool (r62a.v m f)) h := by
 have o0 : m ≤ (9223372036854775807 : Nat) := by assumption
 exact Ret.of_run1 mix [(AV.bool (r62a.v m f))] Try.func62 rfl [.ret (iv (r79a.v m f)) ([])] (by simp) (by simp) (kmp (by kernel_rfl) (Ai (r79a (m) (f) o0 ([])) (Ai (show (AV.bool (decide (r79a.v m f ≥ 0))) = ((AV.bool (r62a.v m f))) by simp only [r62a.v, cond_true, cond_false]) trivial))) h
inductive L79ba.O where
 | e0 (a0 : Int)
 | e1
noncomputable def L79ba.T (m : Nat) (f : Nat → Int) (a8 : Int) : List AV := mkT 19 [(0, AV.sl 1 m fun (i : Nat) => iv (f i)), (1, AV.fn 64 []), (7, iv (↑m : Int)), (8, iv a8)]
noncomputable def L79ba.H (m : Nat) (f : Nat → Int) (a8 : Int) : AHeap := []
def L79ba.inv (m : Nat) (f : Nat → Int) (a8 : Int) : Prop := 0 ≤ a8 ∧ (a8 ≤ (↑m : Int) ∨ a8 ≤ 0)
noncomputable def L79ba.mu (m : Nat) (f : Nat → Int) (a8 : Int) : Nat := ((↑m : Int) - a8).toNat
noncomputable def L79ba.E : L79ba.O → Exit
 | .e0 a0 => Exit.ret
 | .e1 => Exit.exit 0
noncomputable def L79ba.X (m : Nat) (f : Nat → Int) : L79ba.O → List AV
 | .e0 a0 => mkT 19 [(4, (iv a0))]
 | .e1 => mkT 19 []
noncomputable def L79ba.XH (m : Nat) (f : Nat → Int) : L79ba.O → AHeap
 | .e0 a0 => ([])
 | .e1 => ([])
noncomputable def L79ba.N (m : Nat) (f : Nat → Int) : Nat → Int → L79ba.O
 | 0, _ => .e0 default
 | k_ + 1, a8 => (bif decide (a8 < (↑m : Int)) then (bif r64.v (f a8.toNat) then (.e0 (a8)) else (L79ba.N m f k_ (IntKind.i64.wrap (a8 + 1)))) else (.e1))
noncomputable def L79ba.run (m : Nat) (f : Nat → Int) (a8 : Int) : L79ba.O := L79ba.N m f ((((↑m : Int) - a8).toNat) + 1) a8
theorem L79ba.nx (m : Nat) (f : Nat → Int) {k_ : Nat} {z_ : Int} {h_ : AHeap} (s_ : Int) (h1 : L79ba.inv m f s_) (h2 : L79ba.mu m f s_ < L79ba.mu m f z_) (h3 : L79ba.N m f k_ s_ = L79ba.N m f (k_ + 1) z_) (h4 : PopOk (L79ba.H m f z_) h_ (L79ba.T m f s_) (L79ba.H m f s_)) : LNextP (L79ba.T m f) (L79ba.H m f) (L79ba.inv m f) (L79ba.mu m f) (L79ba.N m f) k_ z_ (L79ba.T m f s_) h_ := LNextP.mk s_ h1 h2 h3 h4
theorem L79ba.en (m : Nat) (f : Nat → Int) {k_ : Nat} {z_ : Int} {h_ : AHeap} (o_ : L79ba.O) (h3 : L79ba.N m f (k_ + 1) z_ = o_) (h4 : PopOk (L79ba.H m f z_) h_ (L79ba.X m f o_) (L79ba.XH m f o_)) : LEndP (L79ba.H m f) (L79ba.N m f) L79ba.E (L79ba.X m f) (L79ba.XH m f) k_ z_ (L79ba.E o_) (L79ba.X m f o_) h_ := LEndP.mk o_ h3 h4
theorem L79ba.spec (m : Nat) (f : Nat → Int) (hm : m ≤ 9223372036854775807) (k_ : Nat) (z_ : Int) (hi_ : L79ba.inv m f z_) (hm_ : L79ba.mu m f z_ < k_) : LoopTo Try.prog (loopN Try.f79 0) (L79ba.T m f z_) (L79ba.H m f z_) (L79ba.E (L79ba.N m f k_ z_)) (L79ba.X m f (L79ba.N m f k_ z_)) (L79ba.XH m f (L79ba.N m f k_ z_)) := by
 refine LoopTo.fuelP mix (L79ba.T m f) (L79ba.H m f) (L79ba.inv m f) (L79ba.mu m f) (L79ba.N m f) L79ba.E (L79ba.X m f) (L79ba.XH m f) (others 19 [0, 1, 7, 8]) (others 19 [4]) (others 19 []) ?_ k_ z_ hi_ hm_
 clear hm_ hi_ z_ k_
 intro k_ z_ hinv hmu
 revert hinv hmu; revert z_; intro a8 hinv hmu
 have hinv : 0 ≤ a8 ∧ (a8 ≤ (↑m : Int) ∨ a8 ≤ 0) := hinv
 have hmu : (((↑m : Int) - a8).toNat) < k_ + 1 := hmu
 cases h1 : decide (a8 < (↑m : Int)) with
 | true =>
  have h1p := of_decide_eq_true h1
  have o0 : (0 : Int) ≤ a8 := by omega
  have o1 : a8 < (↑m : Int) := by assumption
  cases h2 : r64.v (f a8.toNat) with
  | true =>
   exact ⟨[.b true, .ret (AV.bool (r64.v (f a8.toNat))) ([]), .b true], kmp (by kernel_rfl) (Ai h1 (Ai (Ai o0 o1) (Ai (r64 (f a8.toNat) ([])) (Ai h2 (L79ba.en m f (k_ := k_) (z_ := a8) (.e0 (a8) : L79ba.O) (by simp only [L79ba.N, h1, h2, cond_true, cond_false]) PopOk.same)))))⟩
  | false =>
   try have := IntWalk.i64_in (a8 + 1) (by omega)
   have o2 : (0 : Int) ≤ IntKind.i64.wrap (a8 + (1 : Int)) := by omega
   have o3 : IntKind.i64.wrap (a8 + (1 : Int)) ≤ (↑m : Int) ∨ IntKind.i64.wrap (a8 + (1 : Int)) ≤ (0 : Int) := by omega
   have o4 : ((↑m : Int) - IntKind.i64.wrap (a8 + (1 : Int))).toNat < ((↑m : Int) - a8).toNat := by omega
   exact ⟨[.b true, .ret (AV.bool (r64.v (f a8.toNat))) ([]), .b false], kmp (by kernel_rfl) (Ai h1 (Ai (Ai o0 o1) (Ai (r64 (f a8.toNat) ([])) (Ai h2 (L79ba.nx m f (k_ := k_) (z_ := a8) (IntKind.i64.wrap (a8 + 1)) (Ai o2 o3) o4 (by simp only [L79ba.N, h1, h2, cond_true, cond_false]) PopOk.same)))))⟩
 | false =>
  have h1p := of_decide_eq_false h1
  exact ⟨[.b false], kmp (by kernel_rfl) (Ai h1 (L79ba.en m f (k_ := k_) (z_ := a8) (.e1 : L79ba.O) (by simp only [L79ba.N, h1, cond_true, cond_false]) PopOk.same))⟩
theorem L79ba.e0 (m : Nat) (f : Nat → Int) (hm : m ≤ 9223372036854775807) (a8 : Int) (hinv : L79ba.inv m f a8) (a0 : Int) (hN : L79ba.run m f a8 = (.e0 a0 : L79ba.O)) : LoopTo Try.prog (loopN Try.f79 0) (L79ba.T m f a8) (L79ba.H m f a8) (Exit.ret) (L79ba.X m f (.e0 a0 : L79ba.O)) (L79ba.XH m f (.e0 a0 : L79ba.O)) := by
 have h_ := L79ba.spec m f hm ((((↑m : Int) - a8).toNat) + 1) a8 hinv (Nat.lt_succ_self _)
 unfold L79ba.run at hN
 simp only [hN] at h_
 exact h_
theorem L79ba.e1 (m : Nat) (f : Nat → Int) (hm : m ≤ 9223372036854775807) (a8 : Int) (hinv : L79ba.inv m f a8) (hN : L79ba.run m f a8 = (.e1 : L79ba.O)) : LoopTo Try.prog (loopN Try.f79 0) (L79ba.T m f a8) (L79ba.H m f a8) (Exit.exit 0) (L79ba.X m f (.e1 : L79ba.O)) (L79ba.XH m f (.e1 : L79ba.O)) := by
 have h_ := L79ba.spec m f hm ((((↑m : Int) - a8).toNat) + 1) a8 hinv (Nat.lt_succ_self _)
 unfold L79ba.run at hN
 simp only [hN] at h_
 exact h_
noncomputable def r79b.v (m : Nat) (f : Nat → Int) : Int := (match L79ba.run m f 0 with | .e0 h1d0 => h1d0 | .e1 => -1 )
theorem r79b (m : Nat) (f : Nat → Int) (hm : m ≤ 9223372036854775807) (h : AHeap) : Ret Try.prog 79 ([ivs m f, AV.fn 64 []]) h (iv (r79b.v m f)) h := by
 have o0 : m ≤ (9223372036854775807 : Nat) := by assumption
 have o1 : (0 : Int) ≤ (↑m : Int) ∨ (0 : Int) ≤ (0 : Int) := by omega
 cases h1 : L79ba.run m f 0 with
 | e0 h1d0 =>
  exact Ret.of_run1 mix [(iv (r79b.v m f))] Try.func79 rfl [.loop (others 19 [0, 1, 7, 8]) (Exit.ret) (L79ba.X m f (L79ba.O.e0 h1d0)) (L79ba.XH m f (L79ba.O.e0 h1d0))] (by simp) (by simp) (kmp (by kernel_rfl) (Ai (L79ba.e0 (m) (f) o0 (0) (Ai (show (0 : Int) ≤ (0 : Int) by decide) o1) h1d0 h1) (Ai (show (iv h1d0) = ((iv (r79b.v m f))) by simp only [r79b.v, h1, cond_true, cond_false]) trivial))) h
 | e1 =>
  exact Ret.of_run1 mix [(iv (r79b.v m f))] Try.func79 rfl [.loop (others 19 [0, 1, 7, 8]) (Exit.exit 0) (L79ba.X m f L79ba.O.e1) (L79ba.XH m f L79ba.O.e1)] (by simp) (by simp) (kmp (by kernel_rfl) (Ai (L79ba.e1 (m) (f) o0 (0) (Ai (show (0 : Int) ≤ (0 : Int) by decide) o1) h1) (Ai (show (iv (-1)) = ((iv (r79b.v m f))) by simp only [r79b.v, h1, cond_true, cond_false]) trivial))) h
noncomputable def r62b.v (m : Nat) (f : Nat → Int) : Bool := decide (r79b.v m f ≥ 0)
theorem r62b (m : Nat) (f : Nat → Int) (hm : m ≤ 9223372036854775807) (h : AHeap) : Ret Try.prog 62 ([ivs m f, AV.fn 64 []]) h (AV.bool (r62b.v m f)) h := by
 have o0 : m ≤ (9223372036854775807 : Nat) := by assumption
 exact Ret.of_run1 mix [(AV.bool (r62b.v m f))] Try.func62 rfl [.ret (iv (r79b.v m f)) ([])] (by simp) (by simp) (kmp (by kernel_rfl) (Ai (r79b (m) (f) o0 ([])) (Ai (show (AV.bool (decide (r79b.v m f ≥ 0))) = ((AV.bool (r62b.v m f))) by simp only [r62b.v, cond_true, cond_false]) trivial))) h
end Go.Proofs.Ytjdbmmilcihpoaa
open Go
namespace Go.Proofs.Ytjdbmmilcihpoaa
open Go.ChangeShapes Go.WideShapes Go.ChangeAt Go.RowKit
set_option maxRecDepth 100000
theorem own : ownKnob Try.prog.godebug = none := by kernel_rfl
theorem laidOut : laidOutB Try.prog = true := by kernel_rfl
end Go.Proofs.Ytjdbmmilcihpoaa
open Go
namespace Go.Proofs.Ytjdbmmilcihpoaa
set_option linter.unusedSimpArgs false
set_option linter.unusedVariables false
set_option maxHeartbeats 0
set_option maxRecDepth 100000
inductive L32a.O where
 | e0
 | e1
noncomputable def L32a.T (L : Int) (j : Int) (l : Int) (n : Nat) (f : Nat → Int) (m : Nat) (g : Nat → Int) (a11 : Int) : List AV := mkT 63 [(3, AV.sl 1 n fun (i : Nat) => iv (f i)), (11, iv a11)]
noncomputable def L32a.H (L : Int) (j : Int) (l : Int) (n : Nat) (f : Nat → Int) (m : Nat) (g : Nat → Int) (a11 : Int) : AHeap := []
def L32a.inv (L : Int) (j : Int) (l : Int) (n : Nat) (f : Nat → Int) (m : Nat) (g : Nat → Int) (a11 : Int) : Prop := 1 ≤ a11 ∧ (a11 ≤ (↑n : Int) ∨ a11 ≤ 1)
noncomputable def L32a.mu (L : Int) (j : Int) (l : Int) (n : Nat) (f : Nat → Int) (m : Nat) (g : Nat → Int) (a11 : Int) : Nat := ((↑n : Int) - a11).toNat
noncomputable def L32a.E : L32a.O → Exit
 | .e0 => Exit.ret
 | .e1 => Exit.exit 1
noncomputable def L32a.X (L : Int) (j : Int) (l : Int) (n : Nat) (f : Nat → Int) (m : Nat) (g : Nat → Int) : L32a.O → List AV
 | .e0 => mkT 63 [(10, (iv 1))]
 | .e1 => mkT 63 []
noncomputable def L32a.XH (L : Int) (j : Int) (l : Int) (n : Nat) (f : Nat → Int) (m : Nat) (g : Nat → Int) : L32a.O → AHeap
 | .e0 => ([])
 | .e1 => ([])
noncomputable def L32a.N (n : Nat) (f : Nat → Int) : Nat → Int → L32a.O
 | 0, _ => .e0
 | k_ + 1, a11 => (bif decide (a11 < (↑n : Int)) then (bif decide (f (IntKind.i64.wrap (a11 - 1)).toNat ≥ f a11.toNat) then (.e0) else (L32a.N n f k_ (IntKind.i64.wrap (a11 + 1)))) else (.e1))
noncomputable def L32a.run (n : Nat) (f : Nat → Int) (a11 : Int) : L32a.O := L32a.N n f ((((↑n : Int) - a11).toNat) + 1) a11
theorem L32a.nx (L : Int) (j : Int) (l : Int) (n : Nat) (f : Nat → Int) (m : Nat) (g : Nat → Int) {k_ : Nat} {z_ : Int} {h_ : AHeap} (s_ : Int) (h1 : L32a.inv L j l n f m g s_) (h2 : L32a.mu L j l n f m g s_ < L32a.mu L j l n f m g z_) (h3 : L32a.N n f k_ s_ = L32a.N n f (k_ + 1) z_) (h4 : PopOk (L32a.H L j l n f m g z_) h_ (L32a.T L j l n f m g s_) (L32a.H L j l n f m g s_)) : LNextP (L32a.T L j l n f m g) (L32a.H L j l n f m g) (L32a.inv L j l n f m g) (L32a.mu L j l n f m g) (L32a.N n f) k_ z_ (L32a.T L j l n f m g s_) h_ := LNextP.mk s_ h1 h2 h3 h4
theorem L32a.en (L : Int) (j : Int) (l : Int) (n : Nat) (f : Nat → Int) (m : Nat) (g : Nat → Int) {k_ : Nat} {z_ : Int} {h_ : AHeap} (o_ : L32a.O) (h3 : L32a.N n f (k_ + 1) z_ = o_) (h4 : PopOk (L32a.H L j l n f m g z_) h_ (L32a.X L j l n f m g o_) (L32a.XH L j l n f m g o_)) : LEndP (L32a.H L j l n f m g) (L32a.N n f) L32a.E (L32a.X L j l n f m g) (L32a.XH L j l n f m g) k_ z_ (L32a.E o_) (L32a.X L j l n f m g o_) h_ := LEndP.mk o_ h3 h4
theorem L32a.spec (L : Int) (j : Int) (l : Int) (n : Nat) (f : Nat → Int) (hn : n ≤ 9223372036854775807) (m : Nat) (g : Nat → Int) (hm : m ≤ 9223372036854775807) (k0_1 : decide ((↑n : Int) > 16) = false) (p0_1 : ¬(↑n : Int) > 16) (k0_2 : decide ((↑m : Int) > 200) = false) (p0_2 : ¬(↑m : Int) > 200) (k0_3 : r51.v L 1 20000 = true) (k0_4 : r51.v j 0 1000 = true) (k0_5 : r51.v l 0 20000 = true) (k0_6 : r62a.v n f = false) (k0_7 : r62b.v m g = false) (k0_8 : ((↑n : Int) == 0) = false) (p0_8 : (↑n : Int) ≠ 0) (k_ : Nat) (z_ : Int) (hi_ : L32a.inv L j l n f m g z_) (hm_ : L32a.mu L j l n f m g z_ < k_) : LoopTo Try.prog (loopN Try.f32 0) (L32a.T L j l n f m g z_) (L32a.H L j l n f m g z_) (L32a.E (L32a.N n f k_ z_)) (L32a.X L j l n f m g (L32a.N n f k_ z_)) (L32a.XH L j l n f m g (L32a.N n f k_ z_)) := by
 refine LoopTo.fuelP mix (L32a.T L j l n f m g) (L32a.H L j l n f m g) (L32a.inv L j l n f m g) (L32a.mu L j l n f m g) (L32a.N n f) L32a.E (L32a.X L j l n f m g) (L32a.XH L j l n f m g) (others 63 [3, 11]) (others 63 [10]) (others 63 []) ?_ k_ z_ hi_ hm_
 clear hm_ hi_ z_ k_
 intro k_ z_ hinv hmu
 revert hinv hmu; revert z_; intro a11 hinv hmu
 have hinv : 1 ≤ a11 ∧ (a11 ≤ (↑n : Int) ∨ a11 ≤ 1) := hinv
 have hmu : (((↑n : Int) - a11).toNat) < k_ + 1 := hmu
 cases h1 : decide (a11 < (↑n : Int)) with
 | true =>
  have h1p := of_decide_eq_true h1
  try have := IntWalk.i64_in (a11 - 1) (by omega)
  have o0 : (0 : Int) ≤ IntKind.i64.wrap (a11 - (1 : Int)) := by omega
  have o1 : IntKind.i64.wrap (a11 - (1 : Int)) < (↑n : Int) := by omega
  have o2 : (0 : Int) ≤ a11 := by omega
  have o3 : a11 < (↑n : Int) := by assumption
  cases h2 : decide (f (IntKind.i64.wrap (a11 - 1)).toNat ≥ f a11.toNat) with
  | true =>
   have h2p := of_decide_eq_true h2
   exact ⟨[.b true, .b true], kmp (by kernel_rfl) (Ai h1 (Ai (Ai o0 o1) (Ai (Ai o2 o3) (Ai h2 (L32a.en L j l n f m g (k_ := k_) (z_ := a11) (.e0 : L32a.O) (by simp only [L32a.N, h1, h2, cond_true, cond_false]) PopOk.same)))))⟩
  | false =>
   have h2p := of_decide_eq_false h2
   try have := IntWalk.i64_in (a11 + 1) (by omega)
   have o4 : (1 : Int) ≤ IntKind.i64.wrap (a11 + (1 : Int)) := by omega
   have o5 : IntKind.i64.wrap (a11 + (1 : Int)) ≤ (↑n : Int) ∨ IntKind.i64.wrap (a11 + (1 : Int)) ≤ (1 : Int) := by omega
   have o6 : ((↑n : Int) - IntKind.i64.wrap (a11 + (1 : Int))).toNat < ((↑n : Int) - a11).toNat := by omega
   exact ⟨[.b true, .b false], kmp (by kernel_rfl) (Ai h1 (Ai (Ai o0 o1) (Ai (Ai o2 o3) (Ai h2 (L32a.nx L j l n f m g (k_ := k_) (z_ := a11) (IntKind.i64.wrap (a11 + 1)) (Ai o4 o5) o6 (by simp only [L32a.N, h1, h2, cond_true, cond_false]) PopOk.same)))))⟩
 | false =>
  have h1p := of_decide_eq_false h1
  exact ⟨[.b false], kmp (by kernel_rfl) (Ai h1 (L32a.en L j l n f m g (k_ := k_) (z_ := a11) (.e1 : L32a.O) (by simp only [L32a.N, h1, cond_true, cond_false]) PopOk.same))⟩
theorem L32a.e0 (L : Int) (j : Int) (l : Int) (n : Nat) (f : Nat → Int) (hn : n ≤ 9223372036854775807) (m : Nat) (g : Nat → Int) (hm : m ≤ 9223372036854775807) (k0_1 : decide ((↑n : Int) > 16) = false) (p0_1 : ¬(↑n : Int) > 16) (k0_2 : decide ((↑m : Int) > 200) = false) (p0_2 : ¬(↑m : Int) > 200) (k0_3 : r51.v L 1 20000 = true) (k0_4 : r51.v j 0 1000 = true) (k0_5 : r51.v l 0 20000 = true) (k0_6 : r62a.v n f = false) (k0_7 : r62b.v m g = false) (k0_8 : ((↑n : Int) == 0) = false) (p0_8 : (↑n : Int) ≠ 0) (a11 : Int) (hinv : L32a.inv L j l n f m g a11) (hN : L32a.run n f a11 = (.e0 : L32a.O)) : LoopTo Try.prog (loopN Try.f32 0) (L32a.T L j l n f m g a11) (L32a.H L j l n f m g a11) (Exit.ret) (L32a.X L j l n f m g (.e0 : L32a.O)) (L32a.XH L j l n f m g (.e0 : L32a.O)) := by
 have h_ := L32a.spec L j l n f hn m g hm k0_1 p0_1 k0_2 p0_2 k0_3 k0_4 k0_5 k0_6 k0_7 k0_8 p0_8 ((((↑n : Int) - a11).toNat) + 1) a11 hinv (Nat.lt_succ_self _)
 unfold L32a.run at hN
 simp only [hN] at h_
 exact h_
theorem L32a.e1 (L : Int) (j : Int) (l : Int) (n : Nat) (f : Nat → Int) (hn : n ≤ 9223372036854775807) (m : Nat) (g : Nat → Int) (hm : m ≤ 9223372036854775807) (k0_1 : decide ((↑n : Int) > 16) = false) (p0_1 : ¬(↑n : Int) > 16) (k0_2 : decide ((↑m : Int) > 200) = false) (p0_2 : ¬(↑m : Int) > 200) (k0_3 : r51.v L 1 20000 = true) (k0_4 : r51.v j 0 1000 = true) (k0_5 : r51.v l 0 20000 = true) (k0_6 : r62a.v n f = false) (k0_7 : r62b.v m g = false) (k0_8 : ((↑n : Int) == 0) = false) (p0_8 : (↑n : Int) ≠ 0) (a11 : Int) (hinv : L32a.inv L j l n f m g a11) (hN : L32a.run n f a11 = (.e1 : L32a.O)) : LoopTo Try.prog (loopN Try.f32 0) (L32a.T L j l n f m g a11) (L32a.H L j l n f m g a11) (Exit.exit 1) (L32a.X L j l n f m g (.e1 : L32a.O)) (L32a.XH L j l n f m g (.e1 : L32a.O)) := by
 have h_ := L32a.spec L j l n f hn m g hm k0_1 p0_1 k0_2 p0_2 k0_3 k0_4 k0_5 k0_6 k0_7 k0_8 p0_8 ((((↑n : Int) - a11).toNat) + 1) a11 hinv (Nat.lt_succ_self _)
 unfold L32a.run at hN
 simp only [hN] at h_
 exact h_
noncomputable def r32.v (L : Int) (j : Int) (l : Int) (n : Nat) (f : Nat → Int) (m : Nat) (g : Nat → Int) : Int := (bif decide ((↑n : Int) > 16) then 7 else (bif decide ((↑m : Int) > 200) then 7 else (bif r51.v L 1 20000 then (bif r51.v j 0 1000 then (bif r51.v l 0 20000 then (bif r62a.v n f then 6 else (bif r62b.v m g then 6 else (bif (↑n : Int) == 0 then 1 else (match L32a.run n f 1 with | .e0 => 1 | .e1 => 0 )))) else 6) else 6) else 6)))
theorem r32 (L : Int) (j : Int) (l : Int) (n : Nat) (f : Nat → Int) (hn : n ≤ 9223372036854775807) (m : Nat) (g : Nat → Int) (hm : m ≤ 9223372036854775807) (h : AHeap) : Ret Try.prog 32 ([iv L, iv j, iv l, ivs n f, ivs m g]) h (iv (r32.v L j l n f m g)) h := by
 cases h1 : decide ((↑n : Int) > 16) with
 | true =>
  have h1p := of_decide_eq_true h1
  exact Ret.of_run1 mix [(iv (r32.v L j l n f m g))] Try.func32 rfl [.b true, .b true, .b true, .b true, .b true] (by simp) (by simp) (kmp (by kernel_rfl) (Ai h1 (Ai h1 (Ai h1 (Ai h1 (Ai (rfl : true = true) (Ai (show (iv 7) = ((iv (r32.v L j l n f m g))) by simp only [r32.v, h1, cond_true, cond_false]) trivial))))))) h
 | false =>
  have h1p := of_decide_eq_false h1
  cases h2 : decide ((↑m : Int) > 200) with
  | true =>
   have h2p := of_decide_eq_true h2
   exact Ret.of_run1 mix [(iv (r32.v L j l n f m g))] Try.func32 rfl [.b false, .b false, .b false, .b false, .b true] (by simp) (by simp) (kmp (by kernel_rfl) (Ai h1 (Ai h1 (Ai h1 (Ai h1 (Ai h2 (Ai (show (iv 7) = ((iv (r32.v L j l n f m g))) by simp only [r32.v, h1, h2, cond_true, cond_false]) trivial))))))) h
  | false =>
   have h2p := of_decide_eq_false h2
   cases h3 : r51.v L 1 20000 with
   | true =>
    cases h4 : r51.v j 0 1000 with
    | true =>
     cases h5 : r51.v l 0 20000 with
     | true =>
      have o0 : n ≤ (9223372036854775807 : Nat) := by assumption
      cases h6 : r62a.v n f with
      | true =>
       exact Ret.of_run1 mix [(iv (r32.v L j l n f m g))] Try.func32 rfl [.b false, .b false, .b false, .b false, .b false, .ret (AV.bool (r51.v L 1 20000)) ([]), .b false, .b false, .ret (AV.bool (r51.v j 0 1000)) ([]), .b false, .b false, .b false, .b false, .ret (AV.bool (r51.v l 0 20000)) ([]), .b false, .b false, .b false, .b false, .ret (AV.bool (r62a.v n f)) ([]), .b false, .b true, .b true, .b true, .b true] (by simp) (by simp) (kmp (by kernel_rfl) (Ai h1 (Ai h1 (Ai h1 (Ai h1 (Ai h2 (Ai (r51 (L) (1) (20000) ([])) (Ai (show (bnot (r51.v L 1 20000)) = false by rw [h3]; try rfl) (Ai (show (bnot (r51.v L 1 20000)) = false by rw [h3]; try rfl) (Ai (r51 (j) (0) (1000) ([])) (Ai (show (bnot (r51.v L 1 20000)) = false by rw [h3]; try rfl) (Ai (show (bnot (r51.v L 1 20000)) = false by rw [h3]; try rfl) (Ai (show (bnot (r51.v j 0 1000)) = false by rw [h4]; try rfl) (Ai (show (bnot (r51.v j 0 1000)) = false by rw [h4]; try rfl) (Ai (r51 (l) (0) (20000) ([])) (Ai (show (bnot (r51.v j 0 1000)) = false by rw [h4]; try rfl) (Ai (show (bnot (r51.v j 0 1000)) = false by rw [h4]; try rfl) (Ai (show (bnot (r51.v l 0 20000)) = false by rw [h5]; try rfl) (Ai (show (bnot (r51.v l 0 20000)) = false by rw [h5]; try rfl) (Ai (r62a (n) (f) o0 ([])) (Ai (show (bnot (r51.v l 0 20000)) = false by rw [h5]; try rfl) (Ai h6 (Ai h6 (Ai h6 (Ai (rfl : true = true) (Ai (show (iv 6) = ((iv (r32.v L j l n f m g))) by simp only [r32.v, h1, h2, h3, h4, h5, h6, cond_true, cond_false]) trivial)))))))))))))))))))))))))) h
      | false =>
       have o1 : m ≤ (9223372036854775807 : Nat) := by assumption
       cases h7 : r62b.v m g with
       | true =>
        exact Ret.of_run1 mix [(iv (r32.v L j l n f m g))] Try.func32 rfl [.b false, .b false, .b false, .b false, .b false, .ret (AV.bool (r51.v L 1 20000)) ([]), .b false, .b false, .ret (AV.bool (r51.v j 0 1000)) ([]), .b false, .b false, .b false, .b false, .ret (AV.bool (r51.v l 0 20000)) ([]), .b false, .b false, .b false, .b false, .ret (AV.bool (r62a.v n f)) ([]), .b false, .b false, .b false, .ret (AV.bool (r62b.v m g)) ([]), .b false, .b true] (by simp) (by simp) (kmp (by kernel_rfl) (Ai h1 (Ai h1 (Ai h1 (Ai h1 (Ai h2 (Ai (r51 (L) (1) (20000) ([])) (Ai (show (bnot (r51.v L 1 20000)) = false by rw [h3]; try rfl) (Ai (show (bnot (r51.v L 1 20000)) = false by rw [h3]; try rfl) (Ai (r51 (j) (0) (1000) ([])) (Ai (show (bnot (r51.v L 1 20000)) = false by rw [h3]; try rfl) (Ai (show (bnot (r51.v L 1 20000)) = false by rw [h3]; try rfl) (Ai (show (bnot (r51.v j 0 1000)) = false by rw [h4]; try rfl) (Ai (show (bnot (r51.v j 0 1000)) = false by rw [h4]; try rfl) (Ai (r51 (l) (0) (20000) ([])) (Ai (show (bnot (r51.v j 0 1000)) = false by rw [h4]; try rfl) (Ai (show (bnot (r51.v j 0 1000)) = false by rw [h4]; try rfl) (Ai (show (bnot (r51.v l 0 20000)) = false by rw [h5]; try rfl) (Ai (show (bnot (r51.v l 0 20000)) = false by rw [h5]; try rfl) (Ai (r62a (n) (f) o0 ([])) (Ai (show (bnot (r51.v l 0 20000)) = false by rw [h5]; try rfl) (Ai h6 (Ai h6 (Ai (r62b (m) (g) o1 ([])) (Ai h6 (Ai h7 (Ai (show (iv 6) = ((iv (r32.v L j l n f m g))) by simp only [r32.v, h1, h2, h3, h4, h5, h6, h7, cond_true, cond_false]) trivial))))))))))))))))))))))))))) h
       | false =>
        cases h8 : (↑n : Int) == 0 with
        | true =>
         have h8p := eq_of_beq h8
         exact Ret.of_run1 mix [(iv (r32.v L j l n f m g))] Try.func32 rfl [.b false, .b false, .b false, .b false, .b false, .ret (AV.bool (r51.v L 1 20000)) ([]), .b false, .b false, .ret (AV.bool (r51.v j 0 1000)) ([]), .b false, .b false, .b false, .b false, .ret (AV.bool (r51.v l 0 20000)) ([]), .b false, .b false, .b false, .b false, .ret (AV.bool (r62a.v n f)) ([]), .b false, .b false, .b false, .ret (AV.bool (r62b.v m g)) ([]), .b false, .b false, .b true] (by simp) (by simp) (kmp (by kernel_rfl) (Ai h1 (Ai h1 (Ai h1 (Ai h1 (Ai h2 (Ai (r51 (L) (1) (20000) ([])) (Ai (show (bnot (r51.v L 1 20000)) = false by rw [h3]; try rfl) (Ai (show (bnot (r51.v L 1 20000)) = false by rw [h3]; try rfl) (Ai (r51 (j) (0) (1000) ([])) (Ai (show (bnot (r51.v L 1 20000)) = false by rw [h3]; try rfl) (Ai (show (bnot (r51.v L 1 20000)) = false by rw [h3]; try rfl) (Ai (show (bnot (r51.v j 0 1000)) = false by rw [h4]; try rfl) (Ai (show (bnot (r51.v j 0 1000)) = false by rw [h4]; try rfl) (Ai (r51 (l) (0) (20000) ([])) (Ai (show (bnot (r51.v j 0 1000)) = false by rw [h4]; try rfl) (Ai (show (bnot (r51.v j 0 1000)) = false by rw [h4]; try rfl) (Ai (show (bnot (r51.v l 0 20000)) = false by rw [h5]; try rfl) (Ai (show (bnot (r51.v l 0 20000)) = false by rw [h5]; try rfl) (Ai (r62a (n) (f) o0 ([])) (Ai (show (bnot (r51.v l 0 20000)) = false by rw [h5]; try rfl) (Ai h6 (Ai h6 (Ai (r62b (m) (g) o1 ([])) (Ai h6 (Ai h7 (Ai h8 (Ai (show (iv 1) = ((iv (r32.v L j l n f m g))) by simp only [r32.v, h1, h2, h3, h4, h5, h6, h7, h8, cond_true, cond_false]) trivial)))))))))))))))))))))))))))) h
        | false =>
         have h8p := ne_of_beq_false h8
         have o2 : decide ((↑n : Int) > (16 : Int)) = false := by assumption
         have o3 : ¬(↑n : Int) > (16 : Int) := by assumption
         have o4 : decide ((↑m : Int) > (200 : Int)) = false := by assumption
         have o5 : ¬(↑m : Int) > (200 : Int) := by assumption
         have o6 : r51.v L (1 : Int) (20000 : Int) = true := by assumption
         have o7 : r51.v j (0 : Int) (1000 : Int) = true := by assumption
         have o8 : r51.v l (0 : Int) (20000 : Int) = true := by assumption
         have o9 : r62a.v n f = false := by assumption
         have o10 : r62b.v m g = false := by assumption
         have o11 : ((↑n : Int) == (0 : Int)) = false := by assumption
         have o12 : (↑n : Int) ≠ (0 : Int) := by assumption
         have o13 : (1 : Int) ≤ (↑n : Int) ∨ (1 : Int) ≤ (1 : Int) := by omega
         cases h9 : L32a.run n f 1 with
         | e0 =>
          exact Ret.of_run1 mix [(iv (r32.v L j l n f m g))] Try.func32 rfl [.b false, .b false, .b false, .b false, .b false, .ret (AV.bool (r51.v L 1 20000)) ([]), .b false, .b false, .ret (AV.bool (r51.v j 0 1000)) ([]), .b false, .b false, .b false, .b false, .ret (AV.bool (r51.v l 0 20000)) ([]), .b false, .b false, .b false, .b false, .ret (AV.bool (r62a.v n f)) ([]), .b false, .b false, .b false, .ret (AV.bool (r62b.v m g)) ([]), .b false, .b false, .b false, .loop (others 63 [3, 11]) (Exit.ret) (L32a.X L j l n f m g L32a.O.e0) (L32a.XH L j l n f m g L32a.O.e0)] (by simp) (by simp) (kmp (by kernel_rfl) (Ai h1 (Ai h1 (Ai h1 (Ai h1 (Ai h2 (Ai (r51 (L) (1) (20000) ([])) (Ai (show (bnot (r51.v L 1 20000)) = false by rw [h3]; try rfl) (Ai (show (bnot (r51.v L 1 20000)) = false by rw [h3]; try rfl) (Ai (r51 (j) (0) (1000) ([])) (Ai (show (bnot (r51.v L 1 20000)) = false by rw [h3]; try rfl) (Ai (show (bnot (r51.v L 1 20000)) = false by rw [h3]; try rfl) (Ai (show (bnot (r51.v j 0 1000)) = false by rw [h4]; try rfl) (Ai (show (bnot (r51.v j 0 1000)) = false by rw [h4]; try rfl) (Ai (r51 (l) (0) (20000) ([])) (Ai (show (bnot (r51.v j 0 1000)) = false by rw [h4]; try rfl) (Ai (show (bnot (r51.v j 0 1000)) = false by rw [h4]; try rfl) (Ai (show (bnot (r51.v l 0 20000)) = false by rw [h5]; try rfl) (Ai (show (bnot (r51.v l 0 20000)) = false by rw [h5]; try rfl) (Ai (r62a (n) (f) o0 ([])) (Ai (show (bnot (r51.v l 0 20000)) = false by rw [h5]; try rfl) (Ai h6 (Ai h6 (Ai (r62b (m) (g) o1 ([])) (Ai h6 (Ai h7 (Ai h8 (Ai (L32a.e0 (L) (j) (l) (n) (f) o0 (m) (g) o1 o2 o3 o4 o5 o6 o7 o8 o9 o10 o11 o12 (1) (Ai (show (1 : Int) ≤ (1 : Int) by decide) o13) h9) (Ai (show (iv 1) = ((iv (r32.v L j l n f m g))) by simp only [r32.v, h1, h2, h3, h4, h5, h6, h7, h8, h9, cond_true, cond_false]) trivial))))))))))))))))))))))))))))) h
         | e1 =>
          exact Ret.of_run1 mix [(iv (r32.v L j l n f m g))] Try.func32 rfl [.b false, .b false, .b false, .b false, .b false, .ret (AV.bool (r51.v L 1 20000)) ([]), .b false, .b false, .ret (AV.bool (r51.v j 0 1000)) ([]), .b false, .b false, .b false, .b false, .ret (AV.bool (r51.v l 0 20000)) ([]), .b false, .b false, .b false, .b false, .ret (AV.bool (r62a.v n f)) ([]), .b false, .b false, .b false, .ret (AV.bool (r62b.v m g)) ([]), .b false, .b false, .b false, .loop (others 63 [3, 11]) (Exit.exit 1) (L32a.X L j l n f m g L32a.O.e1) (L32a.XH L j l n f m g L32a.O.e1)] (by simp) (by simp) (kmp (by kernel_rfl) (Ai h1 (Ai h1 (Ai h1 (Ai h1 (Ai h2 (Ai (r51 (L) (1) (20000) ([])) (Ai (show (bnot (r51.v L 1 20000)) = false by rw [h3]; try rfl) (Ai (show (bnot (r51.v L 1 20000)) = false by rw [h3]; try rfl) (Ai (r51 (j) (0) (1000) ([])) (Ai (show (bnot (r51.v L 1 20000)) = false by rw [h3]; try rfl) (Ai (show (bnot (r51.v L 1 20000)) = false by rw [h3]; try rfl) (Ai (show (bnot (r51.v j 0 1000)) = false by rw [h4]; try rfl) (Ai (show (bnot (r51.v j 0 1000)) = false by rw [h4]; try rfl) (Ai (r51 (l) (0) (20000) ([])) (Ai (show (bnot (r51.v j 0 1000)) = false by rw [h4]; try rfl) (Ai (show (bnot (r51.v j 0 1000)) = false by rw [h4]; try rfl) (Ai (show (bnot (r51.v l 0 20000)) = false by rw [h5]; try rfl) (Ai (show (bnot (r51.v l 0 20000)) = false by rw [h5]; try rfl) (Ai (r62a (n) (f) o0 ([])) (Ai (show (bnot (r51.v l 0 20000)) = false by rw [h5]; try rfl) (Ai h6 (Ai h6 (Ai (r62b (m) (g) o1 ([])) (Ai h6 (Ai h7 (Ai h8 (Ai (L32a.e1 (L) (j) (l) (n) (f) o0 (m) (g) o1 o2 o3 o4 o5 o6 o7 o8 o9 o10 o11 o12 (1) (Ai (show (1 : Int) ≤ (1 : Int) by decide) o13) h9) (Ai (show (iv 0) = ((iv (r32.v L j l n f m g))) by simp only [r32.v, h1, h2, h3, h4, h5, h6, h7, h8, h9, cond_true, cond_false]) trivial))))))))))))))))))))))))))))) h
     | false =>
      exact Ret.of_run1 mix [(iv (r32.v L j l n f m g))] Try.func32 rfl [.b false, .b false, .b false, .b false, .b false, .ret (AV.bool (r51.v L 1 20000)) ([]), .b false, .b false, .ret (AV.bool (r51.v j 0 1000)) ([]), .b false, .b false, .b false, .b false, .ret (AV.bool (r51.v l 0 20000)) ([]), .b false, .b false, .b true, .b true, .b true, .b true, .b true, .b true, .b true] (by simp) (by simp) (kmp (by kernel_rfl) (Ai h1 (Ai h1 (Ai h1 (Ai h1 (Ai h2 (Ai (r51 (L) (1) (20000) ([])) (Ai (show (bnot (r51.v L 1 20000)) = false by rw [h3]; try rfl) (Ai (show (bnot (r51.v L 1 20000)) = false by rw [h3]; try rfl) (Ai (r51 (j) (0) (1000) ([])) (Ai (show (bnot (r51.v L 1 20000)) = false by rw [h3]; try rfl) (Ai (show (bnot (r51.v L 1 20000)) = false by rw [h3]; try rfl) (Ai (show (bnot (r51.v j 0 1000)) = false by rw [h4]; try rfl) (Ai (show (bnot (r51.v j 0 1000)) = false by rw [h4]; try rfl) (Ai (r51 (l) (0) (20000) ([])) (Ai (show (bnot (r51.v j 0 1000)) = false by rw [h4]; try rfl) (Ai (show (bnot (r51.v j 0 1000)) = false by rw [h4]; try rfl) (Ai (show (bnot (r51.v l 0 20000)) = true by rw [h5]; try rfl) (Ai (show (bnot (r51.v l 0 20000)) = true by rw [h5]; try rfl) (Ai (show (bnot (r51.v l 0 20000)) = true by rw [h5]; try rfl) (Ai (rfl : true = true) (Ai (rfl : true = true) (Ai (rfl : true = true) (Ai (rfl : true = true) (Ai (show (iv 6) = ((iv (r32.v L j l n f m g))) by simp only [r32.v, h1, h2, h3, h4, h5, cond_true, cond_false]) trivial))))))))))))))))))))))))) h
    | false =>
     exact Ret.of_run1 mix [(iv (r32.v L j l n f m g))] Try.func32 rfl [.b false, .b false, .b false, .b false, .b false, .ret (AV.bool (r51.v L 1 20000)) ([]), .b false, .b false, .ret (AV.bool (r51.v j 0 1000)) ([]), .b false, .b false, .b true, .b true, .b true, .b true, .b true, .b true, .b true, .b true, .b true, .b true, .b true] (by simp) (by simp) (kmp (by kernel_rfl) (Ai h1 (Ai h1 (Ai h1 (Ai h1 (Ai h2 (Ai (r51 (L) (1) (20000) ([])) (Ai (show (bnot (r51.v L 1 20000)) = false by rw [h3]; try rfl) (Ai (show (bnot (r51.v L 1 20000)) = false by rw [h3]; try rfl) (Ai (r51 (j) (0) (1000) ([])) (Ai (show (bnot (r51.v L 1 20000)) = false by rw [h3]; try rfl) (Ai (show (bnot (r51.v L 1 20000)) = false by rw [h3]; try rfl) (Ai (show (bnot (r51.v j 0 1000)) = true by rw [h4]; try rfl) (Ai (show (bnot (r51.v j 0 1000)) = true by rw [h4]; try rfl) (Ai (show (bnot (r51.v j 0 1000)) = true by rw [h4]; try rfl) (Ai (show (bnot (r51.v j 0 1000)) = true by rw [h4]; try rfl) (Ai (rfl : true = true) (Ai (rfl : true = true) (Ai (rfl : true = true) (Ai (rfl : true = true) (Ai (rfl : true = true) (Ai (rfl : true = true) (Ai (rfl : true = true) (Ai (show (iv 6) = ((iv (r32.v L j l n f m g))) by simp only [r32.v, h1, h2, h3, h4, cond_true, cond_false]) trivial)))))))))))))))))))))))) h
   | false =>
    exact Ret.of_run1 mix [(iv (r32.v L j l n f m g))] Try.func32 rfl [.b false, .b false, .b false, .b false, .b false, .ret (AV.bool (r51.v L 1 20000)) ([]), .b true, .b true, .b true, .b true, .b true, .b true, .b true, .b true, .b true, .b true, .b true, .b true, .b true, .b true, .b true] (by simp) (by simp) (kmp (by kernel_rfl) (Ai h1 (Ai h1 (Ai h1 (Ai h1 (Ai h2 (Ai (r51 (L) (1) (20000) ([])) (Ai (show (bnot (r51.v L 1 20000)) = true by rw [h3]; try rfl) (Ai (show (bnot (r51.v L 1 20000)) = true by rw [h3]; try rfl) (Ai (show (bnot (r51.v L 1 20000)) = true by rw [h3]; try rfl) (Ai (show (bnot (r51.v L 1 20000)) = true by rw [h3]; try rfl) (Ai (rfl : true = true) (Ai (rfl : true = true) (Ai (rfl : true = true) (Ai (rfl : true = true) (Ai (rfl : true = true) (Ai (rfl : true = true) (Ai (rfl : true = true) (Ai (rfl : true = true) (Ai (rfl : true = true) (Ai (rfl : true = true) (Ai (rfl : true = true) (Ai (show (iv 6) = ((iv (r32.v L j l n f m g))) by simp only [r32.v, h1, h2, h3, cond_true, cond_false]) trivial))))))))))))))))))))))) h
inductive L17a.O where
 | e0
 | e1
noncomputable def L17a.T (n : Nat) (f : Nat → Int) (m : Nat) (g : Nat → Int) (a5 : Int) : List AV := mkT 26 [(0, AV.sl 1 n fun (i : Nat) => iv (f i)), (1, AV.sl 1 m fun (i : Nat) => iv (g i)), (5, iv a5)]
noncomputable def L17a.H (n : Nat) (f : Nat → Int) (m : Nat) (g : Nat → Int) (a5 : Int) : AHeap := []
def L17a.inv (n : Nat) (f : Nat → Int) (m : Nat) (g : Nat → Int) (a5 : Int) : Prop := 0 ≤ a5 ∧ (a5 ≤ (↑n : Int) ∨ a5 ≤ 0)
noncomputable def L17a.mu (n : Nat) (f : Nat → Int) (m : Nat) (g : Nat → Int) (a5 : Int) : Nat := ((↑n : Int) - a5).toNat
noncomputable def L17a.E : L17a.O → Exit
 | .e0 => Exit.ret
 | .e1 => Exit.exit 0
noncomputable def L17a.X (n : Nat) (f : Nat → Int) (m : Nat) (g : Nat → Int) : L17a.O → List AV
 | .e0 => mkT 26 [(4, (AV.bool false))]
 | .e1 => mkT 26 []
noncomputable def L17a.XH (n : Nat) (f : Nat → Int) (m : Nat) (g : Nat → Int) : L17a.O → AHeap
 | .e0 => ([])
 | .e1 => ([])
noncomputable def L17a.N (n : Nat) (f : Nat → Int) (g : Nat → Int) : Nat → Int → L17a.O
 | 0, _ => .e0
 | k_ + 1, a5 => (bif decide (a5 < (↑n : Int)) then (bif f a5.toNat == g a5.toNat then (L17a.N n f g k_ (IntKind.i64.wrap (a5 + 1))) else (.e0)) else (.e1))
noncomputable def L17a.run (n : Nat) (f : Nat → Int) (g : Nat → Int) (a5 : Int) : L17a.O := L17a.N n f g ((((↑n : Int) - a5).toNat) + 1) a5
theorem L17a.nx (n : Nat) (f : Nat → Int) (m : Nat) (g : Nat → Int) {k_ : Nat} {z_ : Int} {h_ : AHeap} (s_ : Int) (h1 : L17a.inv n f m g s_) (h2 : L17a.mu n f m g s_ < L17a.mu n f m g z_) (h3 : L17a.N n f g k_ s_ = L17a.N n f g (k_ + 1) z_) (h4 : PopOk (L17a.H n f m g z_) h_ (L17a.T n f m g s_) (L17a.H n f m g s_)) : LNextP (L17a.T n f m g) (L17a.H n f m g) (L17a.inv n f m g) (L17a.mu n f m g) (L17a.N n f g) k_ z_ (L17a.T n f m g s_) h_ := LNextP.mk s_ h1 h2 h3 h4
theorem L17a.en (n : Nat) (f : Nat → Int) (m : Nat) (g : Nat → Int) {k_ : Nat} {z_ : Int} {h_ : AHeap} (o_ : L17a.O) (h3 : L17a.N n f g (k_ + 1) z_ = o_) (h4 : PopOk (L17a.H n f m g z_) h_ (L17a.X n f m g o_) (L17a.XH n f m g o_)) : LEndP (L17a.H n f m g) (L17a.N n f g) L17a.E (L17a.X n f m g) (L17a.XH n f m g) k_ z_ (L17a.E o_) (L17a.X n f m g o_) h_ := LEndP.mk o_ h3 h4
theorem L17a.spec (n : Nat) (f : Nat → Int) (hn : n ≤ 9223372036854775807) (m : Nat) (g : Nat → Int) (hm : m ≤ 9223372036854775807) (k0_1 : ((↑n : Int) == (↑m : Int)) = true) (p0_1 : (↑n : Int) = (↑m : Int)) (k_ : Nat) (z_ : Int) (hi_ : L17a.inv n f m g z_) (hm_ : L17a.mu n f m g z_ < k_) : LoopTo Try.prog (loopN Try.f17 0) (L17a.T n f m g z_) (L17a.H n f m g z_) (L17a.E (L17a.N n f g k_ z_)) (L17a.X n f m g (L17a.N n f g k_ z_)) (L17a.XH n f m g (L17a.N n f g k_ z_)) := by
 refine LoopTo.fuelP mix (L17a.T n f m g) (L17a.H n f m g) (L17a.inv n f m g) (L17a.mu n f m g) (L17a.N n f g) L17a.E (L17a.X n f m g) (L17a.XH n f m g) (others 26 [0, 1, 5]) (others 26 [4]) (others 26 []) ?_ k_ z_ hi_ hm_
 clear hm_ hi_ z_ k_
 intro k_ z_ hinv hmu
 revert hinv hmu; revert z_; intro a5 hinv hmu
 have hinv : 0 ≤ a5 ∧ (a5 ≤ (↑n : Int) ∨ a5 ≤ 0) := hinv
 have hmu : (((↑n : Int) - a5).toNat) < k_ + 1 := hmu
 cases h1 : decide (a5 < (↑n : Int)) with
 | true =>
  have h1p := of_decide_eq_true h1
  have o0 : (0 : Int) ≤ a5 := by omega
  have o1 : a5 < (↑n : Int) := by assumption
  have o2 : a5 < (↑m : Int) := by omega
  cases h2 : f a5.toNat == g a5.toNat with
  | true =>
   have h2p := eq_of_beq h2
   try have := IntWalk.i64_in (a5 + 1) (by omega)
   have o3 : (0 : Int) ≤ IntKind.i64.wrap (a5 + (1 : Int)) := by omega
   have o4 : IntKind.i64.wrap (a5 + (1 : Int)) ≤ (↑n : Int) ∨ IntKind.i64.wrap (a5 + (1 : Int)) ≤ (0 : Int) := by omega
   have o5 : ((↑n : Int) - IntKind.i64.wrap (a5 + (1 : Int))).toNat < ((↑n : Int) - a5).toNat := by omega
   exact ⟨[.b true, .b false], kmp (by kernel_rfl) (Ai h1 (Ai (Ai o0 o1) (Ai (Ai o0 o2) (Ai (show (bnot (f a5.toNat == g a5.toNat)) = false by rw [h2]; try rfl) (L17a.nx n f m g (k_ := k_) (z_ := a5) (IntKind.i64.wrap (a5 + 1)) (Ai o3 o4) o5 (by simp only [L17a.N, h1, h2, cond_true, cond_false]) PopOk.same)))))⟩
  | false =>
   have h2p := ne_of_beq_false h2
   exact ⟨[.b true, .b true], kmp (by kernel_rfl) (Ai h1 (Ai (Ai o0 o1) (Ai (Ai o0 o2) (Ai (show (bnot (f a5.toNat == g a5.toNat)) = true by rw [h2]; try rfl) (L17a.en n f m g (k_ := k_) (z_ := a5) (.e0 : L17a.O) (by simp only [L17a.N, h1, h2, cond_true, cond_false]) PopOk.same)))))⟩
 | false =>
  have h1p := of_decide_eq_false h1
  exact ⟨[.b false], kmp (by kernel_rfl) (Ai h1 (L17a.en n f m g (k_ := k_) (z_ := a5) (.e1 : L17a.O) (by simp only [L17a.N, h1, cond_true, cond_false]) PopOk.same))⟩
theorem L17a.e0 (n : Nat) (f : Nat → Int) (hn : n ≤ 9223372036854775807) (m : Nat) (g : Nat → Int) (hm : m ≤ 9223372036854775807) (k0_1 : ((↑n : Int) == (↑m : Int)) = true) (p0_1 : (↑n : Int) = (↑m : Int)) (a5 : Int) (hinv : L17a.inv n f m g a5) (hN : L17a.run n f g a5 = (.e0 : L17a.O)) : LoopTo Try.prog (loopN Try.f17 0) (L17a.T n f m g a5) (L17a.H n f m g a5) (Exit.ret) (L17a.X n f m g (.e0 : L17a.O)) (L17a.XH n f m g (.e0 : L17a.O)) := by
 have h_ := L17a.spec n f hn m g hm k0_1 p0_1 ((((↑n : Int) - a5).toNat) + 1) a5 hinv (Nat.lt_succ_self _)
 unfold L17a.run at hN
 simp only [hN] at h_
 exact h_
theorem L17a.e1 (n : Nat) (f : Nat → Int) (hn : n ≤ 9223372036854775807) (m : Nat) (g : Nat → Int) (hm : m ≤ 9223372036854775807) (k0_1 : ((↑n : Int) == (↑m : Int)) = true) (p0_1 : (↑n : Int) = (↑m : Int)) (a5 : Int) (hinv : L17a.inv n f m g a5) (hN : L17a.run n f g a5 = (.e1 : L17a.O)) : LoopTo Try.prog (loopN Try.f17 0) (L17a.T n f m g a5) (L17a.H n f m g a5) (Exit.exit 0) (L17a.X n f m g (.e1 : L17a.O)) (L17a.XH n f m g (.e1 : L17a.O)) := by
 have h_ := L17a.spec n f hn m g hm k0_1 p0_1 ((((↑n : Int) - a5).toNat) + 1) a5 hinv (Nat.lt_succ_self _)
 unfold L17a.run at hN
 simp only [hN] at h_
 exact h_
noncomputable def r17.v (n : Nat) (f : Nat → Int) (m : Nat) (g : Nat → Int) : Bool := (bif (↑n : Int) == (↑m : Int) then (match L17a.run n f g 0 with | .e0 => false | .e1 => true ) else false)
theorem r17 (n : Nat) (f : Nat → Int) (hn : n ≤ 9223372036854775807) (m : Nat) (g : Nat → Int) (hm : m ≤ 9223372036854775807) (h : AHeap) : Ret Try.prog 17 ([ivs n f, ivs m g]) h (AV.bool (r17.v n f m g)) h := by
 cases h1 : (↑n : Int) == (↑m : Int) with
 | true =>
  have h1p := eq_of_beq h1
  have o0 : n ≤ (9223372036854775807 : Nat) := by assumption
  have o1 : m ≤ (9223372036854775807 : Nat) := by assumption
  have o2 : ((↑n : Int) == (↑m : Int)) = true := by assumption
  have o3 : (↑n : Int) = (↑m : Int) := by assumption
  have o4 : (0 : Int) ≤ (↑n : Int) ∨ (0 : Int) ≤ (0 : Int) := by omega
  cases h2 : L17a.run n f g 0 with
  | e0 =>
   exact Ret.of_run1 mix [(AV.bool (r17.v n f m g))] Try.func17 rfl [.b false, .loop (others 26 [0, 1, 5]) (Exit.ret) (L17a.X n f m g L17a.O.e0) (L17a.XH n f m g L17a.O.e0)] (by simp) (by simp) (kmp (by kernel_rfl) (Ai (show (bnot ((↑n : Int) == (↑m : Int))) = false by rw [h1]; try rfl) (Ai (L17a.e0 (n) (f) o0 (m) (g) o1 o2 o3 (0) (Ai (show (0 : Int) ≤ (0 : Int) by decide) o4) h2) (Ai (show (AV.bool false) = ((AV.bool (r17.v n f m g))) by simp only [r17.v, h1, h2, cond_true, cond_false]) trivial)))) h
  | e1 =>
   exact Ret.of_run1 mix [(AV.bool (r17.v n f m g))] Try.func17 rfl [.b false, .loop (others 26 [0, 1, 5]) (Exit.exit 0) (L17a.X n f m g L17a.O.e1) (L17a.XH n f m g L17a.O.e1)] (by simp) (by simp) (kmp (by kernel_rfl) (Ai (show (bnot ((↑n : Int) == (↑m : Int))) = false by rw [h1]; try rfl) (Ai (L17a.e1 (n) (f) o0 (m) (g) o1 o2 o3 (0) (Ai (show (0 : Int) ≤ (0 : Int) by decide) o4) h2) (Ai (show (AV.bool true) = ((AV.bool (r17.v n f m g))) by simp only [r17.v, h1, h2, cond_true, cond_false]) trivial)))) h
 | false =>
  have h1p := ne_of_beq_false h1
  exact Ret.of_run1 mix [(AV.bool (r17.v n f m g))] Try.func17 rfl [.b true] (by simp) (by simp) (kmp (by kernel_rfl) (Ai (show (bnot ((↑n : Int) == (↑m : Int))) = true by rw [h1]; try rfl) (Ai (show (AV.bool false) = ((AV.bool (r17.v n f m g))) by simp only [r17.v, h1, cond_true, cond_false]) trivial))) h
inductive L66a.O where
 | e0 (a0 : Int)
 | e1
noncomputable def L66a.T (n : Nat) (f : Nat → Int) (x : Int) (a8 : Int) : List AV := mkT 19 [(0, AV.sl 1 n fun (i : Nat) => iv (f i)), (1, iv x), (7, iv (↑n : Int)), (8, iv a8)]
noncomputable def L66a.H (n : Nat) (f : Nat → Int) (x : Int) (a8 : Int) : AHeap := []
def L66a.inv (n : Nat) (f : Nat → Int) (x : Int) (a8 : Int) : Prop := 0 ≤ a8 ∧ (a8 ≤ (↑n : Int) ∨ a8 ≤ 0)
noncomputable def L66a.mu (n : Nat) (f : Nat → Int) (x : Int) (a8 : Int) : Nat := ((↑n : Int) - a8).toNat
noncomputable def L66a.E : L66a.O → Exit
 | .e0 a0 => Exit.ret
 | .e1 => Exit.exit 0
noncomputable def L66a.X (n : Nat) (f : Nat → Int) (x : Int) : L66a.O → List AV
 | .e0 a0 => mkT 19 [(4, (iv a0))]
 | .e1 => mkT 19 []
noncomputable def L66a.XH (n : Nat) (f : Nat → Int) (x : Int) : L66a.O → AHeap
 | .e0 a0 => ([])
 | .e1 => ([])
noncomputable def L66a.N (n : Nat) (f : Nat → Int) (x : Int) : Nat → Int → L66a.O
 | 0, _ => .e0 default
 | k_ + 1, a8 => (bif decide (a8 < (↑n : Int)) then (bif x == f a8.toNat then (.e0 (a8)) else (L66a.N n f x k_ (IntKind.i64.wrap (a8 + 1)))) else (.e1))
noncomputable def L66a.run (n : Nat) (f : Nat → Int) (x : Int) (a8 : Int) : L66a.O := L66a.N n f x ((((↑n : Int) - a8).toNat) + 1) a8
theorem L66a.nx (n : Nat) (f : Nat → Int) (x : Int) {k_ : Nat} {z_ : Int} {h_ : AHeap} (s_ : Int) (h1 : L66a.inv n f x s_) (h2 : L66a.mu n f x s_ < L66a.mu n f x z_) (h3 : L66a.N n f x k_ s_ = L66a.N n f x (k_ + 1) z_) (h4 : PopOk (L66a.H n f x z_) h_ (L66a.T n f x s_) (L66a.H n f x s_)) : LNextP (L66a.T n f x) (L66a.H n f x) (L66a.inv n f x) (L66a.mu n f x) (L66a.N n f x) k_ z_ (L66a.T n f x s_) h_ := LNextP.mk s_ h1 h2 h3 h4
theorem L66a.en (n : Nat) (f : Nat → Int) (x : Int) {k_ : Nat} {z_ : Int} {h_ : AHeap} (o_ : L66a.O) (h3 : L66a.N n f x (k_ + 1) z_ = o_) (h4 : PopOk (L66a.H n f x z_) h_ (L66a.X n f x o_) (L66a.XH n f x o_)) : LEndP (L66a.H n f x) (L66a.N n f x) L66a.E (L66a.X n f x) (L66a.XH n f x) k_ z_ (L66a.E o_) (L66a.X n f x o_) h_ := LEndP.mk o_ h3 h4
theorem L66a.spec (n : Nat) (f : Nat → Int) (hn : n ≤ 9223372036854775807) (x : Int) (k_ : Nat) (z_ : Int) (hi_ : L66a.inv n f x z_) (hm_ : L66a.mu n f x z_ < k_) : LoopTo Try.prog (loopN Try.f66 0) (L66a.T n f x z_) (L66a.H n f x z_) (L66a.E (L66a.N n f x k_ z_)) (L66a.X n f x (L66a.N n f x k_ z_)) (L66a.XH n f x (L66a.N n f x k_ z_)) := by
 refine LoopTo.fuelP mix (L66a.T n f x) (L66a.H n f x) (L66a.inv n f x) (L66a.mu n f x) (L66a.N n f x) L66a.E (L66a.X n f x) (L66a.XH n f x) (others 19 [0, 1, 7, 8]) (others 19 [4]) (others 19 []) ?_ k_ z_ hi_ hm_
 clear hm_ hi_ z_ k_
 intro k_ z_ hinv hmu
 revert hinv hmu; revert z_; intro a8 hinv hmu
 have hinv : 0 ≤ a8 ∧ (a8 ≤ (↑n : Int) ∨ a8 ≤ 0) := hinv
 have hmu : (((↑n : Int) - a8).toNat) < k_ + 1 := hmu
 cases h1 : decide (a8 < (↑n : Int)) with
 | true =>
  have h1p := of_decide_eq_true h1
  have o0 : (0 : Int) ≤ a8 := by omega
  have o1 : a8 < (↑n : Int) := by assumption
  cases h2 : x == f a8.toNat with
  | true =>
   have h2p := eq_of_beq h2
   exact ⟨[.b true, .b true], kmp (by kernel_rfl) (Ai h1 (Ai (Ai o0 o1) (Ai h2 (L66a.en n f x (k_ := k_) (z_ := a8) (.e0 (a8) : L66a.O) (by simp only [L66a.N, h1, h2, cond_true, cond_false]) PopOk.same))))⟩
  | false =>
   have h2p := ne_of_beq_false h2
   try have := IntWalk.i64_in (a8 + 1) (by omega)
   have o2 : (0 : Int) ≤ IntKind.i64.wrap (a8 + (1 : Int)) := by omega
   have o3 : IntKind.i64.wrap (a8 + (1 : Int)) ≤ (↑n : Int) ∨ IntKind.i64.wrap (a8 + (1 : Int)) ≤ (0 : Int) := by omega
   have o4 : ((↑n : Int) - IntKind.i64.wrap (a8 + (1 : Int))).toNat < ((↑n : Int) - a8).toNat := by omega
   exact ⟨[.b true, .b false], kmp (by kernel_rfl) (Ai h1 (Ai (Ai o0 o1) (Ai h2 (L66a.nx n f x (k_ := k_) (z_ := a8) (IntKind.i64.wrap (a8 + 1)) (Ai o2 o3) o4 (by simp only [L66a.N, h1, h2, cond_true, cond_false]) PopOk.same))))⟩
 | false =>
  have h1p := of_decide_eq_false h1
  exact ⟨[.b false], kmp (by kernel_rfl) (Ai h1 (L66a.en n f x (k_ := k_) (z_ := a8) (.e1 : L66a.O) (by simp only [L66a.N, h1, cond_true, cond_false]) PopOk.same))⟩
theorem L66a.e0 (n : Nat) (f : Nat → Int) (hn : n ≤ 9223372036854775807) (x : Int) (a8 : Int) (hinv : L66a.inv n f x a8) (a0 : Int) (hN : L66a.run n f x a8 = (.e0 a0 : L66a.O)) : LoopTo Try.prog (loopN Try.f66 0) (L66a.T n f x a8) (L66a.H n f x a8) (Exit.ret) (L66a.X n f x (.e0 a0 : L66a.O)) (L66a.XH n f x (.e0 a0 : L66a.O)) := by
 have h_ := L66a.spec n f hn x ((((↑n : Int) - a8).toNat) + 1) a8 hinv (Nat.lt_succ_self _)
 unfold L66a.run at hN
 simp only [hN] at h_
 exact h_
theorem L66a.e1 (n : Nat) (f : Nat → Int) (hn : n ≤ 9223372036854775807) (x : Int) (a8 : Int) (hinv : L66a.inv n f x a8) (hN : L66a.run n f x a8 = (.e1 : L66a.O)) : LoopTo Try.prog (loopN Try.f66 0) (L66a.T n f x a8) (L66a.H n f x a8) (Exit.exit 0) (L66a.X n f x (.e1 : L66a.O)) (L66a.XH n f x (.e1 : L66a.O)) := by
 have h_ := L66a.spec n f hn x ((((↑n : Int) - a8).toNat) + 1) a8 hinv (Nat.lt_succ_self _)
 unfold L66a.run at hN
 simp only [hN] at h_
 exact h_
noncomputable def r66.v (n : Nat) (f : Nat → Int) (x : Int) : Int := (match L66a.run n f x 0 with | .e0 h1d0 => h1d0 | .e1 => -1 )
theorem r66 (n : Nat) (f : Nat → Int) (hn : n ≤ 9223372036854775807) (x : Int) (h : AHeap) : Ret Try.prog 66 ([ivs n f, iv x]) h (iv (r66.v n f x)) h := by
 have o0 : n ≤ (9223372036854775807 : Nat) := by assumption
 have o1 : (0 : Int) ≤ (↑n : Int) ∨ (0 : Int) ≤ (0 : Int) := by omega
 cases h1 : L66a.run n f x 0 with
 | e0 h1d0 =>
  exact Ret.of_run1 mix [(iv (r66.v n f x))] Try.func66 rfl [.loop (others 19 [0, 1, 7, 8]) (Exit.ret) (L66a.X n f x (L66a.O.e0 h1d0)) (L66a.XH n f x (L66a.O.e0 h1d0))] (by simp) (by simp) (kmp (by kernel_rfl) (Ai (L66a.e0 (n) (f) o0 (x) (0) (Ai (show (0 : Int) ≤ (0 : Int) by decide) o1) h1d0 h1) (Ai (show (iv h1d0) = ((iv (r66.v n f x))) by simp only [r66.v, h1, cond_true, cond_false]) trivial))) h
 | e1 =>
  exact Ret.of_run1 mix [(iv (r66.v n f x))] Try.func66 rfl [.loop (others 19 [0, 1, 7, 8]) (Exit.exit 0) (L66a.X n f x L66a.O.e1) (L66a.XH n f x L66a.O.e1)] (by simp) (by simp) (kmp (by kernel_rfl) (Ai (L66a.e1 (n) (f) o0 (x) (0) (Ai (show (0 : Int) ≤ (0 : Int) by decide) o1) h1) (Ai (show (iv (-1)) = ((iv (r66.v n f x))) by simp only [r66.v, h1, cond_true, cond_false]) trivial))) h
noncomputable def r35.v (n : Nat) (f : Nat → Int) (x : Int) : Bool := decide (r66.v n f x ≥ 0)
theorem r35 (n : Nat) (f : Nat → Int) (hn : n ≤ 9223372036854775807) (x : Int) (h : AHeap) : Ret Try.prog 35 ([ivs n f, iv x]) h (AV.bool (r35.v n f x)) h := by
 have o0 : n ≤ (9223372036854775807 : Nat) := by assumption
 exact Ret.of_run1 mix [(AV.bool (r35.v n f x))] Try.func35 rfl [.ret (iv (r66.v n f x)) ([])] (by simp) (by simp) (kmp (by kernel_rfl) (Ai (r66 (n) (f) o0 (x) ([])) (Ai (show (AV.bool (decide (r66.v n f x ≥ 0))) = ((AV.bool (r35.v n f x))) by simp only [r35.v, cond_true, cond_false]) trivial))) h
end Go.Proofs.Ytjdbmmilcihpoaa
open Go
namespace Go.Proofs.Ytjdbmmilcihpoaa
set_option linter.unusedSimpArgs false
set_option linter.unusedVariables false
set_option maxHeartbeats 0
set_option maxRecDepth 100000
inductive L13a.O where
 | e0
 | e1 (a0 : Int)
noncomputable def L13a.T (L : Int) (j : Int) (l : Int) (n : Nat) (f : Nat → Int) (m : Nat) (g : Nat → Int) (k : Nat) (s : Nat → Int) (a13 : Int) (a30 : Int) : List AV := mkT 67 [(0, iv L), (1, iv j), (2, iv l), (3, AV.sl 1 n fun (i : Nat) => iv (f i)), (4, AV.sl 1 m fun (i : Nat) => iv (g i)), (5, AV.sl 1 k fun (i : Nat) => iv (s i)), (13, iv a13), (28, AV.sl 1 k fun (i : Nat) => iv (s i)), (29, iv (↑k : Int)), (30, iv a30)]
noncomputable def L13a.H (L : Int) (j : Int) (l : Int) (n : Nat) (f : Nat → Int) (m : Nat) (g : Nat → Int) (k : Nat) (s : Nat → Int) (a13 : Int) (a30 : Int) : AHeap := []
def L13a.inv (L : Int) (j : Int) (l : Int) (n : Nat) (f : Nat → Int) (m : Nat) (g : Nat → Int) (k : Nat) (s : Nat → Int) (a13 : Int) (a30 : Int) : Prop := 0 ≤ a30 ∧ (a30 ≤ (↑k : Int) ∨ a30 ≤ 0)
noncomputable def L13a.mu (L : Int) (j : Int) (l : Int) (n : Nat) (f : Nat → Int) (m : Nat) (g : Nat → Int) (k : Nat) (s : Nat → Int) (a13 : Int) (a30 : Int) : Nat := ((↑k : Int) - a30).toNat
noncomputable def L13a.E : L13a.O → Exit
 | .e0 => Exit.ret
 | .e1 a0 => Exit.exit 0
noncomputable def L13a.X (L : Int) (j : Int) (l : Int) (n : Nat) (f : Nat → Int) (m : Nat) (g : Nat → Int) (k : Nat) (s : Nat → Int) : L13a.O → List AV
 | .e0 => mkT 67 [(12, (AV.bool false))]
 | .e1 a0 => mkT 67 [(0, (iv L)), (13, (iv a0))]
noncomputable def L13a.XH (L : Int) (j : Int) (l : Int) (n : Nat) (f : Nat → Int) (m : Nat) (g : Nat → Int) (k : Nat) (s : Nat → Int) : L13a.O → AHeap
 | .e0 => ([])
 | .e1 a0 => ([])
noncomputable def L13a.N (L : Int) (j : Int) (l : Int) (n : Nat) (f : Nat → Int) (m : Nat) (g : Nat → Int) (k : Nat) (s : Nat → Int) : Nat → Int → Int → L13a.O
 | 0, _, _ => .e0
 | k_ + 1, a13, a30 => (bif decide (a30 < (↑k : Int)) then (bif r35.v n f (s a30.toNat) then (bif decide (s a30.toNat > IntKind.i64.wrap (L - a13)) then (.e0) else (bif decide (a30 < IntKind.i64.wrap ((↑k : Int) - 1)) then (bif r34.v (IntKind.i64.wrap (a13 + s a30.toNat)) j l m g then (L13a.N L j l n f m g k s k_ (IntKind.i64.wrap (IntKind.i64.wrap (a13 + s a30.toNat) + j)) (IntKind.i64.wrap (a30 + 1))) else (.e0)) else (L13a.N L j l n f m g k s k_ (IntKind.i64.wrap (a13 + s a30.toNat)) (IntKind.i64.wrap (a30 + 1))))) else (.e0)) else (.e1 (a13)))
noncomputable def L13a.run (L : Int) (j : Int) (l : Int) (n : Nat) (f : Nat → Int) (m : Nat) (g : Nat → Int) (k : Nat) (s : Nat → Int) (a13 : Int) (a30 : Int) : L13a.O := L13a.N L j l n f m g k s ((((↑k : Int) - a30).toNat) + 1) a13 a30
theorem L13a.nx (L : Int) (j : Int) (l : Int) (n : Nat) (f : Nat → Int) (m : Nat) (g : Nat → Int) (k : Nat) (s : Nat → Int) {k_ : Nat} {z_ : Int × Int} {h_ : AHeap} (s_ : Int × Int) (h1 : L13a.inv L j l n f m g k s s_.1 s_.2) (h2 : L13a.mu L j l n f m g k s s_.1 s_.2 < L13a.mu L j l n f m g k s z_.1 z_.2) (h3 : L13a.N L j l n f m g k s k_ s_.1 s_.2 = L13a.N L j l n f m g k s (k_ + 1) z_.1 z_.2) (h4 : PopOk (L13a.H L j l n f m g k s z_.1 z_.2) h_ (L13a.T L j l n f m g k s s_.1 s_.2) (L13a.H L j l n f m g k s s_.1 s_.2)) : LNextP (fun (z_ : Int × Int) => L13a.T L j l n f m g k s z_.1 z_.2) (fun (z_ : Int × Int) => L13a.H L j l n f m g k s z_.1 z_.2) (fun (z_ : Int × Int) => L13a.inv L j l n f m g k s z_.1 z_.2) (fun (z_ : Int × Int) => L13a.mu L j l n f m g k s z_.1 z_.2) (fun (k_ : Nat) (z_ : Int × Int) => L13a.N L j l n f m g k s k_ z_.1 z_.2) k_ z_ (L13a.T L j l n f m g k s s_.1 s_.2) h_ := LNextP.mk s_ h1 h2 h3 h4
theorem L13a.en (L : Int) (j : Int) (l : Int) (n : Nat) (f : Nat → Int) (m : Nat) (g : Nat → Int) (k : Nat) (s : Nat → Int) {k_ : Nat} {z_ : Int × Int} {h_ : AHeap} (o_ : L13a.O) (h3 : L13a.N L j l n f m g k s (k_ + 1) z_.1 z_.2 = o_) (h4 : PopOk (L13a.H L j l n f m g k s z_.1 z_.2) h_ (L13a.X L j l n f m g k s o_) (L13a.XH L j l n f m g k s o_)) : LEndP (fun (z_ : Int × Int) => L13a.H L j l n f m g k s z_.1 z_.2) (fun (k_ : Nat) (z_ : Int × Int) => L13a.N L j l n f m g k s k_ z_.1 z_.2) L13a.E (L13a.X L j l n f m g k s) (L13a.XH L j l n f m g k s) k_ z_ (L13a.E o_) (L13a.X L j l n f m g k s o_) h_ := LEndP.mk o_ h3 h4
theorem L13a.spec (L : Int) (j : Int) (l : Int) (n : Nat) (f : Nat → Int) (hn : n ≤ 9223372036854775807) (m : Nat) (g : Nat → Int) (hm : m ≤ 9223372036854775807) (k : Nat) (s : Nat → Int) (hk : k ≤ 9223372036854775807) (k0_1 : (r32.v L j l n f m g == 0) = true) (p0_1 : r32.v L j l n f m g = 0) (k0_2 : ((↑k : Int) == 0) = false) (p0_2 : (↑k : Int) ≠ 0) (k_ : Nat) (z_ : Int × Int) (hi_ : L13a.inv L j l n f m g k s z_.1 z_.2) (hm_ : L13a.mu L j l n f m g k s z_.1 z_.2 < k_) : LoopTo Try.prog (loopN Try.f13 0) (L13a.T L j l n f m g k s z_.1 z_.2) (L13a.H L j l n f m g k s z_.1 z_.2) (L13a.E (L13a.N L j l n f m g k s k_ z_.1 z_.2)) (L13a.X L j l n f m g k s (L13a.N L j l n f m g k s k_ z_.1 z_.2)) (L13a.XH L j l n f m g k s (L13a.N L j l n f m g k s k_ z_.1 z_.2)) := by
 refine LoopTo.fuelP mix (fun (z_ : Int × Int) => L13a.T L j l n f m g k s z_.1 z_.2) (fun (z_ : Int × Int) => L13a.H L j l n f m g k s z_.1 z_.2) (fun (z_ : Int × Int) => L13a.inv L j l n f m g k s z_.1 z_.2) (fun (z_ : Int × Int) => L13a.mu L j l n f m g k s z_.1 z_.2) (fun (k_ : Nat) (z_ : Int × Int) => L13a.N L j l n f m g k s k_ z_.1 z_.2) L13a.E (L13a.X L j l n f m g k s) (L13a.XH L j l n f m g k s) (others 67 [0, 1, 2, 3, 4, 5, 13, 28, 29, 30]) (others 67 [12]) (others 67 [0, 13]) ?_ k_ z_ hi_ hm_
 clear hm_ hi_ z_ k_
 intro k_ z_ hinv hmu
 obtain ⟨a13, a30⟩ := z_
 have hinv : 0 ≤ a30 ∧ (a30 ≤ (↑k : Int) ∨ a30 ≤ 0) := hinv
 have hmu : (((↑k : Int) - a30).toNat) < k_ + 1 := hmu
 cases h1 : decide (a30 < (↑k : Int)) with
 | true =>
  have h1p := of_decide_eq_true h1
  have o0 : (0 : Int) ≤ a30 := by omega
  have o1 : a30 < (↑k : Int) := by assumption
  have o2 : n ≤ (9223372036854775807 : Nat) := by assumption
  cases h2 : r35.v n f (s a30.toNat) with
  | true =>
   cases h3 : decide (s a30.toNat > IntKind.i64.wrap (L - a13)) with
   | true =>
    have h3p := of_decide_eq_true h3
    exact ⟨[.b true, .ret (AV.bool (r35.v n f (s a30.toNat))) ([]), .b false, .b false, .b false, .b false, .b false, .b false, .b true], kmp (by kernel_rfl) (Ai h1 (Ai (Ai o0 o1) (Ai (r35 (n) (f) o2 (s a30.toNat) ([])) (Ai (show (bnot (r35.v n f (s a30.toNat))) = false by rw [h2]; try rfl) (Ai (show (bnot (r35.v n f (s a30.toNat))) = false by rw [h2]; try rfl) (Ai (show (bnot (r35.v n f (s a30.toNat))) = false by rw [h2]; try rfl) (Ai (show (bnot (r35.v n f (s a30.toNat))) = false by rw [h2]; try rfl) (Ai (show (bnot (r35.v n f (s a30.toNat))) = false by rw [h2]; try rfl) (Ai (show (bnot (r35.v n f (s a30.toNat))) = false by rw [h2]; try rfl) (Ai h3 (L13a.en L j l n f m g k s (k_ := k_) (z_ := (a13, a30)) (.e0 : L13a.O) (by simp only [L13a.N, h1, h2, h3, cond_true, cond_false]) PopOk.same)))))))))))⟩
   | false =>
    have h3p := of_decide_eq_false h3
    cases h4 : decide (a30 < IntKind.i64.wrap ((↑k : Int) - 1)) with
    | true =>
     have h4p := of_decide_eq_true h4
     have o3 : m ≤ (9223372036854775807 : Nat) := by assumption
     cases h5 : r34.v (IntKind.i64.wrap (a13 + s a30.toNat)) j l m g with
     | true =>
      try have := IntWalk.i64_in (a30 + 1) (by omega)
      have o4 : (0 : Int) ≤ IntKind.i64.wrap (a30 + (1 : Int)) := by omega
      have o5 : IntKind.i64.wrap (a30 + (1 : Int)) ≤ (↑k : Int) ∨ IntKind.i64.wrap (a30 + (1 : Int)) ≤ (0 : Int) := by omega
      have o6 : ((↑k : Int) - IntKind.i64.wrap (a30 + (1 : Int))).toNat < ((↑k : Int) - a30).toNat := by omega
      exact ⟨[.b true, .ret (AV.bool (r35.v n f (s a30.toNat))) ([]), .b false, .b false, .b false, .b false, .b false, .b false, .b false, .b true, .ret (AV.bool (r34.v (IntKind.i64.wrap (a13 + s a30.toNat)) j l m g)) ([]), .b false], kmp (by kernel_rfl) (Ai h1 (Ai (Ai o0 o1) (Ai (r35 (n) (f) o2 (s a30.toNat) ([])) (Ai (show (bnot (r35.v n f (s a30.toNat))) = false by rw [h2]; try rfl) (Ai (show (bnot (r35.v n f (s a30.toNat))) = false by rw [h2]; try rfl) (Ai (show (bnot (r35.v n f (s a30.toNat))) = false by rw [h2]; try rfl) (Ai (show (bnot (r35.v n f (s a30.toNat))) = false by rw [h2]; try rfl) (Ai (show (bnot (r35.v n f (s a30.toNat))) = false by rw [h2]; try rfl) (Ai (show (bnot (r35.v n f (s a30.toNat))) = false by rw [h2]; try rfl) (Ai h3 (Ai h4 (Ai (r34 (IntKind.i64.wrap (a13 + s a30.toNat)) (j) (l) (m) (g) o3 ([])) (Ai (show (bnot (r34.v (IntKind.i64.wrap (a13 + s a30.toNat)) j l m g)) = false by rw [h5]; try rfl) (L13a.nx L j l n f m g k s (k_ := k_) (z_ := (a13, a30)) ((IntKind.i64.wrap (IntKind.i64.wrap (a13 + s a30.toNat) + j), IntKind.i64.wrap (a30 + 1))) (Ai o4 o5) o6 (by simp only [L13a.N, h1, h2, h3, h4, h5, cond_true, cond_false]) PopOk.same))))))))))))))⟩
     | false =>
      exact ⟨[.b true, .ret (AV.bool (r35.v n f (s a30.toNat))) ([]), .b false, .b false, .b false, .b false, .b false, .b false, .b false, .b true, .ret (AV.bool (r34.v (IntKind.i64.wrap (a13 + s a30.toNat)) j l m g)) ([]), .b true], kmp (by kernel_rfl) (Ai h1 (Ai (Ai o0 o1) (Ai (r35 (n) (f) o2 (s a30.toNat) ([])) (Ai (show (bnot (r35.v n f (s a30.toNat))) = false by rw [h2]; try rfl) (Ai (show (bnot (r35.v n f (s a30.toNat))) = false by rw [h2]; try rfl) (Ai (show (bnot (r35.v n f (s a30.toNat))) = false by rw [h2]; try rfl) (Ai (show (bnot (r35.v n f (s a30.toNat))) = false by rw [h2]; try rfl) (Ai (show (bnot (r35.v n f (s a30.toNat))) = false by rw [h2]; try rfl) (Ai (show (bnot (r35.v n f (s a30.toNat))) = false by rw [h2]; try rfl) (Ai h3 (Ai h4 (Ai (r34 (IntKind.i64.wrap (a13 + s a30.toNat)) (j) (l) (m) (g) o3 ([])) (Ai (show (bnot (r34.v (IntKind.i64.wrap (a13 + s a30.toNat)) j l m g)) = true by rw [h5]; try rfl) (L13a.en L j l n f m g k s (k_ := k_) (z_ := (a13, a30)) (.e0 : L13a.O) (by simp only [L13a.N, h1, h2, h3, h4, h5, cond_true, cond_false]) PopOk.same))))))))))))))⟩
    | false =>
     have h4p := of_decide_eq_false h4
     try have := IntWalk.i64_in (a30 + 1) (by omega)
     have o4 : (0 : Int) ≤ IntKind.i64.wrap (a30 + (1 : Int)) := by omega
     have o5 : IntKind.i64.wrap (a30 + (1 : Int)) ≤ (↑k : Int) ∨ IntKind.i64.wrap (a30 + (1 : Int)) ≤ (0 : Int) := by omega
     have o6 : ((↑k : Int) - IntKind.i64.wrap (a30 + (1 : Int))).toNat < ((↑k : Int) - a30).toNat := by omega
     exact ⟨[.b true, .ret (AV.bool (r35.v n f (s a30.toNat))) ([]), .b false, .b false, .b false, .b false, .b false, .b false, .b false, .b false], kmp (by kernel_rfl) (Ai h1 (Ai (Ai o0 o1) (Ai (r35 (n) (f) o2 (s a30.toNat) ([])) (Ai (show (bnot (r35.v n f (s a30.toNat))) = false by rw [h2]; try rfl) (Ai (show (bnot (r35.v n f (s a30.toNat))) = false by rw [h2]; try rfl) (Ai (show (bnot (r35.v n f (s a30.toNat))) = false by rw [h2]; try rfl) (Ai (show (bnot (r35.v n f (s a30.toNat))) = false by rw [h2]; try rfl) (Ai (show (bnot (r35.v n f (s a30.toNat))) = false by rw [h2]; try rfl) (Ai (show (bnot (r35.v n f (s a30.toNat))) = false by rw [h2]; try rfl) (Ai h3 (Ai h4 (L13a.nx L j l n f m g k s (k_ := k_) (z_ := (a13, a30)) ((IntKind.i64.wrap (a13 + s a30.toNat), IntKind.i64.wrap (a30 + 1))) (Ai o4 o5) o6 (by simp only [L13a.N, h1, h2, h3, h4, cond_true, cond_false]) PopOk.same))))))))))))⟩
  | false =>
   exact ⟨[.b true, .ret (AV.bool (r35.v n f (s a30.toNat))) ([]), .b true, .b true, .b true, .b true, .b true, .b true, .b true], kmp (by kernel_rfl) (Ai h1 (Ai (Ai o0 o1) (Ai (r35 (n) (f) o2 (s a30.toNat) ([])) (Ai (show (bnot (r35.v n f (s a30.toNat))) = true by rw [h2]; try rfl) (Ai (show (bnot (r35.v n f (s a30.toNat))) = true by rw [h2]; try rfl) (Ai (show (bnot (r35.v n f (s a30.toNat))) = true by rw [h2]; try rfl) (Ai (show (bnot (r35.v n f (s a30.toNat))) = true by rw [h2]; try rfl) (Ai (show (bnot (r35.v n f (s a30.toNat))) = true by rw [h2]; try rfl) (Ai (show (bnot (r35.v n f (s a30.toNat))) = true by rw [h2]; try rfl) (Ai (rfl : true = true) (L13a.en L j l n f m g k s (k_ := k_) (z_ := (a13, a30)) (.e0 : L13a.O) (by simp only [L13a.N, h1, h2, cond_true, cond_false]) PopOk.same)))))))))))⟩
 | false =>
  have h1p := of_decide_eq_false h1
  exact ⟨[.b false], kmp (by kernel_rfl) (Ai h1 (L13a.en L j l n f m g k s (k_ := k_) (z_ := (a13, a30)) (.e1 (a13) : L13a.O) (by simp only [L13a.N, h1, cond_true, cond_false]) PopOk.same))⟩
theorem L13a.e0 (L : Int) (j : Int) (l : Int) (n : Nat) (f : Nat → Int) (hn : n ≤ 9223372036854775807) (m : Nat) (g : Nat → Int) (hm : m ≤ 9223372036854775807) (k : Nat) (s : Nat → Int) (hk : k ≤ 9223372036854775807) (k0_1 : (r32.v L j l n f m g == 0) = true) (p0_1 : r32.v L j l n f m g = 0) (k0_2 : ((↑k : Int) == 0) = false) (p0_2 : (↑k : Int) ≠ 0) (a13 : Int) (a30 : Int) (hinv : L13a.inv L j l n f m g k s a13 a30) (hN : L13a.run L j l n f m g k s a13 a30 = (.e0 : L13a.O)) : LoopTo Try.prog (loopN Try.f13 0) (L13a.T L j l n f m g k s a13 a30) (L13a.H L j l n f m g k s a13 a30) (Exit.ret) (L13a.X L j l n f m g k s (.e0 : L13a.O)) (L13a.XH L j l n f m g k s (.e0 : L13a.O)) := by
 have h_ := L13a.spec L j l n f hn m g hm k s hk k0_1 p0_1 k0_2 p0_2 ((((↑k : Int) - a30).toNat) + 1) (a13, a30) hinv (Nat.lt_succ_self _)
 unfold L13a.run at hN
 simp only [hN] at h_
 exact h_
theorem L13a.e1 (L : Int) (j : Int) (l : Int) (n : Nat) (f : Nat → Int) (hn : n ≤ 9223372036854775807) (m : Nat) (g : Nat → Int) (hm : m ≤ 9223372036854775807) (k : Nat) (s : Nat → Int) (hk : k ≤ 9223372036854775807) (k0_1 : (r32.v L j l n f m g == 0) = true) (p0_1 : r32.v L j l n f m g = 0) (k0_2 : ((↑k : Int) == 0) = false) (p0_2 : (↑k : Int) ≠ 0) (a13 : Int) (a30 : Int) (hinv : L13a.inv L j l n f m g k s a13 a30) (a0 : Int) (hN : L13a.run L j l n f m g k s a13 a30 = (.e1 a0 : L13a.O)) : LoopTo Try.prog (loopN Try.f13 0) (L13a.T L j l n f m g k s a13 a30) (L13a.H L j l n f m g k s a13 a30) (Exit.exit 0) (L13a.X L j l n f m g k s (.e1 a0 : L13a.O)) (L13a.XH L j l n f m g k s (.e1 a0 : L13a.O)) := by
 have h_ := L13a.spec L j l n f hn m g hm k s hk k0_1 p0_1 k0_2 p0_2 ((((↑k : Int) - a30).toNat) + 1) (a13, a30) hinv (Nat.lt_succ_self _)
 unfold L13a.run at hN
 simp only [hN] at h_
 exact h_
noncomputable def r13.v (L : Int) (j : Int) (l : Int) (n : Nat) (f : Nat → Int) (m : Nat) (g : Nat → Int) (k : Nat) (s : Nat → Int) : Bool := (bif r32.v L j l n f m g == 0 then (bif (↑k : Int) == 0 then false else (match L13a.run L j l n f m g k s 0 0 with | .e0 => false | .e1 h3d0 => h3d0 == L )) else false)
theorem r13 (L : Int) (j : Int) (l : Int) (n : Nat) (f : Nat → Int) (hn : n ≤ 9223372036854775807) (m : Nat) (g : Nat → Int) (hm : m ≤ 9223372036854775807) (k : Nat) (s : Nat → Int) (hk : k ≤ 9223372036854775807) (h : AHeap) : Ret Try.prog 13 ([iv L, iv j, iv l, ivs n f, ivs m g, ivs k s]) h (AV.bool (r13.v L j l n f m g k s)) h := by
 have o0 : n ≤ (9223372036854775807 : Nat) := by assumption
 have o1 : m ≤ (9223372036854775807 : Nat) := by assumption
 cases h1 : r32.v L j l n f m g == 0 with
 | true =>
  have h1p := eq_of_beq h1
  cases h2 : (↑k : Int) == 0 with
  | true =>
   have h2p := eq_of_beq h2
   exact Ret.of_run1 mix [(AV.bool (r13.v L j l n f m g k s))] Try.func13 rfl [.ret (iv (r32.v L j l n f m g)) ([]), .b false, .b false, .b false, .b false, .b true] (by simp) (by simp) (kmp (by kernel_rfl) (Ai (r32 (L) (j) (l) (n) (f) o0 (m) (g) o1 ([])) (Ai (show (bnot (r32.v L j l n f m g == 0)) = false by rw [h1]; try rfl) (Ai (show (bnot (r32.v L j l n f m g == 0)) = false by rw [h1]; try rfl) (Ai (show (bnot (r32.v L j l n f m g == 0)) = false by rw [h1]; try rfl) (Ai (show (bnot (r32.v L j l n f m g == 0)) = false by rw [h1]; try rfl) (Ai h2 (Ai (show (AV.bool false) = ((AV.bool (r13.v L j l n f m g k s))) by simp only [r13.v, h1, h2, cond_true, cond_false]) trivial)))))))) h
  | false =>
   have h2p := ne_of_beq_false h2
   have o2 : k ≤ (9223372036854775807 : Nat) := by assumption
   have o3 : (r32.v L j l n f m g == (0 : Int)) = true := by assumption
   have o4 : r32.v L j l n f m g = (0 : Int) := by assumption
   have o5 : ((↑k : Int) == (0 : Int)) = false := by assumption
   have o6 : (↑k : Int) ≠ (0 : Int) := by assumption
   have o7 : (0 : Int) ≤ (↑k : Int) ∨ (0 : Int) ≤ (0 : Int) := by omega
   cases h3 : L13a.run L j l n f m g k s 0 0 with
   | e0 =>
    exact Ret.of_run1 mix [(AV.bool (r13.v L j l n f m g k s))] Try.func13 rfl [.ret (iv (r32.v L j l n f m g)) ([]), .b false, .b false, .b false, .b false, .b false, .loop (others 67 [0, 1, 2, 3, 4, 5, 13, 28, 29, 30]) (Exit.ret) (L13a.X L j l n f m g k s L13a.O.e0) (L13a.XH L j l n f m g k s L13a.O.e0)] (by simp) (by simp) (kmp (by kernel_rfl) (Ai (r32 (L) (j) (l) (n) (f) o0 (m) (g) o1 ([])) (Ai (show (bnot (r32.v L j l n f m g == 0)) = false by rw [h1]; try rfl) (Ai (show (bnot (r32.v L j l n f m g == 0)) = false by rw [h1]; try rfl) (Ai (show (bnot (r32.v L j l n f m g == 0)) = false by rw [h1]; try rfl) (Ai (show (bnot (r32.v L j l n f m g == 0)) = false by rw [h1]; try rfl) (Ai h2 (Ai (L13a.e0 (L) (j) (l) (n) (f) o0 (m) (g) o1 (k) (s) o2 o3 o4 o5 o6 (0) (0) (Ai (show (0 : Int) ≤ (0 : Int) by decide) o7) h3) (Ai (show (AV.bool false) = ((AV.bool (r13.v L j l n f m g k s))) by simp only [r13.v, h1, h2, h3, cond_true, cond_false]) trivial))))))))) h
   | e1 h3d0 =>
    exact Ret.of_run1 mix [(AV.bool (r13.v L j l n f m g k s))] Try.func13 rfl [.ret (iv (r32.v L j l n f m g)) ([]), .b false, .b false, .b false, .b false, .b false, .loop (others 67 [0, 1, 2, 3, 4, 5, 13, 28, 29, 30]) (Exit.exit 0) (L13a.X L j l n f m g k s (L13a.O.e1 h3d0)) (L13a.XH L j l n f m g k s (L13a.O.e1 h3d0))] (by simp) (by simp) (kmp (by kernel_rfl) (Ai (r32 (L) (j) (l) (n) (f) o0 (m) (g) o1 ([])) (Ai (show (bnot (r32.v L j l n f m g == 0)) = false by rw [h1]; try rfl) (Ai (show (bnot (r32.v L j l n f m g == 0)) = false by rw [h1]; try rfl) (Ai (show (bnot (r32.v L j l n f m g == 0)) = false by rw [h1]; try rfl) (Ai (show (bnot (r32.v L j l n f m g == 0)) = false by rw [h1]; try rfl) (Ai h2 (Ai (L13a.e1 (L) (j) (l) (n) (f) o0 (m) (g) o1 (k) (s) o2 o3 o4 o5 o6 (0) (0) (Ai (show (0 : Int) ≤ (0 : Int) by decide) o7) h3d0 h3) (Ai (show (AV.bool (h3d0 == L)) = ((AV.bool (r13.v L j l n f m g k s))) by simp only [r13.v, h1, h2, h3, cond_true, cond_false]) trivial))))))))) h
 | false =>
  have h1p := ne_of_beq_false h1
  exact Ret.of_run1 mix [(AV.bool (r13.v L j l n f m g k s))] Try.func13 rfl [.ret (iv (r32.v L j l n f m g)) ([]), .b true, .b true, .b true, .b true, .b true] (by simp) (by simp) (kmp (by kernel_rfl) (Ai (r32 (L) (j) (l) (n) (f) o0 (m) (g) o1 ([])) (Ai (show (bnot (r32.v L j l n f m g == 0)) = true by rw [h1]; try rfl) (Ai (show (bnot (r32.v L j l n f m g == 0)) = true by rw [h1]; try rfl) (Ai (show (bnot (r32.v L j l n f m g == 0)) = true by rw [h1]; try rfl) (Ai (show (bnot (r32.v L j l n f m g == 0)) = true by rw [h1]; try rfl) (Ai (rfl : true = true) (Ai (show (AV.bool false) = ((AV.bool (r13.v L j l n f m g k s))) by simp only [r13.v, h1, cond_true, cond_false]) trivial)))))))) h
end Go.Proofs.Ytjdbmmilcihpoaa
open Go
namespace Go.Proofs.Ytjdbmmilcihpoaa
set_option linter.unusedVariables false
set_option linter.unusedSimpArgs false
variable {L j l : Int} {n m : Nat} {f g : Nat → Int}
theorem i64_small {x : Int} (h : -9223372036854775808 ≤ x ∧ x ≤ 9223372036854775807) : IntKind.i64.wrap x = x := IntWalk.i64_in x (by omega)
/-- Allowed arguments of a layout. -/
structure LOk (L j l : Int) (n : Nat) (f : Nat → Int) (m : Nat) (g : Nat → Int) : Prop where
 l1 : 1 ≤ L
 l2 : L ≤ 20000
 j1 : 0 ≤ j
 j2 : j ≤ 1000
 p1 : 0 ≤ l
 p2 : l ≤ 20000
 n1 : 1 ≤ n
 n2 : n ≤ 16
 m2 : m ≤ 200
 f1 : ∀ i, i < n → 1 ≤ f i
 f2 : ∀ i, i < n → f i ≤ 20000
 f3 : ∀ i, i + 1 < n → f i < f (i + 1)
 g1 : ∀ i, i < m → 0 ≤ g i
 g2 : ∀ i, i < m → g i ≤ 40000
theorem bd_len (h : LOk L j l n f m g) : (1 ≤ L ∧ L ≤ 20000 ∧ 0 ≤ j ∧ j ≤ 1000 ∧ n ≤ 16 ∧ m ≤ 200) ∧ 1 ≤ n ∧ IntKind.i64.wrap (L - 1) = L - 1 ∧ IntKind.i64.wrap (L + 1) = L + 1 := ⟨⟨h.l1, h.l2, h.j1, h.j2, h.n2, h.m2⟩, h.n1, i64_small (by have := h.l1; have := h.l2; omega), i64_small (by have := h.l1; have := h.l2; omega)⟩
theorem bd_sz (h : LOk L j l n f m g) {i : Int} (h1 : i < n) (h0 : 0 ≤ i) : 1 ≤ f i.toNat ∧ f i.toNat ≤ 20000 :=
 ⟨h.f1 _ (by omega), h.f2 _ (by omega)⟩
end Go.Proofs.Ytjdbmmilcihpoaa
open Go
namespace Go.Proofs.Ytjdbmmilcihpoaa
set_option linter.unusedSimpArgs false
set_option linter.unusedVariables false
set_option maxHeartbeats 0
set_option maxRecDepth 100000
end Go.Proofs.Ytjdbmmilcihpoaa
open Go
namespace Go.Proofs.Ytjdbmmilcihpoaa
set_option linter.unusedSimpArgs false
set_option linter.unusedVariables false
set_option maxHeartbeats 0
set_option maxRecDepth 100000
noncomputable def r33.v (L : Int) (j : Int) (l : Int) (m : Nat) (g : Nat → Int) (xs : List Int) (a : Int) (s : Int) : Bool := (bif IntKind.i64.wrap (a + s) == L then true else (bif decide (IntKind.i64.wrap (IntKind.i64.wrap (a + s) + j) < L) then (bif decide (xs.getD (0 + (IntKind.i64.wrap (IntKind.i64.wrap (a + s) + j)).toNat) 0 > 0) then r34.v (IntKind.i64.wrap (a + s)) j l m g else false) else false))
noncomputable abbrev r33.h0 (L : Int) (j : Int) (l : Int) (m : Nat) (g : Nat → Int) (xs : List Int) (V : Nat) (a : Int) (s : Int) : AHeap := ([AObj.var (iv L), AObj.var (iv j), AObj.var (iv l), AObj.var (ivs m g), AObj.row 1 V (Col.ints IntKind.i64 xs), AObj.var (AV.ms 4 V 1 0 V)])
noncomputable abbrev r33.h1 (L : Int) (j : Int) (l : Int) (m : Nat) (g : Nat → Int) (xs : List Int) (V : Nat) (a : Int) (s : Int) : AHeap := ([AObj.var (iv L), AObj.var (iv j), AObj.var (iv l), AObj.var (ivs m g), AObj.row 1 V (Col.ints IntKind.i64 xs), AObj.var (AV.ms 4 V 1 0 V)] : AHeap)
theorem r33 (L : Int) (j : Int) (l : Int) (hL : L ≤ 20000) (hj0 : 0 ≤ j) (hj : j ≤ 1000) (m : Nat) (g : Nat → Int) (hm : m ≤ 9223372036854775807) (xs : List Int) (V : Nat) (hV : xs.length = V) (hV2 : V = (L + 1).toNat) (a : Int) (s : Int) (h0 : 0 ≤ a) (h1 : a ≤ 20000) (h2 : 1 ≤ s) (h3 : s ≤ 20000) : Ret Try.prog 33 ([iv a, iv s, AV.ptr 0 1 1 0 0, AV.ptr 1 1 1 0 0, AV.ptr 5 1 1 0 0, AV.ptr 2 1 1 0 0, AV.ptr 3 1 1 0 0]) (r33.h0 L j l m g xs V a s) (AV.bool (r33.v L j l m g xs a s)) (r33.h0 L j l m g xs V a s) := by
 cases h1 : IntKind.i64.wrap (a + s) == L with
 | true =>
  have h1p := eq_of_beq h1
  exact Ret.of_runH mix [(AV.bool (r33.v L j l m g xs a s))] (r33.h0 L j l m g xs V a s) Try.func33 rfl [.b true, .b true, .b true, .b true, .b true, .b true, .b true, .b true, .b true, .b true] (by simp) (kmp (by kernel_rfl) (Ai h1 (Ai h1 (Ai h1 (Ai h1 (Ai h1 (Ai h1 (Ai h1 (Ai h1 (Ai h1 (Ai h1 (Ai (Ai (show (AV.bool true) = ((AV.bool (r33.v L j l m g xs a s))) by first | (simp only [r33.v, h1, cond_true, cond_false]; done) | (try unfold r33.v; try simp only [h1, cond_true, cond_false]; try rfl; done) | rfl) trivial) (rfl : (r33.h1 L j l m g xs V a s) = [AObj.var (iv L), AObj.var (iv j), AObj.var (iv l), AObj.var (ivs m g), AObj.row 1 V (Col.ints IntKind.i64 xs), AObj.var (AV.ms 4 V 1 0 V)])))))))))))))
 | false =>
  have h1p := ne_of_beq_false h1
  cases h2 : decide (IntKind.i64.wrap (IntKind.i64.wrap (a + s) + j) < L) with
  | true =>
   have h2p := of_decide_eq_true h2
   try have := IntWalk.i64_in (a + s) (by omega)
   try have := IntWalk.i64_in (IntKind.i64.wrap (a + s) + j) (by omega)
   have o0 : (0 : Int) ≤ IntKind.i64.wrap (IntKind.i64.wrap (a + s) + j) := by first | assumption | omega | (apply wr_0 <;> first | assumption | omega) | (simp_all; done)
   have o1 : IntKind.i64.wrap (IntKind.i64.wrap (a + s) + j) < (↑V : Int) := by first | assumption | omega | (simp_all; done)
   have o2 : (0 : Nat) + (IntKind.i64.wrap (IntKind.i64.wrap (a + s) + j)).toNat < (Col.ints IntKind.i64 xs).len := by first | assumption | omega | (simp only [List.length_append, List.length_cons, List.length_nil, List.length_map]; omega) | rfl | (exact Nat.le_refl _) | (simp [Col.len]; done) | (simp only [Col.len, zero_bool, zero_int, List.length_replicate, List.length_set] at *; omega) | (simp_all; done)
   cases h3 : decide (xs.getD (0 + (IntKind.i64.wrap (IntKind.i64.wrap (a + s) + j)).toNat) 0 > 0) with
   | true =>
    have h3p := of_decide_eq_true h3
    have o3 : m ≤ (9223372036854775807 : Nat) := by first | assumption | omega | (simp_all; done)
    exact Ret.of_runH mix [(AV.bool (r33.v L j l m g xs a s))] (r33.h0 L j l m g xs V a s) Try.func33 rfl [.b false, .b false, .b false, .b false, .b false, .b false, .b true, .b true, .b true, .b true, .b true, .b true, .b true, .b false, .b true, .b false, .b true, .b true, .b true, .b true, .b true, .ret (AV.bool (r34.v (IntKind.i64.wrap (a + s)) j l m g)) ([AObj.var (iv L), AObj.var (iv j), AObj.var (iv l), AObj.var (AV.sl 1 m fun (i : Nat) => iv (g i)), AObj.row 1 V (Col.ints IntKind.i64 xs), AObj.var (AV.ms 4 V 1 0 V)]), .b false, .b true, .b false] (by simp) (kmp (by kernel_rfl) (Ai h1 (Ai h1 (Ai h1 (Ai h1 (Ai h1 (Ai h1 (Ai h2 (Ai h2 (Ai h2 (Ai h2 (Ai h2 (Ai (Ai o0 o1) (Ai h2 (Ai (Ai (rfl : V = V) (Ai (show (1 : Nat) = (1 : Nat) by first | decide | exact Int.NonNeg.mk _) o2)) (Ai h2 (Ai h1 (Ai h2 (Ai h1 (Ai h3 (Ai h3 (Ai h3 (Ai h3 (Ai h3 (Ai (r34 (IntKind.i64.wrap (a + s)) (j) (l) (m) (g) o3 ([AObj.var (iv L), AObj.var (iv j), AObj.var (iv l), AObj.var (AV.sl 1 m fun (i : Nat) => iv (g i)), AObj.row 1 V (Col.ints IntKind.i64 xs), AObj.var (AV.ms 4 V 1 0 V)])) (Ai h1 (Ai h3 (Ai h1 (Ai (Ai (show (AV.bool (r34.v (IntKind.i64.wrap (a + s)) j l m g)) = ((AV.bool (r33.v L j l m g xs a s))) by first | (simp only [r33.v, h1, h2, h3, cond_true, cond_false]; done) | (try unfold r33.v; try simp only [h1, cond_true, cond_false]; try simp only [h2, cond_true, cond_false]; try simp only [h3, cond_true, cond_false]; try rfl; done) | rfl) trivial) (rfl : (r33.h1 L j l m g xs V a s) = [AObj.var (iv L), AObj.var (iv j), AObj.var (iv l), AObj.var (ivs m g), AObj.row 1 V (Col.ints IntKind.i64 xs), AObj.var (AV.ms 4 V 1 0 V)]))))))))))))))))))))))))))))))
   | false =>
    have h3p := of_decide_eq_false h3
    exact Ret.of_runH mix [(AV.bool (r33.v L j l m g xs a s))] (r33.h0 L j l m g xs V a s) Try.func33 rfl [.b false, .b false, .b false, .b false, .b false, .b false, .b true, .b true, .b true, .b true, .b true, .b true, .b true, .b false, .b true, .b false, .b false, .b false, .b false, .b false, .b false, .b false, .b false, .b false] (by simp) (kmp (by kernel_rfl) (Ai h1 (Ai h1 (Ai h1 (Ai h1 (Ai h1 (Ai h1 (Ai h2 (Ai h2 (Ai h2 (Ai h2 (Ai h2 (Ai (Ai o0 o1) (Ai h2 (Ai (Ai (rfl : V = V) (Ai (show (1 : Nat) = (1 : Nat) by first | decide | exact Int.NonNeg.mk _) o2)) (Ai h2 (Ai h1 (Ai h2 (Ai h1 (Ai h3 (Ai h3 (Ai h3 (Ai h3 (Ai h3 (Ai h1 (Ai h3 (Ai h1 (Ai (Ai (show (AV.bool false) = ((AV.bool (r33.v L j l m g xs a s))) by first | (simp only [r33.v, h1, h2, h3, cond_true, cond_false]; done) | (try unfold r33.v; try simp only [h1, cond_true, cond_false]; try simp only [h2, cond_true, cond_false]; try simp only [h3, cond_true, cond_false]; try rfl; done) | rfl) trivial) (rfl : (r33.h1 L j l m g xs V a s) = [AObj.var (iv L), AObj.var (iv j), AObj.var (iv l), AObj.var (ivs m g), AObj.row 1 V (Col.ints IntKind.i64 xs), AObj.var (AV.ms 4 V 1 0 V)])))))))))))))))))))))))))))))
  | false =>
   have h2p := of_decide_eq_false h2
   exact Ret.of_runH mix [(AV.bool (r33.v L j l m g xs a s))] (r33.h0 L j l m g xs V a s) Try.func33 rfl [.b false, .b false, .b false, .b false, .b false, .b false, .b false, .b false, .b false, .b false, .b false, .b false, .b false, .b false, .b false, .b false, .b false, .b false, .b false, .b false, .b false, .b false, .b false, .b false] (by simp) (kmp (by kernel_rfl) (Ai h1 (Ai h1 (Ai h1 (Ai h1 (Ai h1 (Ai h1 (Ai h2 (Ai h2 (Ai h2 (Ai h2 (Ai h2 (Ai h2 (Ai h2 (Ai h1 (Ai h2 (Ai h1 (Ai (rfl : false = false) (Ai (rfl : false = false) (Ai (rfl : false = false) (Ai (rfl : false = false) (Ai (rfl : false = false) (Ai h1 (Ai (rfl : false = false) (Ai h1 (Ai (Ai (show (AV.bool false) = ((AV.bool (r33.v L j l m g xs a s))) by first | (simp only [r33.v, h1, h2, cond_true, cond_false]; done) | (try unfold r33.v; try simp only [h1, cond_true, cond_false]; try simp only [h2, cond_true, cond_false]; try rfl; done) | rfl) trivial) (rfl : (r33.h1 L j l m g xs V a s) = [AObj.var (iv L), AObj.var (iv j), AObj.var (iv l), AObj.var (ivs m g), AObj.row 1 V (Col.ints IntKind.i64 xs), AObj.var (AV.ms 4 V 1 0 V)])))))))))))))))))))))))))))
end Go.Proofs.Ytjdbmmilcihpoaa
open Go
namespace Go.Proofs.Ytjdbmmilcihpoaa
set_option linter.unusedVariables false
set_option linter.unusedSimpArgs false
variable {L j l : Int} {n m : Nat} {f g : Nat → Int}
noncomputable def szB (f : Nat → Int) (i : Nat) : Bool := !(r51.v (f i) 1 20000)
noncomputable def blB (g : Nat → Int) (i : Nat) : Bool := !(r51.v (g i) 0 40000)
def incB (f : Nat → Int) (i : Nat) : Bool := decide (f (i - 1) ≥ f i)
theorem pred_idx {i : Nat} (hn : n ≤ 9223372036854775807) (hi : i < n) (h : 0 < i) : (IntKind.i64.wrap ((i : Int) - 1)).toNat = i - 1 := by
 rw [i64_small (by omega)]; omega
theorem r62a_any (hn : n ≤ 9223372036854775807) : r62a.v n f = anyN n (szB f) := by
 have := search_eq (n := n) (szB f) (fun i => L79aa.O.e0 (i : Int)) .e1 (N := L79aa.N n f) (fun k' i h => by
  simp only [L79aa.N, wrap_succ hn h, Int.toNat_natCast]
  rw [decide_eq_true (show (i : Int) < n by omega)]
  rfl) (fun k => by simp [L79aa.N]) (n + 1) 0 (Nat.zero_le _) (by omega)
 have e : L79aa.run n f 0 = srch (szB f) (fun i => L79aa.O.e0 (i : Int)) .e1 0 n := by simpa [L79aa.run] using this
 unfold r62a.v r79a.v
 rw [e]
 rcases srch_cases (szB f) (fun i => L79aa.O.e0 (i : Int)) .e1 n 0 with ⟨a1, a2⟩ | ⟨i, a1, a2, a3, a4, a5⟩
 · rw [a2, anyN_false.2 fun i hi => a1 i (Nat.zero_le _) (by omega)]; rfl
 · rw [a5, anyN_true.2 ⟨i, by omega, a3⟩]; simp
theorem r62b_any (hn : n ≤ 9223372036854775807) : r62b.v n f = anyN n (blB f) := by
 have := search_eq (n := n) (blB f) (fun i => L79ba.O.e0 (i : Int)) .e1 (N := L79ba.N n f) (fun k' i h => by
  simp only [L79ba.N, wrap_succ hn h, Int.toNat_natCast]
  rw [decide_eq_true (show (i : Int) < n by omega)]
  rfl) (fun k => by simp [L79ba.N]) (n + 1) 0 (Nat.zero_le _) (by omega)
 have e : L79ba.run n f 0 = srch (blB f) (fun i => L79ba.O.e0 (i : Int)) .e1 0 n := by simpa [L79ba.run] using this
 unfold r62b.v r79b.v
 rw [e]
 rcases srch_cases (blB f) (fun i => L79ba.O.e0 (i : Int)) .e1 n 0 with ⟨a1, a2⟩ | ⟨i, a1, a2, a3, a4, a5⟩
 · rw [a2, anyN_false.2 fun i hi => a1 i (Nat.zero_le _) (by omega)]; rfl
 · rw [a5, anyN_true.2 ⟨i, by omega, a3⟩]; simp
theorem srch_any1 {O : Type} (p : Nat → Bool) (a b : O) (n : Nat) : srch p (fun _ => a) b 1 (n - 1) = bif anyN n (fun i => decide (0 < i) && p i) then a else b := by
 rcases srch_cases p (fun _ => a) b (n - 1) 1 with ⟨h1, h2⟩ | ⟨j, h1, h2, h3, h4, h5⟩
 · rw [h2, anyN_false.2 fun i hi => ?_]; rfl
   by_cases e : 0 < i
   · rw [h1 i e (by omega)]; simp
   · rw [decide_eq_false e]; rfl
 · rw [h5, anyN_true.2 ⟨j, by omega, by rw [h3, decide_eq_true (show 0 < j by omega)]; rfl⟩]; rfl
theorem L32_run (hn : n ≤ 9223372036854775807) : L32a.run n f 1 = bif anyN n (fun i => decide (0 < i) && incB f i) then .e0 else .e1 := by
 by_cases h0 : n = 0
 · subst h0; rfl
 have key : ∀ m i, 0 < i → i ≤ n → n - i < m → L32a.N n f m (i : Int) = srch (incB f) (fun _ => .e0) .e1 i (n - i) := by
  intro m
  induction m with
  | zero => intro i _ _ h; omega
  | succ m ih =>
   intro i h1 h2 h3
   simp only [L32a.N, Int.toNat_natCast]
   by_cases h : i < n
   · rw [decide_eq_true (show (i : Int) < n by omega), wrap_succ hn h, pred_idx hn h h1, show n - i = (n - (i + 1)) + 1 by omega]
     simp only [srch, cond_true]
     rw [ih (i + 1) (by omega) h (by omega)]
     rfl
   · rw [decide_eq_false (by omega), show n - i = 0 by omega]; rfl
 have e := key (((n : Int) - 1).toNat + 1) 1 (by omega) (by omega) (by omega)
 rw [srch_any1] at e
 exact e
theorem in_true {x a b : Int} (h : r51.v x a b = true) : a ≤ x ∧ x ≤ b := by
 unfold r51.v at h
 by_cases c : x ≥ a
 · rw [decide_eq_true c] at h
   exact ⟨c, of_decide_eq_true h⟩
 · rw [decide_eq_false c] at h; cases h
theorem bd_ok (h : (r32.v L j l n f m g == 0) = true) (hn : n ≤ 9223372036854775807) (hm : m ≤ 9223372036854775807) : LOk L j l n f m g := by
 have h := eq_of_beq h
 unfold r32.v at h
 rw [r62a_any hn, r62b_any hm, L32_run hn] at h
 by_cases c1 : (n : Int) > 16
 · rw [decide_eq_true c1] at h; cases h
 by_cases c2 : (m : Int) > 200
 · rw [decide_eq_false c1, decide_eq_true c2] at h; cases h
 rw [decide_eq_false c1, decide_eq_false c2] at h
 simp only [cond_false] at h
 cases q1 : r51.v L 1 20000 with
 | false => rw [q1] at h; cases h
 | true =>
 cases q2 : r51.v j 0 1000 with
 | false => rw [q1, q2] at h; cases h
 | true =>
 cases q3 : r51.v l 0 20000 with
 | false => rw [q1, q2, q3] at h; cases h
 | true =>
 cases q4 : anyN n (szB f) with
 | true => rw [q1, q2, q3, q4] at h; cases h
 | false =>
 cases q5 : anyN m (blB g) with
 | true => rw [q1, q2, q3, q4, q5] at h; cases h
 | false =>
 cases q6 : ((n : Int) == 0) with
 | true => rw [q1, q2, q3, q4, q5, q6] at h; cases h
 | false =>
 cases q7 : anyN n (fun i => decide (0 < i) && incB f i) with
 | true => rw [q1, q2, q3, q4, q5, q6, q7] at h; cases h
 | false =>
 have hne : (n : Int) ≠ 0 := ne_of_beq_false q6
 have hs : ∀ i, i < n → 1 ≤ f i ∧ f i ≤ 20000 := fun i hi => in_true (by simpa [szB] using anyN_false.1 q4 i hi)
 have hb : ∀ i, i < m → 0 ≤ g i ∧ g i ≤ 40000 := fun i hi => in_true (by simpa [blB] using anyN_false.1 q5 i hi)
 exact ⟨(in_true q1).1, (in_true q1).2, (in_true q2).1, (in_true q2).2, (in_true q3).1, (in_true q3).2, by omega, by omega, by omega, fun i hi => (hs i hi).1, fun i hi => (hs i hi).2, fun i hi => by
  have := anyN_false.1 q7 (i + 1) hi
  simp only [incB, Nat.add_sub_cancel, Bool.and_eq_false_iff, decide_eq_false_iff_not] at this
  omega, fun i hi => (hb i hi).1, fun i hi => (hb i hi).2⟩
end Go.Proofs.Ytjdbmmilcihpoaa
open Go
namespace Go.Proofs.Ytjdbmmilcihpoaa
set_option linter.unusedSimpArgs false
set_option linter.unusedVariables false
set_option maxHeartbeats 0
set_option maxRecDepth 100000
inductive L11ab.O where
 | e0 (a0 : List Int)
noncomputable def L11ab.T (L : Int) (j : Int) (l : Int) (n : Nat) (f : Nat → Int) (m : Nat) (g : Nat → Int) (V : Nat) (a15 : Int) (b41 : Int) (xs : List Int) : List AV := mkT 77 [(3, ivs n f), (5, AV.ptr 0 1 1 0 0), (6, AV.ptr 1 1 1 0 0), (13, AV.ptr 5 1 1 0 0), (14, AV.fn 33 [AV.ptr 0 1 1 0 0, AV.ptr 1 1 1 0 0, AV.ptr 5 1 1 0 0, AV.ptr 2 1 1 0 0, AV.ptr 3 1 1 0 0]), (15, iv a15), (39, ivs n f), (40, iv (↑n : Int)), (41, iv b41)]
noncomputable def L11ab.H (L : Int) (j : Int) (l : Int) (n : Nat) (f : Nat → Int) (m : Nat) (g : Nat → Int) (V : Nat) (a15 : Int) (b41 : Int) (xs : List Int) : AHeap := [AObj.var (iv L), AObj.var (iv j), AObj.var (iv l), AObj.var (ivs m g), AObj.row 1 V (Col.ints IntKind.i64 xs), AObj.var (AV.ms 4 V 1 0 V)]
def L11ab.inv (L : Int) (j : Int) (l : Int) (n : Nat) (f : Nat → Int) (m : Nat) (g : Nat → Int) (V : Nat) (a15 : Int) (b41 : Int) (xs : List Int) : Prop := (0 ≤ b41 ∧ b41 ≤ (↑n : Int)) ∧ xs.length = V
noncomputable def L11ab.mu (L : Int) (j : Int) (l : Int) (n : Nat) (f : Nat → Int) (m : Nat) (g : Nat → Int) (V : Nat) (a15 : Int) (b41 : Int) (xs : List Int) : Nat := ((↑n : Int) - b41).toNat
noncomputable def L11ab.E : L11ab.O → Exit
 | .e0 a0 => Exit.exit 2
noncomputable def L11ab.X (L : Int) (j : Int) (l : Int) (n : Nat) (f : Nat → Int) (m : Nat) (g : Nat → Int) (V : Nat) (a15 : Int) : L11ab.O → List AV
 | .e0 a0 => mkT 77 [(3, (AV.sl 1 n fun (i : Nat) => iv (f i))), (5, (AV.ptr 0 1 1 0 0)), (6, (AV.ptr 1 1 1 0 0)), (13, (AV.ptr 5 1 1 0 0)), (14, (AV.fn 33 [AV.ptr 0 1 1 0 0, AV.ptr 1 1 1 0 0, AV.ptr 5 1 1 0 0, AV.ptr 2 1 1 0 0, AV.ptr 3 1 1 0 0])), (15, (iv a15))]
noncomputable def L11ab.XH (L : Int) (j : Int) (l : Int) (n : Nat) (f : Nat → Int) (m : Nat) (g : Nat → Int) (V : Nat) (a15 : Int) : L11ab.O → AHeap
 | .e0 a0 => ((AObj.var (iv L)) :: ((AObj.var (iv j)) :: ((AObj.var (iv l)) :: ((AObj.var (AV.sl 1 m fun (i : Nat) => iv (g i))) :: ((AObj.row 1 (V) (Col.ints IntKind.i64 a0)) :: ([AObj.var (AV.ms 4 V 1 0 V)]))))))
noncomputable def L11ab.N (L : Int) (j : Int) (l : Int) (n : Nat) (f : Nat → Int) (m : Nat) (g : Nat → Int) (a15 : Int) : Nat → Int → (List Int) → L11ab.O
 | 0, _, xs => .e0 xs
 | k_ + 1, b41, xs => (bif decide (b41 < (↑n : Int)) then (bif r33.v L j l m g xs a15 (f b41.toNat) then (.e0 (xs.set (0 + a15.toNat) (f b41.toNat))) else (L11ab.N L j l n f m g a15 k_ (IntKind.i64.wrap (b41 + 1)) (xs))) else (.e0 (xs)))
noncomputable def L11ab.run (L : Int) (j : Int) (l : Int) (n : Nat) (f : Nat → Int) (m : Nat) (g : Nat → Int) (a15 : Int) (b41 : Int) (xs : List Int) : L11ab.O := L11ab.N L j l n f m g a15 ((((↑n : Int) - b41).toNat) + 1) b41 xs
theorem L11ab.nx (L : Int) (j : Int) (l : Int) (n : Nat) (f : Nat → Int) (m : Nat) (g : Nat → Int) (V : Nat) (a15 : Int) {k_ : Nat} {z_ : Int × (List Int)} {h_ : AHeap} (s_ : Int × (List Int)) (h1 : L11ab.inv L j l n f m g V a15 s_.1 s_.2) (h2 : L11ab.mu L j l n f m g V a15 s_.1 s_.2 < L11ab.mu L j l n f m g V a15 z_.1 z_.2) (h3 : L11ab.N L j l n f m g a15 k_ s_.1 s_.2 = L11ab.N L j l n f m g a15 (k_ + 1) z_.1 z_.2) (h4 : PopOk (L11ab.H L j l n f m g V a15 z_.1 z_.2) h_ (L11ab.T L j l n f m g V a15 s_.1 s_.2) (L11ab.H L j l n f m g V a15 s_.1 s_.2)) : LNextP (fun (z_ : Int × (List Int)) => L11ab.T L j l n f m g V a15 z_.1 z_.2) (fun (z_ : Int × (List Int)) => L11ab.H L j l n f m g V a15 z_.1 z_.2) (fun (z_ : Int × (List Int)) => L11ab.inv L j l n f m g V a15 z_.1 z_.2) (fun (z_ : Int × (List Int)) => L11ab.mu L j l n f m g V a15 z_.1 z_.2) (fun (k_ : Nat) (z_ : Int × (List Int)) => L11ab.N L j l n f m g a15 k_ z_.1 z_.2) k_ z_ (L11ab.T L j l n f m g V a15 s_.1 s_.2) h_ := LNextP.mk s_ h1 h2 h3 h4
theorem L11ab.en (L : Int) (j : Int) (l : Int) (n : Nat) (f : Nat → Int) (m : Nat) (g : Nat → Int) (V : Nat) (a15 : Int) {k_ : Nat} {z_ : Int × (List Int)} {h_ : AHeap} (o_ : L11ab.O) (h3 : L11ab.N L j l n f m g a15 (k_ + 1) z_.1 z_.2 = o_) (h4 : PopOk (L11ab.H L j l n f m g V a15 z_.1 z_.2) h_ (L11ab.X L j l n f m g V a15 o_) (L11ab.XH L j l n f m g V a15 o_)) : LEndP (fun (z_ : Int × (List Int)) => L11ab.H L j l n f m g V a15 z_.1 z_.2) (fun (k_ : Nat) (z_ : Int × (List Int)) => L11ab.N L j l n f m g a15 k_ z_.1 z_.2) L11ab.E (L11ab.X L j l n f m g V a15) (L11ab.XH L j l n f m g V a15) k_ z_ (L11ab.E o_) (L11ab.X L j l n f m g V a15 o_) h_ := LEndP.mk o_ h3 h4
theorem L11ab.spec (L : Int) (j : Int) (l : Int) (n : Nat) (f : Nat → Int) (hn : n ≤ 9223372036854775807) (m : Nat) (g : Nat → Int) (hm : m ≤ 9223372036854775807) (hk : LOk L j l n f m g) (V : Nat) (hV2 : V = (L + 1).toNat) (a15 : Int) (h0 : 0 ≤ a15) (h1 : a15 ≤ L - 1) (k_ : Nat) (z_ : Int × (List Int)) (hi_ : L11ab.inv L j l n f m g V a15 z_.1 z_.2) (hm_ : L11ab.mu L j l n f m g V a15 z_.1 z_.2 < k_) : LoopTo Try.prog (loopN Try.f11 1) (L11ab.T L j l n f m g V a15 z_.1 z_.2) (L11ab.H L j l n f m g V a15 z_.1 z_.2) (L11ab.E (L11ab.N L j l n f m g a15 k_ z_.1 z_.2)) (L11ab.X L j l n f m g V a15 (L11ab.N L j l n f m g a15 k_ z_.1 z_.2)) (L11ab.XH L j l n f m g V a15 (L11ab.N L j l n f m g a15 k_ z_.1 z_.2)) := by
 refine LoopTo.fuelP mix (fun (z_ : Int × (List Int)) => L11ab.T L j l n f m g V a15 z_.1 z_.2) (fun (z_ : Int × (List Int)) => L11ab.H L j l n f m g V a15 z_.1 z_.2) (fun (z_ : Int × (List Int)) => L11ab.inv L j l n f m g V a15 z_.1 z_.2) (fun (z_ : Int × (List Int)) => L11ab.mu L j l n f m g V a15 z_.1 z_.2) (fun (k_ : Nat) (z_ : Int × (List Int)) => L11ab.N L j l n f m g a15 k_ z_.1 z_.2) L11ab.E (L11ab.X L j l n f m g V a15) (L11ab.XH L j l n f m g V a15) (others 77 [3, 5, 6, 13, 14, 15, 39, 40, 41]) (others 77 [10, 11]) (others 77 [3, 5, 6, 13, 14, 15]) ?_ k_ z_ hi_ hm_
 clear hm_ hi_ z_ k_
 intro k_ z_ hinv hmu
 obtain ⟨b41, xs⟩ := z_
 have hinv : (0 ≤ b41 ∧ b41 ≤ (↑n : Int)) ∧ xs.length = V := hinv
 have hmu : (((↑n : Int) - b41).toNat) < k_ + 1 := hmu
 cases h1 : decide (b41 < (↑n : Int)) with
 | true =>
  have h1p := of_decide_eq_true h1
  try have := bd_len (by assumption)
  try have := bd_sz (by assumption) (by assumption) (by omega)
  have o0 : (0 : Int) ≤ b41 := by omega
  have o1 : b41 < (↑n : Int) := by assumption
  have o2 : L ≤ (20000 : Int) := by omega
  have o3 : (0 : Int) ≤ j := by omega
  have o4 : j ≤ (1000 : Int) := by omega
  have o5 : m ≤ (9223372036854775807 : Nat) := by assumption
  have o6 : xs.length = V := by omega
  have o7 : V = (L + (1 : Int)).toNat := by assumption
  have o8 : (0 : Int) ≤ a15 := by assumption
  have o9 : a15 ≤ (20000 : Int) := by omega
  have o10 : (1 : Int) ≤ f b41.toNat := by omega
  have o11 : f b41.toNat ≤ (20000 : Int) := by omega
  cases h2 : r33.v L j l m g xs a15 (f b41.toNat) with
  | true =>
   try have := bd_len (by assumption)
   try have := bd_sz (by assumption) (by assumption) (by assumption)
   have o12 : a15 < (↑V : Int) := by omega
   have o13 : (0 : Nat) + a15.toNat < (Col.ints IntKind.i64 xs).len := by simp only [Col.len, zero_bool, zero_int, List.length_replicate, List.length_set] at *; omega
   exact ⟨[.b true, .ret (AV.bool (r33.v L j l m g xs a15 (f b41.toNat))) ([AObj.var (iv L), AObj.var (iv j), AObj.var (iv l), AObj.var (AV.sl 1 m fun (i : Nat) => iv (g i)), AObj.row 1 V (Col.ints IntKind.i64 xs), AObj.var (AV.ms 4 V 1 0 V)]), .b true], kmp (by kernel_rfl) (Ai h1 (Ai (Ai o0 o1) (Ai (r33 (L) (j) (l) o2 o3 o4 (m) (g) o5 (xs) (V) o6 o7 (a15) (f b41.toNat) o8 o9 o10 o11) (Ai h2 (Ai (Ai o8 o12) (Ai (Ai (rfl : V = V) o13) (L11ab.en L j l n f m g V a15 (k_ := k_) (z_ := (b41, xs)) (.e0 (xs.set (0 + a15.toNat) (f b41.toNat)) : L11ab.O) (by simp only [L11ab.N, h1, h2, cond_true, cond_false]) PopOk.same)))))))⟩
  | false =>
   try have := bd_len (by assumption)
   try have := bd_sz (by assumption) (by assumption) (by assumption)
   try have := IntWalk.i64_in (b41 + 1) (by omega)
   have o14 : (0 : Int) ≤ IntKind.i64.wrap (b41 + (1 : Int)) := by omega
   have o15 : IntKind.i64.wrap (b41 + (1 : Int)) ≤ (↑n : Int) := by omega
   have o16 : ((↑n : Int) - IntKind.i64.wrap (b41 + (1 : Int))).toNat < ((↑n : Int) - b41).toNat := by omega
   exact ⟨[.b true, .ret (AV.bool (r33.v L j l m g xs a15 (f b41.toNat))) ([AObj.var (iv L), AObj.var (iv j), AObj.var (iv l), AObj.var (AV.sl 1 m fun (i : Nat) => iv (g i)), AObj.row 1 V (Col.ints IntKind.i64 xs), AObj.var (AV.ms 4 V 1 0 V)]), .b false], kmp (by kernel_rfl) (Ai h1 (Ai (Ai o0 o1) (Ai (r33 (L) (j) (l) o2 o3 o4 (m) (g) o5 (xs) (V) o6 o7 (a15) (f b41.toNat) o8 o9 o10 o11) (Ai h2 (L11ab.nx L j l n f m g V a15 (k_ := k_) (z_ := (b41, xs)) ((IntKind.i64.wrap (b41 + 1), xs)) (Ai (Ai o14 o15) o6) o16 (by simp only [L11ab.N, h1, h2, cond_true, cond_false]) PopOk.same)))))⟩
 | false =>
  have h1p := of_decide_eq_false h1
  exact ⟨[.b false], kmp (by kernel_rfl) (Ai h1 (L11ab.en L j l n f m g V a15 (k_ := k_) (z_ := (b41, xs)) (.e0 (xs) : L11ab.O) (by simp only [L11ab.N, h1, cond_true, cond_false]) PopOk.same))⟩
theorem L11ab.e0 (L : Int) (j : Int) (l : Int) (n : Nat) (f : Nat → Int) (hn : n ≤ 9223372036854775807) (m : Nat) (g : Nat → Int) (hm : m ≤ 9223372036854775807) (hk : LOk L j l n f m g) (V : Nat) (hV2 : V = (L + 1).toNat) (a15 : Int) (h0 : 0 ≤ a15) (h1 : a15 ≤ L - 1) (b41 : Int) (xs : List Int) (hinv : L11ab.inv L j l n f m g V a15 b41 xs) (a0 : List Int) (hN : L11ab.run L j l n f m g a15 b41 xs = (.e0 a0 : L11ab.O)) : LoopTo Try.prog (loopN Try.f11 1) (L11ab.T L j l n f m g V a15 b41 xs) (L11ab.H L j l n f m g V a15 b41 xs) (Exit.exit 2) (L11ab.X L j l n f m g V a15 (.e0 a0 : L11ab.O)) (L11ab.XH L j l n f m g V a15 (.e0 a0 : L11ab.O)) := by
 have h_ := L11ab.spec L j l n f hn m g hm hk V hV2 a15 h0 h1 ((((↑n : Int) - b41).toNat) + 1) (b41, xs) hinv (Nat.lt_succ_self _)
 unfold L11ab.run at hN
 simp only [hN] at h_
 exact h_
theorem L11ab.leq0_0 (L : Int) (j : Int) (l : Int) (n : Nat) (f : Nat → Int) (m : Nat) (g : Nat → Int) (a15 : Int) : ∀ (m_ : Nat) (b41 : Int) (xs : List Int) (a0_ : List Int), L11ab.N L j l n f m g a15 m_ b41 xs = (.e0 a0_ : L11ab.O) → (a0_).length = (xs).length := by
 intro m_
 induction m_ with
 | zero =>
  intro b41 xs a0_ h_
  simp only [L11ab.N] at h_
  cases h_
  try rfl
 | succ m_ ih_ =>
  intro b41 xs a0_ h_
  cases h1 : decide (b41 < (↑n : Int)) with
  | true =>
   have h1p := of_decide_eq_true h1
   cases h2 : r33.v L j l m g xs a15 (f b41.toNat) with
   | true =>
    (simp only [L11ab.N, h1, h2, cond_true, cond_false] at h_; first | (have q_ := ih_ _ _ _ h_; (try simp only [List.length_set] at *); omega) | (cases h_; done) | (cases h_; first | rfl | simp))
   | false =>
    (simp only [L11ab.N, h1, h2, cond_true, cond_false] at h_; first | (have q_ := ih_ _ _ _ h_; (try simp only [List.length_set] at *); omega) | (cases h_; done) | (cases h_; first | rfl | simp))
  | false =>
   have h1p := of_decide_eq_false h1
   (simp only [L11ab.N, h1, cond_true, cond_false] at h_; first | (have q_ := ih_ _ _ _ h_; (try simp only [List.length_set] at *); omega) | (cases h_; done) | (cases h_; first | rfl | simp))
theorem L11ab.leqR0_0 (L : Int) (j : Int) (l : Int) (n : Nat) (f : Nat → Int) (m : Nat) (g : Nat → Int) (a15 : Int) {b41 : Int} {xs : List Int} {a0_ : List Int} (h_ : L11ab.run L j l n f m g a15 b41 xs = (.e0 a0_ : L11ab.O)) : (a0_).length = (xs).length := L11ab.leq0_0 L j l n f m g a15 _ b41 xs a0_ h_
inductive L11a.O where
 | e0 (a0 : List Int)
noncomputable def L11a.T (L : Int) (j : Int) (l : Int) (n : Nat) (f : Nat → Int) (m : Nat) (g : Nat → Int) (V : Nat) (a15 : Int) (xs : List Int) : List AV := mkT 77 [(3, ivs n f), (5, AV.ptr 0 1 1 0 0), (6, AV.ptr 1 1 1 0 0), (13, AV.ptr 5 1 1 0 0), (14, AV.fn 33 [AV.ptr 0 1 1 0 0, AV.ptr 1 1 1 0 0, AV.ptr 5 1 1 0 0, AV.ptr 2 1 1 0 0, AV.ptr 3 1 1 0 0]), (15, iv a15)]
noncomputable def L11a.H (L : Int) (j : Int) (l : Int) (n : Nat) (f : Nat → Int) (m : Nat) (g : Nat → Int) (V : Nat) (a15 : Int) (xs : List Int) : AHeap := [AObj.var (iv L), AObj.var (iv j), AObj.var (iv l), AObj.var (ivs m g), AObj.row 1 V (Col.ints IntKind.i64 xs), AObj.var (AV.ms 4 V 1 0 V)]
def L11a.inv (L : Int) (j : Int) (l : Int) (n : Nat) (f : Nat → Int) (m : Nat) (g : Nat → Int) (V : Nat) (a15 : Int) (xs : List Int) : Prop := (-1 ≤ a15 ∧ a15 ≤ L - 1) ∧ xs.length = V
noncomputable def L11a.mu (L : Int) (j : Int) (l : Int) (n : Nat) (f : Nat → Int) (m : Nat) (g : Nat → Int) (V : Nat) (a15 : Int) (xs : List Int) : Nat := (a15 + 1).toNat
noncomputable def L11a.E : L11a.O → Exit
 | .e0 a0 => Exit.exit 0
noncomputable def L11a.X (L : Int) (j : Int) (l : Int) (n : Nat) (f : Nat → Int) (m : Nat) (g : Nat → Int) (V : Nat) : L11a.O → List AV
 | .e0 a0 => mkT 77 [(5, (AV.ptr 0 1 1 0 0)), (6, (AV.ptr 1 1 1 0 0)), (13, (AV.ptr 5 1 1 0 0))]
noncomputable def L11a.XH (L : Int) (j : Int) (l : Int) (n : Nat) (f : Nat → Int) (m : Nat) (g : Nat → Int) (V : Nat) : L11a.O → AHeap
 | .e0 a0 => ((AObj.var (iv L)) :: ((AObj.var (iv j)) :: ((AObj.var (iv l)) :: ((AObj.var (AV.sl 1 m fun (i : Nat) => iv (g i))) :: ((AObj.row 1 (V) (Col.ints IntKind.i64 a0)) :: ([AObj.var (AV.ms 4 V 1 0 V)]))))))
noncomputable def L11a.N (L : Int) (j : Int) (l : Int) (n : Nat) (f : Nat → Int) (m : Nat) (g : Nat → Int) : Nat → Int → (List Int) → L11a.O
 | 0, _, xs => .e0 xs
 | k_ + 1, a15, xs => (bif decide (a15 ≥ 0) then (match L11ab.run L j l n f m g a15 0 xs with | .e0 h2d0 => (L11a.N L j l n f m g k_ (IntKind.i64.wrap (a15 - 1)) (h2d0)) ) else (.e0 (xs)))
noncomputable def L11a.run (L : Int) (j : Int) (l : Int) (n : Nat) (f : Nat → Int) (m : Nat) (g : Nat → Int) (a15 : Int) (xs : List Int) : L11a.O := L11a.N L j l n f m g (((a15 + 1).toNat) + 1) a15 xs
theorem L11a.nx (L : Int) (j : Int) (l : Int) (n : Nat) (f : Nat → Int) (m : Nat) (g : Nat → Int) (V : Nat) {k_ : Nat} {z_ : Int × (List Int)} {h_ : AHeap} (s_ : Int × (List Int)) (h1 : L11a.inv L j l n f m g V s_.1 s_.2) (h2 : L11a.mu L j l n f m g V s_.1 s_.2 < L11a.mu L j l n f m g V z_.1 z_.2) (h3 : L11a.N L j l n f m g k_ s_.1 s_.2 = L11a.N L j l n f m g (k_ + 1) z_.1 z_.2) (h4 : PopOk (L11a.H L j l n f m g V z_.1 z_.2) h_ (L11a.T L j l n f m g V s_.1 s_.2) (L11a.H L j l n f m g V s_.1 s_.2)) : LNextP (fun (z_ : Int × (List Int)) => L11a.T L j l n f m g V z_.1 z_.2) (fun (z_ : Int × (List Int)) => L11a.H L j l n f m g V z_.1 z_.2) (fun (z_ : Int × (List Int)) => L11a.inv L j l n f m g V z_.1 z_.2) (fun (z_ : Int × (List Int)) => L11a.mu L j l n f m g V z_.1 z_.2) (fun (k_ : Nat) (z_ : Int × (List Int)) => L11a.N L j l n f m g k_ z_.1 z_.2) k_ z_ (L11a.T L j l n f m g V s_.1 s_.2) h_ := LNextP.mk s_ h1 h2 h3 h4
theorem L11a.en (L : Int) (j : Int) (l : Int) (n : Nat) (f : Nat → Int) (m : Nat) (g : Nat → Int) (V : Nat) {k_ : Nat} {z_ : Int × (List Int)} {h_ : AHeap} (o_ : L11a.O) (h3 : L11a.N L j l n f m g (k_ + 1) z_.1 z_.2 = o_) (h4 : PopOk (L11a.H L j l n f m g V z_.1 z_.2) h_ (L11a.X L j l n f m g V o_) (L11a.XH L j l n f m g V o_)) : LEndP (fun (z_ : Int × (List Int)) => L11a.H L j l n f m g V z_.1 z_.2) (fun (k_ : Nat) (z_ : Int × (List Int)) => L11a.N L j l n f m g k_ z_.1 z_.2) L11a.E (L11a.X L j l n f m g V) (L11a.XH L j l n f m g V) k_ z_ (L11a.E o_) (L11a.X L j l n f m g V o_) h_ := LEndP.mk o_ h3 h4
theorem L11a.spec (L : Int) (j : Int) (l : Int) (n : Nat) (f : Nat → Int) (hn : n ≤ 9223372036854775807) (m : Nat) (g : Nat → Int) (hm : m ≤ 9223372036854775807) (hk : LOk L j l n f m g) (V : Nat) (hV2 : V = (L + 1).toNat) (k_ : Nat) (z_ : Int × (List Int)) (hi_ : L11a.inv L j l n f m g V z_.1 z_.2) (hm_ : L11a.mu L j l n f m g V z_.1 z_.2 < k_) : LoopTo Try.prog (loopN Try.f11 0) (L11a.T L j l n f m g V z_.1 z_.2) (L11a.H L j l n f m g V z_.1 z_.2) (L11a.E (L11a.N L j l n f m g k_ z_.1 z_.2)) (L11a.X L j l n f m g V (L11a.N L j l n f m g k_ z_.1 z_.2)) (L11a.XH L j l n f m g V (L11a.N L j l n f m g k_ z_.1 z_.2)) := by
 refine LoopTo.fuelP mix (fun (z_ : Int × (List Int)) => L11a.T L j l n f m g V z_.1 z_.2) (fun (z_ : Int × (List Int)) => L11a.H L j l n f m g V z_.1 z_.2) (fun (z_ : Int × (List Int)) => L11a.inv L j l n f m g V z_.1 z_.2) (fun (z_ : Int × (List Int)) => L11a.mu L j l n f m g V z_.1 z_.2) (fun (k_ : Nat) (z_ : Int × (List Int)) => L11a.N L j l n f m g k_ z_.1 z_.2) L11a.E (L11a.X L j l n f m g V) (L11a.XH L j l n f m g V) (others 77 [3, 5, 6, 13, 14, 15]) (others 77 [10, 11]) (others 77 [5, 6, 13]) ?_ k_ z_ hi_ hm_
 clear hm_ hi_ z_ k_
 intro k_ z_ hinv hmu
 obtain ⟨a15, xs⟩ := z_
 have hinv : (-1 ≤ a15 ∧ a15 ≤ L - 1) ∧ xs.length = V := hinv
 have hmu : ((a15 + 1).toNat) < k_ + 1 := hmu
 cases h1 : decide (a15 ≥ 0) with
 | true =>
  have h1p := of_decide_eq_true h1
  try have := bd_len (by assumption)
  try have := bd_sz (by assumption) (by first | assumption | omega) (by first | assumption | omega)
  try have := L11ab.leqR0_0 _ _ _ _ _ _ _ _ (by assumption); (try simp only [List.length_replicate] at this)
  have o0 : n ≤ (9223372036854775807 : Nat) := by assumption
  have o1 : m ≤ (9223372036854775807 : Nat) := by assumption
  have o2 : LOk L j l n f m g := by assumption
  have o3 : V = (L + (1 : Int)).toNat := by assumption
  have o4 : (0 : Int) ≤ a15 := by assumption
  have o5 : a15 ≤ L - (1 : Int) := by omega
  have o6 : (0 : Int) ≤ (↑n : Int) := by omega
  have o7 : xs.length = V := by omega
  cases h2 : L11ab.run L j l n f m g a15 0 xs with
  | e0 h2d0 =>
   try have := bd_len (by assumption)
   try have := bd_sz (by assumption) (by first | assumption | omega) (by first | assumption | omega)
   try have := L11ab.leqR0_0 _ _ _ _ _ _ _ _ (by assumption); (try simp only [List.length_replicate] at this)
   try have := IntWalk.i64_in (a15 - 1) (by omega)
   have o8 : (-1 : Int) ≤ IntKind.i64.wrap (a15 - (1 : Int)) := by omega
   have o9 : IntKind.i64.wrap (a15 - (1 : Int)) ≤ L - (1 : Int) := by omega
   have o10 : h2d0.length = V := by omega
   have o11 : (IntKind.i64.wrap (a15 - (1 : Int)) + (1 : Int)).toNat < (a15 + (1 : Int)).toNat := by omega
   exact ⟨[.b true, .loop (others 77 [3, 5, 6, 13, 14, 15, 39, 40, 41]) (Exit.exit 2) (L11ab.X L j l n f m g V a15 (L11ab.O.e0 h2d0)) (L11ab.XH L j l n f m g V a15 (L11ab.O.e0 h2d0))], kmp (by kernel_rfl) (Ai h1 (Ai (L11ab.e0 (L) (j) (l) (n) (f) o0 (m) (g) o1 o2 (V) o3 (a15) o4 o5 (0) (xs) (Ai (Ai (show (0 : Int) ≤ (0 : Int) by decide) o6) o7) h2d0 h2) (L11a.nx L j l n f m g V (k_ := k_) (z_ := (a15, xs)) ((IntKind.i64.wrap (a15 - 1), h2d0)) (Ai (Ai o8 o9) o10) o11 (by simp only [L11a.N, h1, h2, cond_true, cond_false]) PopOk.same)))⟩
 | false =>
  have h1p := of_decide_eq_false h1
  exact ⟨[.b false], kmp (by kernel_rfl) (Ai h1 (L11a.en L j l n f m g V (k_ := k_) (z_ := (a15, xs)) (.e0 (xs) : L11a.O) (by simp only [L11a.N, h1, cond_true, cond_false]) PopOk.same))⟩
theorem L11a.e0 (L : Int) (j : Int) (l : Int) (n : Nat) (f : Nat → Int) (hn : n ≤ 9223372036854775807) (m : Nat) (g : Nat → Int) (hm : m ≤ 9223372036854775807) (hk : LOk L j l n f m g) (V : Nat) (hV2 : V = (L + 1).toNat) (a15 : Int) (xs : List Int) (hinv : L11a.inv L j l n f m g V a15 xs) (a0 : List Int) (hN : L11a.run L j l n f m g a15 xs = (.e0 a0 : L11a.O)) : LoopTo Try.prog (loopN Try.f11 0) (L11a.T L j l n f m g V a15 xs) (L11a.H L j l n f m g V a15 xs) (Exit.exit 0) (L11a.X L j l n f m g V (.e0 a0 : L11a.O)) (L11a.XH L j l n f m g V (.e0 a0 : L11a.O)) := by
 have h_ := L11a.spec L j l n f hn m g hm hk V hV2 (((a15 + 1).toNat) + 1) (a15, xs) hinv (Nat.lt_succ_self _)
 unfold L11a.run at hN
 simp only [hN] at h_
 exact h_
theorem L11a.leq0_0 (L : Int) (j : Int) (l : Int) (n : Nat) (f : Nat → Int) (m : Nat) (g : Nat → Int) : ∀ (m_ : Nat) (a15 : Int) (xs : List Int) (a0_ : List Int), L11a.N L j l n f m g m_ a15 xs = (.e0 a0_ : L11a.O) → (a0_).length = (xs).length := by
 intro m_
 induction m_ with
 | zero =>
  intro a15 xs a0_ h_
  simp only [L11a.N] at h_
  cases h_
  try rfl
 | succ m_ ih_ =>
  intro a15 xs a0_ h_
  cases h1 : decide (a15 ≥ 0) with
  | true =>
   have h1p := of_decide_eq_true h1
   cases h2 : L11ab.run L j l n f m g a15 0 xs with
   | e0 h2d0 =>
    (simp only [L11a.N, h1, h2, cond_true, cond_false] at h_; first | (have q_ := ih_ _ _ _ h_; (try have := L11ab.leqR0_0 _ _ _ _ _ _ _ _ (by assumption); (try simp only [List.length_replicate] at this)); (try simp only [List.length_set] at *); omega) | (cases h_; done) | (cases h_; first | rfl | simp))
  | false =>
   have h1p := of_decide_eq_false h1
   (simp only [L11a.N, h1, cond_true, cond_false] at h_; first | (have q_ := ih_ _ _ _ h_; (try have := L11ab.leqR0_0 _ _ _ _ _ _ _ _ (by assumption); (try simp only [List.length_replicate] at this)); (try simp only [List.length_set] at *); omega) | (cases h_; done) | (cases h_; first | rfl | simp))
theorem L11a.leqR0_0 (L : Int) (j : Int) (l : Int) (n : Nat) (f : Nat → Int) (m : Nat) (g : Nat → Int) {a15 : Int} {xs : List Int} {a0_ : List Int} (h_ : L11a.run L j l n f m g a15 xs = (.e0 a0_ : L11a.O)) : (a0_).length = (xs).length := L11a.leq0_0 L j l n f m g _ a15 xs a0_ h_
end Go.Proofs.Ytjdbmmilcihpoaa
open Go
namespace Go.Proofs.Ytjdbmmilcihpoaa
set_option linter.unusedSimpArgs false
set_option linter.unusedVariables false
set_option maxHeartbeats 0
set_option maxRecDepth 100000
/-- An anchor. -/
structure AD where
 fa : Int
 px : Int
 py : Int
 ed : Int
deriving Inhabited
def AD.av (s : AD) : AV := .agg [.int .i64 s.fa, .int .i64 s.px, .int .i64 s.py, .int .i64 s.ed]
@[simp] theorem low_ad (lo : Nat) (s : AD) : Low lo s.av = True := by unfold AD.av; simp
/-- A stone. -/
structure SD where
 nm : ByteArray
 sx : Int
 sy : Int
 sz : Int
 tl : Int
 ax : Int
 ay : Int
 az : Int
 co : Int
 bd : Int
 gr : ByteArray
 cl : Int
 pf : ByteArray
 am : Nat
 ag : Nat → AD
deriving Inhabited
def SD.av (s : SD) : AV := .agg [.str s.nm, .int .i64 s.sx, .int .i64 s.sy, .int .i64 s.sz, .int .i64 s.tl, .int .i64 s.ax, .int .i64 s.ay, .int .i64 s.az, .int .i64 s.co, .int .i64 s.bd, .str s.gr, .int .i64 s.cl, .str s.pf, .sl 4 s.am fun i => (s.ag i).av]
@[simp] theorem low_sd (lo : Nat) (s : SD) : Low lo s.av = True := by unfold SD.av; simp
def sds (n : Nat) (g : Nat → SD) : AV := .sl 14 n (fun i => (g i).av)
@[simp] theorem low_sds (lo n : Nat) (g : Nat → SD) : Low lo (sds n g) = True := by unfold sds; simp
/-- A wall. -/
structure WD where
 nm : ByteArray
 n : Nat
 g : Nat → SD
 lap : Int
 jl : Int
 jh : Int
 len : Int
deriving Inhabited
def WD.av (w : WD) : AV := .agg [.str w.nm, .sl 14 w.n (fun i => (w.g i).av), .int .i64 w.lap, .int .i64 w.jl, .int .i64 w.jh, .int .i64 w.len]
@[simp] theorem low_wd (lo : Nat) (w : WD) : Low lo w.av = True := by unfold WD.av; simp
noncomputable def r61.v (s : SD) : Int := IntKind.i64.wrap (s.ax + s.sx)
theorem r61 (s : SD) (h : AHeap) : Ret Try.prog 61 ([s.av]) h (iv (r61.v s)) h := by
 exact Ret.of_run1 mix [(iv (r61.v s))] Try.func61 rfl [] (by simp) (by simp) (kmp (by kernel_rfl) (Ai (show (iv (IntKind.i64.wrap (s.ax + s.sx))) = ((iv (r61.v s))) by first | (simp only [r61.v, cond_true, cond_false]; done) | (try unfold r61.v; try rfl; done) | rfl) trivial)) h
noncomputable def r53.v (s : SD) : Bool := (bif r51.v s.sx 1 1000000 then (bif r51.v s.sz 1 1000000 then (bif r51.v s.ax 0 1000000 then (bif r51.v s.az 0 1000000 then (bif r51.v s.tl 0 100 then r51.v s.co 0 99 else false) else false) else false) else false) else false)
noncomputable abbrev r53.h0 (s : SD) : AHeap := ([AObj.var (AV.agg [AV.str s.nm, iv s.sx, iv s.sy, iv s.sz, iv s.tl, iv s.ax, iv s.ay, iv s.az, iv s.co, iv s.bd, AV.str s.gr, iv s.cl, AV.str s.pf, AV.sl 4 s.am fun (i : Nat) => AV.agg [iv (s.ag i).fa, iv (s.ag i).px, iv (s.ag i).py, iv (s.ag i).ed]])])
theorem r53 (s : SD) (h : AHeap) : Ret Try.prog 53 ([s.av]) h (AV.bool (r53.v s)) h := by
 cases h1 : r51.v s.sx 1 1000000 with
 | true =>
  cases h2 : r51.v s.sz 1 1000000 with
  | true =>
   cases h3 : r51.v s.ax 0 1000000 with
   | true =>
    cases h4 : r51.v s.az 0 1000000 with
    | true =>
     cases h5 : r51.v s.tl 0 100 with
     | true =>
      exact Ret.of_run1 mix [(AV.bool (r53.v s))] Try.func53 rfl [.ret (AV.bool (r51.v s.sx 1 1000000)) (r53.h0 s), .b true, .b true, .b true, .b true, .ret (AV.bool (r51.v s.sz 1 1000000)) (r53.h0 s), .b true, .b true, .b true, .b true, .b true, .ret (AV.bool (r51.v s.ax 0 1000000)) (r53.h0 s), .b true, .b true, .b true, .b true, .b true, .ret (AV.bool (r51.v s.az 0 1000000)) (r53.h0 s), .b true, .b true, .b true, .b true, .ret (AV.bool (r51.v s.tl 0 100)) (r53.h0 s), .b true, .b true, .b true, .b true, .ret (AV.bool (r51.v s.co 0 99)) (r53.h0 s), .b true] (by simp) (by simp) (kmp (by kernel_rfl) (Ai (r51 (s.sx) (1) (1000000) (r53.h0 s)) (Ai h1 (Ai h1 (Ai h1 (Ai h1 (Ai (r51 (s.sz) (1) (1000000) (r53.h0 s)) (Ai h1 (Ai h2 (Ai h2 (Ai h2 (Ai h2 (Ai (r51 (s.ax) (0) (1000000) (r53.h0 s)) (Ai h2 (Ai h3 (Ai h3 (Ai h3 (Ai h3 (Ai (r51 (s.az) (0) (1000000) (r53.h0 s)) (Ai h3 (Ai h4 (Ai h4 (Ai h4 (Ai (r51 (s.tl) (0) (100) (r53.h0 s)) (Ai h4 (Ai h5 (Ai h5 (Ai h5 (Ai (r51 (s.co) (0) (99) (r53.h0 s)) (Ai h5 (Ai (show (AV.bool (r51.v s.co 0 99)) = ((AV.bool (r53.v s))) by first | (simp only [r53.v, h1, h2, h3, h4, h5, cond_true, cond_false]; done) | (try unfold r53.v; try simp only [h1, cond_true, cond_false]; try simp only [h2, cond_true, cond_false]; try simp only [h3, cond_true, cond_false]; try simp only [h4, cond_true, cond_false]; try simp only [h5, cond_true, cond_false]; try rfl; done) | rfl) trivial))))))))))))))))))))))))))))))) h
     | false =>
      exact Ret.of_run1 mix [(AV.bool (r53.v s))] Try.func53 rfl [.ret (AV.bool (r51.v s.sx 1 1000000)) (r53.h0 s), .b true, .b true, .b true, .b true, .ret (AV.bool (r51.v s.sz 1 1000000)) (r53.h0 s), .b true, .b true, .b true, .b true, .b true, .ret (AV.bool (r51.v s.ax 0 1000000)) (r53.h0 s), .b true, .b true, .b true, .b true, .b true, .ret (AV.bool (r51.v s.az 0 1000000)) (r53.h0 s), .b true, .b true, .b true, .b true, .ret (AV.bool (r51.v s.tl 0 100)) (r53.h0 s), .b true, .b false, .b false, .b false, .b false] (by simp) (by simp) (kmp (by kernel_rfl) (Ai (r51 (s.sx) (1) (1000000) (r53.h0 s)) (Ai h1 (Ai h1 (Ai h1 (Ai h1 (Ai (r51 (s.sz) (1) (1000000) (r53.h0 s)) (Ai h1 (Ai h2 (Ai h2 (Ai h2 (Ai h2 (Ai (r51 (s.ax) (0) (1000000) (r53.h0 s)) (Ai h2 (Ai h3 (Ai h3 (Ai h3 (Ai h3 (Ai (r51 (s.az) (0) (1000000) (r53.h0 s)) (Ai h3 (Ai h4 (Ai h4 (Ai h4 (Ai (r51 (s.tl) (0) (100) (r53.h0 s)) (Ai h4 (Ai h5 (Ai h5 (Ai h5 (Ai h5 (Ai (show (AV.bool false) = ((AV.bool (r53.v s))) by first | (simp only [r53.v, h1, h2, h3, h4, h5, cond_true, cond_false]; done) | (try unfold r53.v; try simp only [h1, cond_true, cond_false]; try simp only [h2, cond_true, cond_false]; try simp only [h3, cond_true, cond_false]; try simp only [h4, cond_true, cond_false]; try simp only [h5, cond_true, cond_false]; try rfl; done) | rfl) trivial)))))))))))))))))))))))))))))) h
    | false =>
     exact Ret.of_run1 mix [(AV.bool (r53.v s))] Try.func53 rfl [.ret (AV.bool (r51.v s.sx 1 1000000)) (r53.h0 s), .b true, .b true, .b true, .b true, .ret (AV.bool (r51.v s.sz 1 1000000)) (r53.h0 s), .b true, .b true, .b true, .b true, .b true, .ret (AV.bool (r51.v s.ax 0 1000000)) (r53.h0 s), .b true, .b true, .b true, .b true, .b true, .ret (AV.bool (r51.v s.az 0 1000000)) (r53.h0 s), .b true, .b false, .b false, .b false, .b false, .b false, .b false, .b false, .b false] (by simp) (by simp) (kmp (by kernel_rfl) (Ai (r51 (s.sx) (1) (1000000) (r53.h0 s)) (Ai h1 (Ai h1 (Ai h1 (Ai h1 (Ai (r51 (s.sz) (1) (1000000) (r53.h0 s)) (Ai h1 (Ai h2 (Ai h2 (Ai h2 (Ai h2 (Ai (r51 (s.ax) (0) (1000000) (r53.h0 s)) (Ai h2 (Ai h3 (Ai h3 (Ai h3 (Ai h3 (Ai (r51 (s.az) (0) (1000000) (r53.h0 s)) (Ai h3 (Ai h4 (Ai h4 (Ai h4 (Ai h4 (Ai (rfl : false = false) (Ai (rfl : false = false) (Ai (rfl : false = false) (Ai (rfl : false = false) (Ai (show (AV.bool false) = ((AV.bool (r53.v s))) by first | (simp only [r53.v, h1, h2, h3, h4, cond_true, cond_false]; done) | (try unfold r53.v; try simp only [h1, cond_true, cond_false]; try simp only [h2, cond_true, cond_false]; try simp only [h3, cond_true, cond_false]; try simp only [h4, cond_true, cond_false]; try rfl; done) | rfl) trivial))))))))))))))))))))))))))))) h
   | false =>
    exact Ret.of_run1 mix [(AV.bool (r53.v s))] Try.func53 rfl [.ret (AV.bool (r51.v s.sx 1 1000000)) (r53.h0 s), .b true, .b true, .b true, .b true, .ret (AV.bool (r51.v s.sz 1 1000000)) (r53.h0 s), .b true, .b true, .b true, .b true, .b true, .ret (AV.bool (r51.v s.ax 0 1000000)) (r53.h0 s), .b true, .b false, .b false, .b false, .b false, .b false, .b false, .b false, .b false, .b false, .b false, .b false, .b false, .b false] (by simp) (by simp) (kmp (by kernel_rfl) (Ai (r51 (s.sx) (1) (1000000) (r53.h0 s)) (Ai h1 (Ai h1 (Ai h1 (Ai h1 (Ai (r51 (s.sz) (1) (1000000) (r53.h0 s)) (Ai h1 (Ai h2 (Ai h2 (Ai h2 (Ai h2 (Ai (r51 (s.ax) (0) (1000000) (r53.h0 s)) (Ai h2 (Ai h3 (Ai h3 (Ai h3 (Ai h3 (Ai h3 (Ai (rfl : false = false) (Ai (rfl : false = false) (Ai (rfl : false = false) (Ai (rfl : false = false) (Ai (rfl : false = false) (Ai (rfl : false = false) (Ai (rfl : false = false) (Ai (rfl : false = false) (Ai (show (AV.bool false) = ((AV.bool (r53.v s))) by first | (simp only [r53.v, h1, h2, h3, cond_true, cond_false]; done) | (try unfold r53.v; try simp only [h1, cond_true, cond_false]; try simp only [h2, cond_true, cond_false]; try simp only [h3, cond_true, cond_false]; try rfl; done) | rfl) trivial)))))))))))))))))))))))))))) h
  | false =>
   exact Ret.of_run1 mix [(AV.bool (r53.v s))] Try.func53 rfl [.ret (AV.bool (r51.v s.sx 1 1000000)) (r53.h0 s), .b true, .b true, .b true, .b true, .ret (AV.bool (r51.v s.sz 1 1000000)) (r53.h0 s), .b true, .b false, .b false, .b false, .b false, .b false, .b false, .b false, .b false, .b false, .b false, .b false, .b false, .b false, .b false, .b false, .b false, .b false, .b false] (by simp) (by simp) (kmp (by kernel_rfl) (Ai (r51 (s.sx) (1) (1000000) (r53.h0 s)) (Ai h1 (Ai h1 (Ai h1 (Ai h1 (Ai (r51 (s.sz) (1) (1000000) (r53.h0 s)) (Ai h1 (Ai h2 (Ai h2 (Ai h2 (Ai h2 (Ai h2 (Ai (rfl : false = false) (Ai (rfl : false = false) (Ai (rfl : false = false) (Ai (rfl : false = false) (Ai (rfl : false = false) (Ai (rfl : false = false) (Ai (rfl : false = false) (Ai (rfl : false = false) (Ai (rfl : false = false) (Ai (rfl : false = false) (Ai (rfl : false = false) (Ai (rfl : false = false) (Ai (rfl : false = false) (Ai (show (AV.bool false) = ((AV.bool (r53.v s))) by first | (simp only [r53.v, h1, h2, cond_true, cond_false]; done) | (try unfold r53.v; try simp only [h1, cond_true, cond_false]; try simp only [h2, cond_true, cond_false]; try rfl; done) | rfl) trivial))))))))))))))))))))))))))) h
 | false =>
  exact Ret.of_run1 mix [(AV.bool (r53.v s))] Try.func53 rfl [.ret (AV.bool (r51.v s.sx 1 1000000)) (r53.h0 s), .b false, .b false, .b false, .b false, .b false, .b false, .b false, .b false, .b false, .b false, .b false, .b false, .b false, .b false, .b false, .b false, .b false, .b false, .b false, .b false, .b false, .b false, .b false] (by simp) (by simp) (kmp (by kernel_rfl) (Ai (r51 (s.sx) (1) (1000000) (r53.h0 s)) (Ai h1 (Ai h1 (Ai h1 (Ai h1 (Ai h1 (Ai (rfl : false = false) (Ai (rfl : false = false) (Ai (rfl : false = false) (Ai (rfl : false = false) (Ai (rfl : false = false) (Ai (rfl : false = false) (Ai (rfl : false = false) (Ai (rfl : false = false) (Ai (rfl : false = false) (Ai (rfl : false = false) (Ai (rfl : false = false) (Ai (rfl : false = false) (Ai (rfl : false = false) (Ai (rfl : false = false) (Ai (rfl : false = false) (Ai (rfl : false = false) (Ai (rfl : false = false) (Ai (rfl : false = false) (Ai (show (AV.bool false) = ((AV.bool (r53.v s))) by first | (simp only [r53.v, h1, cond_true, cond_false]; done) | (try unfold r53.v; try simp only [h1, cond_true, cond_false]; try rfl; done) | rfl) trivial)))))))))))))))))))))))))) h
noncomputable def r52.v (s : SD) : Bool := bnot (r53.v s)
theorem r52 (s : SD) (h : AHeap) : Ret Try.prog 52 ([s.av]) h (AV.bool (r52.v s)) h := by
 exact Ret.of_run1 mix [(AV.bool (r52.v s))] Try.func52 rfl [.ret (AV.bool (r53.v s)) ([AObj.var (AV.agg [AV.str s.nm, iv s.sx, iv s.sy, iv s.sz, iv s.tl, iv s.ax, iv s.ay, iv s.az, iv s.co, iv s.bd, AV.str s.gr, iv s.cl, AV.str s.pf, AV.sl 4 s.am fun (i : Nat) => AV.agg [iv (s.ag i).fa, iv (s.ag i).px, iv (s.ag i).py, iv (s.ag i).ed]])])] (by simp) (by simp) (kmp (by kernel_rfl) (Ai (r53 (s) ([AObj.var (AV.agg [AV.str s.nm, iv s.sx, iv s.sy, iv s.sz, iv s.tl, iv s.ax, iv s.ay, iv s.az, iv s.co, iv s.bd, AV.str s.gr, iv s.cl, AV.str s.pf, AV.sl 4 s.am fun (i : Nat) => AV.agg [iv (s.ag i).fa, iv (s.ag i).px, iv (s.ag i).py, iv (s.ag i).ed]])])) (Ai (show (AV.bool (bnot (r53.v s))) = ((AV.bool (r52.v s))) by first | (simp only [r52.v, cond_true, cond_false]; done) | (try unfold r52.v; try rfl; done) | rfl) trivial))) h
end Go.Proofs.Ytjdbmmilcihpoaa
open Go
namespace Go.Proofs.Ytjdbmmilcihpoaa
open Go.ChangeShapes Go.WideShapes Go.ChangeAt Go.RowKit
set_option maxRecDepth 100000
theorem lf_anchor {P : Program} {cs : List AV} (h : LfFits P [.int .i64, .int .i64, .int .i64, .int .i64] cs) : ∃ s : AD, ImpL cs s.av.cells := by
 obtain ⟨a1, _, rfl, _, a2, _, rfl, _, a3, _, rfl, _, a4, _, rfl, _, rfl⟩ := h
 exact ⟨⟨a1, a2, a3, a4⟩, .refl _⟩
/-- A stone with a name that fits into memory. -/
abbrev SDf : Type := { s : SD // s.nm.size ≤ 9223372036854775807 }
instance : Inhabited SDf := ⟨⟨⟨ByteArray.empty, 0, 0, 0, 0, 0, 0, 0, 0, 0, ByteArray.empty, 0, ByteArray.empty, 0, fun _ => default⟩, by decide⟩⟩
theorem flatA : flat Try.prog 4 143 = some [.int .i64, .int .i64, .int .i64, .int .i64] := by kernel_rfl
theorem flatS : flat Try.prog 6 51 = some [.str, .int .i64, .int .i64, .int .i64, .int .i64, .int .i64, .int .i64, .int .i64, .int .i64, .int .i64, .str, .int .i64, .str, .sl 4 143 4] := by kernel_rfl
theorem flatW : flat Try.prog 8 36 = some [.str, .sl 6 51 14, .int .i64, .int .i64, .int .i64, .int .i64] := by kernel_rfl
theorem lf_stone {cs : List AV} (h : LfFits Try.prog [.str, .int .i64, .int .i64, .int .i64, .int .i64, .int .i64, .int .i64, .int .i64, .int .i64, .int .i64, .str, .int .i64, .str, .sl 4 143 4] cs) : ∃ s : SDf, ImpL cs s.1.av.cells := by
 obtain ⟨nm, _, rfl, h1, a1, _, rfl, _, a2, _, rfl, _, a3, _, rfl, _, a4, _, rfl, _, a5, _, rfl, _, a6, _, rfl, _, a7, _, rfl, _, a8, _, rfl, _, a9, _, rfl, _, gr, _, rfl, _, cl, _, rfl, _, pf, _, rfl, _, m, f, _, rfl, _, hf, rfl⟩ := h
 obtain ⟨g, hg⟩ := imp_structs (D := AD) (fun s => s.av) (sz := 4) flatA (fun cs hc => lf_anchor hc) hf
 exact ⟨⟨⟨nm, a1, a2, a3, a4, a5, a6, a7, a8, a9, gr, cl, pf, m, g⟩, le_max h1⟩, .cons (.refl _) (.cons (.refl _) (.cons (.refl _) (.cons (.refl _) (.cons (.refl _) (.cons (.refl _) (.cons (.refl _) (.cons (.refl _) (.cons (.refl _) (.cons (.refl _) (.cons (.refl _) (.cons (.refl _) (.cons (.refl _) (.cons hg .nil)))))))))))))⟩
theorem arg_wall {a : AV} (h : FitsV Try.prog 8 36 a) : ∃ w : WD, w.n ≤ 9223372036854775807 ∧ w.nm.size ≤ 9223372036854775807 ∧ (∀ i, (w.g i).nm.size ≤ 9223372036854775807) ∧ Imp a w.av := by
 obtain ⟨cs, e, h⟩ := fitsV_struct (by kernel_rfl) flatW h
 rw [e]
 obtain ⟨nm, _, rfl, h1, n, f, _, rfl, hn, hf, a1, _, rfl, _, a2, _, rfl, _, a3, _, rfl, _, a4, _, rfl, _, rfl⟩ := h
 obtain ⟨g, hg⟩ := imp_structs (D := SDf) (fun s => s.1.av) (sz := 14) flatS (fun cs hc => lf_stone hc) hf
 exact ⟨⟨nm, n, fun i => (g i).1, a1, a2, a3, a4⟩, le_max hn, le_max h1, fun i => (g i).2, .agg (.cons (.refl _) (.cons hg (.cons (.refl _) (.cons (.refl _) (.cons (.refl _) (.cons (.refl _) .nil))))))⟩
theorem arg_num {a : AV} (h : FitsV Try.prog 8 3 a) : ∃ n, a = .int .i64 n ∧ -9223372036854775808 ≤ n ∧ n ≤ 9223372036854775807 := by
 obtain ⟨n, _, e, hw, rfl⟩ := fitsV_one (by kernel_rfl) (by kernel_rfl : flat Try.prog 8 3 = some [.int .i64]) h
 cases e
 simp only [Lit.wf, Bool.and_eq_true, decide_eq_true_eq] at hw
 exact ⟨n, rfl, hw.1, hw.2⟩
theorem arg_str {a : AV} (h : FitsV Try.prog 8 9 a) : ∃ s : ByteArray, a = .str s ∧ s.size ≤ 9223372036854775807 := by
 obtain ⟨s, _, e, h1, rfl⟩ := fitsV_one (by kernel_rfl) (by kernel_rfl : flat Try.prog 8 9 = some [.str]) h
 cases e
 exact ⟨s, rfl, le_max h1⟩
end Go.Proofs.Ytjdbmmilcihpoaa
open Go
namespace Go.Proofs.Ytjdbmmilcihpoaa
set_option linter.unusedVariables false
set_option linter.unusedSimpArgs false
def tabL : List Int :=
 List.replicate 40 0 ++ [4, 4, 0, 4, 4, 0, 0, 4] ++ List.replicate 10 2 ++ [4, 0, 4, 4, 4, 0, 0] ++ List.replicate 26 1 ++ [0, 0, 0, 0, 3, 0] ++ List.replicate 26 1 ++ List.replicate 133 0
def tab : AV := .agg (tabL.map (.int .u8))
set_option maxHeartbeats 0
theorem r96 (h : AHeap) : Ret Try.prog 96 [] h tab h :=
 (interp_sound mix (c0 := fun _ _ _ => none) (fun _ _ _ _ _ h => by cases h) 300 96 [] [] tab [] (by kernel_rfl)).frame (by simp) h
def c96 : CallF := fun g args h => match Nat.beq g 96, args with
 | true, [] => some (tab, h)
 | _, _ => none
theorem c96_ok : CallOk Try.prog c96 := by
 intro g args h r h' hc
 unfold c96 at hc
 split at hc
 · rename_i hg
   cases Nat.eq_of_beq_eq_true hg
   cases hc
   exact r96 h
 · cases hc
def wallW : AV := .agg [.str (ByteArray.mk #[119]), .snil, .int .i64 0, .int .i64 0, .int .i64 0, .int .i64 5]
theorem c24w (h : AHeap) : Ret Try.prog 24 [wallW] h (.int .i64 0) h :=
 (interp_sound mix c96_ok 300 24 [wallW] [] (.int .i64 0) [] (by kernel_rfl)).frame (by simp [wallW]) h
end Go.Proofs.Ytjdbmmilcihpoaa
open Go
namespace Go.Proofs.Ytjdbmmilcihpoaa
set_option linter.unusedVariables false
set_option linter.unusedSimpArgs false
set_option maxRecDepth 100000
set_option maxHeartbeats 0
/-- Whether a byte may stand within a name. -/
def inB (c : Int) : Bool := (decide (48 ≤ c) && decide (c ≤ 57)) || (decide (65 ≤ c) && decide (c ≤ 90)) || c == 95 || (decide (97 ≤ c) && decide (c ≤ 122))
def isB : Option (AV × AHeap) → Bool → Bool
 | some (.bool b, []), q => b == q
 | _, _ => false
theorem isB_spec {o : Option (AV × AHeap)} {q : Bool} (h : isB o q = true) : o = some (.bool q, []) := by
 unfold isB at h
 split at h
 · rw [eq_of_beq h]
 · cases h
theorem inner_all : ((List.range 256).all fun c => isB (interp Try.prog c96 300 76 [.int .u8 (c : Int)] []) (inB (c : Int))) = true := by kernel_rfl
theorem r76 (c : Int) (h0 : 0 ≤ c) (h1 : c ≤ 255) (h : AHeap) : Ret Try.prog 76 [AV.int .u8 c] h (.bool (inB c)) h := by
 obtain ⟨n, rfl⟩ := Int.eq_ofNat_of_zero_le h0
 have hn : n < 256 := by omega
 have := isB_spec (List.all_eq_true.1 inner_all n (List.mem_range.2 hn))
 exact (interp_sound mix c96_ok 300 76 _ [] _ [] this).frame (by simp) h
end Go.Proofs.Ytjdbmmilcihpoaa
open Go
namespace Go.Proofs.Ytjdbmmilcihpoaa
set_option linter.unusedSimpArgs false
set_option linter.unusedVariables false
set_option maxHeartbeats 0
set_option maxRecDepth 100000
inductive L44a.O where
 | e0 (a0 : Int)
noncomputable def L44a.T (w : WD) (a3 : Int) (a14 : Int) : List AV := mkT 56 [(1, AV.ptr 0 1 6 0 0), (3, iv a3), (12, AV.sl 14 w.n fun (i : Nat) => (w.g i).av), (13, iv (↑w.n : Int)), (14, iv a14)]
noncomputable def L44a.H (w : WD) (a3 : Int) (a14 : Int) : AHeap := [AObj.var w.av]
def L44a.inv (w : WD) (a3 : Int) (a14 : Int) : Prop := 0 ≤ a14 ∧ a14 ≤ (↑w.n : Int)
noncomputable def L44a.mu (w : WD) (a3 : Int) (a14 : Int) : Nat := ((↑w.n : Int) - a14).toNat
noncomputable def L44a.E : L44a.O → Exit
 | .e0 a0 => Exit.exit 0
noncomputable def L44a.X (w : WD) : L44a.O → List AV
 | .e0 a0 => mkT 56 [(1, (AV.ptr 0 1 6 0 0)), (3, (iv a0))]
noncomputable def L44a.XH (w : WD) : L44a.O → AHeap
 | .e0 a0 => ([AObj.var (WD.av w)])
noncomputable def L44a.N (w : WD) : Nat → Int → Int → L44a.O
 | 0, a3, _ => .e0 a3
 | k_ + 1, a3, a14 => (bif decide (a14 < (↑w.n : Int)) then (L44a.N w k_ (if (w.g a14.toNat).co > a3 then (w.g a14.toNat).co else a3) (IntKind.i64.wrap (a14 + 1))) else (.e0 (a3)))
noncomputable def L44a.run (w : WD) (a3 : Int) (a14 : Int) : L44a.O := L44a.N w ((((↑w.n : Int) - a14).toNat) + 1) a3 a14
theorem L44a.nx (w : WD) {k_ : Nat} {z_ : Int × Int} {h_ : AHeap} (s_ : Int × Int) (h1 : L44a.inv w s_.1 s_.2) (h2 : L44a.mu w s_.1 s_.2 < L44a.mu w z_.1 z_.2) (h3 : L44a.N w k_ s_.1 s_.2 = L44a.N w (k_ + 1) z_.1 z_.2) (h4 : PopOk (L44a.H w z_.1 z_.2) h_ (L44a.T w s_.1 s_.2) (L44a.H w s_.1 s_.2)) : LNextP (fun (z_ : Int × Int) => L44a.T w z_.1 z_.2) (fun (z_ : Int × Int) => L44a.H w z_.1 z_.2) (fun (z_ : Int × Int) => L44a.inv w z_.1 z_.2) (fun (z_ : Int × Int) => L44a.mu w z_.1 z_.2) (fun (k_ : Nat) (z_ : Int × Int) => L44a.N w k_ z_.1 z_.2) k_ z_ (L44a.T w s_.1 s_.2) h_ := LNextP.mk s_ h1 h2 h3 h4
theorem L44a.en (w : WD) {k_ : Nat} {z_ : Int × Int} {h_ : AHeap} (o_ : L44a.O) (h3 : L44a.N w (k_ + 1) z_.1 z_.2 = o_) (h4 : PopOk (L44a.H w z_.1 z_.2) h_ (L44a.X w o_) (L44a.XH w o_)) : LEndP (fun (z_ : Int × Int) => L44a.H w z_.1 z_.2) (fun (k_ : Nat) (z_ : Int × Int) => L44a.N w k_ z_.1 z_.2) L44a.E (L44a.X w) (L44a.XH w) k_ z_ (L44a.E o_) (L44a.X w o_) h_ := LEndP.mk o_ h3 h4
theorem L44a.spec (w : WD) (hn : w.n ≤ 9223372036854775807) (k_ : Nat) (z_ : Int × Int) (hi_ : L44a.inv w z_.1 z_.2) (hm_ : L44a.mu w z_.1 z_.2 < k_) : LoopTo Try.prog (loopN Try.f44 0) (L44a.T w z_.1 z_.2) (L44a.H w z_.1 z_.2) (L44a.E (L44a.N w k_ z_.1 z_.2)) (L44a.X w (L44a.N w k_ z_.1 z_.2)) (L44a.XH w (L44a.N w k_ z_.1 z_.2)) := by
 refine LoopTo.fuelP mix (fun (z_ : Int × Int) => L44a.T w z_.1 z_.2) (fun (z_ : Int × Int) => L44a.H w z_.1 z_.2) (fun (z_ : Int × Int) => L44a.inv w z_.1 z_.2) (fun (z_ : Int × Int) => L44a.mu w z_.1 z_.2) (fun (k_ : Nat) (z_ : Int × Int) => L44a.N w k_ z_.1 z_.2) L44a.E (L44a.X w) (L44a.XH w) (others 56 [1, 3, 12, 13, 14]) (others 56 [2]) (others 56 [1, 3]) ?_ k_ z_ hi_ hm_
 clear hm_ hi_ z_ k_
 intro k_ z_ hinv hmu
 obtain ⟨a3, a14⟩ := z_
 have hinv : 0 ≤ a14 ∧ a14 ≤ (↑w.n : Int) := hinv
 have hmu : (((↑w.n : Int) - a14).toNat) < k_ + 1 := hmu
 cases h1 : decide (a14 < (↑w.n : Int)) with
 | true =>
  have h1p := of_decide_eq_true h1
  have o0 : (0 : Int) ≤ a14 := by first | assumption | omega | (simp_all; done)
  have o1 : a14 < (↑w.n : Int) := by first | assumption | omega | (simp_all; done)
  try have := IntWalk.i64_in (a14 + 1) (by omega)
  have o2 : (0 : Int) ≤ IntKind.i64.wrap (a14 + (1 : Int)) := by first | assumption | omega | (simp_all; done)
  have o3 : IntKind.i64.wrap (a14 + (1 : Int)) ≤ (↑w.n : Int) := by first | assumption | omega | (simp_all; done)
  have o4 : ((↑w.n : Int) - IntKind.i64.wrap (a14 + (1 : Int))).toNat < ((↑w.n : Int) - a14).toNat := by first | assumption | omega | (simp_all; done)
  exact ⟨[.b true], kmp (by kernel_rfl) (Ai h1 (Ai (Ai o0 o1) (L44a.nx w (k_ := k_) (z_ := (a3, a14)) (h_ := [AObj.var (WD.av w), AObj.var ((SD.av (w.g a14.toNat)))]) ((if (w.g a14.toNat).co > a3 then (w.g a14.toNat).co else a3, IntKind.i64.wrap (a14 + 1))) (Ai o2 o3) o4 (by first | (simp only [L44a.N, h1, cond_true, cond_false]; done) | (try unfold L44a.N; try simp only [h1, cond_true, cond_false]; try rfl; done)) (PopOk.pop rfl (by simp [L44a.T, L44a.X, L44a.H, L44a.XH])))))⟩
 | false =>
  have h1p := of_decide_eq_false h1
  exact ⟨[.b false], kmp (by kernel_rfl) (Ai h1 (L44a.en w (k_ := k_) (z_ := (a3, a14)) (.e0 (a3) : L44a.O) (by first | (simp only [L44a.N, h1, cond_true, cond_false]; done) | (try unfold L44a.N; try simp only [h1, cond_true, cond_false]; try rfl; done)) PopOk.same))⟩
theorem L44a.e0 (w : WD) (hn : w.n ≤ 9223372036854775807) (a3 : Int) (a14 : Int) (hinv : L44a.inv w a3 a14) (a0 : Int) (hN : L44a.run w a3 a14 = (.e0 a0 : L44a.O)) : LoopTo Try.prog (loopN Try.f44 0) (L44a.T w a3 a14) (L44a.H w a3 a14) (Exit.exit 0) (L44a.X w (.e0 a0 : L44a.O)) (L44a.XH w (.e0 a0 : L44a.O)) := by
 have h_ := L44a.spec w hn ((((↑w.n : Int) - a14).toNat) + 1) (a3, a14) hinv (Nat.lt_succ_self _)
 unfold L44a.run at hN
 simp only [hN] at h_
 exact h_
end Go.Proofs.Ytjdbmmilcihpoaa
open Go
namespace Go.Proofs.Ytjdbmmilcihpoaa
set_option maxHeartbeats 0
set_option maxRecDepth 100000
set_option linter.unusedVariables false
set_option linter.unusedSimpArgs false
noncomputable def noOp : Oper := { dst := none, op := .move (.const Go.undef), type := 0, pos := "", after := #[], guard := none }
noncomputable def regOps : Code → Nat → Option (Array Oper)
 | .region i ops _, n => match Nat.beq i n with | true => some ops | false => none
 | .seq x y, n => match regOps x n with | some a => some a | none => regOps y n
 | .cond _ x y, n => match regOps x n with | some a => some a | none => regOps y n
 | .block _ c, n => regOps c n
 | .loop c, n => regOps c n
 | .scope c, n => regOps c n
 | _, _ => none
noncomputable def RG (fn : Func) (n : Nat) : Array Oper := match regOps (bodyOf fn) n with | some a => a | none => #[]
noncomputable def opN (n k : Nat) : Oper := (RG Try.f44 n).toList.getD k noOp
theorem body1 : loopN Try.f44 1 = .seq (.region 9 (RG Try.f44 9) false) (.seq (.cond (.tmp 30) .skip (.exit 2)) (.seq (.block 3 (.seq (.region 10 (RG Try.f44 10) false) (.region 11 (RG Try.f44 11) true))) (.region 12 (RG Try.f44 12) false))) := by kernel_rfl
theorem ops10 : (RG Try.f44 10).toList = [opN 10 0, opN 10 1, opN 10 2, opN 10 3] := by kernel_rfl
theorem ops11 : (RG Try.f44 11).toList = [opN 11 0, opN 11 1, opN 11 2, opN 11 3, opN 11 4, opN 11 5, opN 11 6, opN 11 7, opN 11 8, opN 11 9, opN 11 10, opN 11 11, opN 11 12] := by kernel_rfl
/-- The stones of a course among the first i ones. -/
noncomputable def crs (g : Nat → SD) (k : Nat) : Nat → List SD
 | 0 => []
 | i + 1 => if (g i).co = (k : Int) then crs g k i ++ [g i] else crs g k i
abbrev bigH (w : WD) (N : Nat) (L : Nat → List SD) : AHeap := nestH [.var w.av] 14 SD.av N L
noncomputable def T1 (w : WD) (N i : Nat) : List AV := mkT 56 [(6, .ms 1 N 1 0 N), (27, .sl 14 w.n fun i => (w.g i).av), (28, .int .i64 (w.n : Int)), (29, .int .i64 (i : Int))]
theorem zero51 : zeroV Try.prog 51 = some (.agg [.str ByteArray.empty, .int .i64 0, .int .i64 0, .int .i64 0, .int .i64 0, .int .i64 0, .int .i64 0, .int .i64 0, .int .i64 0, .int .i64 0, .str ByteArray.empty, .int .i64 0, .str ByteArray.empty, .snil]) := by kernel_rfl
section
variable {w : WD} {N i : Nat} {L : Nat → List SD}
/-- The temporaries behind region 10. -/
noncomputable def T10 (w : WD) (N i : Nat) : List AV := mkT 56 [(6, .ms 1 N 1 0 N), (8, .ptr (1 + 1 + N) 1 14 0 0), (27, .sl 14 w.n fun i => (w.g i).av), (28, .int .i64 (w.n : Int)), (29, .int .i64 (i : Int)), (30, .bool true), (31, .pp (w.g i).av.cells), (32, (w.g i).av)]
theorem reg10 (hi : i < w.n) : WPC Try.prog (.region 10 (RG Try.f44 10) false) ((T1 w N i).set 30 (.bool true)) (bigH w N L) fun e T h => e = .normal ∧ T = T10 w N i ∧ h = bigH w N L ++ [.var (w.g i).av] := by
 refine WPC.region (ds := []) (K := fun T h _ => T = T10 w N i ∧ h = bigH w N L ++ [.var (w.g i).av]) ?_ fun T h ds hk => ⟨rfl, hk.1, hk.2⟩
 rw [ops10]
 have hlen : (bigH w N L).length = 1 + 1 + N := nestH_len _ _ _ _ _
 refine runOps_step (cs := [0 ≤ (i : Int) ∧ (i : Int) < (w.n : Int)]) (v := .pp (w.g i).av.cells) (h' := bigH w N L) (ds' := []) (by kernel_rfl) (by kernel_rfl) (fun c hc => by simp only [List.mem_singleton] at hc; subst hc; omega) ?_
 refine runOps_step (cs := []) (v := (w.g i).av) (h' := bigH w N L) (ds' := []) (by kernel_rfl) (by kernel_rfl) all_nil ?_
 refine runOps_step (by kernel_rfl) (res_alloc (e := 51) (by kernel_rfl) zero51 rfl) all_nil ?_
 rw [hlen]
 have hg : (bigH w N L ++ [AObj.var (.agg [.str ByteArray.empty, .int .i64 0, .int .i64 0, .int .i64 0, .int .i64 0, .int .i64 0, .int .i64 0, .int .i64 0, .int .i64 0, .int .i64 0, .str ByteArray.empty, .int .i64 0, .str ByteArray.empty, .snil])])[1 + 1 + N]? =
  some (.var (.agg [.str ByteArray.empty, .int .i64 0, .int .i64 0, .int .i64 0, .int .i64 0, .int .i64 0, .int .i64 0, .int .i64 0, .int .i64 0, .int .i64 0, .str ByteArray.empty, .int .i64 0, .str ByteArray.empty, .snil])) := by
  rw [List.getElem?_append_right (by rw [hlen]; omega), hlen]; simp
 refine runOps_step (o := opN 10 3) (by kernel_rfl) (res_store (t := 51) (a := .tmp 8) (x := .tmp 32) (p := .ptr (1 + 1 + N) 1 14 0 0) (y := (w.g i).av) (by kernel_rfl) (by kernel_rfl) (by kernel_rfl) (store_var (z := (w.g i).av) hg (by kernel_rfl) rfl (by kernel_rfl) (by kernel_rfl))) all_nil ?_
 unfold runOps
 refine ⟨by kernel_rfl, ?_⟩
 rw [List.set_append_right _ _ (by rw [hlen]; omega), hlen]
 simp
/-- The temporaries behind the first k operations of region 11. -/
def tv (w : WD) (N i k l : Nat) : Nat → AV
 | 0 => .ms 1 N 1 0 N
 | 1 => .ptr (1 + 1 + N) 1 14 0 8
 | 2 => .int .i64 (w.g i).co
 | 3 => .ms 1 N 1 0 N
 | 4 => .ptr (1 + 1 + N) 1 14 0 8
 | 5 => .int .i64 (w.g i).co
 | 6 => .ptr 1 N 1 (0 + k) 0
 | 7 => .ms (1 + 1 + k) l 14 0 l
 | 8 => (w.g i).av
 | 9 => .sl 14 1 (Col.ofList [(w.g i).av]).get
 | 10 => .ms (1 + 1 + k) (l + 1) 14 0 (l + 1)
 | 11 => .ptr 1 N 1 (0 + k) 0
 | _ => .undef
noncomputable def T11 (w : WD) (N i k l : Nat) : Nat → List AV
 | 0 => T10 w N i
 | q + 1 => aput (T11 w N i k l q) (opN 11 q).dst (tv w N i k l q)
theorem row_snoc (l : List SD) (s : SD) : AObj.row 14 (l.length + 1) ((Col.gen l.length fun q => (l.getD q default).av).snoc ((Col.ofList [s.av]).get 0)) = rowOf 14 SD.av (l ++ [s]) := by
 unfold rowOf
 rw [List.length_append, List.length_singleton]
 congr 1
 show Col.gen (l.length + 1) (fun j => if j = l.length then s.av else (l.getD j default).av) = Col.gen (l.length + 1) fun q => ((l ++ [s]).getD q default).av
 congr 1
 funext j
 by_cases e : j = l.length
 · subst e; rw [if_pos rfl]; simp
 · rw [if_neg e]
   rcases Nat.lt_or_ge j l.length with q | q
   · simp [List.getD_eq_getElem?_getD, List.getElem?_append_left q]
   · rw [List.getD_eq_getElem?_getD, List.getD_eq_getElem?_getD, List.getElem?_eq_none q, List.getElem?_eq_none (by simp; omega)]
abbrev bigS (w : WD) (N i : Nat) (L : Nat → List SD) : AHeap := bigH w N L ++ [AObj.var (w.g i).av]
theorem bigS_s : (bigS w N i L)[1 + 1 + N]? = some (.var (w.g i).av) := by
 have hlen : (bigH w N L).length = 1 + 1 + N := nestH_len _ _ _ _ _
 show (bigH w N L ++ [AObj.var (w.g i).av])[1 + 1 + N]? = _
 rw [List.getElem?_append_right (by rw [hlen]; omega), hlen]; simp
theorem bigS_o : (bigS w N i L)[1]? = some (outer (1 + 1) 14 N L) := by
 have hlen : (bigH w N L).length = 1 + 1 + N := nestH_len _ _ _ _ _
 show (bigH w N L ++ [AObj.var (w.g i).av])[1]? = _
 rw [List.getElem?_append_left (by rw [hlen]; omega)]
 exact nestH_outer [.var w.av] 14 SD.av N L
theorem bigS_r {k : Nat} (hk : k < N) : (bigS w N i L)[1 + 1 + k]? = some (rowOf 14 SD.av (L k)) := by
 have hlen : (bigH w N L).length = 1 + 1 + N := nestH_len _ _ _ _ _
 show (bigH w N L ++ [AObj.var (w.g i).av])[1 + 1 + k]? = _
 rw [List.getElem?_append_left (by rw [hlen]; omega)]
 exact nestH_row [.var w.av] 14 SD.av L hk
section
variable {h : AHeap} {ds : List Dec} {k l : Nat}
theorem q0 : opResQ Try.prog (opN 11 0) (T11 w N i k l 0) h ds = some ([], tv w N i k l 0, ds) := by kernel_rfl
theorem q1 : opResQ Try.prog (opN 11 1) (T11 w N i k l 1) h ds = some ([], tv w N i k l 1, ds) := by kernel_rfl
theorem q2 (hs : h[1 + 1 + N]? = some (.var (w.g i).av)) : opResQ Try.prog (opN 11 2) (T11 w N i k l 2) h ds = some ([], tv w N i k l 2, ds) :=
 resQ_load (t := 3) (a := .tmp 34) (p := .ptr (1 + 1 + N) 1 14 0 8) (c := none) (xs := (w.g i).av.cells.drop 8) (by kernel_rfl) (by kernel_rfl) (cells_var hs rfl) (by kernel_rfl) (by kernel_rfl)
theorem q3 : opResQ Try.prog (opN 11 3) (T11 w N i k l 3) h ds = some ([], tv w N i k l 3, ds) := by kernel_rfl
theorem q4 : opResQ Try.prog (opN 11 4) (T11 w N i k l 4) h ds = some ([], tv w N i k l 4, ds) := by kernel_rfl
theorem q5 (hs : h[1 + 1 + N]? = some (.var (w.g i).av)) : opResQ Try.prog (opN 11 5) (T11 w N i k l 5) h ds = some ([], tv w N i k l 5, ds) :=
 resQ_load (t := 3) (a := .tmp 37) (p := .ptr (1 + 1 + N) 1 14 0 8) (c := none) (xs := (w.g i).av.cells.drop 8) (by kernel_rfl) (by kernel_rfl) (cells_var hs rfl) (by kernel_rfl) (by kernel_rfl)
theorem q6 (hc : (w.g i).co = (k : Int)) : opResQ Try.prog (opN 11 6) (T11 w N i k l 6) h ds = some ([0 ≤ (k : Int) ∧ (k : Int) < (N : Int)], tv w N i k l 6, ds) := by
 have e : opResQ Try.prog (opN 11 6) (T11 w N i k l 6) h ds = some ([0 ≤ (w.g i).co ∧ (w.g i).co < (N : Int)], .ptr 1 N 1 (0 + (w.g i).co.toNat) 0, ds) := by kernel_rfl
 rw [hc] at e
 exact e
theorem q7 {c : Cnd} {F : Nat → AV} (ho : cellsAt h (.ptr 1 N 1 (0 + k) 0) = some (c, [.ms (1 + 1 + k) l 14 0 l])) : opResQ Try.prog (opN 11 7) (T11 w N i k l 7) h ds = some (c.list, tv w N i k l 7, ds) :=
 resQ_load (t := 32) (a := .tmp 39) (p := .ptr 1 N 1 (0 + k) 0) (by kernel_rfl) (by kernel_rfl) ho (by kernel_rfl) (by kernel_rfl)
theorem q8 (hs : h[1 + 1 + N]? = some (.var (w.g i).av)) : opResQ Try.prog (opN 11 8) (T11 w N i k l 8) h ds = some ([], tv w N i k l 8, ds) :=
 resQ_load (t := 51) (a := .tmp 8) (p := .ptr (1 + 1 + N) 1 14 0 0) (c := none) (xs := (w.g i).av.cells.drop 0) (by kernel_rfl) (by kernel_rfl) (cells_var hs rfl) (by kernel_rfl) (by kernel_rfl)
theorem q9 : opResQ Try.prog (opN 11 9) (T11 w N i k l 9) h ds = some ([], tv w N i k l 9, ds) := by kernel_rfl
theorem q11 (hc : (w.g i).co = (k : Int)) : opResQ Try.prog (opN 11 11) (T11 w N i k l 11) h ds = some ([0 ≤ (k : Int) ∧ (k : Int) < (N : Int)], tv w N i k l 11, ds) := by
 have e : opResQ Try.prog (opN 11 11) (T11 w N i k l 11) h ds = some ([0 ≤ (w.g i).co ∧ (w.g i).co < (N : Int)], .ptr 1 N 1 (0 + (w.g i).co.toNat) 0, ds) := by kernel_rfl
 rw [hc] at e
 exact e
end
end
end Go.Proofs.Ytjdbmmilcihpoaa
open Go
namespace Go.Proofs.Ytjdbmmilcihpoaa
set_option maxHeartbeats 0
set_option maxRecDepth 100000
set_option linter.unusedVariables false
set_option linter.unusedSimpArgs false
section
variable {w : WD} {N i : Nat} {L : Nat → List SD}
section
variable {h : AHeap} {ds : List Dec} {k l : Nat}
theorem by51 : bytesT Try.prog 51 = 152 := by kernel_rfl
theorem sz51 : szOf Try.prog 51 = 14 := by kernel_rfl
theorem q10 {x : List SD} (hl : x.length = l) (hr : h[1 + 1 + k]? = some (rowOf 14 SD.av x)) (hL : l < 100000000) :
 ∃ cs, opRes Try.prog (opN 11 10) (T11 w N i k l 10) h (.app .one false :: ds) = some (cs, tv w N i k l 10, h.set (1 + 1 + k) (rowOf 14 SD.av (x ++ [w.g i])), ds) ∧ ∀ c ∈ cs, c := by
 subst hl
 have a := res_app (P := Try.prog) (o := opN 11 10) (T := T11 w N i k x.length 10) (h := h) (ds := ds) (c := { callee := .builtin .append, args := #[.tmp 40, .tmp 42], argTypes := #[32, 32] }) (s := .tmp 40) (x := .tmp 42) (t := 32) (e := 51) (id := 1 + 1 + k) (k := x.length) (len := x.length) (n := 1) (f := (Col.ofList [(w.g i).av]).get)
  (col := .gen x.length fun q => (x.getD q default).av) (by kernel_rfl) rfl rfl rfl (by kernel_rfl) (by kernel_rfl) (by kernel_rfl) (by kernel_rfl) (by kernel_rfl) (by rw [sz51]; exact hr) ⟨rfl, by kernel_rfl⟩ (by rw [by51]; omega) rfl
 rw [sz51, row_snoc] at a
 exact a
theorem out_set {L' : Nat → List SD} (hk : k < N) (hl : (L' k).length = (L k).length + 1) (hL : ∀ j, j ≠ k → L' j = L j) :
 (Col.gen N fun j => AV.ms (1 + 1 + j) (L j).length 14 0 (L j).length).set (0 + k) (.ms (1 + 1 + k) ((L k).length + 1) 14 0 ((L k).length + 1)) = some (.gen N fun j => .ms (1 + 1 + j) (L' j).length 14 0 (L' j).length) := by
 show some (Col.gen N fun j => mix1 j (0 + k) (.ms (1 + 1 + j) (L j).length 14 0 (L j).length) (.ms (1 + 1 + k) ((L k).length + 1) 14 0 ((L k).length + 1))) = _
 congr 2
 funext j
 rw [mix1_eq, Nat.zero_add]
 by_cases e : j = k
 · subst e; rw [if_pos rfl, hl]
 · rw [if_neg e, hL j e]
theorem q12 {L' : Nat → List SD} (hk : k < N) (hl : (L' k).length = (L k).length + 1) (hL : ∀ j, j ≠ k → L' j = L j) (ho : h[1]? = some (outer (1 + 1) 14 N L)) :
 ∃ cs, opRes Try.prog (opN 11 12) (T11 w N i k (L k).length 12) h ds = some (cs, .undef, h.set 1 (outer (1 + 1) 14 N L'), ds) ∧ ∀ c ∈ cs, c := by
 have a := res_store (P := Try.prog) (o := opN 11 12) (T := T11 w N i k (L k).length 12) (h := h) (ds := ds) (t := 32) (a := .tmp 44) (x := .tmp 43) (p := .ptr 1 N 1 (0 + k) 0) (y := .ms (1 + 1 + k) ((L k).length + 1) 14 0 ((L k).length + 1)) (by kernel_rfl) (by kernel_rfl) (by kernel_rfl)
  (store_row (P := Try.prog) (t := 32) (e := .ms (1 + 1 + k) ((L k).length + 1) 14 0 ((L k).length + 1)) ho (by kernel_rfl) rfl (by kernel_rfl) (by kernel_rfl) (out_set hk hl hL))
 exact ⟨_, a, all_cnd ⟨rfl, by show 0 + k < N; omega⟩⟩
theorem g11_0 : (opN 11 0).guard = none := by kernel_rfl
theorem e11_0 : isEff (opN 11 0) = false := by kernel_rfl
theorem p11_0 : isPure (opN 11 0) = false := by kernel_rfl
theorem g11_1 : (opN 11 1).guard = none := by kernel_rfl
theorem e11_1 : isEff (opN 11 1) = false := by kernel_rfl
theorem p11_1 : isPure (opN 11 1) = false := by kernel_rfl
theorem g11_2 : (opN 11 2).guard = none := by kernel_rfl
theorem e11_2 : isEff (opN 11 2) = false := by kernel_rfl
theorem p11_2 : isPure (opN 11 2) = false := by kernel_rfl
theorem g11_3 : (opN 11 3).guard = none := by kernel_rfl
theorem e11_3 : isEff (opN 11 3) = false := by kernel_rfl
theorem p11_3 : isPure (opN 11 3) = false := by kernel_rfl
theorem g11_4 : (opN 11 4).guard = none := by kernel_rfl
theorem e11_4 : isEff (opN 11 4) = false := by kernel_rfl
theorem p11_4 : isPure (opN 11 4) = false := by kernel_rfl
theorem g11_5 : (opN 11 5).guard = none := by kernel_rfl
theorem e11_5 : isEff (opN 11 5) = false := by kernel_rfl
theorem p11_5 : isPure (opN 11 5) = false := by kernel_rfl
theorem g11_6 : (opN 11 6).guard = none := by kernel_rfl
theorem e11_6 : isEff (opN 11 6) = false := by kernel_rfl
theorem p11_6 : isPure (opN 11 6) = false := by kernel_rfl
theorem g11_7 : (opN 11 7).guard = none := by kernel_rfl
theorem e11_7 : isEff (opN 11 7) = false := by kernel_rfl
theorem p11_7 : isPure (opN 11 7) = false := by kernel_rfl
theorem g11_8 : (opN 11 8).guard = none := by kernel_rfl
theorem e11_8 : isEff (opN 11 8) = false := by kernel_rfl
theorem p11_8 : isPure (opN 11 8) = false := by kernel_rfl
theorem g11_9 : (opN 11 9).guard = none := by kernel_rfl
theorem e11_9 : isEff (opN 11 9) = false := by kernel_rfl
theorem p11_9 : isPure (opN 11 9) = false := by kernel_rfl
theorem g11_10 : (opN 11 10).guard = none := by kernel_rfl
theorem e11_10 : isEff (opN 11 10) = true := by kernel_rfl
theorem g11_11 : (opN 11 11).guard = none := by kernel_rfl
theorem e11_11 : isEff (opN 11 11) = false := by kernel_rfl
theorem p11_11 : isPure (opN 11 11) = false := by kernel_rfl
theorem g11_12 : (opN 11 12).guard = none := by kernel_rfl
theorem e11_12 : isEff (opN 11 12) = true := by kernel_rfl
theorem T11_s (q : Nat) : aput (T11 w N i k l q) (opN 11 q).dst (tv w N i k l q) = T11 w N i k l (q + 1) := rfl
theorem stepQ11 (q q' : Nat) (e : q + 1 = q') {cs : List Prop} {ds' : List Dec} {ops os : List Oper} {K : List AV → AHeap → List Dec → Prop} (hg : (opN 11 q).guard = none) (he : isEff (opN 11 q) = false) (hp : isPure (opN 11 q) = false)
 (hr : opResQ Try.prog (opN 11 q) (T11 w N i k l q) h ds = some (cs, tv w N i k l q, ds')) (hc : ∀ c ∈ cs, c) (hk : RunE Try.prog ops os (T11 w N i k l q') h ds' K) : RunE Try.prog ops (opN 11 q :: os) (T11 w N i k l q) h ds K :=
 .stepQ ((T11_s q).trans (by rw [e])) hg he hp hr hc hk
theorem stepE11 (q q' : Nat) (e : q + 1 = q') {cs : List Prop} {h' : AHeap} {ds' : List Dec} {ops os : List Oper} {K : List AV → AHeap → List Dec → Prop} (hg : (opN 11 q).guard = none) (he : isEff (opN 11 q) = true)
 (hr : opRes Try.prog (opN 11 q) (T11 w N i k l q) h ds = some (cs, tv w N i k l q, h', ds')) (hc : ∀ c ∈ cs, c) (hk : RunE Try.prog ops os (T11 w N i k l q') h' ds' K) : RunE Try.prog ops (opN 11 q :: os) (T11 w N i k l q) h ds K :=
 .stepE ((T11_s q).trans (by rw [e])) hg he hr hc hk
theorem s11_0 {ops os : List Oper} {K : List AV → AHeap → List Dec → Prop} (hK : RunE Try.prog ops os (T11 w N i k l 1) h ds K) : RunE Try.prog ops (opN 11 0 :: os) (T11 w N i k l 0) h ds K :=
 stepQ11 0 1 rfl g11_0 e11_0 p11_0 q0 all_nil hK
theorem s11_1 {ops os : List Oper} {K : List AV → AHeap → List Dec → Prop} (hK : RunE Try.prog ops os (T11 w N i k l 2) h ds K) : RunE Try.prog ops (opN 11 1 :: os) (T11 w N i k l 1) h ds K :=
 stepQ11 1 2 rfl g11_1 e11_1 p11_1 q1 all_nil hK
theorem s11_2 (hs : h[1 + 1 + N]? = some (.var (w.g i).av)) {ops os : List Oper} {K : List AV → AHeap → List Dec → Prop} (hK : RunE Try.prog ops os (T11 w N i k l 3) h ds K) : RunE Try.prog ops (opN 11 2 :: os) (T11 w N i k l 2) h ds K :=
 stepQ11 2 3 rfl g11_2 e11_2 p11_2 (q2 hs) all_nil hK
theorem s11_3 {ops os : List Oper} {K : List AV → AHeap → List Dec → Prop} (hK : RunE Try.prog ops os (T11 w N i k l 4) h ds K) : RunE Try.prog ops (opN 11 3 :: os) (T11 w N i k l 3) h ds K :=
 stepQ11 3 4 rfl g11_3 e11_3 p11_3 q3 all_nil hK
theorem s11_4 {ops os : List Oper} {K : List AV → AHeap → List Dec → Prop} (hK : RunE Try.prog ops os (T11 w N i k l 5) h ds K) : RunE Try.prog ops (opN 11 4 :: os) (T11 w N i k l 4) h ds K :=
 stepQ11 4 5 rfl g11_4 e11_4 p11_4 q4 all_nil hK
theorem s11_5 (hs : h[1 + 1 + N]? = some (.var (w.g i).av)) {ops os : List Oper} {K : List AV → AHeap → List Dec → Prop} (hK : RunE Try.prog ops os (T11 w N i k l 6) h ds K) : RunE Try.prog ops (opN 11 5 :: os) (T11 w N i k l 5) h ds K :=
 stepQ11 5 6 rfl g11_5 e11_5 p11_5 (q5 hs) all_nil hK
theorem s11_6 (hc : (w.g i).co = (k : Int)) (hk : k < N) {ops os : List Oper} {K : List AV → AHeap → List Dec → Prop} (hK : RunE Try.prog ops os (T11 w N i k l 7) h ds K) : RunE Try.prog ops (opN 11 6 :: os) (T11 w N i k l 6) h ds K :=
 stepQ11 6 7 rfl g11_6 e11_6 p11_6 (q6 hc) (fun c hc => by simp only [List.mem_singleton] at hc; subst hc; omega) hK
theorem s11_7 (hk : k < N) (h7 : cellsAt h (.ptr 1 N 1 (0 + k) 0) = some (cnd (N = N ∧ 1 = 1 ∧ 0 + k < N), [.ms (1 + 1 + k) l 14 0 l])) {ops os : List Oper} {K : List AV → AHeap → List Dec → Prop} (hK : RunE Try.prog ops os (T11 w N i k l 8) h ds K) : RunE Try.prog ops (opN 11 7 :: os) (T11 w N i k l 7) h ds K :=
 stepQ11 7 8 rfl g11_7 e11_7 p11_7 (q7 (F := fun _ => .any) h7) (all_cnd ⟨rfl, rfl, by omega⟩) hK
theorem s11_8 (hs : h[1 + 1 + N]? = some (.var (w.g i).av)) {ops os : List Oper} {K : List AV → AHeap → List Dec → Prop} (hK : RunE Try.prog ops os (T11 w N i k l 9) h ds K) : RunE Try.prog ops (opN 11 8 :: os) (T11 w N i k l 8) h ds K :=
 stepQ11 8 9 rfl g11_8 e11_8 p11_8 (q8 hs) all_nil hK
theorem s11_9 {ops os : List Oper} {K : List AV → AHeap → List Dec → Prop} (hK : RunE Try.prog ops os (T11 w N i k l 10) h ds K) : RunE Try.prog ops (opN 11 9 :: os) (T11 w N i k l 9) h ds K :=
 stepQ11 9 10 rfl g11_9 e11_9 p11_9 q9 all_nil hK
theorem s11_11 (hc : (w.g i).co = (k : Int)) (hk : k < N) {ops os : List Oper} {K : List AV → AHeap → List Dec → Prop} (hK : RunE Try.prog ops os (T11 w N i k l 12) h ds K) : RunE Try.prog ops (opN 11 11 :: os) (T11 w N i k l 11) h ds K :=
 stepQ11 11 12 rfl g11_11 e11_11 p11_11 (q11 hc) (fun c hc => by simp only [List.mem_singleton] at hc; subst hc; omega) hK
theorem run11 {L' : Nat → List SD} (hc : (w.g i).co = (k : Int)) (hk : k < N) (hL : (L k).length < 100000000) (hL1 : L' k = L k ++ [w.g i]) (hL2 : ∀ j, j ≠ k → L' j = L j) (ops : List Oper) (K : List AV → AHeap → List Dec → Prop)
 (hK : K (T11 w N i k (L k).length 13) (((bigS w N i L).set (1 + 1 + k) (rowOf 14 SD.av (L k ++ [w.g i]))).set 1 (outer (1 + 1) 14 N L')) []) :
 RunE Try.prog ops [opN 11 0, opN 11 1, opN 11 2, opN 11 3, opN 11 4, opN 11 5, opN 11 6, opN 11 7, opN 11 8, opN 11 9, opN 11 10, opN 11 11, opN 11 12] (T11 w N i k (L k).length 0) (bigS w N i L) [.app .one false] K := by
 have hs := bigS_s (w := w) (N := N) (i := i) (L := L)
 have ho := bigS_o (w := w) (N := N) (i := i) (L := L)
 have hr := bigS_r (w := w) (i := i) (L := L) hk
 have h7 : cellsAt (bigS w N i L) (.ptr 1 N 1 (0 + k) 0) = some (cnd (N = N ∧ 1 = 1 ∧ 0 + k < N), [.ms (1 + 1 + k) (L k).length 14 0 (L k).length]) := by
  rw [cells_row ho]
  show some (cnd _, [AV.ms (1 + 1 + (0 + k)) (L (0 + k)).length 14 0 (L (0 + k)).length]) = _
  rw [Nat.zero_add]; rfl
 obtain ⟨c1, a1, a2⟩ := q10 (w := w) (N := N) (i := i) (ds := []) rfl hr hL
 have ho2 : ((bigS w N i L).set (1 + 1 + k) (rowOf 14 SD.av (L k ++ [w.g i])))[1]? = some (outer (1 + 1) 14 N L) := by
  rw [List.getElem?_set_ne (by omega)]; exact ho
 obtain ⟨c2, b1, b2⟩ := q12 (w := w) (i := i) (ds := []) hk (by rw [hL1, List.length_append]; rfl) hL2 ho2
 apply s11_0
 apply s11_1
 apply s11_2 hs
 apply s11_3
 apply s11_4
 apply s11_5 hs
 apply s11_6 hc hk
 apply s11_7 hk h7
 apply s11_8 hs
 apply s11_9
 apply stepE11 10 11 rfl g11_10 e11_10 a1 a2
 apply s11_11 hc hk
 apply stepE11 12 13 rfl g11_12 e11_12 b1 b2
 exact .nil hK
end
end
end Go.Proofs.Ytjdbmmilcihpoaa
open Go
namespace Go.Proofs.Ytjdbmmilcihpoaa
set_option maxHeartbeats 0
set_option maxRecDepth 100000
set_option linter.unusedVariables false
set_option linter.unusedSimpArgs false
section
variable {w : WD} {N i k : Nat} {L L' : Nat → List SD}
/-- No load reads what the append turns. -/
theorem apart11 {l : Nat} (hk : k < N) : apartOk (RG Try.f44 11).toList (T11 w N i k l 13) = true := by
 have e : apartOk (RG Try.f44 11).toList (T11 w N i k l 13) = ((!Nat.beq (1 + 1 + N) (1 + 1 + k) && true) && true) := by kernel_rfl
 rw [e, show Nat.beq (1 + 1 + N) (1 + 1 + k) = false by
  cases hb : Nat.beq (1 + 1 + N) (1 + 1 + k) with
  | false => rfl
  | true => have := Nat.eq_of_beq_eq_true hb; omega]
 rfl
theorem set11 (hc : (w.g i).co = (k : Int)) (hk : k < N) (hL : (L k).length < 100000000) (hL1 : L' k = L k ++ [w.g i]) (hL2 : ∀ j, j ≠ k → L' j = L j) : ((bigS w N i L).set (1 + 1 + k) (rowOf 14 SD.av (L k ++ [w.g i]))).set 1 (outer (1 + 1) 14 N L') = bigS w N i L' := by
 rw [← hL1]
 exact nestH_set [.var w.av] 14 SD.av [.var (w.g i).av] hk hL2
theorem apk11 (hc : (w.g i).co = (k : Int)) (hk : k < N) (hL : (L k).length < 100000000) (hL1 : L' k = L k ++ [w.g i]) (hL2 : ∀ j, j ≠ k → L' j = L j) (l : List Oper) (ha : apartOk l (T11 w N i k (L k).length 13) = true) : APK l (fun T' h' _ => T' = T11 w N i k (L k).length 13 ∧ h' = bigS w N i L') (T11 w N i k (L k).length 13) (((bigS w N i L).set (1 + 1 + k) (rowOf 14 SD.av (L k ++ [w.g i]))).set 1 (outer (1 + 1) 14 N L')) [] :=
 APK.mk ha ⟨rfl, set11 hc hk hL hL1 hL2⟩
theorem to11 {l : List Oper} (hl : (RG Try.f44 11).toList = l) (h1 : drawOk l = true) (h2 : drawEff2 l = true) (hr : RunE Try.prog l l (T11 w N i k (L k).length 0) (bigS w N i L) [.app .one false] (APK l fun T' h' _ => T' = T11 w N i k (L k).length 13 ∧ h' = bigS w N i L')) : 
 To Try.prog (.region 11 (RG Try.f44 11) true) (T11 w N i k (L k).length 0) (bigS w N i L) fun e T h => e = .normal ∧ T = T11 w N i k (L k).length 13 ∧ h = bigS w N i L' := To.regE hl mix h1 h2 hr
theorem draw11 : drawOk (RG Try.f44 11).toList = true := by kernel_rfl
theorem deff11 : drawEff2 (RG Try.f44 11).toList = true := by kernel_rfl
theorem reg11 (hc : (w.g i).co = (k : Int)) (hk : k < N) (hL : (L k).length < 100000000) (hL1 : L' k = L k ++ [w.g i]) (hL2 : ∀ j, j ≠ k → L' j = L j) :
 To Try.prog (.region 11 (RG Try.f44 11) true) (T11 w N i k (L k).length 0) (bigS w N i L) fun e T h => e = .normal ∧ T = T11 w N i k (L k).length 13 ∧ h = bigS w N i L' := by
 have a := draw11
 have b := deff11
 have c := apart11 (w := w) (N := N) (i := i) (l := (L k).length) hk
 obtain ⟨l, hl⟩ : ∃ l, (RG Try.f44 11).toList = l := ⟨_, rfl⟩
 have o := ops11
 rw [hl] at a b c o
 have d := apk11 (L' := L') hc hk hL hL1 hL2 l c
 have e := run11 hc hk hL hL1 hL2 l _ d
 rw [← o] at e
 exact to11 hl a b e
/-- One round. -/
theorem crs_lt (g : Nat → SD) (k : Nat) : ∀ i, (crs g k i).length ≤ i := by
 intro i
 induction i with
 | zero => exact Nat.le_refl _
 | succ i ih =>
  unfold crs
  split
  · rw [List.length_append, List.length_singleton]; omega
  · omega
theorem low_big : ∀ o ∈ bigH w N L, o.Low (1 + 1 + N) := by
 intro o ho
 obtain ⟨j, hj⟩ := List.getElem?_of_mem ho
 rcases nestH_get _ _ _ _ _ hj with ⟨hlt, e⟩ | ⟨_, rfl⟩ | ⟨q, hq, _, rfl⟩
 · have e2 : j = 0 := by have : j < 1 := hlt; omega
   subst e2; cases e
   exact (by simp : Low (1 + 1 + N) w.av)
 · show ∀ i, i < N → Low (1 + 1 + N) (.ms (1 + 1 + i) (L i).length 14 0 (L i).length)
   intro i hi
   exact .ms _ _ _ _ _ (by omega)
 · show ∀ i, i < (L q).length → Low (1 + 1 + N) ((L q).getD i default).av
   intro i _
   simp
theorem low_T1 : ∀ t ∈ T1 w N i, Low (1 + 1 + N) t := by
 refine low_mkTg _ _ _ fun e he => ?_
 simp only [List.mem_cons, List.not_mem_nil, or_false] at he
 rcases he with rfl | rfl | rfl | rfl
 · exact .ms _ _ _ _ _ (by omega)
 · exact .sl _ _ _ fun i _ => by simp
 · exact .int _ _
 · exact .int _ _
noncomputable def TX (N : Nat) : List AV := mkT 56 [(6, .ms 1 N 1 0 N)]
end
theorem ops9 : (RG Try.f44 9).toList = [opN 9 0] := by kernel_rfl
theorem ops12 : (RG Try.f44 12).toList = [opN 12 0, opN 12 1] := by kernel_rfl
section
variable {w : WD} {N i k : Nat} {L : Nat → List SD} {h : AHeap}
theorem reg9 : To Try.prog (.region 9 (RG Try.f44 9) false) (T1 w N i) h fun e T h' => e = .normal ∧ T = (T1 w N i).set 30 (.bool (decide ((i : Int) < (w.n : Int)))) ∧ h' = h :=
 To.regS (ds := []) ops9 (.step (cs := []) (v := .bool (decide ((i : Int) < (w.n : Int)))) (h' := h) (ds' := []) (T' := (T1 w N i).set 30 (.bool (decide ((i : Int) < (w.n : Int))))) (by kernel_rfl) (by kernel_rfl) (by kernel_rfl) all_nil (.nil ⟨rfl, rfl⟩))
noncomputable def T12 (w : WD) (N i k l : Nat) : List AV := ((T11 w N i k l 13).set 45 (.int .i64 ((i + 1 : Nat) : Int))).set 29 (.int .i64 ((i + 1 : Nat) : Int))
theorem reg12 {l : Nat} (hi : i < 9223372036854775807) : To Try.prog (.region 12 (RG Try.f44 12) false) (T11 w N i k l 13) h fun e T h' => e = .normal ∧ T = T12 w N i k l ∧ h' = h := by
 have e0 : opRes Try.prog (opN 12 0) (T11 w N i k l 13) h [] = some ([], .int .i64 (IntKind.i64.wrap ((i : Int) + 1)), h, []) := by kernel_rfl
 rw [show IntKind.i64.wrap ((i : Int) + 1) = ((i + 1 : Nat) : Int) by rw [IntWalk.i64_in _ (by omega)]; omega] at e0
 exact To.regS (ds := []) ops12 (.step (T' := (T11 w N i k l 13).set 45 (.int .i64 ((i + 1 : Nat) : Int))) (by kernel_rfl) (by kernel_rfl) e0 all_nil
  (.step (cs := []) (v := .int .i64 ((i + 1 : Nat) : Int)) (h' := h) (ds' := []) (T' := T12 w N i k l) (by kernel_rfl) (by kernel_rfl) (by kernel_rfl) all_nil (.nil ⟨rfl, rfl⟩)))
theorem leT12_eq {l : Nat} : leT (T12 w N i k l) (T1 w N (i + 1)) = ((AV.ms 1 N 1 0 N = .ms 1 N 1 0 N) ∧ (AV.sl 14 w.n (fun i => (w.g i).av) = .sl 14 w.n fun i => (w.g i).av) ∧ (AV.int .i64 (w.n : Int) = .int .i64 (w.n : Int)) ∧ (AV.int .i64 ((i + 1 : Nat) : Int) = .int .i64 ((i + 1 : Nat) : Int)) ∧ True) := by kernel_rfl
theorem leTX_eq {b : Bool} : leT ((T1 w N i).set 30 (.bool b)) (TX N) = ((AV.ms 1 N 1 0 N = .ms 1 N 1 0 N) ∧ True) := by kernel_rfl
theorem and4 {α : Type} {a b c d : α} : a = a ∧ b = b ∧ c = c ∧ d = d ∧ True := ⟨rfl, rfl, rfl, rfl, trivial⟩
theorem leT12 {l : Nat} : leT (T12 w N i k l) (T1 w N (i + 1)) := by rw [leT12_eq]; exact and4
theorem leTX {b : Bool} : leT ((T1 w N i).set 30 (.bool b)) (TX N) := by rw [leTX_eq]; exact ⟨rfl, trivial⟩
theorem round1 (hlt : i < w.n) (hn : w.n ≤ 10000000) (ek : (w.g i).co = (k : Int)) (hk : k < N) :
 To Try.prog (loopN Try.f44 1) (T1 w N i) (bigH w N fun k => crs w.g k i) fun e T h => e = .normal ∧ T = T12 w N i k (crs w.g k i).length ∧ h = bigS w N i fun k => crs w.g k (i + 1) := by
 have hL1 : (fun k => crs w.g k (i + 1)) k = (fun k => crs w.g k i) k ++ [w.g i] := by
  show crs w.g k (i + 1) = crs w.g k i ++ [w.g i]
  rw [crs, if_pos ek]
 have hL2 : ∀ j, j ≠ k → (fun k => crs w.g k (i + 1)) j = (fun k => crs w.g k i) j := fun j hj => by
  show crs w.g j (i + 1) = crs w.g j i
  rw [crs, if_neg (by rw [ek]; omega)]
 have h9 := reg9 (w := w) (N := N) (i := i) (h := bigH w N fun k => crs w.g k i)
 rw [show decide ((i : Int) < (w.n : Int)) = true from decide_eq_true (by omega)] at h9
 rw [body1]
 have h11 := reg11 (w := w) (N := N) (i := i) (L := fun k => crs w.g k i) (L' := fun k => crs w.g k (i + 1)) ek hk (by have := crs_lt w.g k i; show (crs w.g k i).length < _; omega) hL1 hL2
 exact h9.seq rfl (To.seq (To.cond (q := true) (by kernel_rfl) (To.skip ⟨rfl, rfl, rfl⟩)) rfl (To.seq (To.block (To.seq ⟨reg10 hlt⟩ rfl h11)) rfl (reg12 (by omega))))
theorem end1 (hge : ¬ i < w.n) : To Try.prog (loopN Try.f44 1) (T1 w N i) h fun e T h' => e = .exit 2 ∧ T = (T1 w N i).set 30 (.bool false) ∧ h' = h := by
 have h9 := reg9 (w := w) (N := N) (i := i) (h := h)
 rw [show decide ((i : Int) < (w.n : Int)) = false from decide_eq_false (by omega)] at h9
 rw [body1]
 exact h9.seq rfl (To.seqX (To.cond (q := false) (by kernel_rfl) (To.exit ⟨rfl, rfl, rfl⟩)) ⟨rfl, rfl, rfl⟩)
end
theorem loop1 (w : WD) (N : Nat) (hn : w.n ≤ 10000000) (hc : ∀ i, i < w.n → 0 ≤ (w.g i).co ∧ (w.g i).co < (N : Int)) :
 LoopTo Try.prog (loopN Try.f44 1) (T1 w N 0) (bigH w N fun _ => []) (.exit 2) (TX N) (bigH w N fun k => crs w.g k w.n) := by
 have hlen : ∀ L : Nat → List SD, (bigH w N L).length = 1 + 1 + N := fun L => nestH_len _ _ _ _ _
 refine (To.loop (fun r T h => ∃ i, i ≤ w.n ∧ r = w.n - i ∧ T = T1 w N i ∧ h = bigH w N fun k => crs w.g k i) (fun r T h ⟨i, hi, hr, hT, hh⟩ => ?_) (n := w.n) ⟨0, Nat.zero_le _, rfl, rfl, rfl⟩).wpc
 subst hT; subst hh
 by_cases hlt : i < w.n
 · obtain ⟨hc0, hcN⟩ := hc i hlt
   obtain ⟨k, ek⟩ := Int.eq_ofNat_of_zero_le hc0
   refine (round1 hlt hn ek (by omega)).pop fun e T h ⟨he, hT, hh⟩ => ?_
   subst he; subst hT; subst hh
   refine ⟨T1 w N (i + 1), bigH w N fun k => crs w.g k (i + 1), ?_, ⟨w.n - (i + 1), by omega, i + 1, by omega, rfl, rfl, rfl⟩, .popLow _ ?_ ?_ ?_ ?_⟩
   · apply leT12
   · rw [hlen, ← hlen fun k => crs w.g k (i + 1)]
     exact List.take_left
   · rw [hlen, hlen]
   · rw [hlen]; exact low_big
   · rw [hlen]; exact low_T1
 · refine (end1 hlt).pop fun e T h ⟨he, hT, hh⟩ => ?_
   subst he; subst hT; subst hh
   obtain rfl : i = w.n := by omega
   refine ⟨TX N, _, ?_, ⟨rfl, rfl, rfl⟩, .same⟩
   apply leTX
end Go.Proofs.Ytjdbmmilcihpoaa
namespace Go.Proofs.Ytjdbmmilcihpoaa
open Go.Shelf Go.RowKit Go.Lib Go.Sort
def sortLay_ren : Go.Shelf.Ren := ⟨fun | 6 => 69 | 15 => 82 | 14 => 81 | 28 => 94 | 29 => 95 | 20 => 86 | 21 => 87 | 22 => 88 | 23 => 89 | 24 => 90 | 25 => 91 | 26 => 92 | 27 => 93 | 46 => 97 | 47 => 98 | 48 => 99 | 49 => 100 | 50 => 101 | 57 => 102 | n => n, fun | 22 => 32 | 24 => 51 | 25 => 95 | 3 => 3 | 39 => 101 | 0 => 0 | 53 => 113 | 55 => 115 | 4 => 4 | 46 => 106 | 45 => 105 | 50 => 110 | 5 => 5 | 9 => 9 | 66 => 116 | 70 => 120 | 76 => 122 | 77 => 123 | n => n, fun | n => n⟩
theorem sortLay : Go.Proofs.SlLaysF0.n6 Try.prog sortLay_ren := {
 mixed := by kernel_rfl
 f6 := ⟨Try.f69.name, by decide, Try.func69.trans (congrArg some (by kernel_rfl))⟩
 f14 := ⟨Try.f81.name, by decide, Try.func81.trans (congrArg some (by kernel_rfl))⟩
 f15 := Try.func82.trans (congrArg some (by kernel_rfl))
 f20 := ⟨Try.f86.name, by decide, Try.func86.trans (congrArg some (by kernel_rfl))⟩
 f21 := ⟨Try.f87.name, by decide, Try.func87.trans (congrArg some (by kernel_rfl))⟩
 f22 := ⟨Try.f88.name, by decide, Try.func88.trans (congrArg some (by kernel_rfl))⟩
 f23 := ⟨Try.f89.name, by decide, Try.func89.trans (congrArg some (by kernel_rfl))⟩
 f24 := ⟨Try.f90.name, by decide, Try.func90.trans (congrArg some (by kernel_rfl))⟩
 f25 := ⟨Try.f91.name, by decide, Try.func91.trans (congrArg some (by kernel_rfl))⟩
 f26 := ⟨Try.f92.name, by decide, Try.func92.trans (congrArg some (by kernel_rfl))⟩
 f27 := ⟨Try.f93.name, by decide, Try.func93.trans (congrArg some (by kernel_rfl))⟩
 f28 := Try.func94.trans (congrArg some (by kernel_rfl))
 f29 := Try.func95.trans (congrArg some (by kernel_rfl))
 f46 := ⟨Try.f97.name, by decide, Try.func97.trans (congrArg some (by kernel_rfl))⟩
 f47 := Try.func98.trans (congrArg some (by kernel_rfl))
 f48 := Try.func99.trans (congrArg some (by kernel_rfl))
 f49 := ⟨Try.f100.name, by decide, Try.func100.trans (congrArg some (by kernel_rfl))⟩
 f50 := ⟨Try.f101.name, by decide, Try.func101.trans (congrArg some (by kernel_rfl))⟩
 f57 := ⟨Try.f102.name, by decide, Try.func102.trans (congrArg some (by kernel_rfl))⟩
 t0 := Try.underlying0
 a0 := Try.isAgg0
 z0 := Try.sizeOf0
 v0 := Try.zeroValue0
 t3 := Try.underlying3
 a3 := Try.isAgg3
 z3 := Try.sizeOf3
 v3 := Try.zeroValue3
 t4 := Try.underlying4
 a4 := Try.isAgg4
 z4 := Try.sizeOf4
 v4 := Try.zeroValue4
 t5 := Try.underlying5
 a5 := Try.isAgg5
 z5 := Try.sizeOf5
 v5 := Try.zeroValue5
 t9 := Try.underlying9
 a9 := Try.isAgg9
 z9 := Try.sizeOf9
 v9 := Try.zeroValue9
 t22 := Try.underlying32
 a22 := Try.isAgg32
 z22 := Try.sizeOf32
 v22 := Try.zeroValue32
 t25 := Try.underlying95
 a25 := Try.isAgg95
 z25 := Try.sizeOf95
 v25 := Try.zeroValue95
 t39 := Try.underlying101
 a39 := Try.isAgg101
 z39 := Try.sizeOf101
 v39 := Try.zeroValue101
 t45 := Try.underlying105
 a45 := Try.isAgg105
 z45 := Try.sizeOf105
 v45 := Try.zeroValue105
 t46 := Try.underlying106
 a46 := Try.isAgg106
 z46 := Try.sizeOf106
 v46 := Try.zeroValue106
 t50 := Try.underlying110
 a50 := Try.isAgg110
 z50 := Try.sizeOf110
 v50 := Try.zeroValue110
 t53 := Try.underlying113
 a53 := Try.isAgg113
 z53 := Try.sizeOf113
 v53 := Try.zeroValue113
 t55 := Try.underlying115
 a55 := Try.isAgg115
 z55 := Try.sizeOf115
 v55 := Try.zeroValue115
 t66 := Try.underlying116
 a66 := Try.isAgg116
 z66 := Try.sizeOf116
 v66 := Try.zeroValue116
 t70 := Try.underlying120
 a70 := Try.isAgg120
 z70 := Try.sizeOf120
 v70 := Try.zeroValue120
 t76 := Try.underlying122
 a76 := Try.isAgg122
 z76 := Try.sizeOf122
 v76 := Try.zeroValue122
 t77 := Try.underlying123
 a77 := Try.isAgg123
 z77 := Try.sizeOf123
 v77 := Try.zeroValue123 }
theorem enters70 : ∀ args w, (callFunc 70 args).run Try.prog w = .ok (.enter 70 args) w := enters_of Try.func70 (by kernel_rfl) rfl
theorem und51 : (Try.prog.underlying 51).isSome = true := by kernel_rfl
theorem aggB51 : isAggB Try.prog 51 = true := by kernel_rfl
theorem has51 : hasT Try.prog 51 = true := by kernel_rfl
theorem agg51 : ∀ w, (isAgg 51).run Try.prog w = .ok true w := by
 intro w
 have h := run_isAgg_has (P := Try.prog) (w := w) und51
 rwa [aggB51] at h
theorem size51 : ∀ w, (Go.sizeOf 51).run Try.prog w = .ok 14 w := by
 intro w
 have h := run_sizeOf_has (P := Try.prog) (w := w) has51
 rwa [sz51] at h
theorem sortHas : SortHas Try.prog 69 70 14 := by
 intro α _ enc cf blk off cap d w hk h1 hO hc hH hb hs
 exact AnyQ.slices_SortFunc sortLay 14 agg51 size51 enc hk h1 cf hO 70 #[] blk off cap d w enters70 hc hH hb hs
theorem c82 (h : AHeap) : Ret Try.prog 82 [AV.int .u64 0] h (AV.int .i64 0) h := by
 intro m Mut w us H ha
 have hus : us.size = 1 := ha.1.symm
 obtain ⟨u0, rfl⟩ : ∃ u0, us = #[u0] := ⟨us[0], by apply Array.ext (by simp [hus]); intro i h1 h2; match i, h2 with | 0, _ => rfl⟩
 have r0 := ha.2 0 _ u0 rfl rfl
 cases r0
 have hb := Any.bits_Len (SlLaysF0.n15.bits (P := Try.prog) (ρ := sortLay_ren) { sortLay with }) 0 w (by decide) (by decide)
 refine hb.mono fun e w' ⟨he, hw⟩ => ?_
 subst he; subst hw
 exact ⟨_, _, _, m, Mut, rfl, ⟨rfl, rfl⟩, .refl _ _ _, H, .int _ _⟩
end Go.Proofs.Ytjdbmmilcihpoaa
open Go
namespace Go.Proofs.Ytjdbmmilcihpoaa
set_option linter.unusedSimpArgs false
set_option linter.unusedVariables false
set_option maxHeartbeats 0
set_option maxRecDepth 100000
noncomputable def r83.v (x : Int) : Bool := x != x
theorem r83 (x : Int) (h : AHeap) : Ret Try.prog 83 ([iv x]) h (AV.bool (r83.v x)) h := by
 exact Ret.of_run1 mix [(AV.bool (r83.v x))] Try.func83 rfl [] (by simp) (by simp) (kmp (by kernel_rfl) (Ai (show (AV.bool (x != x)) = ((AV.bool (r83.v x))) by simp only [r83.v, cond_true, cond_false]) trivial)) h
noncomputable def r84.v (x : ByteArray) : Bool := bnot (x.toList == x.toList)
theorem r84 (x : ByteArray) (h : AHeap) : Ret Try.prog 84 ([AV.str x]) h (AV.bool (r84.v x)) h := by
 exact Ret.of_run1 mix [(AV.bool (r84.v x))] Try.func84 rfl [] (by simp) (by simp) (kmp (by kernel_rfl) (Ai (show (AV.bool (bnot (x.toList == x.toList))) = ((AV.bool (r84.v x))) by simp only [r84.v, cond_true, cond_false]) trivial)) h
noncomputable def r72.v (x : Int) (y : Int) : Int := (bif r83.v x then (bif r83.v y then 0 else -1) else (bif r83.v y then 1 else (bif decide (x < y) then -1 else (bif decide (x > y) then 1 else 0))))
theorem r72 (x : Int) (y : Int) (h : AHeap) : Ret Try.prog 72 ([iv x, iv y]) h (iv (r72.v x y)) h := by
 cases h1 : r83.v x with
 | true =>
  cases h2 : r83.v y with
  | true =>
   exact Ret.of_run1 mix [(iv (r72.v x y))] Try.func72 rfl [.ret (AV.bool (r83.v x)) ([]), .ret (AV.bool (r83.v y)) ([]), .b true, .b true] (by simp) (by simp) (kmp (by kernel_rfl) (Ai (r83 (x) ([])) (Ai (r83 (y) ([])) (Ai h1 (Ai h2 (Ai (show (iv 0) = ((iv (r72.v x y))) by simp only [r72.v, h1, h2, cond_true, cond_false]) trivial)))))) h
  | false =>
   exact Ret.of_run1 mix [(iv (r72.v x y))] Try.func72 rfl [.ret (AV.bool (r83.v x)) ([]), .ret (AV.bool (r83.v y)) ([]), .b true, .b false] (by simp) (by simp) (kmp (by kernel_rfl) (Ai (r83 (x) ([])) (Ai (r83 (y) ([])) (Ai h1 (Ai h2 (Ai (show (iv (-1)) = ((iv (r72.v x y))) by simp only [r72.v, h1, h2, cond_true, cond_false]) trivial)))))) h
 | false =>
  cases h2 : r83.v y with
  | true =>
   exact Ret.of_run1 mix [(iv (r72.v x y))] Try.func72 rfl [.ret (AV.bool (r83.v x)) ([]), .ret (AV.bool (r83.v y)) ([]), .b false, .b true] (by simp) (by simp) (kmp (by kernel_rfl) (Ai (r83 (x) ([])) (Ai (r83 (y) ([])) (Ai h1 (Ai h2 (Ai (show (iv 1) = ((iv (r72.v x y))) by simp only [r72.v, h1, h2, cond_true, cond_false]) trivial)))))) h
  | false =>
   cases h3 : decide (x < y) with
   | true =>
    have h3p := of_decide_eq_true h3
    exact Ret.of_run1 mix [(iv (r72.v x y))] Try.func72 rfl [.ret (AV.bool (r83.v x)) ([]), .ret (AV.bool (r83.v y)) ([]), .b false, .b false, .b true] (by simp) (by simp) (kmp (by kernel_rfl) (Ai (r83 (x) ([])) (Ai (r83 (y) ([])) (Ai h1 (Ai h2 (Ai h3 (Ai (show (iv (-1)) = ((iv (r72.v x y))) by simp only [r72.v, h1, h2, h3, cond_true, cond_false]) trivial))))))) h
   | false =>
    have h3p := of_decide_eq_false h3
    cases h4 : decide (x > y) with
    | true =>
     have h4p := of_decide_eq_true h4
     exact Ret.of_run1 mix [(iv (r72.v x y))] Try.func72 rfl [.ret (AV.bool (r83.v x)) ([]), .ret (AV.bool (r83.v y)) ([]), .b false, .b false, .b false, .b true] (by simp) (by simp) (kmp (by kernel_rfl) (Ai (r83 (x) ([])) (Ai (r83 (y) ([])) (Ai h1 (Ai h2 (Ai h3 (Ai h4 (Ai (show (iv 1) = ((iv (r72.v x y))) by simp only [r72.v, h1, h2, h3, h4, cond_true, cond_false]) trivial)))))))) h
    | false =>
     have h4p := of_decide_eq_false h4
     exact Ret.of_run1 mix [(iv (r72.v x y))] Try.func72 rfl [.ret (AV.bool (r83.v x)) ([]), .ret (AV.bool (r83.v y)) ([]), .b false, .b false, .b false, .b false] (by simp) (by simp) (kmp (by kernel_rfl) (Ai (r83 (x) ([])) (Ai (r83 (y) ([])) (Ai h1 (Ai h2 (Ai h3 (Ai h4 (Ai (show (iv 0) = ((iv (r72.v x y))) by simp only [r72.v, h1, h2, h3, h4, cond_true, cond_false]) trivial)))))))) h
noncomputable def r73.v (x : ByteArray) (y : ByteArray) : Int := (bif r84.v x then (bif r84.v y then 0 else -1) else (bif r84.v y then 1 else (bif Op.bytesLess x.toList y.toList then -1 else (bif x.toList == y.toList then 0 else 1))))
theorem r73 (x : ByteArray) (y : ByteArray) (h : AHeap) : Ret Try.prog 73 ([AV.str x, AV.str y]) h (iv (r73.v x y)) h := by
 cases h1 : r84.v x with
 | true =>
  cases h2 : r84.v y with
  | true =>
   exact Ret.of_run1 mix [(iv (r73.v x y))] Try.func73 rfl [.ret (AV.bool (r84.v x)) ([]), .ret (AV.bool (r84.v y)) ([]), .b true, .b true] (by simp) (by simp) (kmp (by kernel_rfl) (Ai (r84 (x) ([])) (Ai (r84 (y) ([])) (Ai h1 (Ai h2 (Ai (show (iv 0) = ((iv (r73.v x y))) by simp only [r73.v, h1, h2, cond_true, cond_false]) trivial)))))) h
  | false =>
   exact Ret.of_run1 mix [(iv (r73.v x y))] Try.func73 rfl [.ret (AV.bool (r84.v x)) ([]), .ret (AV.bool (r84.v y)) ([]), .b true, .b false] (by simp) (by simp) (kmp (by kernel_rfl) (Ai (r84 (x) ([])) (Ai (r84 (y) ([])) (Ai h1 (Ai h2 (Ai (show (iv (-1)) = ((iv (r73.v x y))) by simp only [r73.v, h1, h2, cond_true, cond_false]) trivial)))))) h
 | false =>
  cases h2 : r84.v y with
  | true =>
   exact Ret.of_run1 mix [(iv (r73.v x y))] Try.func73 rfl [.ret (AV.bool (r84.v x)) ([]), .ret (AV.bool (r84.v y)) ([]), .b false, .b true] (by simp) (by simp) (kmp (by kernel_rfl) (Ai (r84 (x) ([])) (Ai (r84 (y) ([])) (Ai h1 (Ai h2 (Ai (show (iv 1) = ((iv (r73.v x y))) by simp only [r73.v, h1, h2, cond_true, cond_false]) trivial)))))) h
  | false =>
   cases h3 : Op.bytesLess x.toList y.toList with
   | true =>
    exact Ret.of_run1 mix [(iv (r73.v x y))] Try.func73 rfl [.ret (AV.bool (r84.v x)) ([]), .ret (AV.bool (r84.v y)) ([]), .b false, .b false, .b true] (by simp) (by simp) (kmp (by kernel_rfl) (Ai (r84 (x) ([])) (Ai (r84 (y) ([])) (Ai h1 (Ai h2 (Ai h3 (Ai (show (iv (-1)) = ((iv (r73.v x y))) by simp only [r73.v, h1, h2, h3, cond_true, cond_false]) trivial))))))) h
   | false =>
    cases h4 : x.toList == y.toList with
    | true =>
     have h4p := str_eq h4
     exact Ret.of_run1 mix [(iv (r73.v x y))] Try.func73 rfl [.ret (AV.bool (r84.v x)) ([]), .ret (AV.bool (r84.v y)) ([]), .b false, .b false, .b false, .b false] (by simp) (by simp) (kmp (by kernel_rfl) (Ai (r84 (x) ([])) (Ai (r84 (y) ([])) (Ai h1 (Ai h2 (Ai h3 (Ai (show (bnot (Op.bytesLess x.toList y.toList || x.toList == y.toList)) = false by rw [h3, h4]; try rfl) (Ai (show (iv 0) = ((iv (r73.v x y))) by simp only [r73.v, h1, h2, h3, h4, cond_true, cond_false]) trivial)))))))) h
    | false =>
     have h4p := str_ne h4
     exact Ret.of_run1 mix [(iv (r73.v x y))] Try.func73 rfl [.ret (AV.bool (r84.v x)) ([]), .ret (AV.bool (r84.v y)) ([]), .b false, .b false, .b false, .b true] (by simp) (by simp) (kmp (by kernel_rfl) (Ai (r84 (x) ([])) (Ai (r84 (y) ([])) (Ai h1 (Ai h2 (Ai h3 (Ai (show (bnot (Op.bytesLess x.toList y.toList || x.toList == y.toList)) = true by rw [h3, h4]; try rfl) (Ai (show (iv 1) = ((iv (r73.v x y))) by simp only [r73.v, h1, h2, h3, h4, cond_true, cond_false]) trivial)))))))) h
noncomputable def r71.v (x : Int) (y : Int) : Int := (bif [x, y].getD 0 0 == 0 then (bif [x, y].getD 1 0 == 0 then 0 else y) else x)
theorem r71 (x : Int) (y : Int) (h : AHeap) : Ret Try.prog 71 ([AV.sl 1 2 fun (i : Nat) => iv ([x, y].getD i 0)]) h (iv (r71.v x y)) h := by
 cases h1 : [x, y].getD 0 0 == 0 with
 | true =>
  have h1p := eq_of_beq h1
  cases h2 : [x, y].getD 1 0 == 0 with
  | true =>
   have h2p := eq_of_beq h2
   exact Ret.of_run1 mix [(iv (r71.v x y))] Try.func71 rfl [.rounds 3, .b true, .b false, .b true, .b false, .b false] (by simp) (by simp) (kmp (by kernel_rfl) (Ai (rfl : true = true) (Ai (Ai (show (0 : Int) ≤ (0 : Int) by decide) (show (0 : Int) < (2 : Int) by decide)) (Ai (show (bnot ([x, y].getD 0 0 == 0)) = false by rw [h1]; try rfl) (Ai (rfl : true = true) (Ai (Ai (show (0 : Int) ≤ (1 : Int) by decide) (show (1 : Int) < (2 : Int) by decide)) (Ai (show (bnot ([x, y].getD 1 0 == 0)) = false by rw [h2]; try rfl) (Ai (rfl : false = false) (Ai (show (iv 0) = ((iv (r71.v x y))) by simp only [r71.v, h1, h2, cond_true, cond_false]) trivial))))))))) h
  | false =>
   have h2p := ne_of_beq_false h2
   exact Ret.of_run1 mix [(iv (r71.v x y))] Try.func71 rfl [.rounds 3, .b true, .b false, .b true, .b true] (by simp) (by simp) (kmp (by kernel_rfl) (Ai (rfl : true = true) (Ai (Ai (show (0 : Int) ≤ (0 : Int) by decide) (show (0 : Int) < (2 : Int) by decide)) (Ai (show (bnot ([x, y].getD 0 0 == 0)) = false by rw [h1]; try rfl) (Ai (rfl : true = true) (Ai (Ai (show (0 : Int) ≤ (1 : Int) by decide) (show (1 : Int) < (2 : Int) by decide)) (Ai (show (bnot ([x, y].getD 1 0 == 0)) = true by rw [h2]; try rfl) (Ai (show (iv y) = ((iv (r71.v x y))) by simp only [r71.v, h1, h2, cond_true, cond_false]) trivial)))))))) h
 | false =>
  have h1p := ne_of_beq_false h1
  exact Ret.of_run1 mix [(iv (r71.v x y))] Try.func71 rfl [.rounds 3, .b true, .b true] (by simp) (by simp) (kmp (by kernel_rfl) (Ai (rfl : true = true) (Ai (Ai (show (0 : Int) ≤ (0 : Int) by decide) (show (0 : Int) < (2 : Int) by decide)) (Ai (show (bnot ([x, y].getD 0 0 == 0)) = true by rw [h1]; try rfl) (Ai (show (iv x) = ((iv (r71.v x y))) by simp only [r71.v, h1, cond_true, cond_false]) trivial))))) h
noncomputable def r70.v (s : SD) (t : SD) : Int := r71.v (r72.v s.ax t.ax) (r73.v s.nm t.nm)
noncomputable abbrev r70.h0 (s : SD) (t : SD) : AHeap := ([AObj.var (SD.av s), AObj.var (SD.av t)])
theorem r70 (s : SD) (t : SD) (h : AHeap) : Ret Try.prog 70 ([s.av, t.av]) h (iv (r70.v s t)) h := by
 exact Ret.of_run1 mix [(iv (r70.v s t))] Try.func70 rfl [.ret (iv (r72.v s.ax t.ax)) (r70.h0 s t), .ret (iv (r73.v s.nm t.nm)) (r70.h0 s t), .ret (iv (r71.v (r72.v s.ax t.ax) (r73.v s.nm t.nm))) (r70.h0 s t)] (by simp) (by simp) (kmp (by kernel_rfl) (Ai (r72 (s.ax) (t.ax) (r70.h0 s t)) (Ai (r73 (s.nm) (t.nm) (r70.h0 s t)) (Ai (r71 (r72.v s.ax t.ax) (r73.v s.nm t.nm) (r70.h0 s t)) (Ai (show (iv (r71.v (r72.v s.ax t.ax) (r73.v s.nm t.nm))) = ((iv (r70.v s t))) by simp only [r70.v, cond_true, cond_false]) trivial))))) h
theorem r86n (g : Nat → SD) (h : AHeap) : Ret Try.prog 86 ([AV.sl 14 0 fun (i : Nat) => (g i).av, iv 0, iv 0, AV.fn 70 []]) h (AV.tup []) h := by
 exact Ret.of_run1 mix [] Try.func86 rfl [.rounds 3, .b false] (by simp) (by simp) (kmp (by kernel_rfl) (Ai (rfl : false = false) trivial)) h
theorem r81n (g : Nat → SD) (h : AHeap) : Ret Try.prog 81 ([AV.sl 14 0 fun (i : Nat) => (g i).av, iv 0, iv 0, iv 0, AV.fn 70 []]) h (AV.tup []) h := by
 exact Ret.of_run1 mix [] Try.func81 rfl [.rounds 3, .b true, .ret (AV.tup []) ([])] (by simp) (by simp) (kmp (by kernel_rfl) (Ai (rfl : true = true) (Ai (r86n (g) ([])) trivial))) h
theorem r69n (g : Nat → SD) (h : AHeap) : Ret Try.prog 69 ([AV.sl 14 0 fun (i : Nat) => (g i).av, AV.fn 70 []]) h (AV.tup []) h := by
 exact Ret.of_run1 mix [] Try.func69 rfl [.ret (iv 0) ([]), .ret (AV.tup []) ([])] (by simp) (by simp) (kmp (by kernel_rfl) (Ai (c82 ([])) (Ai (r81n (g) ([])) trivial))) h
end Go.Proofs.Ytjdbmmilcihpoaa
open Go
namespace Go.Proofs.Ytjdbmmilcihpoaa
set_option maxHeartbeats 0
set_option maxRecDepth 100000
set_option linter.unusedVariables false
set_option linter.unusedSimpArgs false
def ltS (s t : SD) : Bool := decide (s.ax < t.ax ∨ (s.ax = t.ax ∧ s.nm.toList < t.nm.toList))
theorem lt70 (s t : SD) : ltOf r70.v s t = ltS s t := by
 have f3 : ∀ x, r83.v x = false := fun x => by unfold r83.v; simp
 have f4 : ∀ x, r84.v x = false := fun x => by unfold r84.v; simp
 unfold ltOf ltS r70.v r71.v r72.v r73.v
 rw [f3, f3, f4, f4]
 show decide ((bif (bif decide (s.ax < t.ax) then (-1 : Int) else bif decide (s.ax > t.ax) then 1 else 0) == 0 then _ else _) < 0) = _
 rcases Int.lt_trichotomy s.ax t.ax with h | h | h
 · rw [decide_eq_true h, cond_true]
   exact (decide_eq_true (.inl h)).symm
 · rw [decide_eq_false (show ¬ s.ax < t.ax by omega), decide_eq_false (show ¬ s.ax > t.ax by omega)]
   show decide ((bif (bif Op.bytesLess s.nm.toList t.nm.toList then (-1 : Int) else bif s.nm.toList == t.nm.toList then 0 else 1) == 0 then 0 else (bif Op.bytesLess s.nm.toList t.nm.toList then (-1 : Int) else bif s.nm.toList == t.nm.toList then 0 else 1)) < 0) = _
   rw [Go.Proofs.bytesLess_eq]
   by_cases q : s.nm.toList < t.nm.toList
   · rw [decide_eq_true q]
     exact (decide_eq_true (.inr ⟨h, q⟩)).symm
   · rw [decide_eq_false q]
     have e : decide (s.ax < t.ax ∨ s.ax = t.ax ∧ s.nm.toList < t.nm.toList) = false := decide_eq_false (by rintro (k | ⟨_, k⟩); omega; exact q k)
     rw [e]
     cases s.nm.toList == t.nm.toList <;> rfl
 · rw [decide_eq_false (show ¬ s.ax < t.ax by omega), decide_eq_true h]
   exact (decide_eq_false (by rintro (k | ⟨k, _⟩) <;> omega)).symm
theorem ltS_iff {s t : SD} : ltS s t = true ↔ s.ax < t.ax ∨ (s.ax = t.ax ∧ s.nm.toList < t.nm.toList) := decide_eq_true_iff
theorem ltS_not {s t : SD} : ltS s t = false ↔ t.ax < s.ax ∨ (t.ax = s.ax ∧ ¬ s.nm.toList < t.nm.toList) := by
 unfold ltS
 rw [decide_eq_false_iff_not]
 constructor
 · intro h
   rcases Int.lt_trichotomy s.ax t.ax with k | k | k
   · exact absurd (.inl k) h
   · exact .inr ⟨k.symm, fun q => h (.inr ⟨k, q⟩)⟩
   · exact .inl k
 · rintro (k | ⟨k1, k2⟩) (q | ⟨q1, q2⟩)
   · omega
   · omega
   · omega
   · exact k2 q2
theorem swo70 : Go.Sort.SWO (ltOf r70.v) where
 irrefl x := by rw [lt70, ltS_not]; exact .inr ⟨rfl, List.lt_irrefl _⟩
 trans x y z h1 h2 := by
  rw [lt70, ltS_iff] at *
  rcases h1 with h1 | ⟨h1, k1⟩ <;> rcases h2 with h2 | ⟨h2, k2⟩
  · exact .inl (by omega)
  · exact .inl (by omega)
  · exact .inl (by omega)
  · exact .inr ⟨by omega, List.lt_trans k1 k2⟩
 ntrans x y z h1 h2 := by
  rw [lt70, ltS_not] at *
  rcases h1 with h1 | ⟨h1, k1⟩ <;> rcases h2 with h2 | ⟨h2, k2⟩
  · exact .inl (by omega)
  · exact .inl (by omega)
  · exact .inl (by omega)
  · refine .inr ⟨by omega, fun k => ?_⟩
    -- y is not above x, z is not above y
    rcases Classical.em (y.nm.toList < x.nm.toList) with q | q
    · exact k2 (List.lt_trans q k)
    · have e : x.nm.toList = y.nm.toList := List.le_antisymm q k1
      rw [e] at k; exact k2 k
/-- Two stones neither of which comes first: one place and one name. -/
theorem eq70 {s t : SD} (h1 : ltOf r70.v s t = false) (h2 : ltOf r70.v t s = false) : s.ax = t.ax ∧ s.nm.toList = t.nm.toList := by
 rw [lt70, ltS_not] at h1 h2
 rcases h1 with h1 | ⟨h1, k1⟩ <;> rcases h2 with h2 | ⟨h2, k2⟩
 · omega
 · omega
 · omega
 · exact ⟨h2, List.le_antisymm k2 k1⟩
end Go.Proofs.Ytjdbmmilcihpoaa
open Go
namespace Go.Proofs.Ytjdbmmilcihpoaa
set_option maxHeartbeats 0
set_option maxRecDepth 100000
set_option linter.unusedVariables false
set_option linter.unusedSimpArgs false
/-- From left to right, by name where they begin alike. -/
def srtS (l : List SD) : List SD := l.mergeSort fun a b => !ltS b a
theorem srtS_perm (l : List SD) : (srtS l).Perm l := List.mergeSort_perm _ _
theorem srtS_sorted (l : List SD) : (srtS l).Pairwise fun a b => ltOf r70.v b a = false := by
 have h := List.pairwise_mergeSort (le := fun a b : SD => !ltS b a) (fun a b c h1 h2 => by
  rw [Bool.not_eq_true', ← lt70] at *
  exact swo70.ntrans _ _ _ h2 h1) (fun a b => by
  cases h1 : ltS b a with
  | false => rfl
  | true =>
   cases h2 : ltS a b with
   | false => rfl
   | true =>
    rw [← lt70] at h1 h2
    have := swo70.trans _ _ _ h1 h2
    rw [swo70.irrefl] at this; cases this) l
 exact h.imp fun {a b} q => by rw [lt70]; simpa using q
theorem srtS_len (l : List SD) : (srtS l).length = l.length := (srtS_perm l).length_eq
theorem set_self {α : Type} {l : List α} {i : Nat} {x : α} (h : l[i]? = some x) : l.set i x = l := by
 apply List.ext_getElem?
 intro j
 rw [List.getElem?_set]
 split
 · rename_i e
   subst e
   rw [h, if_pos (List.getElem?_eq_some_iff.1 h).1]
 · rfl
theorem cell_sd (s : SD) : s.av.cells.length = 14 ∧ s.av.cells.all AV.isCell = true := ⟨rfl, rfl⟩
theorem c69 (l : List SD) (hbig : l.length < 4611686018427387904) (hd : ∀ x ∈ l, ∀ y ∈ l, x.nm.toList = y.nm.toList → x = y) {h : AHeap} {rid : Nat} (hid : h[rid]? = some (rowOf 14 SD.av l)) :
 Ret Try.prog 69 [.ms rid l.length 14 0 l.length, .fn 70 []] h (.tup []) (h.set rid (rowOf 14 SD.av (srtS l))) := by
 cases l with
 | nil =>
  rw [show srtS [] = [] from List.eq_nil_of_length_eq_zero (srtS_len [])]
  rw [set_self hid]
  refine Ret.imp (args' := [AV.sl 14 0 fun i => ((fun _ => default : Nat → SD) i).av, AV.fn 70 []]) (.cons (fun m Mut w v hv => ?_) (.cons (.refl _) .nil)) (r69n (fun _ => default) h)
  cases hv with
  | ms _ _ _ _ _ b o C hm hc => exact .sl0 _ _ _ _
  | ms0 _ _ _ _ b o C a hm => exact .sl0 _ _ _ _
 | cons a l =>
  exact Ret.sortK sortHas (by decide) cell_sd (fun s => ⟨_, rfl⟩) (fun s => by simp) (fun s t h => r70 s t h) swo70 (by simp) hbig (srtS_perm _) (srtS_sorted _) (fun x hx y hy h1 h2 => hd x hx y hy (eq70 h1 h2).2) hid
end Go.Proofs.Ytjdbmmilcihpoaa
open Go
namespace Go.Proofs.Ytjdbmmilcihpoaa
set_option maxHeartbeats 0
set_option maxRecDepth 100000
set_option linter.unusedVariables false
set_option linter.unusedSimpArgs false
theorem body2 : loopN Try.f44 2 = .seq (.region 14 (RG Try.f44 14) false) (.seq (.cond (.tmp 49) .skip (.exit 4)) (.seq (.block 5 (.seq (.region 15 (RG Try.f44 15) false) (.region 16 (RG Try.f44 16) false))) (.region 17 (RG Try.f44 17) false))) := by kernel_rfl
theorem ops14 : (RG Try.f44 14).toList = [opN 14 0] := by kernel_rfl
theorem ops15 : (RG Try.f44 15).toList = [opN 15 0, opN 15 1, opN 15 2] := by kernel_rfl
theorem ops16 : (RG Try.f44 16).toList = [opN 16 0, opN 16 1] := by kernel_rfl
theorem ops17 : (RG Try.f44 17).toList = [opN 17 0, opN 17 1] := by kernel_rfl
noncomputable def T2 (N k : Nat) : List AV := mkT 56 [(6, .ms 1 N 1 0 N), (46, .ms 1 N 1 0 N), (47, .int .i64 (N : Int)), (48, .int .i64 (k : Int))]
noncomputable def T15 (N k l : Nat) : List AV := mkT 56 [(6, .ms 1 N 1 0 N), (10, .ms (1 + 1 + k) l 14 0 l), (46, .ms 1 N 1 0 N), (47, .int .i64 (N : Int)), (48, .int .i64 (k : Int)), (49, .bool true), (50, .ptr 1 N 1 (0 + k) 0), (51, .ms (1 + 1 + k) l 14 0 l)]
noncomputable def T16 (N k l : Nat) : List AV := ((T15 N k l).set 52 (.ms (1 + 1 + k) l 14 0 l)).set 53 (.tup [])
noncomputable def T17 (N k l : Nat) : List AV := ((T16 N k l).set 54 (.int .i64 ((k + 1 : Nat) : Int))).set 48 (.int .i64 ((k + 1 : Nat) : Int))
section
variable {w : WD} {N k l : Nat} {L L' : Nat → List SD} {h h' : AHeap}
theorem reg14 : To Try.prog (.region 14 (RG Try.f44 14) false) (T2 N k) h fun e T h' => e = .normal ∧ T = (T2 N k).set 49 (.bool (decide ((k : Int) < (N : Int)))) ∧ h' = h :=
 To.regS (ds := []) ops14 (.step (cs := []) (v := .bool (decide ((k : Int) < (N : Int)))) (h' := h) (ds' := []) (T' := (T2 N k).set 49 (.bool (decide ((k : Int) < (N : Int))))) (by kernel_rfl) (by kernel_rfl) (by kernel_rfl) all_nil (.nil ⟨rfl, rfl⟩))
theorem cell44 (hk : k < N) (ho : h[1]? = some (outer (1 + 1) 14 N L)) : cellsAt h (.ptr 1 N 1 (0 + k) 0) = some (cnd (N = N ∧ 1 = 1 ∧ 0 + k < N), [.ms (1 + 1 + k) (L k).length 14 0 (L k).length]) := by
 rw [cells_row ho]
 show some (cnd _, [AV.ms (1 + 1 + (0 + k)) (L (0 + k)).length 14 0 (L (0 + k)).length]) = _
 rw [Nat.zero_add]; rfl
theorem q15_0 : opRes Try.prog (opN 15 0) ((T2 N k).set 49 (.bool true)) h [] = some ([0 ≤ (k : Int) ∧ (k : Int) < (N : Int)], .ptr 1 N 1 (0 + k) 0, h, []) := by kernel_rfl
theorem q15_1 {c : Cnd} (hc : cellsAt h (.ptr 1 N 1 (0 + k) 0) = some (c, [.ms (1 + 1 + k) l 14 0 l])) : opRes Try.prog (opN 15 1) (((T2 N k).set 49 (.bool true)).set 50 (.ptr 1 N 1 (0 + k) 0)) h [] = some (c.list, .ms (1 + 1 + k) l 14 0 l, h, []) :=
 res_load (t := 32) (a := .tmp 50) (p := .ptr 1 N 1 (0 + k) 0) (by kernel_rfl) (by kernel_rfl) hc (by kernel_rfl) (by kernel_rfl)
theorem q15_2 : opRes Try.prog (opN 15 2) ((((T2 N k).set 49 (.bool true)).set 50 (.ptr 1 N 1 (0 + k) 0)).set 51 (.ms (1 + 1 + k) l 14 0 l)) h [] = some ([], .ms (1 + 1 + k) l 14 0 l, h, []) := by kernel_rfl
theorem t15_0 : aput ((T2 N k).set 49 (.bool true)) (opN 15 0).dst (.ptr 1 N 1 (0 + k) 0) = ((T2 N k).set 49 (.bool true)).set 50 (.ptr 1 N 1 (0 + k) 0) := by kernel_rfl
theorem t15_1 : aput (((T2 N k).set 49 (.bool true)).set 50 (.ptr 1 N 1 (0 + k) 0)) (opN 15 1).dst (.ms (1 + 1 + k) l 14 0 l) = (((T2 N k).set 49 (.bool true)).set 50 (.ptr 1 N 1 (0 + k) 0)).set 51 (.ms (1 + 1 + k) l 14 0 l) := by kernel_rfl
theorem t15_2 : aput ((((T2 N k).set 49 (.bool true)).set 50 (.ptr 1 N 1 (0 + k) 0)).set 51 (.ms (1 + 1 + k) l 14 0 l)) (opN 15 2).dst (.ms (1 + 1 + k) l 14 0 l) = T15 N k l := by kernel_rfl
theorem g15 : (opN 15 0).guard = none ∧ (opN 15 1).guard = none ∧ (opN 15 2).guard = none ∧ (opN 16 0).guard = none ∧ (opN 16 1).guard = none ∧ (opN 17 0).guard = none ∧ (opN 17 1).guard = none := ⟨by kernel_rfl, by kernel_rfl, by kernel_rfl, by kernel_rfl, by kernel_rfl, by kernel_rfl, by kernel_rfl⟩
theorem reg15 (hk : k < N) (ho : h[1]? = some (outer (1 + 1) 14 N L)) : To Try.prog (.region 15 (RG Try.f44 15) false) ((T2 N k).set 49 (.bool true)) h fun e T h' => e = .normal ∧ T = T15 N k (L k).length ∧ h' = h := by
 have hb : ∀ c ∈ [0 ≤ (k : Int) ∧ (k : Int) < (N : Int)], c := fun c hc => by simp only [List.mem_singleton] at hc; subst hc; omega
 have h2 : ∀ c ∈ (cnd (N = N ∧ 1 = 1 ∧ 0 + k < N)).list, c := all_cnd ⟨rfl, rfl, by omega⟩
 exact To.regS (ds := []) ops15 (.step t15_0 g15.1 q15_0 hb (.step t15_1 g15.2.1 (q15_1 (cell44 hk ho)) h2 (.step t15_2 g15.2.2.1 q15_2 all_nil (.nil ⟨rfl, rfl⟩))))
theorem q16_0 {ds : List Dec} : opRes Try.prog (opN 16 0) (T15 N k l) h ds = some ([], .ms (1 + 1 + k) l 14 0 l, h, ds) := by kernel_rfl
theorem q16_1 : opRes Try.prog (opN 16 1) ((T15 N k l).set 52 (.ms (1 + 1 + k) l 14 0 l)) h [.ret (.tup []) h'] = some ([Ret Try.prog 69 [.ms (1 + 1 + k) l 14 0 l, .fn 70 []] h (.tup []) h'], .tup [], h', []) := by kernel_rfl
theorem t16_0 : aput (T15 N k l) (opN 16 0).dst (.ms (1 + 1 + k) l 14 0 l) = (T15 N k l).set 52 (.ms (1 + 1 + k) l 14 0 l) := by kernel_rfl
theorem t16_1 : aput ((T15 N k l).set 52 (.ms (1 + 1 + k) l 14 0 l)) (opN 16 1).dst (.tup []) = T16 N k l := by kernel_rfl
theorem reg16 (hr : Ret Try.prog 69 [.ms (1 + 1 + k) l 14 0 l, .fn 70 []] h (.tup []) h') : To Try.prog (.region 16 (RG Try.f44 16) false) (T15 N k l) h fun e T h2 => e = .normal ∧ T = T16 N k l ∧ h2 = h' := by
 have hb : ∀ c ∈ [Ret Try.prog 69 [.ms (1 + 1 + k) l 14 0 l, .fn 70 []] h (.tup []) h'], c := fun c hc => by simp only [List.mem_singleton] at hc; subst hc; exact hr
 exact To.regS (ds := [.ret (.tup []) h']) ops16 (.step t16_0 g15.2.2.2.1 q16_0 all_nil (.step t16_1 g15.2.2.2.2.1 q16_1 hb (.nil ⟨rfl, rfl⟩)))
theorem t17_0 : aput (T16 N k l) (opN 17 0).dst (.int .i64 ((k + 1 : Nat) : Int)) = (T16 N k l).set 54 (.int .i64 ((k + 1 : Nat) : Int)) := by kernel_rfl
theorem t17_1 : aput ((T16 N k l).set 54 (.int .i64 ((k + 1 : Nat) : Int))) (opN 17 1).dst (.int .i64 ((k + 1 : Nat) : Int)) = T17 N k l := by kernel_rfl
theorem q17_1 : opRes Try.prog (opN 17 1) ((T16 N k l).set 54 (.int .i64 ((k + 1 : Nat) : Int))) h [] = some ([], .int .i64 ((k + 1 : Nat) : Int), h, []) := by kernel_rfl
theorem reg17 (hi : k < 9223372036854775807) : To Try.prog (.region 17 (RG Try.f44 17) false) (T16 N k l) h fun e T h' => e = .normal ∧ T = T17 N k l ∧ h' = h := by
 have e0 : opRes Try.prog (opN 17 0) (T16 N k l) h [] = some ([], .int .i64 (IntKind.i64.wrap ((k : Int) + 1)), h, []) := by kernel_rfl
 rw [show IntKind.i64.wrap ((k : Int) + 1) = ((k + 1 : Nat) : Int) by rw [IntWalk.i64_in _ (by omega)]; omega] at e0
 exact To.regS (ds := []) ops17 (.step t17_0 g15.2.2.2.2.2.1 e0 all_nil (.step t17_1 g15.2.2.2.2.2.2 q17_1 all_nil (.nil ⟨rfl, rfl⟩)))
theorem leT17_eq : leT (T17 N k l) (T2 N (k + 1)) = ((AV.ms 1 N 1 0 N = .ms 1 N 1 0 N) ∧ (AV.ms 1 N 1 0 N = .ms 1 N 1 0 N) ∧ (AV.int .i64 (N : Int) = .int .i64 (N : Int)) ∧ (AV.int .i64 ((k + 1 : Nat) : Int) = .int .i64 ((k + 1 : Nat) : Int)) ∧ True) := by kernel_rfl
theorem leTX2_eq {b : Bool} : leT ((T2 N k).set 49 (.bool b)) (TX N) = ((AV.ms 1 N 1 0 N = .ms 1 N 1 0 N) ∧ True) := by kernel_rfl
theorem leT17 : leT (T17 N k l) (T2 N (k + 1)) := by rw [leT17_eq]; exact and4
theorem leTX2 {b : Bool} : leT ((T2 N k).set 49 (.bool b)) (TX N) := by rw [leTX2_eq]; exact ⟨rfl, trivial⟩
/-- The courses of which the first k are in order. -/
noncomputable def half (C : Nat → List SD) (k : Nat) : Nat → List SD := fun j => if j < k then srtS (C j) else C j
theorem round2 {C : Nat → List SD} (hk : k < N) (hN : N ≤ 1000000) (hbig : (C k).length < 4611686018427387904) (hd : ∀ x ∈ C k, ∀ y ∈ C k, x.nm.toList = y.nm.toList → x = y) :
 To Try.prog (loopN Try.f44 2) (T2 N k) (bigH w N (half C k)) fun e T h => e = .normal ∧ T = T17 N k (C k).length ∧ h = bigH w N (half C (k + 1)) := by
 have h14 := reg14 (N := N) (k := k) (h := bigH w N (half C k))
 rw [show decide ((k : Int) < (N : Int)) = true from decide_eq_true (by omega)] at h14
 have hCk : half C k k = C k := if_neg (Nat.lt_irrefl _)
 have hS : half C (k + 1) k = srtS (C k) := if_pos (Nat.lt_succ_self _)
 have ho : (bigH w N (half C k))[1]? = some (outer (1 + 1) 14 N (half C k)) := nestH_outer [.var w.av] 14 SD.av N (half C k)
 have hr : (bigH w N (half C k))[1 + 1 + k]? = some (rowOf 14 SD.av (C k)) := by
  rw [← hCk]; exact nestH_row [.var w.av] 14 SD.av (half C k) hk
 have h15 := reg15 hk ho
 rw [hCk] at h15
 have hput : (bigH w N (half C k)).set (1 + 1 + k) (rowOf 14 SD.av (srtS (C k))) = bigH w N (half C (k + 1)) := by
  rw [← hS]
  exact nestH_put [.var w.av] 14 SD.av hk (fun j hj => by
   show (if j < k + 1 then srtS (C j) else C j) = if j < k then srtS (C j) else C j
   by_cases q : j < k
   · rw [if_pos q, if_pos (by omega)]
   · rw [if_neg q, if_neg (by omega)]) (by rw [hS, hCk, srtS_len])
 have h69 := c69 (C k) hbig hd hr
 rw [hput] at h69
 have h16 := reg16 (N := N) h69
 rw [body2]
 exact h14.seq rfl (To.seq (To.cond (q := true) (by kernel_rfl) (To.skip ⟨rfl, rfl, rfl⟩)) rfl (To.seq (To.block (To.seq h15 rfl h16)) rfl (reg17 (by omega))))
theorem end2 (hge : ¬ k < N) : To Try.prog (loopN Try.f44 2) (T2 N k) h fun e T h' => e = .exit 4 ∧ T = (T2 N k).set 49 (.bool false) ∧ h' = h := by
 have h14 := reg14 (N := N) (k := k) (h := h)
 rw [show decide ((k : Int) < (N : Int)) = false from decide_eq_false (by omega)] at h14
 rw [body2]
 exact h14.seq rfl (To.seqX (To.cond (q := false) (by kernel_rfl) (To.exit ⟨rfl, rfl, rfl⟩)) ⟨rfl, rfl, rfl⟩)
end
theorem loop2 (w : WD) (N : Nat) (hN : N ≤ 1000000) (C : Nat → List SD) (hbig : ∀ k, k < N → (C k).length < 4611686018427387904) (hd : ∀ k, k < N → ∀ x ∈ C k, ∀ y ∈ C k, x.nm.toList = y.nm.toList → x = y) :
 LoopTo Try.prog (loopN Try.f44 2) (T2 N 0) (bigH w N C) (.exit 4) (TX N) (bigH w N fun k => if k < N then srtS (C k) else C k) := by
 have h0 : bigH w N C = bigH w N (half C 0) := by
  congr 1
 rw [h0]
 refine (To.loop (fun r T h => ∃ k, k ≤ N ∧ r = N - k ∧ T = T2 N k ∧ h = bigH w N (half C k)) (fun r T h ⟨k, hi, hr, hT, hh⟩ => ?_) (n := N) ⟨0, Nat.zero_le _, rfl, rfl, rfl⟩).wpc
 subst hT; subst hh
 by_cases hlt : k < N
 · refine (round2 hlt hN (hbig k hlt) (hd k hlt)).pop fun e T h ⟨he, hT, hh⟩ => ?_
   subst he; subst hT; subst hh
   refine ⟨T2 N (k + 1), bigH w N (half C (k + 1)), ?_, ⟨N - (k + 1), by omega, k + 1, by omega, rfl, rfl, rfl⟩, .same⟩
   apply leT17
 · refine (end2 hlt).pop fun e T h ⟨he, hT, hh⟩ => ?_
   subst he; subst hT; subst hh
   obtain rfl : k = N := by omega
   refine ⟨TX _, _, ?_, ⟨rfl, rfl, rfl⟩, .same⟩
   apply leTX2
end Go.Proofs.Ytjdbmmilcihpoaa
open Go
namespace Go.Proofs.Ytjdbmmilcihpoaa
set_option maxHeartbeats 0
set_option maxRecDepth 100000
set_option linter.unusedVariables false
set_option linter.unusedSimpArgs false
noncomputable def TE (N : Nat) : List AV := ((TX N).set 55 (.ms 1 N 1 0 N)).set 2 (.ms 1 N 1 0 N)
theorem run44 (w : WD) (last : Int) (L1 L2 : Nat → List SD) (K : Exit → List AV → AHeap → List Dec → Prop) :
 run Try.prog (bodyOf Try.f44) (initT Try.f44 [w.av]) [] [.loop (others 56 [1, 3, 12, 13, 14]) (.exit 0) (L44a.X w (.e0 last)) (L44a.XH w (.e0 last)), .loop (others 56 [6, 27, 28, 29]) (.exit 2) (TX (IntKind.i64.wrap (last + 1)).toNat) (bigH w (IntKind.i64.wrap (last + 1)).toNat L1), .loop (others 56 [6, 46, 47, 48]) (.exit 4) (TX (IntKind.i64.wrap (last + 1)).toNat) (bigH w (IntKind.i64.wrap (last + 1)).toNat L2)] K =
 (LoopTo Try.prog (loopN Try.f44 0) (L44a.T w (-1) 0) (L44a.H w (-1) 0) (.exit 0) (L44a.X w (.e0 last)) (L44a.XH w (.e0 last)) ∧
  (IntKind.i64.wrap (last + 1) = IntKind.i64.wrap (last + 1) ∧ 0 ≤ IntKind.i64.wrap (last + 1) ∧ ((bytesT Try.prog 32 : Nat) : Int) * IntKind.i64.wrap (last + 1) ≤ 281474976710656 ∧ IntKind.i64.wrap (last + 1) ≤ 9223372036854775807) ∧
  LoopTo Try.prog (loopN Try.f44 1) (T1 w (IntKind.i64.wrap (last + 1)).toNat 0) ([.var w.av] ++ [.row 1 (IntKind.i64.wrap (last + 1)).toNat (.gen (IntKind.i64.wrap (last + 1)).toNat fun _ => .snil)]) (.exit 2) (TX (IntKind.i64.wrap (last + 1)).toNat) (bigH w (IntKind.i64.wrap (last + 1)).toNat L1) ∧
  LoopTo Try.prog (loopN Try.f44 2) (T2 (IntKind.i64.wrap (last + 1)).toNat 0) (bigH w (IntKind.i64.wrap (last + 1)).toNat L1) (.exit 4) (TX (IntKind.i64.wrap (last + 1)).toNat) (bigH w (IntKind.i64.wrap (last + 1)).toNat L2) ∧
  K .ret (TE (IntKind.i64.wrap (last + 1)).toNat) (bigH w (IntKind.i64.wrap (last + 1)).toNat L2) []) := by kernel_rfl
/-- The greatest course, -1 if there is none. -/
noncomputable def topC (g : Nat → SD) : Nat → Int
 | 0 => -1
 | i + 1 => if (g i).co > topC g i then (g i).co else topC g i
theorem top_N (w : WD) (hn : w.n ≤ 9223372036854775807) : ∀ (m i : Nat), i ≤ w.n → w.n - i < m → L44a.N w m (topC w.g i) (i : Int) = .e0 (topC w.g w.n) := by
 intro m
 induction m with
 | zero => intro i _ h; omega
 | succ m ih =>
  intro i hi hm
  simp only [L44a.N, Int.toNat_natCast]
  by_cases h : i < w.n
  · rw [decide_eq_true (show (i : Int) < (w.n : Int) by omega), cond_true, show IntKind.i64.wrap ((i : Int) + 1) = ((i + 1 : Nat) : Int) by rw [IntWalk.i64_in _ (by omega)]; omega]
    exact ih (i + 1) h (by omega)
  · rw [decide_eq_false (show ¬ (i : Int) < (w.n : Int) by omega), cond_false, show i = w.n by omega]
theorem top_run (w : WD) (hn : w.n ≤ 9223372036854775807) : L44a.run w (-1) 0 = .e0 (topC w.g w.n) := by
 unfold L44a.run
 exact top_N w hn _ 0 (Nat.zero_le _) (by omega)
theorem top_ge (g : Nat → SD) : ∀ n i, i < n → (g i).co ≤ topC g n := by
 intro n
 induction n with
 | zero => intro i h; omega
 | succ n ih =>
  intro i hi
  unfold topC
  by_cases e : i = n
  · subst e; split <;> omega
  · have := ih i (by omega)
    split <;> omega
theorem top_le (g : Nat → SD) (B : Int) (hB : -1 ≤ B) : ∀ n, (∀ i, i < n → (g i).co ≤ B) → -1 ≤ topC g n ∧ topC g n ≤ B := by
 intro n
 induction n with
 | zero => intro _; exact ⟨Int.le_refl _, hB⟩
 | succ n ih =>
  intro h
  obtain ⟨a, b⟩ := ih fun i hi => h i (by omega)
  have := h n (by omega)
  unfold topC
  split <;> omega
theorem crs_mem {g : Nat → SD} {k : Nat} : ∀ {n : Nat} {x : SD}, x ∈ crs g k n → ∃ i, i < n ∧ x = g i := by
 intro n
 induction n with
 | zero => intro x hx; simp [crs] at hx
 | succ n ih =>
  intro x hx
  unfold crs at hx
  split at hx
  · rcases List.mem_append.1 hx with q | q
    · obtain ⟨i, hi, e⟩ := ih q; exact ⟨i, by omega, e⟩
    · exact ⟨n, by omega, List.mem_singleton.1 q⟩
  · obtain ⟨i, hi, e⟩ := ih hx; exact ⟨i, by omega, e⟩
/-- How many courses there are, and the stones of one of them. -/
noncomputable def nC (w : WD) : Nat := (topC w.g w.n + 1).toNat
noncomputable def cC (w : WD) (k : Nat) : List SD := srtS (crs w.g k w.n)
theorem bytes32 : bytesT Try.prog 32 = 24 := by kernel_rfl
/-- wall.courses. -/
theorem r44 (w : WD) (hn : w.n ≤ 10000) (hc : ∀ i, i < w.n → 0 ≤ (w.g i).co ∧ (w.g i).co ≤ 99) (hd : ∀ i j, i < w.n → j < w.n → (w.g i).nm.toList = (w.g j).nm.toList → i = j) (h : AHeap) :
 Ret Try.prog 44 [w.av] h (nestAV 14 SD.av (nC w) (cC w)) h := by
 obtain ⟨t1, t2⟩ := top_le w.g 99 (by decide) w.n fun i hi => (hc i hi).2
 have hw : IntKind.i64.wrap (topC w.g w.n + 1) = topC w.g w.n + 1 := IntWalk.i64_in _ (by omega)
 have hN : (IntKind.i64.wrap (topC w.g w.n + 1)).toNat = nC w := by rw [hw]; rfl
 have hN2 : nC w ≤ 100 := by unfold nC; omega
 have hcN : ∀ i, i < w.n → 0 ≤ (w.g i).co ∧ (w.g i).co < (nC w : Int) := fun i hi => by
  have := top_ge w.g w.n i hi
  have := hc i hi
  unfold nC
  omega
 have e2 : bigH w (nC w) (fun k => if k < nC w then srtS (crs w.g k w.n) else crs w.g k w.n) = bigH w (nC w) (cC w) := by
  unfold bigH nestH rowsH outer
  have eL : ∀ k, k < nC w → (if k < nC w then srtS (crs w.g k w.n) else crs w.g k w.n) = cC w k := fun k hk => if_pos hk
  have el : (fun j => AV.ms ([AObj.var w.av].length + 1 + j) (if j < nC w then srtS (crs w.g j w.n) else crs w.g j w.n).length 14 0 (if j < nC w then srtS (crs w.g j w.n) else crs w.g j w.n).length) = fun j => AV.ms ([AObj.var w.av].length + 1 + j) (cC w j).length 14 0 (cC w j).length := by
   funext j
   have : (if j < nC w then srtS (crs w.g j w.n) else crs w.g j w.n).length = (cC w j).length := by
    unfold cC
    split
    · rfl
    · rw [srtS_len]
   rw [this]
  rw [el]
  congr 2
  apply List.map_congr_left
  intro k hk
  exact congrArg (rowOf 14 SD.av) (eL k (List.mem_range.1 hk))
 have l0 := L44a.e0 w (by omega) (-1) 0 ⟨Int.le_refl _, by omega⟩ (topC w.g w.n) (top_run w (by omega))
 have l1 : LoopTo Try.prog (loopN Try.f44 1) (T1 w (nC w) 0) ([.var w.av] ++ [.row 1 (nC w) (.gen (nC w) fun _ => .snil)]) (.exit 2) (TX (nC w)) (bigH w (nC w) fun k => crs w.g k w.n) :=
  WPC.nest 14 SD.av (loop1 w (nC w) (by omega) hcN)
 have l2 := loop2 w (nC w) (by omega) (fun k => crs w.g k w.n) (fun k _ => by have := crs_lt w.g k w.n; omega) (fun k _ x hx y hy e => by
  obtain ⟨i, hi, rfl⟩ := crs_mem hx
  obtain ⟨j, hj, rfl⟩ := crs_mem hy
  rw [hd i j hi hj e])
 rw [e2] at l2
 have hr := run44 w (topC w.g w.n) (fun k => crs w.g k w.n) (cC w) fun e T h1 _ => match e with | .normal => RetN Try.prog Try.f44 14 SD.av (nC w) (cC w) T h1 | .ret => RetN Try.prog Try.f44 14 SD.av (nC w) (cC w) T h1 | _ => False
 rw [hN, hw] at hr
 refine Ret.of_runN (c := bodyOf Try.f44) 14 SD.av (nC w) (cC w) Try.func44 (by kernel_rfl) (fun v hv => by simp at hv; subst hv; simp) (fun d => by simp) ?_ h
 refine (run_sound mix _ _ _ _ _ (kmp hr ⟨l0, ⟨rfl, by omega, by rw [bytes32]; omega, by omega⟩, l1, l2, [.var w.av], rfl, by kernel_rfl⟩)).mono fun e T h1 ⟨_, hk⟩ => hk
end Go.Proofs.Ytjdbmmilcihpoaa
open Go
namespace Go.Proofs.Ytjdbmmilcihpoaa
set_option linter.unusedSimpArgs false
set_option linter.unusedVariables false
set_option maxHeartbeats 0
set_option maxRecDepth 100000
noncomputable def r75.v (c : Int) : Bool := (bif inB c then (bif decide (c < 65) then true else decide (c > 90)) else false)
theorem r75 (c : Int) (h0 : 0 ≤ c) (h1 : c ≤ 255) (h : AHeap) : Ret Try.prog 75 ([AV.int IntKind.u8 c]) h (AV.bool (r75.v c)) h := by
 have o0 : (0 : Int) ≤ c := by assumption
 have o1 : c ≤ (255 : Int) := by assumption
 cases h1 : inB c with
 | true =>
  cases h2 : decide (c < 65) with
  | true =>
   have h2p := of_decide_eq_true h2
   exact Ret.of_run1 mix [(AV.bool (r75.v c))] Try.func75 rfl [.ret (AV.bool (inB c)) ([]), .b true, .b true, .b true, .b true, .b true, .b true, .b true, .b true] (by simp) (by simp) (kmp (by kernel_rfl) (Ai (r76 (c) o0 o1 ([])) (Ai h1 (Ai h1 (Ai h1 (Ai h2 (Ai h2 (Ai h1 (Ai h2 (Ai h1 (Ai (show (AV.bool true) = ((AV.bool (r75.v c))) by simp only [r75.v, h1, h2, cond_true, cond_false]) trivial))))))))))) h
  | false =>
   have h2p := of_decide_eq_false h2
   exact Ret.of_run1 mix [(AV.bool (r75.v c))] Try.func75 rfl [.ret (AV.bool (inB c)) ([]), .b true, .b true, .b true, .b false, .b false, .b true, .b false, .b true] (by simp) (by simp) (kmp (by kernel_rfl) (Ai (r76 (c) o0 o1 ([])) (Ai h1 (Ai h1 (Ai h1 (Ai h2 (Ai h2 (Ai h1 (Ai h2 (Ai h1 (Ai (show (AV.bool (decide (c > 90))) = ((AV.bool (r75.v c))) by simp only [r75.v, h1, h2, cond_true, cond_false]) trivial))))))))))) h
 | false =>
  exact Ret.of_run1 mix [(AV.bool (r75.v c))] Try.func75 rfl [.ret (AV.bool (inB c)) ([]), .b false, .b false, .b false, .b false, .b false] (by simp) (by simp) (kmp (by kernel_rfl) (Ai (r76 (c) o0 o1 ([])) (Ai h1 (Ai h1 (Ai h1 (Ai h1 (Ai h1 (Ai (show (AV.bool false) = ((AV.bool (r75.v c))) by simp only [r75.v, h1, cond_true, cond_false]) trivial)))))))) h
inductive L74.O where
 | e0 (a0 : Int)
noncomputable def L74.T (s : ByteArray) (i : Int) : List AV := mkT 20 [(0, AV.str s), (1, AV.fn 75 []), (5, iv i)]
noncomputable def L74.H (s : ByteArray) (i : Int) : AHeap := []
def L74.inv (s : ByteArray) (i : Int) : Prop := 0 ≤ i ∧ i ≤ (↑s.size : Int)
noncomputable def L74.mu (s : ByteArray) (i : Int) : Nat := ((↑s.size : Int) - i).toNat
noncomputable def L74.E : L74.O → Exit
 | .e0 a0 => Exit.exit 0
noncomputable def L74.X (s : ByteArray) : L74.O → List AV
 | .e0 a0 => mkT 20 [(5, (iv a0))]
noncomputable def L74.XH (s : ByteArray) : L74.O → AHeap
 | .e0 a0 => ([])
noncomputable def L74.N (s : ByteArray) : Nat → Int → L74.O
 | 0, i => .e0 i
 | k_ + 1, i => (bif decide (i < (↑s.size : Int)) then (bif r75.v (sbyte s i.toNat) then (L74.N s k_ (IntKind.i64.wrap (i + 1))) else (.e0 (i))) else (.e0 (i)))
noncomputable def L74.run (s : ByteArray) (i : Int) : L74.O := L74.N s ((((↑s.size : Int) - i).toNat) + 1) i
theorem L74.nx (s : ByteArray) {k_ : Nat} {z_ : Int} {h_ : AHeap} (s_ : Int) (h1 : L74.inv s s_) (h2 : L74.mu s s_ < L74.mu s z_) (h3 : L74.N s k_ s_ = L74.N s (k_ + 1) z_) (h4 : PopOk (L74.H s z_) h_ (L74.T s s_) (L74.H s s_)) : LNextP (L74.T s) (L74.H s) (L74.inv s) (L74.mu s) (L74.N s) k_ z_ (L74.T s s_) h_ := LNextP.mk s_ h1 h2 h3 h4
theorem L74.en (s : ByteArray) {k_ : Nat} {z_ : Int} {h_ : AHeap} (o_ : L74.O) (h3 : L74.N s (k_ + 1) z_ = o_) (h4 : PopOk (L74.H s z_) h_ (L74.X s o_) (L74.XH s o_)) : LEndP (L74.H s) (L74.N s) L74.E (L74.X s) (L74.XH s) k_ z_ (L74.E o_) (L74.X s o_) h_ := LEndP.mk o_ h3 h4
theorem L74.spec (s : ByteArray) (hs : s.size ≤ 9223372036854775807) (k_ : Nat) (z_ : Int) (hi_ : L74.inv s z_) (hm_ : L74.mu s z_ < k_) : LoopTo Try.prog (loopN Try.f74 0) (L74.T s z_) (L74.H s z_) (L74.E (L74.N s k_ z_)) (L74.X s (L74.N s k_ z_)) (L74.XH s (L74.N s k_ z_)) := by
 refine LoopTo.fuelP mix (L74.T s) (L74.H s) (L74.inv s) (L74.mu s) (L74.N s) L74.E (L74.X s) (L74.XH s) (others 20 [0, 1, 5]) (others 20 [4]) (others 20 [5]) ?_ k_ z_ hi_ hm_
 clear hm_ hi_ z_ k_
 intro k_ z_ hinv hmu
 revert hinv hmu; revert z_; intro i hinv hmu
 have hinv : 0 ≤ i ∧ i ≤ (↑s.size : Int) := hinv
 have hmu : (((↑s.size : Int) - i).toNat) < k_ + 1 := hmu
 cases h1 : decide (i < (↑s.size : Int)) with
 | true =>
  have h1p := of_decide_eq_true h1
  have o0 : (0 : Int) ≤ i := by omega
  have o1 : i < (↑s.size : Int) := by assumption
  try have := sbyte_bd (s) (i.toNat)
  have o2 : (0 : Int) ≤ sbyte s i.toNat := by omega
  have o3 : sbyte s i.toNat ≤ (255 : Int) := by omega
  cases h2 : r75.v (sbyte s i.toNat) with
  | true =>
   try have := IntWalk.i64_in (i + 1) (by omega)
   have o4 : (0 : Int) ≤ IntKind.i64.wrap (i + (1 : Int)) := by omega
   have o5 : IntKind.i64.wrap (i + (1 : Int)) ≤ (↑s.size : Int) := by omega
   have o6 : ((↑s.size : Int) - IntKind.i64.wrap (i + (1 : Int))).toNat < ((↑s.size : Int) - i).toNat := by omega
   exact ⟨[.b true, .b true, .b true, .b true, .b true, .ret (AV.bool (r75.v (sbyte s i.toNat))) ([]), .b true, .b true], kmp (by kernel_rfl) (Ai h1 (Ai h1 (Ai h1 (Ai h1 (Ai (Ai o0 o1) (Ai h1 (Ai (r75 (sbyte s i.toNat) o2 o3 ([])) (Ai h1 (Ai h2 (L74.nx s (k_ := k_) (z_ := i) (IntKind.i64.wrap (i + 1)) (Ai o4 o5) o6 (by simp only [L74.N, h1, h2, cond_true, cond_false]) PopOk.same))))))))))⟩
  | false =>
   exact ⟨[.b true, .b true, .b true, .b true, .b true, .ret (AV.bool (r75.v (sbyte s i.toNat))) ([]), .b true, .b false], kmp (by kernel_rfl) (Ai h1 (Ai h1 (Ai h1 (Ai h1 (Ai (Ai o0 o1) (Ai h1 (Ai (r75 (sbyte s i.toNat) o2 o3 ([])) (Ai h1 (Ai h2 (L74.en s (k_ := k_) (z_ := i) (.e0 (i) : L74.O) (by simp only [L74.N, h1, h2, cond_true, cond_false]) PopOk.same))))))))))⟩
 | false =>
  have h1p := of_decide_eq_false h1
  exact ⟨[.b false, .b false, .b false, .b false, .b false, .b false, .b false], kmp (by kernel_rfl) (Ai h1 (Ai h1 (Ai h1 (Ai h1 (Ai h1 (Ai h1 (Ai (rfl : false = false) (L74.en s (k_ := k_) (z_ := i) (.e0 (i) : L74.O) (by simp only [L74.N, h1, cond_true, cond_false]) PopOk.same))))))))⟩
theorem L74.e0 (s : ByteArray) (hs : s.size ≤ 9223372036854775807) (i : Int) (hinv : L74.inv s i) (a0 : Int) (hN : L74.run s i = (.e0 a0 : L74.O)) : LoopTo Try.prog (loopN Try.f74 0) (L74.T s i) (L74.H s i) (Exit.exit 0) (L74.X s (.e0 a0 : L74.O)) (L74.XH s (.e0 a0 : L74.O)) := by
 have h_ := L74.spec s hs ((((↑s.size : Int) - i).toNat) + 1) i hinv (Nat.lt_succ_self _)
 unfold L74.run at hN
 simp only [hN] at h_
 exact h_
noncomputable def r74.v (s : ByteArray) : Int := (match L74.run s 0 with | .e0 h1d0 => h1d0 )
theorem r74 (s : ByteArray) (hs : s.size ≤ 9223372036854775807) (h : AHeap) : Ret Try.prog 74 ([AV.str s, AV.fn 75 []]) h (iv (r74.v s)) h := by
 have o0 : s.size ≤ (9223372036854775807 : Nat) := by assumption
 have o1 : (0 : Int) ≤ (↑s.size : Int) := by omega
 cases h1 : L74.run s 0 with
 | e0 h1d0 =>
  exact Ret.of_run1 mix [(iv (r74.v s))] Try.func74 rfl [.loop (others 20 [0, 1, 5]) (Exit.exit 0) (L74.X s (L74.O.e0 h1d0)) (L74.XH s (L74.O.e0 h1d0))] (by simp) (by simp) (kmp (by kernel_rfl) (Ai (L74.e0 (s) o0 (0) (Ai (show (0 : Int) ≤ (0 : Int) by decide) o1) h1d0 h1) (Ai (show (iv h1d0) = ((iv (r74.v s))) by simp only [r74.v, h1, cond_true, cond_false]) trivial))) h
noncomputable def r48.v (s : ByteArray) : Bool := (bif s.toList == (ByteArray.mk #[]).toList then false else (bif decide ((↑s.size : Int) > 24) then false else (bif decide (sbyte s 0 < 97) then false else (bif decide (sbyte s 0 > 122) then false else r74.v s == (↑s.size : Int)))))
theorem r48 (s : ByteArray) (hs : s.size ≤ 9223372036854775807) (h : AHeap) : Ret Try.prog 48 ([AV.str s]) h (AV.bool (r48.v s)) h := by
 cases h1 : s.toList == (ByteArray.mk #[]).toList with
 | true =>
  have h1p := str_eq h1
  exact Ret.of_run1 mix [(AV.bool (r48.v s))] Try.func48 rfl [.b true, .b true, .b true, .b true, .b true, .b true, .b true, .b true, .b true, .b true, .b true, .b true, .b true] (by simp) (by simp) (kmp (by kernel_rfl) (Ai h1 (Ai h1 (Ai h1 (Ai h1 (Ai (rfl : true = true) (Ai (rfl : true = true) (Ai (rfl : true = true) (Ai (rfl : true = true) (Ai (rfl : true = true) (Ai (rfl : true = true) (Ai (rfl : true = true) (Ai (rfl : true = true) (Ai (rfl : true = true) (Ai (show (AV.bool false) = ((AV.bool (r48.v s))) by simp only [r48.v, h1, cond_true, cond_false]) trivial))))))))))))))) h
 | false =>
  have h1p := str_ne h1
  have h1q := str_pos h1
  cases h2 : decide ((↑s.size : Int) > 24) with
  | true =>
   have h2p := of_decide_eq_true h2
   exact Ret.of_run1 mix [(AV.bool (r48.v s))] Try.func48 rfl [.b false, .b false, .b false, .b false, .b true, .b true, .b true, .b true, .b true, .b true, .b true, .b true, .b true] (by simp) (by simp) (kmp (by kernel_rfl) (Ai h1 (Ai h1 (Ai h1 (Ai h1 (Ai h2 (Ai h2 (Ai h2 (Ai h2 (Ai (rfl : true = true) (Ai (rfl : true = true) (Ai (rfl : true = true) (Ai (rfl : true = true) (Ai (rfl : true = true) (Ai (show (AV.bool false) = ((AV.bool (r48.v s))) by simp only [r48.v, h1, h2, cond_true, cond_false]) trivial))))))))))))))) h
  | false =>
   have h2p := of_decide_eq_false h2
   have o0 : (0 : Int) < (↑s.size : Int) := by omega
   cases h3 : decide (sbyte s 0 < 97) with
   | true =>
    have h3p := of_decide_eq_true h3
    exact Ret.of_run1 mix [(AV.bool (r48.v s))] Try.func48 rfl [.b false, .b false, .b false, .b false, .b false, .b false, .b false, .b false, .b true, .b true, .b true, .b true, .b true] (by simp) (by simp) (kmp (by kernel_rfl) (Ai h1 (Ai h1 (Ai h1 (Ai h1 (Ai h2 (Ai h2 (Ai (Ai (show (0 : Int) ≤ (0 : Int) by decide) o0) (Ai h2 (Ai h2 (Ai h3 (Ai h3 (Ai h3 (Ai h3 (Ai (rfl : true = true) (Ai (show (AV.bool false) = ((AV.bool (r48.v s))) by simp only [r48.v, h1, h2, h3, cond_true, cond_false]) trivial)))))))))))))))) h
   | false =>
    have h3p := of_decide_eq_false h3
    cases h4 : decide (sbyte s 0 > 122) with
    | true =>
     have h4p := of_decide_eq_true h4
     exact Ret.of_run1 mix [(AV.bool (r48.v s))] Try.func48 rfl [.b false, .b false, .b false, .b false, .b false, .b false, .b false, .b false, .b false, .b false, .b false, .b false, .b true] (by simp) (by simp) (kmp (by kernel_rfl) (Ai h1 (Ai h1 (Ai h1 (Ai h1 (Ai h2 (Ai h2 (Ai (Ai (show (0 : Int) ≤ (0 : Int) by decide) o0) (Ai h2 (Ai h2 (Ai h3 (Ai h3 (Ai (Ai (show (0 : Int) ≤ (0 : Int) by decide) o0) (Ai h3 (Ai h3 (Ai h4 (Ai (show (AV.bool false) = ((AV.bool (r48.v s))) by simp only [r48.v, h1, h2, h3, h4, cond_true, cond_false]) trivial))))))))))))))))) h
    | false =>
     have h4p := of_decide_eq_false h4
     have o1 : s.size ≤ (9223372036854775807 : Nat) := by assumption
     exact Ret.of_run1 mix [(AV.bool (r48.v s))] Try.func48 rfl [.b false, .b false, .b false, .b false, .b false, .b false, .b false, .b false, .b false, .b false, .b false, .b false, .b false, .ret (iv (r74.v s)) ([])] (by simp) (by simp) (kmp (by kernel_rfl) (Ai h1 (Ai h1 (Ai h1 (Ai h1 (Ai h2 (Ai h2 (Ai (Ai (show (0 : Int) ≤ (0 : Int) by decide) o0) (Ai h2 (Ai h2 (Ai h3 (Ai h3 (Ai (Ai (show (0 : Int) ≤ (0 : Int) by decide) o0) (Ai h3 (Ai h3 (Ai h4 (Ai (r74 (s) o1 ([])) (Ai (show (AV.bool (r74.v s == (↑s.size : Int))) = ((AV.bool (r48.v s))) by simp only [r48.v, h1, h2, h3, h4, cond_true, cond_false]) trivial)))))))))))))))))) h
noncomputable def r80.v (c : Int) : Bool := (bif decide (c ≥ 48) then decide (c ≤ 57) else false)
theorem r80 (c : Int) (h : AHeap) : Ret Try.prog 80 ([AV.int IntKind.u8 c]) h (AV.bool (r80.v c)) h := by
 cases h1 : decide (c ≥ 48) with
 | true =>
  have h1p := of_decide_eq_true h1
  exact Ret.of_run1 mix [(AV.bool (r80.v c))] Try.func80 rfl [.b true, .b true, .b true] (by simp) (by simp) (kmp (by kernel_rfl) (Ai h1 (Ai h1 (Ai h1 (Ai (show (AV.bool (decide (c ≤ 57))) = ((AV.bool (r80.v c))) by simp only [r80.v, h1, cond_true, cond_false]) trivial))))) h
 | false =>
  have h1p := of_decide_eq_false h1
  exact Ret.of_run1 mix [(AV.bool (r80.v c))] Try.func80 rfl [.b false, .b false, .b false] (by simp) (by simp) (kmp (by kernel_rfl) (Ai h1 (Ai h1 (Ai h1 (Ai (show (AV.bool false) = ((AV.bool (r80.v c))) by simp only [r80.v, h1, cond_true, cond_false]) trivial))))) h
noncomputable def r68.v (c : Int) : Bool := (bif decide (c ≥ 97) then (bif decide (c ≤ 122) then true else (bif decide (c ≥ 65) then decide (c ≤ 90) else false)) else (bif decide (c ≥ 65) then decide (c ≤ 90) else false))
theorem r68 (c : Int) (h : AHeap) : Ret Try.prog 68 ([AV.int IntKind.u8 c]) h (AV.bool (r68.v c)) h := by
 cases h1 : decide (c ≥ 97) with
 | true =>
  have h1p := of_decide_eq_true h1
  cases h2 : decide (c ≤ 122) with
  | true =>
   have h2p := of_decide_eq_true h2
   exact Ret.of_run1 mix [(AV.bool (r68.v c))] Try.func68 rfl [.b true, .b true, .b true, .b true, .b true, .b true, .b true, .b true] (by simp) (by simp) (kmp (by kernel_rfl) (Ai h1 (Ai h1 (Ai h1 (Ai h2 (Ai h2 (Ai h2 (Ai h2 (Ai h2 (Ai (show (AV.bool true) = ((AV.bool (r68.v c))) by simp only [r68.v, h1, h2, cond_true, cond_false]) trivial)))))))))) h
  | false =>
   have h2p := of_decide_eq_false h2
   cases h3 : decide (c ≥ 65) with
   | true =>
    have h3p := of_decide_eq_true h3
    exact Ret.of_run1 mix [(AV.bool (r68.v c))] Try.func68 rfl [.b true, .b true, .b true, .b false, .b false, .b false, .b true, .b true, .b false, .b true, .b false] (by simp) (by simp) (kmp (by kernel_rfl) (Ai h1 (Ai h1 (Ai h1 (Ai h2 (Ai h2 (Ai h2 (Ai h3 (Ai h3 (Ai h2 (Ai h3 (Ai h2 (Ai (show (AV.bool (decide (c ≤ 90))) = ((AV.bool (r68.v c))) by simp only [r68.v, h1, h2, h3, cond_true, cond_false]) trivial))))))))))))) h
   | false =>
    have h3p := of_decide_eq_false h3
    exact Ret.of_run1 mix [(AV.bool (r68.v c))] Try.func68 rfl [.b true, .b true, .b true, .b false, .b false, .b false, .b false, .b false, .b false, .b false, .b false] (by simp) (by simp) (kmp (by kernel_rfl) (Ai h1 (Ai h1 (Ai h1 (Ai h2 (Ai h2 (Ai h2 (Ai h3 (Ai h3 (Ai h2 (Ai h3 (Ai h2 (Ai (show (AV.bool false) = ((AV.bool (r68.v c))) by simp only [r68.v, h1, h2, h3, cond_true, cond_false]) trivial))))))))))))) h
 | false =>
  have h1p := of_decide_eq_false h1
  cases h2 : decide (c ≥ 65) with
  | true =>
   have h2p := of_decide_eq_true h2
   exact Ret.of_run1 mix [(AV.bool (r68.v c))] Try.func68 rfl [.b false, .b false, .b false, .b false, .b false, .b false, .b true, .b true, .b false, .b true, .b false] (by simp) (by simp) (kmp (by kernel_rfl) (Ai h1 (Ai h1 (Ai h1 (Ai (rfl : false = false) (Ai (rfl : false = false) (Ai (rfl : false = false) (Ai h2 (Ai h2 (Ai (rfl : false = false) (Ai h2 (Ai (rfl : false = false) (Ai (show (AV.bool (decide (c ≤ 90))) = ((AV.bool (r68.v c))) by simp only [r68.v, h1, h2, cond_true, cond_false]) trivial))))))))))))) h
  | false =>
   have h2p := of_decide_eq_false h2
   exact Ret.of_run1 mix [(AV.bool (r68.v c))] Try.func68 rfl [.b false, .b false, .b false, .b false, .b false, .b false, .b false, .b false, .b false, .b false, .b false] (by simp) (by simp) (kmp (by kernel_rfl) (Ai h1 (Ai h1 (Ai h1 (Ai (rfl : false = false) (Ai (rfl : false = false) (Ai (rfl : false = false) (Ai h2 (Ai h2 (Ai (rfl : false = false) (Ai h2 (Ai (rfl : false = false) (Ai (show (AV.bool false) = ((AV.bool (r68.v c))) by simp only [r68.v, h1, h2, cond_true, cond_false]) trivial))))))))))))) h
noncomputable def r67.v (c : Int) : Bool := (bif r80.v c then true else (bif r68.v c then true else c == 95))
theorem r67 (c : Int) (h : AHeap) : Ret Try.prog 67 ([AV.int IntKind.u8 c]) h (AV.bool (r67.v c)) h := by
 cases h1 : r80.v c with
 | true =>
  exact Ret.of_run1 mix [(AV.bool (r67.v c))] Try.func67 rfl [.ret (AV.bool (r80.v c)) ([]), .b true, .b true, .b true, .b true, .b true, .b true] (by simp) (by simp) (kmp (by kernel_rfl) (Ai (r80 (c) ([])) (Ai h1 (Ai h1 (Ai h1 (Ai (rfl : true = true) (Ai (rfl : true = true) (Ai (rfl : true = true) (Ai (show (AV.bool true) = ((AV.bool (r67.v c))) by simp only [r67.v, h1, cond_true, cond_false]) trivial))))))))) h
 | false =>
  cases h2 : r68.v c with
  | true =>
   exact Ret.of_run1 mix [(AV.bool (r67.v c))] Try.func67 rfl [.ret (AV.bool (r80.v c)) ([]), .b false, .b false, .ret (AV.bool (r68.v c)) ([]), .b false, .b true, .b true, .b true] (by simp) (by simp) (kmp (by kernel_rfl) (Ai (r80 (c) ([])) (Ai h1 (Ai h1 (Ai (r68 (c) ([])) (Ai h1 (Ai h2 (Ai h2 (Ai h2 (Ai (show (AV.bool true) = ((AV.bool (r67.v c))) by simp only [r67.v, h1, h2, cond_true, cond_false]) trivial)))))))))) h
  | false =>
   exact Ret.of_run1 mix [(AV.bool (r67.v c))] Try.func67 rfl [.ret (AV.bool (r80.v c)) ([]), .b false, .b false, .ret (AV.bool (r68.v c)) ([]), .b false, .b false, .b false, .b false] (by simp) (by simp) (kmp (by kernel_rfl) (Ai (r80 (c) ([])) (Ai h1 (Ai h1 (Ai (r68 (c) ([])) (Ai h1 (Ai h2 (Ai h2 (Ai h2 (Ai (show (AV.bool (c == 95)) = ((AV.bool (r67.v c))) by simp only [r67.v, h1, h2, cond_true, cond_false]) trivial)))))))))) h
inductive L39.O where
 | e0
 | e1
noncomputable def L39.T (s : ByteArray) (i : Int) : List AV := mkT 46 [(0, AV.str s), (3, iv i)]
noncomputable def L39.H (s : ByteArray) (i : Int) : AHeap := []
def L39.inv (s : ByteArray) (i : Int) : Prop := 0 ≤ i ∧ i ≤ (↑s.size : Int)
noncomputable def L39.mu (s : ByteArray) (i : Int) : Nat := ((↑s.size : Int) - i).toNat
noncomputable def L39.E : L39.O → Exit
 | .e0 => Exit.ret
 | .e1 => Exit.exit 0
noncomputable def L39.X (s : ByteArray) : L39.O → List AV
 | .e0 => mkT 46 [(2, (AV.bool false))]
 | .e1 => mkT 46 [(0, AV.str s)]
noncomputable def L39.XH (s : ByteArray) : L39.O → AHeap
 | .e0 => ([])
 | .e1 => ([])
noncomputable def L39.N (s : ByteArray) : Nat → Int → L39.O
 | 0, _ => .e0
 | k_ + 1, i => (bif decide (i < (↑s.size : Int)) then (bif r67.v (sbyte s i.toNat) then (bif decide (sbyte s i.toNat ≥ 65) then (bif decide (sbyte s i.toNat ≤ 90) then (.e0) else (bif i == 0 then (bif r68.v (sbyte s i.toNat) then (L39.N s k_ (IntKind.i64.wrap (i + 1))) else (.e0)) else (L39.N s k_ (IntKind.i64.wrap (i + 1))))) else (bif i == 0 then (bif r68.v (sbyte s i.toNat) then (L39.N s k_ (IntKind.i64.wrap (i + 1))) else (.e0)) else (L39.N s k_ (IntKind.i64.wrap (i + 1))))) else (.e0)) else (.e1))
noncomputable def L39.run (s : ByteArray) (i : Int) : L39.O := L39.N s ((((↑s.size : Int) - i).toNat) + 1) i
theorem L39.nx (s : ByteArray) {k_ : Nat} {z_ : Int} {h_ : AHeap} (s_ : Int) (h1 : L39.inv s s_) (h2 : L39.mu s s_ < L39.mu s z_) (h3 : L39.N s k_ s_ = L39.N s (k_ + 1) z_) (h4 : PopOk (L39.H s z_) h_ (L39.T s s_) (L39.H s s_)) : LNextP (L39.T s) (L39.H s) (L39.inv s) (L39.mu s) (L39.N s) k_ z_ (L39.T s s_) h_ := LNextP.mk s_ h1 h2 h3 h4
theorem L39.en (s : ByteArray) {k_ : Nat} {z_ : Int} {h_ : AHeap} (o_ : L39.O) (h3 : L39.N s (k_ + 1) z_ = o_) (h4 : PopOk (L39.H s z_) h_ (L39.X s o_) (L39.XH s o_)) : LEndP (L39.H s) (L39.N s) L39.E (L39.X s) (L39.XH s) k_ z_ (L39.E o_) (L39.X s o_) h_ := LEndP.mk o_ h3 h4
theorem L39.spec (s : ByteArray) (hs : s.size ≤ 9223372036854775807) (k_ : Nat) (z_ : Int) (hi_ : L39.inv s z_) (hm_ : L39.mu s z_ < k_) : LoopTo Try.prog (loopN Try.f39 0) (L39.T s z_) (L39.H s z_) (L39.E (L39.N s k_ z_)) (L39.X s (L39.N s k_ z_)) (L39.XH s (L39.N s k_ z_)) := by
 refine LoopTo.fuelP mix (L39.T s) (L39.H s) (L39.inv s) (L39.mu s) (L39.N s) L39.E (L39.X s) (L39.XH s) (others 46 [0, 3]) (others 46 [2]) (others 46 [0]) ?_ k_ z_ hi_ hm_
 clear hm_ hi_ z_ k_
 intro k_ z_ hinv hmu
 revert hinv hmu; revert z_; intro i hinv hmu
 have hinv : 0 ≤ i ∧ i ≤ (↑s.size : Int) := hinv
 have hmu : (((↑s.size : Int) - i).toNat) < k_ + 1 := hmu
 cases h1 : decide (i < (↑s.size : Int)) with
 | true =>
  have h1p := of_decide_eq_true h1
  have o0 : (0 : Int) ≤ i := by omega
  have o1 : i < (↑s.size : Int) := by assumption
  cases h2 : r67.v (sbyte s i.toNat) with
  | true =>
   cases h3 : decide (sbyte s i.toNat ≥ 65) with
   | true =>
    have h3p := of_decide_eq_true h3
    cases h4 : decide (sbyte s i.toNat ≤ 90) with
    | true =>
     have h4p := of_decide_eq_true h4
     exact ⟨[.b true, .ret (AV.bool (r67.v (sbyte s i.toNat))) ([]), .b false, .b false, .b false, .b false, .b false, .b true, .b true, .b true, .b true, .b false, .b true, .b false, .b true, .b true, .b true, .b true, .b true, .b true], kmp (by kernel_rfl) (Ai h1 (Ai (Ai o0 o1) (Ai (r67 (sbyte s i.toNat) ([])) (Ai (show (bnot (r67.v (sbyte s i.toNat))) = false by rw [h2]; try rfl) (Ai (show (bnot (r67.v (sbyte s i.toNat))) = false by rw [h2]; try rfl) (Ai (show (bnot (r67.v (sbyte s i.toNat))) = false by rw [h2]; try rfl) (Ai (Ai o0 o1) (Ai (show (bnot (r67.v (sbyte s i.toNat))) = false by rw [h2]; try rfl) (Ai (show (bnot (r67.v (sbyte s i.toNat))) = false by rw [h2]; try rfl) (Ai h3 (Ai h3 (Ai h3 (Ai (Ai o0 o1) (Ai h3 (Ai (show (bnot (r67.v (sbyte s i.toNat))) = false by rw [h2]; try rfl) (Ai h3 (Ai (show (bnot (r67.v (sbyte s i.toNat))) = false by rw [h2]; try rfl) (Ai h4 (Ai h4 (Ai h4 (Ai h4 (Ai h4 (Ai (rfl : true = true) (L39.en s (k_ := k_) (z_ := i) (.e0 : L39.O) (by simp only [L39.N, h1, h2, h3, h4, cond_true, cond_false]) PopOk.same))))))))))))))))))))))))⟩
    | false =>
     have h4p := of_decide_eq_false h4
     cases h5 : i == 0 with
     | true =>
      have h5p := eq_of_beq h5
      cases h6 : r68.v (sbyte s i.toNat) with
      | true =>
       try have := IntWalk.i64_in (i + 1) (by omega)
       have o2 : (0 : Int) ≤ IntKind.i64.wrap (i + (1 : Int)) := by omega
       have o3 : IntKind.i64.wrap (i + (1 : Int)) ≤ (↑s.size : Int) := by omega
       have o4 : ((↑s.size : Int) - IntKind.i64.wrap (i + (1 : Int))).toNat < ((↑s.size : Int) - i).toNat := by omega
       exact ⟨[.b true, .ret (AV.bool (r67.v (sbyte s i.toNat))) ([]), .b false, .b false, .b false, .b false, .b false, .b true, .b true, .b true, .b true, .b false, .b true, .b false, .b false, .b false, .b false, .b true, .b true, .b true, .b true, .ret (AV.bool (r68.v (sbyte s i.toNat))) ([]), .b true, .b false, .b true, .b false, .b false], kmp (by kernel_rfl) (Ai h1 (Ai (Ai o0 o1) (Ai (r67 (sbyte s i.toNat) ([])) (Ai (show (bnot (r67.v (sbyte s i.toNat))) = false by rw [h2]; try rfl) (Ai (show (bnot (r67.v (sbyte s i.toNat))) = false by rw [h2]; try rfl) (Ai (show (bnot (r67.v (sbyte s i.toNat))) = false by rw [h2]; try rfl) (Ai (Ai o0 o1) (Ai (show (bnot (r67.v (sbyte s i.toNat))) = false by rw [h2]; try rfl) (Ai (show (bnot (r67.v (sbyte s i.toNat))) = false by rw [h2]; try rfl) (Ai h3 (Ai h3 (Ai h3 (Ai (Ai o0 o1) (Ai h3 (Ai (show (bnot (r67.v (sbyte s i.toNat))) = false by rw [h2]; try rfl) (Ai h3 (Ai (show (bnot (r67.v (sbyte s i.toNat))) = false by rw [h2]; try rfl) (Ai h4 (Ai h4 (Ai h4 (Ai h5 (Ai h5 (Ai h5 (Ai (Ai o0 o1) (Ai h5 (Ai (r68 (sbyte s i.toNat) ([])) (Ai h5 (Ai h4 (Ai h5 (Ai h4 (Ai (show (bnot (r68.v (sbyte s i.toNat))) = false by rw [h6]; try rfl) (L39.nx s (k_ := k_) (z_ := i) (IntKind.i64.wrap (i + 1)) (Ai o2 o3) o4 (by simp only [L39.N, h1, h2, h3, h4, h5, h6, cond_true, cond_false]) PopOk.same))))))))))))))))))))))))))))))))⟩
      | false =>
       exact ⟨[.b true, .ret (AV.bool (r67.v (sbyte s i.toNat))) ([]), .b false, .b false, .b false, .b false, .b false, .b true, .b true, .b true, .b true, .b false, .b true, .b false, .b false, .b false, .b false, .b true, .b true, .b true, .b true, .ret (AV.bool (r68.v (sbyte s i.toNat))) ([]), .b true, .b false, .b true, .b false, .b true], kmp (by kernel_rfl) (Ai h1 (Ai (Ai o0 o1) (Ai (r67 (sbyte s i.toNat) ([])) (Ai (show (bnot (r67.v (sbyte s i.toNat))) = false by rw [h2]; try rfl) (Ai (show (bnot (r67.v (sbyte s i.toNat))) = false by rw [h2]; try rfl) (Ai (show (bnot (r67.v (sbyte s i.toNat))) = false by rw [h2]; try rfl) (Ai (Ai o0 o1) (Ai (show (bnot (r67.v (sbyte s i.toNat))) = false by rw [h2]; try rfl) (Ai (show (bnot (r67.v (sbyte s i.toNat))) = false by rw [h2]; try rfl) (Ai h3 (Ai h3 (Ai h3 (Ai (Ai o0 o1) (Ai h3 (Ai (show (bnot (r67.v (sbyte s i.toNat))) = false by rw [h2]; try rfl) (Ai h3 (Ai (show (bnot (r67.v (sbyte s i.toNat))) = false by rw [h2]; try rfl) (Ai h4 (Ai h4 (Ai h4 (Ai h5 (Ai h5 (Ai h5 (Ai (Ai o0 o1) (Ai h5 (Ai (r68 (sbyte s i.toNat) ([])) (Ai h5 (Ai h4 (Ai h5 (Ai h4 (Ai (show (bnot (r68.v (sbyte s i.toNat))) = true by rw [h6]; try rfl) (L39.en s (k_ := k_) (z_ := i) (.e0 : L39.O) (by simp only [L39.N, h1, h2, h3, h4, h5, h6, cond_true, cond_false]) PopOk.same))))))))))))))))))))))))))))))))⟩
     | false =>
      have h5p := ne_of_beq_false h5
      try have := IntWalk.i64_in (i + 1) (by omega)
      have o2 : (0 : Int) ≤ IntKind.i64.wrap (i + (1 : Int)) := by omega
      have o3 : IntKind.i64.wrap (i + (1 : Int)) ≤ (↑s.size : Int) := by omega
      have o4 : ((↑s.size : Int) - IntKind.i64.wrap (i + (1 : Int))).toNat < ((↑s.size : Int) - i).toNat := by omega
      exact ⟨[.b true, .ret (AV.bool (r67.v (sbyte s i.toNat))) ([]), .b false, .b false, .b false, .b false, .b false, .b true, .b true, .b true, .b true, .b false, .b true, .b false, .b false, .b false, .b false, .b false, .b false, .b false, .b false, .b false, .b false, .b false, .b false, .b false], kmp (by kernel_rfl) (Ai h1 (Ai (Ai o0 o1) (Ai (r67 (sbyte s i.toNat) ([])) (Ai (show (bnot (r67.v (sbyte s i.toNat))) = false by rw [h2]; try rfl) (Ai (show (bnot (r67.v (sbyte s i.toNat))) = false by rw [h2]; try rfl) (Ai (show (bnot (r67.v (sbyte s i.toNat))) = false by rw [h2]; try rfl) (Ai (Ai o0 o1) (Ai (show (bnot (r67.v (sbyte s i.toNat))) = false by rw [h2]; try rfl) (Ai (show (bnot (r67.v (sbyte s i.toNat))) = false by rw [h2]; try rfl) (Ai h3 (Ai h3 (Ai h3 (Ai (Ai o0 o1) (Ai h3 (Ai (show (bnot (r67.v (sbyte s i.toNat))) = false by rw [h2]; try rfl) (Ai h3 (Ai (show (bnot (r67.v (sbyte s i.toNat))) = false by rw [h2]; try rfl) (Ai h4 (Ai h4 (Ai h4 (Ai h5 (Ai h5 (Ai h5 (Ai h5 (Ai h5 (Ai h4 (Ai h5 (Ai h4 (Ai (rfl : false = false) (L39.nx s (k_ := k_) (z_ := i) (IntKind.i64.wrap (i + 1)) (Ai o2 o3) o4 (by simp only [L39.N, h1, h2, h3, h4, h5, cond_true, cond_false]) PopOk.same))))))))))))))))))))))))))))))⟩
   | false =>
    have h3p := of_decide_eq_false h3
    cases h4 : i == 0 with
    | true =>
     have h4p := eq_of_beq h4
     cases h5 : r68.v (sbyte s i.toNat) with
     | true =>
      try have := IntWalk.i64_in (i + 1) (by omega)
      have o2 : (0 : Int) ≤ IntKind.i64.wrap (i + (1 : Int)) := by omega
      have o3 : IntKind.i64.wrap (i + (1 : Int)) ≤ (↑s.size : Int) := by omega
      have o4 : ((↑s.size : Int) - IntKind.i64.wrap (i + (1 : Int))).toNat < ((↑s.size : Int) - i).toNat := by omega
      exact ⟨[.b true, .ret (AV.bool (r67.v (sbyte s i.toNat))) ([]), .b false, .b false, .b false, .b false, .b false, .b false, .b false, .b false, .b false, .b false, .b false, .b false, .b false, .b false, .b false, .b true, .b true, .b true, .b true, .ret (AV.bool (r68.v (sbyte s i.toNat))) ([]), .b true, .b false, .b true, .b false, .b false], kmp (by kernel_rfl) (Ai h1 (Ai (Ai o0 o1) (Ai (r67 (sbyte s i.toNat) ([])) (Ai (show (bnot (r67.v (sbyte s i.toNat))) = false by rw [h2]; try rfl) (Ai (show (bnot (r67.v (sbyte s i.toNat))) = false by rw [h2]; try rfl) (Ai (show (bnot (r67.v (sbyte s i.toNat))) = false by rw [h2]; try rfl) (Ai (Ai o0 o1) (Ai (show (bnot (r67.v (sbyte s i.toNat))) = false by rw [h2]; try rfl) (Ai (show (bnot (r67.v (sbyte s i.toNat))) = false by rw [h2]; try rfl) (Ai h3 (Ai h3 (Ai h3 (Ai h3 (Ai (show (bnot (r67.v (sbyte s i.toNat))) = false by rw [h2]; try rfl) (Ai h3 (Ai (show (bnot (r67.v (sbyte s i.toNat))) = false by rw [h2]; try rfl) (Ai (rfl : false = false) (Ai (rfl : false = false) (Ai (rfl : false = false) (Ai h4 (Ai h4 (Ai h4 (Ai (Ai o0 o1) (Ai h4 (Ai (r68 (sbyte s i.toNat) ([])) (Ai h4 (Ai (rfl : false = false) (Ai h4 (Ai (rfl : false = false) (Ai (show (bnot (r68.v (sbyte s i.toNat))) = false by rw [h5]; try rfl) (L39.nx s (k_ := k_) (z_ := i) (IntKind.i64.wrap (i + 1)) (Ai o2 o3) o4 (by simp only [L39.N, h1, h2, h3, h4, h5, cond_true, cond_false]) PopOk.same)))))))))))))))))))))))))))))))⟩
     | false =>
      exact ⟨[.b true, .ret (AV.bool (r67.v (sbyte s i.toNat))) ([]), .b false, .b false, .b false, .b false, .b false, .b false, .b false, .b false, .b false, .b false, .b false, .b false, .b false, .b false, .b false, .b true, .b true, .b true, .b true, .ret (AV.bool (r68.v (sbyte s i.toNat))) ([]), .b true, .b false, .b true, .b false, .b true], kmp (by kernel_rfl) (Ai h1 (Ai (Ai o0 o1) (Ai (r67 (sbyte s i.toNat) ([])) (Ai (show (bnot (r67.v (sbyte s i.toNat))) = false by rw [h2]; try rfl) (Ai (show (bnot (r67.v (sbyte s i.toNat))) = false by rw [h2]; try rfl) (Ai (show (bnot (r67.v (sbyte s i.toNat))) = false by rw [h2]; try rfl) (Ai (Ai o0 o1) (Ai (show (bnot (r67.v (sbyte s i.toNat))) = false by rw [h2]; try rfl) (Ai (show (bnot (r67.v (sbyte s i.toNat))) = false by rw [h2]; try rfl) (Ai h3 (Ai h3 (Ai h3 (Ai h3 (Ai (show (bnot (r67.v (sbyte s i.toNat))) = false by rw [h2]; try rfl) (Ai h3 (Ai (show (bnot (r67.v (sbyte s i.toNat))) = false by rw [h2]; try rfl) (Ai (rfl : false = false) (Ai (rfl : false = false) (Ai (rfl : false = false) (Ai h4 (Ai h4 (Ai h4 (Ai (Ai o0 o1) (Ai h4 (Ai (r68 (sbyte s i.toNat) ([])) (Ai h4 (Ai (rfl : false = false) (Ai h4 (Ai (rfl : false = false) (Ai (show (bnot (r68.v (sbyte s i.toNat))) = true by rw [h5]; try rfl) (L39.en s (k_ := k_) (z_ := i) (.e0 : L39.O) (by simp only [L39.N, h1, h2, h3, h4, h5, cond_true, cond_false]) PopOk.same)))))))))))))))))))))))))))))))⟩
    | false =>
     have h4p := ne_of_beq_false h4
     try have := IntWalk.i64_in (i + 1) (by omega)
     have o2 : (0 : Int) ≤ IntKind.i64.wrap (i + (1 : Int)) := by omega
     have o3 : IntKind.i64.wrap (i + (1 : Int)) ≤ (↑s.size : Int) := by omega
     have o4 : ((↑s.size : Int) - IntKind.i64.wrap (i + (1 : Int))).toNat < ((↑s.size : Int) - i).toNat := by omega
     exact ⟨[.b true, .ret (AV.bool (r67.v (sbyte s i.toNat))) ([]), .b false, .b false, .b false, .b false, .b false, .b false, .b false, .b false, .b false, .b false, .b false, .b false, .b false, .b false, .b false, .b false, .b false, .b false, .b false, .b false, .b false, .b false, .b false, .b false], kmp (by kernel_rfl) (Ai h1 (Ai (Ai o0 o1) (Ai (r67 (sbyte s i.toNat) ([])) (Ai (show (bnot (r67.v (sbyte s i.toNat))) = false by rw [h2]; try rfl) (Ai (show (bnot (r67.v (sbyte s i.toNat))) = false by rw [h2]; try rfl) (Ai (show (bnot (r67.v (sbyte s i.toNat))) = false by rw [h2]; try rfl) (Ai (Ai o0 o1) (Ai (show (bnot (r67.v (sbyte s i.toNat))) = false by rw [h2]; try rfl) (Ai (show (bnot (r67.v (sbyte s i.toNat))) = false by rw [h2]; try rfl) (Ai h3 (Ai h3 (Ai h3 (Ai h3 (Ai (show (bnot (r67.v (sbyte s i.toNat))) = false by rw [h2]; try rfl) (Ai h3 (Ai (show (bnot (r67.v (sbyte s i.toNat))) = false by rw [h2]; try rfl) (Ai (rfl : false = false) (Ai (rfl : false = false) (Ai (rfl : false = false) (Ai h4 (Ai h4 (Ai h4 (Ai h4 (Ai h4 (Ai (rfl : false = false) (Ai h4 (Ai (rfl : false = false) (Ai (rfl : false = false) (L39.nx s (k_ := k_) (z_ := i) (IntKind.i64.wrap (i + 1)) (Ai o2 o3) o4 (by simp only [L39.N, h1, h2, h3, h4, cond_true, cond_false]) PopOk.same)))))))))))))))))))))))))))))⟩
  | false =>
   exact ⟨[.b true, .ret (AV.bool (r67.v (sbyte s i.toNat))) ([]), .b true, .b true, .b true, .b true, .b true, .b true, .b true, .b true, .b true, .b true, .b true, .b true, .b true], kmp (by kernel_rfl) (Ai h1 (Ai (Ai o0 o1) (Ai (r67 (sbyte s i.toNat) ([])) (Ai (show (bnot (r67.v (sbyte s i.toNat))) = true by rw [h2]; try rfl) (Ai (show (bnot (r67.v (sbyte s i.toNat))) = true by rw [h2]; try rfl) (Ai (show (bnot (r67.v (sbyte s i.toNat))) = true by rw [h2]; try rfl) (Ai (show (bnot (r67.v (sbyte s i.toNat))) = true by rw [h2]; try rfl) (Ai (show (bnot (r67.v (sbyte s i.toNat))) = true by rw [h2]; try rfl) (Ai (show (bnot (r67.v (sbyte s i.toNat))) = true by rw [h2]; try rfl) (Ai (show (bnot (r67.v (sbyte s i.toNat))) = true by rw [h2]; try rfl) (Ai (rfl : true = true) (Ai (rfl : true = true) (Ai (rfl : true = true) (Ai (rfl : true = true) (Ai (rfl : true = true) (Ai (rfl : true = true) (L39.en s (k_ := k_) (z_ := i) (.e0 : L39.O) (by simp only [L39.N, h1, h2, cond_true, cond_false]) PopOk.same)))))))))))))))))⟩
 | false =>
  have h1p := of_decide_eq_false h1
  exact ⟨[.b false], kmp (by kernel_rfl) (Ai h1 (L39.en s (k_ := k_) (z_ := i) (.e1 : L39.O) (by simp only [L39.N, h1, cond_true, cond_false]) PopOk.same))⟩
theorem L39.e0 (s : ByteArray) (hs : s.size ≤ 9223372036854775807) (i : Int) (hinv : L39.inv s i) (hN : L39.run s i = (.e0 : L39.O)) : LoopTo Try.prog (loopN Try.f39 0) (L39.T s i) (L39.H s i) (Exit.ret) (L39.X s (.e0 : L39.O)) (L39.XH s (.e0 : L39.O)) := by
 have h_ := L39.spec s hs ((((↑s.size : Int) - i).toNat) + 1) i hinv (Nat.lt_succ_self _)
 unfold L39.run at hN
 simp only [hN] at h_
 exact h_
theorem L39.e1 (s : ByteArray) (hs : s.size ≤ 9223372036854775807) (i : Int) (hinv : L39.inv s i) (hN : L39.run s i = (.e1 : L39.O)) : LoopTo Try.prog (loopN Try.f39 0) (L39.T s i) (L39.H s i) (Exit.exit 0) (L39.X s (.e1 : L39.O)) (L39.XH s (.e1 : L39.O)) := by
 have h_ := L39.spec s hs ((((↑s.size : Int) - i).toNat) + 1) i hinv (Nat.lt_succ_self _)
 unfold L39.run at hN
 simp only [hN] at h_
 exact h_
noncomputable def r39.v (s : ByteArray) : Bool := (match L39.run s 0 with | .e0 => false | .e1 => (bif decide ((↑s.size : Int) ≥ 1) then decide ((↑s.size : Int) ≤ 24) else false) )
theorem r39 (s : ByteArray) (hs : s.size ≤ 9223372036854775807) (h : AHeap) : Ret Try.prog 39 ([AV.str s]) h (AV.bool (r39.v s)) h := by
 have o0 : s.size ≤ (9223372036854775807 : Nat) := by assumption
 have o1 : (0 : Int) ≤ (↑s.size : Int) := by omega
 cases h1 : L39.run s 0 with
 | e0 =>
  exact Ret.of_run1 mix [(AV.bool (r39.v s))] Try.func39 rfl [.loop (others 46 [0, 3]) (Exit.ret) (L39.X s L39.O.e0) (L39.XH s L39.O.e0)] (by simp) (by simp) (kmp (by kernel_rfl) (Ai (L39.e0 (s) o0 (0) (Ai (show (0 : Int) ≤ (0 : Int) by decide) o1) h1) (Ai (show (AV.bool false) = ((AV.bool (r39.v s))) by simp only [r39.v, h1, cond_true, cond_false]) trivial))) h
 | e1 =>
  cases h2 : decide ((↑s.size : Int) ≥ 1) with
  | true =>
   have h2p := of_decide_eq_true h2
   exact Ret.of_run1 mix [(AV.bool (r39.v s))] Try.func39 rfl [.loop (others 46 [0, 3]) (Exit.exit 0) (L39.X s L39.O.e1) (L39.XH s L39.O.e1), .b true, .b true, .b true, .b true] (by simp) (by simp) (kmp (by kernel_rfl) (Ai (L39.e1 (s) o0 (0) (Ai (show (0 : Int) ≤ (0 : Int) by decide) o1) h1) (Ai h2 (Ai h2 (Ai h2 (Ai h2 (Ai (show (AV.bool (decide ((↑s.size : Int) ≤ 24))) = ((AV.bool (r39.v s))) by simp only [r39.v, h2, h1, cond_true, cond_false]) trivial))))))) h
  | false =>
   have h2p := of_decide_eq_false h2
   exact Ret.of_run1 mix [(AV.bool (r39.v s))] Try.func39 rfl [.loop (others 46 [0, 3]) (Exit.exit 0) (L39.X s L39.O.e1) (L39.XH s L39.O.e1), .b false, .b false, .b false, .b false] (by simp) (by simp) (kmp (by kernel_rfl) (Ai (L39.e1 (s) o0 (0) (Ai (show (0 : Int) ≤ (0 : Int) by decide) o1) h1) (Ai h2 (Ai h2 (Ai h2 (Ai h2 (Ai (show (AV.bool false) = ((AV.bool (r39.v s))) by simp only [r39.v, h2, h1, cond_true, cond_false]) trivial))))))) h
noncomputable def r50.v (s : SD) : Bool := bnot (r48.v s.nm)
theorem r50 (s : SD) (hs : s.nm.size ≤ 9223372036854775807) (h : AHeap) : Ret Try.prog 50 ([s.av]) h (AV.bool (r50.v s)) h := by
 have o0 : s.nm.size ≤ (9223372036854775807 : Nat) := by assumption
 exact Ret.of_run1 mix [(AV.bool (r50.v s))] Try.func50 rfl [.ret (AV.bool (r48.v s.nm)) ([AObj.var (SD.av s)])] (by simp) (by simp) (kmp (by kernel_rfl) (Ai (r48 (s.nm) o0 ([AObj.var (SD.av s)])) (Ai (show (AV.bool (bnot (r48.v s.nm))) = ((AV.bool (r50.v s))) by simp only [r50.v, cond_true, cond_false]) trivial))) h
end Go.Proofs.Ytjdbmmilcihpoaa
open Go
namespace Go.Proofs.Ytjdbmmilcihpoaa
set_option maxHeartbeats 0
set_option maxRecDepth 100000
set_option linter.unusedVariables false
set_option linter.unusedSimpArgs false
noncomputable def okR (i : Nat) (c : Int) : Bool := r67.v c && !(decide (c ≥ 65) && decide (c ≤ 90)) && (decide (0 < i) || r68.v c)
theorem L39_run {s : ByteArray} (hs : s.size ≤ 9223372036854775807) : L39.run s 0 = srch (fun i => !okR i (sbyte s i)) (fun _ => L39.O.e0) .e1 0 s.size := by
 have := search_eq (n := s.size) (fun i => !okR i (sbyte s i)) (fun _ => L39.O.e0) .e1 (N := L39.N s) (fun k i h => by
  simp only [L39.N, wrap_succ hs h, Int.toNat_natCast]; rw [decide_eq_true (by omega)]
  unfold okR
  have e : ((i : Int) == 0) = !decide (0 < i) := by
   rcases Nat.eq_zero_or_pos i with q | q
   · subst q; rfl
   · rw [decide_eq_true q]; simp; omega
  rw [e]
  cases r67.v (sbyte s i) <;> cases decide (sbyte s i ≥ 65) <;> cases decide (sbyte s i ≤ 90) <;> cases decide (0 < i) <;> cases r68.v (sbyte s i) <;> rfl) (fun k => by simp [L39.N]) (s.size + 1) 0 (Nat.zero_le _) (by omega)
 simpa [L39.run, L39.mu] using this
theorem L74_run {s : ByteArray} (hs : s.size ≤ 9223372036854775807) : L74.run s 0 = srch (fun i => !r75.v (sbyte s i)) (fun i => L74.O.e0 i) (.e0 s.size) 0 s.size := by
 have := search_eq (n := s.size) (fun i => !r75.v (sbyte s i)) (fun i => L74.O.e0 i) (.e0 s.size) (N := L74.N s) (fun k i h => by
  simp only [L74.N, wrap_succ hs h, Int.toNat_natCast]; rw [decide_eq_true (by omega)]
  cases r75.v (sbyte s i) <;> rfl) (fun k => by simp [L74.N]) (s.size + 1) 0 (Nat.zero_le _) (by omega)
 simpa [L74.run, L74.mu] using this
theorem r75_all : ((List.range 256).all fun c => (r75.v (c : Int) == okR 1 (c : Int)) && ((decide ((c : Int) ≥ 97) && decide ((c : Int) ≤ 122)) == okR 0 (c : Int))) = true := by kernel_rfl
theorem r75_ok {c : Int} (h0 : 0 ≤ c) (h1 : c ≤ 255) : r75.v c = okR 1 c ∧ (decide (c ≥ 97) && decide (c ≤ 122)) = okR 0 c := by
 have := List.all_eq_true.1 r75_all c.toNat (List.mem_range.2 (by omega))
 have e : ((c.toNat : Nat) : Int) = c := Int.toNat_of_nonneg h0
 rw [e, Bool.and_eq_true] at this
 exact ⟨eq_of_beq this.1, eq_of_beq this.2⟩
theorem okR_pos {i : Nat} (h : 0 < i) (c : Int) : okR i c = okR 1 c := by
 unfold okR; rw [decide_eq_true h]; rfl
theorem okR_01 {c : Int} (h : okR 0 c = true) : okR 1 c = true := by
 unfold okR at h ⊢
 revert h
 cases r67.v c <;> cases decide (c ≥ 65) <;> cases decide (c ≤ 90) <;> simp
theorem name_eq {s : ByteArray} (hs : s.size ≤ 9223372036854775807) : r48.v s = r39.v s := by
 unfold r48.v r39.v r74.v
 rw [L39_run hs, L74_run hs, srch_any]
 have h1 : (s.toList == (ByteArray.mk #[]).toList) = decide ((s.size : Int) < 1) := by
  cases h : (s.toList == (ByteArray.mk #[]).toList) with
  | true => rw [str_eq h]; rfl
  | false => have := str_pos h; exact (decide_eq_false (by omega)).symm
 rw [h1]
 have hc := sbyte_bd s
 rcases Nat.lt_or_ge 0 s.size with q | q
 · rw [decide_eq_false (show ¬ (s.size : Int) < 1 by omega), cond_false, decide_eq_true (show (s.size : Int) ≥ 1 by omega), cond_true]
   have hb : ∀ i, i < s.size → (okR i (sbyte s i) = true ↔ r75.v (sbyte s i) = true ∧ (i = 0 → sbyte s 0 ≥ 97 ∧ sbyte s 0 ≤ 122)) := by
    intro i hi
    obtain ⟨a1, a2⟩ := r75_ok (hc i).1 (hc i).2
    rcases Nat.eq_zero_or_pos i with e | e
    · subst e
      rw [a1]
      constructor
      · intro h
        refine ⟨okR_01 h, fun _ => ?_⟩
        rw [← a2, Bool.and_eq_true] at h
        exact ⟨of_decide_eq_true h.1, of_decide_eq_true h.2⟩
      · intro ⟨_, h⟩
        rw [← a2, decide_eq_true (h rfl).1, decide_eq_true (h rfl).2]; rfl
    · rw [okR_pos e, a1]
      exact ⟨fun h => ⟨h, fun h => by omega⟩, fun h => h.1⟩
   by_cases hsz : (s.size : Int) > 24
   · rw [decide_eq_true hsz, cond_true, decide_eq_false (show ¬ (s.size : Int) ≤ 24 by omega)]
     cases anyN s.size _ <;> rfl
   · rw [decide_eq_false hsz, cond_false, decide_eq_true (show (s.size : Int) ≤ 24 by omega)]
     cases hA : anyN s.size (fun i => !okR i (sbyte s i)) with
     | true =>
      obtain ⟨i, hi, hp⟩ := anyN_true.1 hA
      have hno : ¬ (okR i (sbyte s i) = true) := by simpa using hp
      rw [hb i hi] at hno
      rw [cond_true]
      show _ = false
      by_cases k1 : sbyte s 0 < 97
      · rw [decide_eq_true k1]; rfl
      rw [decide_eq_false k1, cond_false]
      by_cases k2 : sbyte s 0 > 122
      · rw [decide_eq_true k2]; rfl
      rw [decide_eq_false k2, cond_false]
      rcases srch_cases (fun i => !r75.v (sbyte s i)) (fun i => L74.O.e0 i) (.e0 s.size) s.size 0 with ⟨a1, a2⟩ | ⟨j, a1, a2, a3, a4, a5⟩
      · exfalso
        have := a1 i (Nat.zero_le _) (by omega)
        exact hno ⟨by simpa using this, fun _ => by omega⟩
      · rw [a5]
        show ((j : Int) == (s.size : Int)) = false
        rw [beq_eq_false_iff_ne]; omega
     | false =>
      have hall := anyN_false.1 hA
      have h0 := (hb 0 q).1 (by simpa using hall 0 q)
      have k1 := (h0.2 rfl).1
      have k2 := (h0.2 rfl).2
      rw [cond_false, decide_eq_false (show ¬ sbyte s 0 < 97 by omega), cond_false, decide_eq_false (show ¬ sbyte s 0 > 122 by omega), cond_false]
      rcases srch_cases (fun i => !r75.v (sbyte s i)) (fun i => L74.O.e0 i) (.e0 s.size) s.size 0 with ⟨a1, a2⟩ | ⟨j, a1, a2, a3, a4, a5⟩
      · rw [a2]; simp
      · exfalso
        have := (hb j (by omega)).1 (by simpa using hall j (by omega))
        rw [this.1] at a3; cases a3
 · rw [decide_eq_true (show (s.size : Int) < 1 by omega), cond_true, decide_eq_false (show ¬ (s.size : Int) ≥ 1 by omega), cond_false]
   cases anyN s.size _ <;> rfl
end Go.Proofs.Ytjdbmmilcihpoaa
