/- Contracts of the functions and plain laws, part 1. Conditions: none. -/
import Derived.Test.YtjdakdjgkpfjkaaW3
import Derived.Test.YtjdakdjgkpfjkaaChecked
import Derived.KernelRfl
import Derived.IntWalk

/- The tolerance seat's small words. Conditions: none. -/
open Go
namespace Go.Proofs.Ytjdakdjgkpfjkaa
set_option linter.unusedVariables false
set_option linter.unusedSimpArgs false
theorem mix : Try.prog.follows .mixedOrders = true := Try.checked.mixed
end Go.Proofs.Ytjdakdjgkpfjkaa

/- the tolerance seat's contracts: checks. -/
open Go
namespace Go.Proofs.Ytjdakdjgkpfjkaa
set_option linter.unusedSimpArgs false
set_option linter.unusedVariables false
set_option maxHeartbeats 0
set_option maxRecDepth 100000

/-- A pair of whole numbers: an interval, or a place. -/
structure PD where
  lo : Int
  hi : Int
instance : Inhabited PD := ⟨⟨0, 0⟩⟩
def PD.av (x : PD) : AV := .agg [.int .i64 x.lo, .int .i64 x.hi]
def prs (n : Nat) (g : Nat → PD) : AV := .sl 2 n (fun i => (g i).av)
@[simp] theorem low_pd (lo : Nat) (x : PD) : Low lo x.av = True := by unfold PD.av; simp
@[simp] theorem low_prs (lo n : Nat) (g : Nat → PD) : Low lo (prs n g) = True := by unfold prs; simp
/-- A run: its stones, its joint, its places. -/
def rn (n : Nat) (g : Nat → PD) (j1 j2 : Int) (k : Nat) (p : Nat → PD) : AV := .agg [prs n g, .int .i64 j1, .int .i64 j2, prs k p]
@[simp] theorem low_rn (lo n : Nat) (g : Nat → PD) (j1 j2 : Int) (k : Nat) (p : Nat → PD) : Low lo (rn n g j1 j2 k p) = True := by unfold rn; simp

noncomputable def r36.v (n : Int) : Int := (bif decide (n > 512) then 7 else (bif n == 0 then 1 else 0))
theorem r36 (n : Int) (h : AHeap) : Ret Try.prog 36 ([AV.int IntKind.i64 n]) h (AV.int IntKind.i64 (r36.v n)) h := by
  cases h1 : decide (n > 512) with
  | true =>
    have h1p := of_decide_eq_true h1
    exact Ret.of_run1 mix [(AV.int IntKind.i64 (r36.v n))] Try.func36 rfl [.b true] (by simp) (by simp) (kmp (by kernel_rfl) (And.intro h1 (And.intro (show (AV.int IntKind.i64 7) = ((AV.int IntKind.i64 (r36.v n))) by first | (simp only [r36.v, h1, cond_true, cond_false]; done) | (try unfold r36.v; try simp only [h1, cond_true, cond_false]; try rfl; done) | rfl) trivial))) h
  | false =>
    have h1p := of_decide_eq_false h1
    cases h2 : n == 0 with
    | true =>
      have h2p := eq_of_beq h2
      exact Ret.of_run1 mix [(AV.int IntKind.i64 (r36.v n))] Try.func36 rfl [.b false, .b true] (by simp) (by simp) (kmp (by kernel_rfl) (And.intro h1 (And.intro h2 (And.intro (show (AV.int IntKind.i64 1) = ((AV.int IntKind.i64 (r36.v n))) by first | (simp only [r36.v, h1, h2, cond_true, cond_false]; done) | (try unfold r36.v; try simp only [h1, cond_true, cond_false]; try simp only [h2, cond_true, cond_false]; try rfl; done) | rfl) trivial)))) h
    | false =>
      have h2p := ne_of_beq_false h2
      exact Ret.of_run1 mix [(AV.int IntKind.i64 (r36.v n))] Try.func36 rfl [.b false, .b false] (by simp) (by simp) (kmp (by kernel_rfl) (And.intro h1 (And.intro h2 (And.intro (show (AV.int IntKind.i64 0) = ((AV.int IntKind.i64 (r36.v n))) by first | (simp only [r36.v, h1, h2, cond_true, cond_false]; done) | (try unfold r36.v; try simp only [h1, cond_true, cond_false]; try simp only [h2, cond_true, cond_false]; try rfl; done) | rfl) trivial)))) h

noncomputable def r34.v (a : Int) (b : Int) : Bool := (bif decide (a ≥ 0) then (bif decide (a ≤ b) then decide (b ≤ 1000) else false) else false)
theorem r34 (a : Int) (b : Int) (h : AHeap) : Ret Try.prog 34 ([AV.agg [AV.int IntKind.i64 a, AV.int IntKind.i64 b]]) h (AV.bool (r34.v a b)) h := by
  cases h1 : decide (a ≥ 0) with
  | true =>
    have h1p := of_decide_eq_true h1
    cases h2 : decide (a ≤ b) with
    | true =>
      have h2p := of_decide_eq_true h2
      exact Ret.of_run1 mix [(AV.bool (r34.v a b))] Try.func34 rfl [.b true, .b true, .b true, .b true, .b true, .b true, .b true, .b true, .b true, .b true] (by simp) (by simp) (kmp (by kernel_rfl) (And.intro h1 (And.intro h1 (And.intro h1 (And.intro h1 (And.intro h1 (And.intro h1 (And.intro h2 (And.intro h2 (And.intro h2 (And.intro h2 (And.intro (show (AV.bool (decide (b ≤ 1000))) = ((AV.bool (r34.v a b))) by first | (simp only [r34.v, h1, h2, cond_true, cond_false]; done) | (try unfold r34.v; try simp only [h1, cond_true, cond_false]; try simp only [h2, cond_true, cond_false]; try rfl; done) | rfl) trivial)))))))))))) h
    | false =>
      have h2p := of_decide_eq_false h2
      exact Ret.of_run1 mix [(AV.bool (r34.v a b))] Try.func34 rfl [.b true, .b true, .b true, .b true, .b true, .b true, .b false, .b false, .b false, .b false] (by simp) (by simp) (kmp (by kernel_rfl) (And.intro h1 (And.intro h1 (And.intro h1 (And.intro h1 (And.intro h1 (And.intro h1 (And.intro h2 (And.intro h2 (And.intro h2 (And.intro h2 (And.intro (show (AV.bool false) = ((AV.bool (r34.v a b))) by first | (simp only [r34.v, h1, h2, cond_true, cond_false]; done) | (try unfold r34.v; try simp only [h1, cond_true, cond_false]; try simp only [h2, cond_true, cond_false]; try rfl; done) | rfl) trivial)))))))))))) h
  | false =>
    have h1p := of_decide_eq_false h1
    exact Ret.of_run1 mix [(AV.bool (r34.v a b))] Try.func34 rfl [.b false, .b false, .b false, .b false, .b false, .b false, .b false, .b false, .b false, .b false] (by simp) (by simp) (kmp (by kernel_rfl) (And.intro h1 (And.intro h1 (And.intro h1 (And.intro h1 (And.intro h1 (And.intro h1 (And.intro (rfl : false = false) (And.intro (rfl : false = false) (And.intro (rfl : false = false) (And.intro (rfl : false = false) (And.intro (show (AV.bool false) = ((AV.bool (r34.v a b))) by first | (simp only [r34.v, h1, cond_true, cond_false]; done) | (try unfold r34.v; try simp only [h1, cond_true, cond_false]; try rfl; done) | rfl) trivial)))))))))))) h

noncomputable def r39.v (a : Int) (b : Int) : Bool := (bif decide (a ≥ 0) then (bif decide (a ≤ b) then decide (b ≤ 1000) else false) else false)
theorem r39 (a : Int) (b : Int) (h : AHeap) : Ret Try.prog 39 ([AV.agg [AV.int IntKind.i64 a, AV.int IntKind.i64 b]]) h (AV.bool (r39.v a b)) h := by
  cases h1 : decide (a ≥ 0) with
  | true =>
    have h1p := of_decide_eq_true h1
    cases h2 : decide (a ≤ b) with
    | true =>
      have h2p := of_decide_eq_true h2
      exact Ret.of_run1 mix [(AV.bool (r39.v a b))] Try.func39 rfl [.b true, .b true, .b true, .b true, .b true, .b true, .b true, .b true, .b true, .b true] (by simp) (by simp) (kmp (by kernel_rfl) (And.intro h1 (And.intro h1 (And.intro h1 (And.intro h1 (And.intro h1 (And.intro h1 (And.intro h2 (And.intro h2 (And.intro h2 (And.intro h2 (And.intro (show (AV.bool (decide (b ≤ 1000))) = ((AV.bool (r39.v a b))) by first | (simp only [r39.v, h1, h2, cond_true, cond_false]; done) | (try unfold r39.v; try simp only [h1, cond_true, cond_false]; try simp only [h2, cond_true, cond_false]; try rfl; done) | rfl) trivial)))))))))))) h
    | false =>
      have h2p := of_decide_eq_false h2
      exact Ret.of_run1 mix [(AV.bool (r39.v a b))] Try.func39 rfl [.b true, .b true, .b true, .b true, .b true, .b true, .b false, .b false, .b false, .b false] (by simp) (by simp) (kmp (by kernel_rfl) (And.intro h1 (And.intro h1 (And.intro h1 (And.intro h1 (And.intro h1 (And.intro h1 (And.intro h2 (And.intro h2 (And.intro h2 (And.intro h2 (And.intro (show (AV.bool false) = ((AV.bool (r39.v a b))) by first | (simp only [r39.v, h1, h2, cond_true, cond_false]; done) | (try unfold r39.v; try simp only [h1, cond_true, cond_false]; try simp only [h2, cond_true, cond_false]; try rfl; done) | rfl) trivial)))))))))))) h
  | false =>
    have h1p := of_decide_eq_false h1
    exact Ret.of_run1 mix [(AV.bool (r39.v a b))] Try.func39 rfl [.b false, .b false, .b false, .b false, .b false, .b false, .b false, .b false, .b false, .b false] (by simp) (by simp) (kmp (by kernel_rfl) (And.intro h1 (And.intro h1 (And.intro h1 (And.intro h1 (And.intro h1 (And.intro h1 (And.intro (rfl : false = false) (And.intro (rfl : false = false) (And.intro (rfl : false = false) (And.intro (rfl : false = false) (And.intro (show (AV.bool false) = ((AV.bool (r39.v a b))) by first | (simp only [r39.v, h1, cond_true, cond_false]; done) | (try unfold r39.v; try simp only [h1, cond_true, cond_false]; try rfl; done) | rfl) trivial)))))))))))) h

noncomputable def r38.v (x : PD) : Bool := (bif decide (x.lo < 1) then true else (bif decide (x.lo > x.hi) then true else decide (x.hi > 1000000)))
theorem r38 (x : PD) (h : AHeap) : Ret Try.prog 38 ([x.av]) h (AV.bool (r38.v x)) h := by
  cases h1 : decide (x.lo < 1) with
  | true =>
    have h1p := of_decide_eq_true h1
    exact Ret.of_run1 mix [(AV.bool (r38.v x))] Try.func38 rfl [.b true, .b true, .b true, .b true, .b true, .b true, .b true, .b true, .b true, .b true] (by simp) (by simp) (kmp (by kernel_rfl) (And.intro h1 (And.intro h1 (And.intro h1 (And.intro h1 (And.intro h1 (And.intro h1 (And.intro (rfl : true = true) (And.intro (rfl : true = true) (And.intro (rfl : true = true) (And.intro (rfl : true = true) (And.intro (show (AV.bool true) = ((AV.bool (r38.v x))) by first | (simp only [r38.v, h1, cond_true, cond_false]; done) | (try unfold r38.v; try simp only [h1, cond_true, cond_false]; try rfl; done) | rfl) trivial)))))))))))) h
  | false =>
    have h1p := of_decide_eq_false h1
    cases h2 : decide (x.lo > x.hi) with
    | true =>
      have h2p := of_decide_eq_true h2
      exact Ret.of_run1 mix [(AV.bool (r38.v x))] Try.func38 rfl [.b false, .b false, .b false, .b false, .b false, .b false, .b true, .b true, .b true, .b true] (by simp) (by simp) (kmp (by kernel_rfl) (And.intro h1 (And.intro h1 (And.intro h1 (And.intro h1 (And.intro h1 (And.intro h1 (And.intro h2 (And.intro h2 (And.intro h2 (And.intro h2 (And.intro (show (AV.bool true) = ((AV.bool (r38.v x))) by first | (simp only [r38.v, h1, h2, cond_true, cond_false]; done) | (try unfold r38.v; try simp only [h1, cond_true, cond_false]; try simp only [h2, cond_true, cond_false]; try rfl; done) | rfl) trivial)))))))))))) h
    | false =>
      have h2p := of_decide_eq_false h2
      exact Ret.of_run1 mix [(AV.bool (r38.v x))] Try.func38 rfl [.b false, .b false, .b false, .b false, .b false, .b false, .b false, .b false, .b false, .b false] (by simp) (by simp) (kmp (by kernel_rfl) (And.intro h1 (And.intro h1 (And.intro h1 (And.intro h1 (And.intro h1 (And.intro h1 (And.intro h2 (And.intro h2 (And.intro h2 (And.intro h2 (And.intro (show (AV.bool (decide (x.hi > 1000000))) = ((AV.bool (r38.v x))) by first | (simp only [r38.v, h1, h2, cond_true, cond_false]; done) | (try unfold r38.v; try simp only [h1, cond_true, cond_false]; try simp only [h2, cond_true, cond_false]; try rfl; done) | rfl) trivial)))))))))))) h

noncomputable def r61.v (x : PD) : Bool := (bif decide (x.hi < 1) then true else decide (x.hi > 1000000000))
theorem r61 (x : PD) (h : AHeap) : Ret Try.prog 61 ([x.av]) h (AV.bool (r61.v x)) h := by
  cases h1 : decide (x.hi < 1) with
  | true =>
    have h1p := of_decide_eq_true h1
    exact Ret.of_run1 mix [(AV.bool (r61.v x))] Try.func61 rfl [.b true, .b true, .b true, .b true] (by simp) (by simp) (kmp (by kernel_rfl) (And.intro h1 (And.intro h1 (And.intro h1 (And.intro h1 (And.intro (show (AV.bool true) = ((AV.bool (r61.v x))) by first | (simp only [r61.v, h1, cond_true, cond_false]; done) | (try unfold r61.v; try simp only [h1, cond_true, cond_false]; try rfl; done) | rfl) trivial)))))) h
  | false =>
    have h1p := of_decide_eq_false h1
    exact Ret.of_run1 mix [(AV.bool (r61.v x))] Try.func61 rfl [.b false, .b false, .b false, .b false] (by simp) (by simp) (kmp (by kernel_rfl) (And.intro h1 (And.intro h1 (And.intro h1 (And.intro h1 (And.intro (show (AV.bool (decide (x.hi > 1000000000))) = ((AV.bool (r61.v x))) by first | (simp only [r61.v, h1, cond_true, cond_false]; done) | (try unfold r61.v; try simp only [h1, cond_true, cond_false]; try rfl; done) | rfl) trivial)))))) h

noncomputable def r58.v0 (a : Int) (d : Int) : Int := IntKind.i64.wrap (a + d)
noncomputable def r58.v1 (b : Int) (e : Int) : Int := IntKind.i64.wrap (b + e)
theorem r58 (a : Int) (b : Int) (c : Int) (d : Int) (e : Int) (h : AHeap) : Ret Try.prog 58 ([AV.agg [AV.int IntKind.i64 a, AV.int IntKind.i64 b, AV.int IntKind.i64 c], AV.agg [AV.int IntKind.i64 d, AV.int IntKind.i64 e]]) h (AV.agg ((AV.int IntKind.i64 (r58.v0 a d)) :: ((AV.int IntKind.i64 (r58.v1 b e)) :: ((AV.int IntKind.i64 c) :: [])))) h := by
  exact Ret.of_run1 mix [(AV.agg ((AV.int IntKind.i64 (r58.v0 a d)) :: ((AV.int IntKind.i64 (r58.v1 b e)) :: ((AV.int IntKind.i64 c) :: []))))] Try.func58 rfl [] (by simp) (by simp) (kmp (by kernel_rfl) (And.intro (And.intro trivial (show (AV.agg [AV.int IntKind.i64 (IntKind.i64.wrap (a + d)), AV.int IntKind.i64 (IntKind.i64.wrap (b + e)), AV.int IntKind.i64 c]) = ((AV.agg ((AV.int IntKind.i64 (r58.v0 a d)) :: ((AV.int IntKind.i64 (r58.v1 b e)) :: ((AV.int IntKind.i64 c) :: []))))) by first | (simp only [r58.v0, r58.v1, cond_true, cond_false]; done) | (try unfold r58.v0; try unfold r58.v1; try rfl; done) | rfl)) trivial)) h

inductive L59.O where
  | e0 (a0 : Int)
  | e1
noncomputable def L59.T (n : Nat) (g : Nat → PD) (i : Int) : List AV := mkT 19 [(0, AV.sl 2 n fun (i : Nat) => AV.agg [AV.int IntKind.i64 (g i).lo, AV.int IntKind.i64 (g i).hi]), (1, AV.fn 38 []), (7, AV.int IntKind.i64 (↑n : Int)), (8, AV.int IntKind.i64 i)]
noncomputable def L59.H (n : Nat) (g : Nat → PD) (i : Int) : AHeap := []
def L59.inv (n : Nat) (g : Nat → PD) (i : Int) : Prop := 0 ≤ i ∧ i ≤ (↑n : Int)
noncomputable def L59.mu (n : Nat) (g : Nat → PD) (i : Int) : Nat := ((↑n : Int) - i).toNat
noncomputable def L59.E : L59.O → Exit
  | .e0 a0 => Exit.ret
  | .e1 => Exit.exit 0
noncomputable def L59.X (n : Nat) (g : Nat → PD) : L59.O → List AV
  | .e0 a0 => mkT 19 [(4, (AV.int IntKind.i64 a0))]
  | .e1 => mkT 19 []
noncomputable def L59.XH (n : Nat) (g : Nat → PD) : L59.O → AHeap
  | .e0 a0 => ([])
  | .e1 => ([])
noncomputable def L59.N (n : Nat) (g : Nat → PD) : Nat → Int → L59.O
  | 0, _ => .e0 default
  | k_ + 1, i => (bif decide (i < (↑n : Int)) then (bif r38.v (g i.toNat) then (.e0 (i)) else (L59.N n g k_ (IntKind.i64.wrap (i + 1)))) else (.e1))
noncomputable def L59.run (n : Nat) (g : Nat → PD) (i : Int) : L59.O := L59.N n g ((((↑n : Int) - i).toNat) + 1) i
def L59.Next (n : Nat) (g : Nat → PD) (k_ : Nat) (z_ : Int) (T_ : List AV) (h_ : AHeap) : Prop := LNextP (fun (z_ : Int) => L59.T n g z_) (fun (z_ : Int) => L59.H n g z_) (fun (z_ : Int) => L59.inv n g z_) (fun (z_ : Int) => L59.mu n g z_) (fun (k_ : Nat) (z_ : Int) => L59.N n g k_ z_) k_ z_ T_ h_
def L59.End (n : Nat) (g : Nat → PD) (k_ : Nat) (z_ : Int) (e_ : Exit) (T_ : List AV) (h_ : AHeap) : Prop := LEndP (fun (z_ : Int) => L59.H n g z_) (fun (k_ : Nat) (z_ : Int) => L59.N n g k_ z_) L59.E (L59.X n g) (L59.XH n g) k_ z_ e_ T_ h_
theorem L59.nx (n : Nat) (g : Nat → PD) {k_ : Nat} {z_ : Int} {h_ : AHeap} (s_ : Int) (h1 : L59.inv n g s_) (h2 : L59.mu n g s_ < L59.mu n g z_) (h3 : L59.N n g k_ s_ = L59.N n g (k_ + 1) z_) (h4 : PopOk (L59.H n g z_) h_ (L59.T n g s_) (L59.H n g s_)) : LNextP (fun (z_ : Int) => L59.T n g z_) (fun (z_ : Int) => L59.H n g z_) (fun (z_ : Int) => L59.inv n g z_) (fun (z_ : Int) => L59.mu n g z_) (fun (k_ : Nat) (z_ : Int) => L59.N n g k_ z_) k_ z_ (L59.T n g s_) h_ := LNextP.mk (Tm := (fun (z_ : Int) => L59.T n g z_)) (Hp := (fun (z_ : Int) => L59.H n g z_)) (inv := (fun (z_ : Int) => L59.inv n g z_)) (mu := (fun (z_ : Int) => L59.mu n g z_)) (l := (fun (k_ : Nat) (z_ : Int) => L59.N n g k_ z_)) s_ h1 h2 h3 h4
theorem L59.en (n : Nat) (g : Nat → PD) {k_ : Nat} {z_ : Int} {h_ : AHeap} (o_ : L59.O) (h3 : L59.N n g (k_ + 1) z_ = o_) (h4 : PopOk (L59.H n g z_) h_ (L59.X n g o_) (L59.XH n g o_)) : LEndP (fun (z_ : Int) => L59.H n g z_) (fun (k_ : Nat) (z_ : Int) => L59.N n g k_ z_) L59.E (L59.X n g) (L59.XH n g) k_ z_ (L59.E o_) (L59.X n g o_) h_ := LEndP.mk (Hp := (fun (z_ : Int) => L59.H n g z_)) (l := (fun (k_ : Nat) (z_ : Int) => L59.N n g k_ z_)) (oE := L59.E) (oT := L59.X n g) (oH := L59.XH n g) o_ h3 h4
theorem L59.spec (n : Nat) (g : Nat → PD) (hn : n ≤ 9223372036854775807) (k_ : Nat) (z_ : Int) (hi_ : L59.inv n g z_) (hm_ : L59.mu n g z_ < k_) : LoopTo Try.prog (loopN Try.f59 0) (L59.T n g z_) (L59.H n g z_) (L59.E (L59.N n g k_ z_)) (L59.X n g (L59.N n g k_ z_)) (L59.XH n g (L59.N n g k_ z_)) := by
  refine LoopTo.fuelP mix (fun (z_ : Int) => L59.T n g z_) (fun (z_ : Int) => L59.H n g z_) (fun (z_ : Int) => L59.inv n g z_) (fun (z_ : Int) => L59.mu n g z_) (fun (k_ : Nat) (z_ : Int) => L59.N n g k_ z_) L59.E (L59.X n g) (L59.XH n g) (others 19 [0, 1, 7, 8]) (others 19 [4]) (others 19 []) ?_ k_ z_ hi_ hm_
  clear hm_ hi_ z_ k_
  intro k_ z_ hinv hmu
  revert hinv hmu; revert z_; intro i hinv hmu
  have hinv : 0 ≤ i ∧ i ≤ (↑n : Int) := hinv
  have hmu : (((↑n : Int) - i).toNat) < k_ + 1 := hmu
  cases h1 : decide (i < (↑n : Int)) with
  | true =>
    have h1p := of_decide_eq_true h1
    have o0 : (0 : Int) ≤ i := by first | assumption | omega | (simp_all; done)
    have o1 : i < (↑n : Int) := by first | assumption | omega | (simp_all; done)
    cases h2 : r38.v (g i.toNat) with
    | true =>
      exact ⟨[.b true, .ret (AV.bool (r38.v (g i.toNat))) ([]), .b true], kmp (by kernel_rfl) (And.intro h1 (And.intro (And.intro o0 o1) (And.intro (r38 (g i.toNat) ([])) (And.intro h2 (L59.en n g (k_ := k_) (z_ := i) (.e0 (i) : L59.O) (by first | (simp only [L59.N, h1, h2, cond_true, cond_false]; done) | (try unfold L59.N; try simp only [h1, cond_true, cond_false]; try simp only [h2, cond_true, cond_false]; try rfl; done)) PopOk.same)))))⟩
    | false =>
      try have := IntWalk.i64_in (i + 1) (by omega)
      have o2 : (0 : Int) ≤ IntKind.i64.wrap (i + (1 : Int)) := by first | assumption | omega | (simp_all; done)
      have o3 : IntKind.i64.wrap (i + (1 : Int)) ≤ (↑n : Int) := by first | assumption | omega | (simp_all; done)
      have o4 : ((↑n : Int) - IntKind.i64.wrap (i + (1 : Int))).toNat < ((↑n : Int) - i).toNat := by first | assumption | omega | (simp_all; done)
      exact ⟨[.b true, .ret (AV.bool (r38.v (g i.toNat))) ([]), .b false], kmp (by kernel_rfl) (And.intro h1 (And.intro (And.intro o0 o1) (And.intro (r38 (g i.toNat) ([])) (And.intro h2 (L59.nx n g (k_ := k_) (z_ := i) (IntKind.i64.wrap (i + 1)) (And.intro o2 o3) o4 (by first | (simp only [L59.N, h1, h2, cond_true, cond_false]; done) | (try unfold L59.N; try simp only [h1, cond_true, cond_false]; try simp only [h2, cond_true, cond_false]; try rfl; done)) PopOk.same)))))⟩
  | false =>
    have h1p := of_decide_eq_false h1
    exact ⟨[.b false], kmp (by kernel_rfl) (And.intro h1 (L59.en n g (k_ := k_) (z_ := i) (.e1 : L59.O) (by first | (simp only [L59.N, h1, cond_true, cond_false]; done) | (try unfold L59.N; try simp only [h1, cond_true, cond_false]; try rfl; done)) PopOk.same))⟩
theorem L59.e0 (n : Nat) (g : Nat → PD) (hn : n ≤ 9223372036854775807) (i : Int) (hinv : L59.inv n g i) (a0 : Int) (hN : L59.run n g i = (.e0 a0 : L59.O)) : LoopTo Try.prog (loopN Try.f59 0) (L59.T n g i) (L59.H n g i) (Exit.ret) (L59.X n g (.e0 a0 : L59.O)) (L59.XH n g (.e0 a0 : L59.O)) := by
  have h_ := L59.spec n g hn ((((↑n : Int) - i).toNat) + 1) i hinv (Nat.lt_succ_self _)
  unfold L59.run at hN
  simp only [hN] at h_
  exact h_
theorem L59.e1 (n : Nat) (g : Nat → PD) (hn : n ≤ 9223372036854775807) (i : Int) (hinv : L59.inv n g i) (hN : L59.run n g i = (.e1 : L59.O)) : LoopTo Try.prog (loopN Try.f59 0) (L59.T n g i) (L59.H n g i) (Exit.exit 0) (L59.X n g (.e1 : L59.O)) (L59.XH n g (.e1 : L59.O)) := by
  have h_ := L59.spec n g hn ((((↑n : Int) - i).toNat) + 1) i hinv (Nat.lt_succ_self _)
  unfold L59.run at hN
  simp only [hN] at h_
  exact h_

noncomputable def r59.v (n : Nat) (g : Nat → PD) : Int := (match L59.run n g 0 with | .e0 h1d0 => h1d0 | .e1 => -1 )
theorem r59 (n : Nat) (g : Nat → PD) (hn : n ≤ 9223372036854775807) (h : AHeap) : Ret Try.prog 59 ([prs n g, AV.fn 38 []]) h (AV.int IntKind.i64 (r59.v n g)) h := by
  have o0 : n ≤ (9223372036854775807 : Nat) := by first | assumption | omega | (simp_all; done)
  have o1 : (0 : Int) ≤ (↑n : Int) := by first | assumption | omega | (simp_all; done)
  cases h1 : L59.run n g 0 with
  | e0 h1d0 =>
    exact Ret.of_run1 mix [(AV.int IntKind.i64 (r59.v n g))] Try.func59 rfl [.loop (others 19 [0, 1, 7, 8]) (Exit.ret) (L59.X n g (L59.O.e0 h1d0)) (L59.XH n g (L59.O.e0 h1d0))] (by simp) (by simp) (kmp (by kernel_rfl) (And.intro (L59.e0 (n) (g) o0 (0) (And.intro (show (0 : Int) ≤ (0 : Int) by first | decide | exact Int.NonNeg.mk _) o1) h1d0 h1) (And.intro (show (AV.int IntKind.i64 h1d0) = ((AV.int IntKind.i64 (r59.v n g))) by first | (simp only [r59.v, h1, cond_true, cond_false]; done) | (try unfold r59.v; try simp only [h1, cond_true, cond_false]; try rfl; done) | rfl) trivial))) h
  | e1 =>
    exact Ret.of_run1 mix [(AV.int IntKind.i64 (r59.v n g))] Try.func59 rfl [.loop (others 19 [0, 1, 7, 8]) (Exit.exit 0) (L59.X n g L59.O.e1) (L59.XH n g L59.O.e1)] (by simp) (by simp) (kmp (by kernel_rfl) (And.intro (L59.e1 (n) (g) o0 (0) (And.intro (show (0 : Int) ≤ (0 : Int) by first | decide | exact Int.NonNeg.mk _) o1) h1) (And.intro (show (AV.int IntKind.i64 (-1)) = ((AV.int IntKind.i64 (r59.v n g))) by first | (simp only [r59.v, h1, cond_true, cond_false]; done) | (try unfold r59.v; try simp only [h1, cond_true, cond_false]; try rfl; done) | rfl) trivial))) h

noncomputable def r37.v (n : Nat) (g : Nat → PD) : Bool := decide (r59.v n g ≥ 0)
theorem r37 (n : Nat) (g : Nat → PD) (hn : n ≤ 9223372036854775807) (h : AHeap) : Ret Try.prog 37 ([prs n g, AV.fn 38 []]) h (AV.bool (r37.v n g)) h := by
  have o0 : n ≤ (9223372036854775807 : Nat) := by first | assumption | omega | (simp_all; done)
  exact Ret.of_run1 mix [(AV.bool (r37.v n g))] Try.func37 rfl [.ret (AV.int IntKind.i64 (r59.v n g)) ([])] (by simp) (by simp) (kmp (by kernel_rfl) (And.intro (r59 (n) (g) o0 ([])) (And.intro (show (AV.bool (decide (r59.v n g ≥ 0))) = ((AV.bool (r37.v n g))) by first | (simp only [r37.v, cond_true, cond_false]; done) | (try unfold r37.v; try rfl; done) | rfl) trivial))) h

inductive L77.O where
  | e0 (a0 : Int)
  | e1
noncomputable def L77.T (n : Nat) (g : Nat → PD) (i : Int) : List AV := mkT 19 [(0, AV.sl 2 n fun (i : Nat) => AV.agg [AV.int IntKind.i64 (g i).lo, AV.int IntKind.i64 (g i).hi]), (1, AV.fn 61 []), (7, AV.int IntKind.i64 (↑n : Int)), (8, AV.int IntKind.i64 i)]
noncomputable def L77.H (n : Nat) (g : Nat → PD) (i : Int) : AHeap := []
def L77.inv (n : Nat) (g : Nat → PD) (i : Int) : Prop := 0 ≤ i ∧ i ≤ (↑n : Int)
noncomputable def L77.mu (n : Nat) (g : Nat → PD) (i : Int) : Nat := ((↑n : Int) - i).toNat
noncomputable def L77.E : L77.O → Exit
  | .e0 a0 => Exit.ret
  | .e1 => Exit.exit 0
noncomputable def L77.X (n : Nat) (g : Nat → PD) : L77.O → List AV
  | .e0 a0 => mkT 19 [(4, (AV.int IntKind.i64 a0))]
  | .e1 => mkT 19 []
noncomputable def L77.XH (n : Nat) (g : Nat → PD) : L77.O → AHeap
  | .e0 a0 => ([])
  | .e1 => ([])
noncomputable def L77.N (n : Nat) (g : Nat → PD) : Nat → Int → L77.O
  | 0, _ => .e0 default
  | k_ + 1, i => (bif decide (i < (↑n : Int)) then (bif r61.v (g i.toNat) then (.e0 (i)) else (L77.N n g k_ (IntKind.i64.wrap (i + 1)))) else (.e1))
noncomputable def L77.run (n : Nat) (g : Nat → PD) (i : Int) : L77.O := L77.N n g ((((↑n : Int) - i).toNat) + 1) i
def L77.Next (n : Nat) (g : Nat → PD) (k_ : Nat) (z_ : Int) (T_ : List AV) (h_ : AHeap) : Prop := LNextP (fun (z_ : Int) => L77.T n g z_) (fun (z_ : Int) => L77.H n g z_) (fun (z_ : Int) => L77.inv n g z_) (fun (z_ : Int) => L77.mu n g z_) (fun (k_ : Nat) (z_ : Int) => L77.N n g k_ z_) k_ z_ T_ h_
def L77.End (n : Nat) (g : Nat → PD) (k_ : Nat) (z_ : Int) (e_ : Exit) (T_ : List AV) (h_ : AHeap) : Prop := LEndP (fun (z_ : Int) => L77.H n g z_) (fun (k_ : Nat) (z_ : Int) => L77.N n g k_ z_) L77.E (L77.X n g) (L77.XH n g) k_ z_ e_ T_ h_
theorem L77.nx (n : Nat) (g : Nat → PD) {k_ : Nat} {z_ : Int} {h_ : AHeap} (s_ : Int) (h1 : L77.inv n g s_) (h2 : L77.mu n g s_ < L77.mu n g z_) (h3 : L77.N n g k_ s_ = L77.N n g (k_ + 1) z_) (h4 : PopOk (L77.H n g z_) h_ (L77.T n g s_) (L77.H n g s_)) : LNextP (fun (z_ : Int) => L77.T n g z_) (fun (z_ : Int) => L77.H n g z_) (fun (z_ : Int) => L77.inv n g z_) (fun (z_ : Int) => L77.mu n g z_) (fun (k_ : Nat) (z_ : Int) => L77.N n g k_ z_) k_ z_ (L77.T n g s_) h_ := LNextP.mk (Tm := (fun (z_ : Int) => L77.T n g z_)) (Hp := (fun (z_ : Int) => L77.H n g z_)) (inv := (fun (z_ : Int) => L77.inv n g z_)) (mu := (fun (z_ : Int) => L77.mu n g z_)) (l := (fun (k_ : Nat) (z_ : Int) => L77.N n g k_ z_)) s_ h1 h2 h3 h4
theorem L77.en (n : Nat) (g : Nat → PD) {k_ : Nat} {z_ : Int} {h_ : AHeap} (o_ : L77.O) (h3 : L77.N n g (k_ + 1) z_ = o_) (h4 : PopOk (L77.H n g z_) h_ (L77.X n g o_) (L77.XH n g o_)) : LEndP (fun (z_ : Int) => L77.H n g z_) (fun (k_ : Nat) (z_ : Int) => L77.N n g k_ z_) L77.E (L77.X n g) (L77.XH n g) k_ z_ (L77.E o_) (L77.X n g o_) h_ := LEndP.mk (Hp := (fun (z_ : Int) => L77.H n g z_)) (l := (fun (k_ : Nat) (z_ : Int) => L77.N n g k_ z_)) (oE := L77.E) (oT := L77.X n g) (oH := L77.XH n g) o_ h3 h4
theorem L77.spec (n : Nat) (g : Nat → PD) (hn : n ≤ 9223372036854775807) (k_ : Nat) (z_ : Int) (hi_ : L77.inv n g z_) (hm_ : L77.mu n g z_ < k_) : LoopTo Try.prog (loopN Try.f77 0) (L77.T n g z_) (L77.H n g z_) (L77.E (L77.N n g k_ z_)) (L77.X n g (L77.N n g k_ z_)) (L77.XH n g (L77.N n g k_ z_)) := by
  refine LoopTo.fuelP mix (fun (z_ : Int) => L77.T n g z_) (fun (z_ : Int) => L77.H n g z_) (fun (z_ : Int) => L77.inv n g z_) (fun (z_ : Int) => L77.mu n g z_) (fun (k_ : Nat) (z_ : Int) => L77.N n g k_ z_) L77.E (L77.X n g) (L77.XH n g) (others 19 [0, 1, 7, 8]) (others 19 [4]) (others 19 []) ?_ k_ z_ hi_ hm_
  clear hm_ hi_ z_ k_
  intro k_ z_ hinv hmu
  revert hinv hmu; revert z_; intro i hinv hmu
  have hinv : 0 ≤ i ∧ i ≤ (↑n : Int) := hinv
  have hmu : (((↑n : Int) - i).toNat) < k_ + 1 := hmu
  cases h1 : decide (i < (↑n : Int)) with
  | true =>
    have h1p := of_decide_eq_true h1
    have o0 : (0 : Int) ≤ i := by first | assumption | omega | (simp_all; done)
    have o1 : i < (↑n : Int) := by first | assumption | omega | (simp_all; done)
    cases h2 : r61.v (g i.toNat) with
    | true =>
      exact ⟨[.b true, .ret (AV.bool (r61.v (g i.toNat))) ([]), .b true], kmp (by kernel_rfl) (And.intro h1 (And.intro (And.intro o0 o1) (And.intro (r61 (g i.toNat) ([])) (And.intro h2 (L77.en n g (k_ := k_) (z_ := i) (.e0 (i) : L77.O) (by first | (simp only [L77.N, h1, h2, cond_true, cond_false]; done) | (try unfold L77.N; try simp only [h1, cond_true, cond_false]; try simp only [h2, cond_true, cond_false]; try rfl; done)) PopOk.same)))))⟩
    | false =>
      try have := IntWalk.i64_in (i + 1) (by omega)
      have o2 : (0 : Int) ≤ IntKind.i64.wrap (i + (1 : Int)) := by first | assumption | omega | (simp_all; done)
      have o3 : IntKind.i64.wrap (i + (1 : Int)) ≤ (↑n : Int) := by first | assumption | omega | (simp_all; done)
      have o4 : ((↑n : Int) - IntKind.i64.wrap (i + (1 : Int))).toNat < ((↑n : Int) - i).toNat := by first | assumption | omega | (simp_all; done)
      exact ⟨[.b true, .ret (AV.bool (r61.v (g i.toNat))) ([]), .b false], kmp (by kernel_rfl) (And.intro h1 (And.intro (And.intro o0 o1) (And.intro (r61 (g i.toNat) ([])) (And.intro h2 (L77.nx n g (k_ := k_) (z_ := i) (IntKind.i64.wrap (i + 1)) (And.intro o2 o3) o4 (by first | (simp only [L77.N, h1, h2, cond_true, cond_false]; done) | (try unfold L77.N; try simp only [h1, cond_true, cond_false]; try simp only [h2, cond_true, cond_false]; try rfl; done)) PopOk.same)))))⟩
  | false =>
    have h1p := of_decide_eq_false h1
    exact ⟨[.b false], kmp (by kernel_rfl) (And.intro h1 (L77.en n g (k_ := k_) (z_ := i) (.e1 : L77.O) (by first | (simp only [L77.N, h1, cond_true, cond_false]; done) | (try unfold L77.N; try simp only [h1, cond_true, cond_false]; try rfl; done)) PopOk.same))⟩
theorem L77.e0 (n : Nat) (g : Nat → PD) (hn : n ≤ 9223372036854775807) (i : Int) (hinv : L77.inv n g i) (a0 : Int) (hN : L77.run n g i = (.e0 a0 : L77.O)) : LoopTo Try.prog (loopN Try.f77 0) (L77.T n g i) (L77.H n g i) (Exit.ret) (L77.X n g (.e0 a0 : L77.O)) (L77.XH n g (.e0 a0 : L77.O)) := by
  have h_ := L77.spec n g hn ((((↑n : Int) - i).toNat) + 1) i hinv (Nat.lt_succ_self _)
  unfold L77.run at hN
  simp only [hN] at h_
  exact h_
theorem L77.e1 (n : Nat) (g : Nat → PD) (hn : n ≤ 9223372036854775807) (i : Int) (hinv : L77.inv n g i) (hN : L77.run n g i = (.e1 : L77.O)) : LoopTo Try.prog (loopN Try.f77 0) (L77.T n g i) (L77.H n g i) (Exit.exit 0) (L77.X n g (.e1 : L77.O)) (L77.XH n g (.e1 : L77.O)) := by
  have h_ := L77.spec n g hn ((((↑n : Int) - i).toNat) + 1) i hinv (Nat.lt_succ_self _)
  unfold L77.run at hN
  simp only [hN] at h_
  exact h_

noncomputable def r77.v (n : Nat) (g : Nat → PD) : Int := (match L77.run n g 0 with | .e0 h1d0 => h1d0 | .e1 => -1 )
theorem r77 (n : Nat) (g : Nat → PD) (hn : n ≤ 9223372036854775807) (h : AHeap) : Ret Try.prog 77 ([prs n g, AV.fn 61 []]) h (AV.int IntKind.i64 (r77.v n g)) h := by
  have o0 : n ≤ (9223372036854775807 : Nat) := by first | assumption | omega | (simp_all; done)
  have o1 : (0 : Int) ≤ (↑n : Int) := by first | assumption | omega | (simp_all; done)
  cases h1 : L77.run n g 0 with
  | e0 h1d0 =>
    exact Ret.of_run1 mix [(AV.int IntKind.i64 (r77.v n g))] Try.func77 rfl [.loop (others 19 [0, 1, 7, 8]) (Exit.ret) (L77.X n g (L77.O.e0 h1d0)) (L77.XH n g (L77.O.e0 h1d0))] (by simp) (by simp) (kmp (by kernel_rfl) (And.intro (L77.e0 (n) (g) o0 (0) (And.intro (show (0 : Int) ≤ (0 : Int) by first | decide | exact Int.NonNeg.mk _) o1) h1d0 h1) (And.intro (show (AV.int IntKind.i64 h1d0) = ((AV.int IntKind.i64 (r77.v n g))) by first | (simp only [r77.v, h1, cond_true, cond_false]; done) | (try unfold r77.v; try simp only [h1, cond_true, cond_false]; try rfl; done) | rfl) trivial))) h
  | e1 =>
    exact Ret.of_run1 mix [(AV.int IntKind.i64 (r77.v n g))] Try.func77 rfl [.loop (others 19 [0, 1, 7, 8]) (Exit.exit 0) (L77.X n g L77.O.e1) (L77.XH n g L77.O.e1)] (by simp) (by simp) (kmp (by kernel_rfl) (And.intro (L77.e1 (n) (g) o0 (0) (And.intro (show (0 : Int) ≤ (0 : Int) by first | decide | exact Int.NonNeg.mk _) o1) h1) (And.intro (show (AV.int IntKind.i64 (-1)) = ((AV.int IntKind.i64 (r77.v n g))) by first | (simp only [r77.v, h1, cond_true, cond_false]; done) | (try unfold r77.v; try simp only [h1, cond_true, cond_false]; try rfl; done) | rfl) trivial))) h

noncomputable def r60.v (n : Nat) (g : Nat → PD) : Bool := decide (r77.v n g ≥ 0)
theorem r60 (n : Nat) (g : Nat → PD) (hn : n ≤ 9223372036854775807) (h : AHeap) : Ret Try.prog 60 ([prs n g, AV.fn 61 []]) h (AV.bool (r60.v n g)) h := by
  have o0 : n ≤ (9223372036854775807 : Nat) := by first | assumption | omega | (simp_all; done)
  exact Ret.of_run1 mix [(AV.bool (r60.v n g))] Try.func60 rfl [.ret (AV.int IntKind.i64 (r77.v n g)) ([])] (by simp) (by simp) (kmp (by kernel_rfl) (And.intro (r77 (n) (g) o0 ([])) (And.intro (show (AV.bool (decide (r77.v n g ≥ 0))) = ((AV.bool (r60.v n g))) by first | (simp only [r60.v, cond_true, cond_false]; done) | (try unfold r60.v; try rfl; done) | rfl) trivial))) h

end Go.Proofs.Ytjdakdjgkpfjkaa

/- the tolerance seat's contracts: runs. -/
open Go
namespace Go.Proofs.Ytjdakdjgkpfjkaa
set_option linter.unusedSimpArgs false
set_option linter.unusedVariables false
set_option maxHeartbeats 0
set_option maxRecDepth 100000
inductive L40a.O where
  | e0
  | e1
noncomputable def L40a.T (n : Nat) (g : Nat → PD) (m : Int) (a23 : Int) : List AV := mkT 55 [(0, AV.sl 2 n fun (i : Nat) => AV.agg [AV.int IntKind.i64 (g i).lo, AV.int IntKind.i64 (g i).hi]), (1, AV.int IntKind.i64 m), (21, AV.sl 2 n fun (i : Nat) => AV.agg [AV.int IntKind.i64 (g i).lo, AV.int IntKind.i64 (g i).hi]), (22, AV.int IntKind.i64 (↑n : Int)), (23, AV.int IntKind.i64 a23)]
noncomputable def L40a.H (n : Nat) (g : Nat → PD) (m : Int) (a23 : Int) : AHeap := []
def L40a.inv (n : Nat) (g : Nat → PD) (m : Int) (a23 : Int) : Prop := 0 ≤ a23 ∧ (a23 ≤ (↑n : Int) ∨ a23 ≤ 0)
noncomputable def L40a.mu (n : Nat) (g : Nat → PD) (m : Int) (a23 : Int) : Nat := ((↑n : Int) - a23).toNat
noncomputable def L40a.E : L40a.O → Exit
  | .e0 => Exit.ret
  | .e1 => Exit.exit 0
noncomputable def L40a.X (n : Nat) (g : Nat → PD) (m : Int) : L40a.O → List AV
  | .e0 => mkT 55 [(4, (AV.int IntKind.i64 1))]
  | .e1 => mkT 55 [(0, (AV.sl 2 n fun (i : Nat) => AV.agg [AV.int IntKind.i64 (g i).lo, AV.int IntKind.i64 (g i).hi]))]
noncomputable def L40a.XH (n : Nat) (g : Nat → PD) (m : Int) : L40a.O → AHeap
  | .e0 => ([])
  | .e1 => ([])
noncomputable def L40a.N (n : Nat) (g : Nat → PD) (m : Int) : Nat → Int → L40a.O
  | 0, _ => .e0
  | k_ + 1, a23 => (bif decide (a23 < (↑n : Int)) then (bif decide ((g a23.toNat).lo < 1) then (.e0) else (bif decide ((g a23.toNat).lo > m) then (.e0) else (bif decide (a23 > 0) then (bif decide ((g (IntKind.i64.wrap (a23 - 1)).toNat).lo ≥ (g a23.toNat).lo) then (.e0) else (L40a.N n g m k_ (IntKind.i64.wrap (a23 + 1)))) else (L40a.N n g m k_ (IntKind.i64.wrap (a23 + 1)))))) else (.e1))
noncomputable def L40a.run (n : Nat) (g : Nat → PD) (m : Int) (a23 : Int) : L40a.O := L40a.N n g m ((((↑n : Int) - a23).toNat) + 1) a23
def L40a.Next (n : Nat) (g : Nat → PD) (m : Int) (k_ : Nat) (z_ : Int) (T_ : List AV) (h_ : AHeap) : Prop := LNextP (fun (z_ : Int) => L40a.T n g m z_) (fun (z_ : Int) => L40a.H n g m z_) (fun (z_ : Int) => L40a.inv n g m z_) (fun (z_ : Int) => L40a.mu n g m z_) (fun (k_ : Nat) (z_ : Int) => L40a.N n g m k_ z_) k_ z_ T_ h_
def L40a.End (n : Nat) (g : Nat → PD) (m : Int) (k_ : Nat) (z_ : Int) (e_ : Exit) (T_ : List AV) (h_ : AHeap) : Prop := LEndP (fun (z_ : Int) => L40a.H n g m z_) (fun (k_ : Nat) (z_ : Int) => L40a.N n g m k_ z_) L40a.E (L40a.X n g m) (L40a.XH n g m) k_ z_ e_ T_ h_
theorem L40a.nx (n : Nat) (g : Nat → PD) (m : Int) {k_ : Nat} {z_ : Int} {h_ : AHeap} (s_ : Int) (h1 : L40a.inv n g m s_) (h2 : L40a.mu n g m s_ < L40a.mu n g m z_) (h3 : L40a.N n g m k_ s_ = L40a.N n g m (k_ + 1) z_) (h4 : PopOk (L40a.H n g m z_) h_ (L40a.T n g m s_) (L40a.H n g m s_)) : LNextP (fun (z_ : Int) => L40a.T n g m z_) (fun (z_ : Int) => L40a.H n g m z_) (fun (z_ : Int) => L40a.inv n g m z_) (fun (z_ : Int) => L40a.mu n g m z_) (fun (k_ : Nat) (z_ : Int) => L40a.N n g m k_ z_) k_ z_ (L40a.T n g m s_) h_ := LNextP.mk (Tm := (fun (z_ : Int) => L40a.T n g m z_)) (Hp := (fun (z_ : Int) => L40a.H n g m z_)) (inv := (fun (z_ : Int) => L40a.inv n g m z_)) (mu := (fun (z_ : Int) => L40a.mu n g m z_)) (l := (fun (k_ : Nat) (z_ : Int) => L40a.N n g m k_ z_)) s_ h1 h2 h3 h4
theorem L40a.en (n : Nat) (g : Nat → PD) (m : Int) {k_ : Nat} {z_ : Int} {h_ : AHeap} (o_ : L40a.O) (h3 : L40a.N n g m (k_ + 1) z_ = o_) (h4 : PopOk (L40a.H n g m z_) h_ (L40a.X n g m o_) (L40a.XH n g m o_)) : LEndP (fun (z_ : Int) => L40a.H n g m z_) (fun (k_ : Nat) (z_ : Int) => L40a.N n g m k_ z_) L40a.E (L40a.X n g m) (L40a.XH n g m) k_ z_ (L40a.E o_) (L40a.X n g m o_) h_ := LEndP.mk (Hp := (fun (z_ : Int) => L40a.H n g m z_)) (l := (fun (k_ : Nat) (z_ : Int) => L40a.N n g m k_ z_)) (oE := L40a.E) (oT := L40a.X n g m) (oH := L40a.XH n g m) o_ h3 h4
theorem L40a.spec (n : Nat) (g : Nat → PD) (hn : n ≤ 9223372036854775807) (m : Int) (k0_1 : ((↑n : Int) == 0) = false) (p0_1 : (↑n : Int) ≠ 0) (k0_2 : ((g (IntKind.i64.wrap ((↑n : Int) - 1)).toNat).lo == m) = true) (p0_2 : (g (IntKind.i64.wrap ((↑n : Int) - 1)).toNat).lo = m) (k_ : Nat) (z_ : Int) (hi_ : L40a.inv n g m z_) (hm_ : L40a.mu n g m z_ < k_) : LoopTo Try.prog (loopN Try.f40 0) (L40a.T n g m z_) (L40a.H n g m z_) (L40a.E (L40a.N n g m k_ z_)) (L40a.X n g m (L40a.N n g m k_ z_)) (L40a.XH n g m (L40a.N n g m k_ z_)) := by
  refine LoopTo.fuelP mix (fun (z_ : Int) => L40a.T n g m z_) (fun (z_ : Int) => L40a.H n g m z_) (fun (z_ : Int) => L40a.inv n g m z_) (fun (z_ : Int) => L40a.mu n g m z_) (fun (k_ : Nat) (z_ : Int) => L40a.N n g m k_ z_) L40a.E (L40a.X n g m) (L40a.XH n g m) (others 55 [0, 1, 21, 22, 23]) (others 55 [4]) (others 55 [0]) ?_ k_ z_ hi_ hm_
  clear hm_ hi_ z_ k_
  intro k_ z_ hinv hmu
  revert hinv hmu; revert z_; intro a23 hinv hmu
  have hinv : 0 ≤ a23 ∧ (a23 ≤ (↑n : Int) ∨ a23 ≤ 0) := hinv
  have hmu : (((↑n : Int) - a23).toNat) < k_ + 1 := hmu
  cases h1 : decide (a23 < (↑n : Int)) with
  | true =>
    have h1p := of_decide_eq_true h1
    have o0 : (0 : Int) ≤ a23 := by first | assumption | omega | (simp_all; done)
    have o1 : a23 < (↑n : Int) := by first | assumption | omega | (simp_all; done)
    cases h2 : decide ((g a23.toNat).lo < 1) with
    | true =>
      have h2p := of_decide_eq_true h2
      exact ⟨[.b true, .b true, .b true, .b true, .b true, .b true, .b true, .b true, .b true, .b true, .b true, .b true], kmp (by kernel_rfl) (And.intro h1 (And.intro (And.intro o0 o1) (And.intro h2 (And.intro h2 (And.intro h2 (And.intro h2 (And.intro h2 (And.intro (rfl : true = true) (And.intro (rfl : true = true) (And.intro (rfl : true = true) (And.intro (rfl : true = true) (And.intro (rfl : true = true) (And.intro (rfl : true = true) (L40a.en n g m (k_ := k_) (z_ := a23) (h_ := [AObj.var (AV.agg [AV.int IntKind.i64 (g a23.toNat).lo, AV.int IntKind.i64 (g a23.toNat).hi])]) (.e0 : L40a.O) (by first | (simp only [L40a.N, h1, h2, cond_true, cond_false]; done) | (try unfold L40a.N; try simp only [h1, cond_true, cond_false]; try simp only [h2, cond_true, cond_false]; try rfl; done)) (PopOk.pop rfl (by simp [L40a.T, L40a.X, L40a.H, L40a.XH]))))))))))))))))⟩
    | false =>
      have h2p := of_decide_eq_false h2
      cases h3 : decide ((g a23.toNat).lo > m) with
      | true =>
        have h3p := of_decide_eq_true h3
        exact ⟨[.b true, .b false, .b false, .b false, .b false, .b false, .b true, .b true, .b true, .b true, .b true, .b true], kmp (by kernel_rfl) (And.intro h1 (And.intro (And.intro o0 o1) (And.intro h2 (And.intro h2 (And.intro h2 (And.intro h2 (And.intro h2 (And.intro h3 (And.intro h3 (And.intro h3 (And.intro h3 (And.intro h3 (And.intro (rfl : true = true) (L40a.en n g m (k_ := k_) (z_ := a23) (h_ := [AObj.var (AV.agg [AV.int IntKind.i64 (g a23.toNat).lo, AV.int IntKind.i64 (g a23.toNat).hi])]) (.e0 : L40a.O) (by first | (simp only [L40a.N, h1, h2, h3, cond_true, cond_false]; done) | (try unfold L40a.N; try simp only [h1, cond_true, cond_false]; try simp only [h2, cond_true, cond_false]; try simp only [h3, cond_true, cond_false]; try rfl; done)) (PopOk.pop rfl (by simp [L40a.T, L40a.X, L40a.H, L40a.XH]))))))))))))))))⟩
      | false =>
        have h3p := of_decide_eq_false h3
        cases h4 : decide (a23 > 0) with
        | true =>
          have h4p := of_decide_eq_true h4
          try have := IntWalk.i64_in (a23 - 1) (by omega)
          have o2 : (0 : Int) ≤ IntKind.i64.wrap (a23 - (1 : Int)) := by first | assumption | omega | (simp_all; done)
          have o3 : IntKind.i64.wrap (a23 - (1 : Int)) < (↑n : Int) := by first | assumption | omega | (simp_all; done)
          cases h5 : decide ((g (IntKind.i64.wrap (a23 - 1)).toNat).lo ≥ (g a23.toNat).lo) with
          | true =>
            have h5p := of_decide_eq_true h5
            exact ⟨[.b true, .b false, .b false, .b false, .b false, .b false, .b false, .b false, .b false, .b true, .b true, .b true, .b true, .b true, .b true, .b true, .b true, .b true, .b false, .b true, .b false, .b true], kmp (by kernel_rfl) (And.intro h1 (And.intro (And.intro o0 o1) (And.intro h2 (And.intro h2 (And.intro h2 (And.intro h2 (And.intro h2 (And.intro h3 (And.intro h3 (And.intro h3 (And.intro h4 (And.intro h4 (And.intro h4 (And.intro h4 (And.intro (And.intro o2 o3) (And.intro h4 (And.intro h4 (And.intro h4 (And.intro h4 (And.intro h4 (And.intro h3 (And.intro h4 (And.intro h3 (And.intro h5 (L40a.en n g m (k_ := k_) (z_ := a23) (h_ := [AObj.var (AV.agg [AV.int IntKind.i64 (g a23.toNat).lo, AV.int IntKind.i64 (g a23.toNat).hi])]) (.e0 : L40a.O) (by first | (simp only [L40a.N, h1, h2, h3, h4, h5, cond_true, cond_false]; done) | (try unfold L40a.N; try simp only [h1, cond_true, cond_false]; try simp only [h2, cond_true, cond_false]; try simp only [h3, cond_true, cond_false]; try simp only [h4, cond_true, cond_false]; try simp only [h5, cond_true, cond_false]; try rfl; done)) (PopOk.pop rfl (by simp [L40a.T, L40a.X, L40a.H, L40a.XH])))))))))))))))))))))))))))⟩
          | false =>
            have h5p := of_decide_eq_false h5
            try have := IntWalk.i64_in (a23 + 1) (by omega)
            have o4 : (0 : Int) ≤ IntKind.i64.wrap (a23 + (1 : Int)) := by first | assumption | omega | (simp_all; done)
            have o5 : IntKind.i64.wrap (a23 + (1 : Int)) ≤ (↑n : Int) ∨ IntKind.i64.wrap (a23 + (1 : Int)) ≤ (0 : Int) := by first | assumption | omega | (simp_all; done)
            have o6 : ((↑n : Int) - IntKind.i64.wrap (a23 + (1 : Int))).toNat < ((↑n : Int) - a23).toNat := by first | assumption | omega | (simp_all; done)
            exact ⟨[.b true, .b false, .b false, .b false, .b false, .b false, .b false, .b false, .b false, .b true, .b true, .b true, .b true, .b true, .b true, .b true, .b true, .b true, .b false, .b true, .b false, .b false], kmp (by kernel_rfl) (And.intro h1 (And.intro (And.intro o0 o1) (And.intro h2 (And.intro h2 (And.intro h2 (And.intro h2 (And.intro h2 (And.intro h3 (And.intro h3 (And.intro h3 (And.intro h4 (And.intro h4 (And.intro h4 (And.intro h4 (And.intro (And.intro o2 o3) (And.intro h4 (And.intro h4 (And.intro h4 (And.intro h4 (And.intro h4 (And.intro h3 (And.intro h4 (And.intro h3 (And.intro h5 (L40a.nx n g m (k_ := k_) (z_ := a23) (h_ := [AObj.var (AV.agg [AV.int IntKind.i64 (g a23.toNat).lo, AV.int IntKind.i64 (g a23.toNat).hi])]) (IntKind.i64.wrap (a23 + 1)) (And.intro o4 o5) o6 (by first | (simp only [L40a.N, h1, h2, h3, h4, h5, cond_true, cond_false]; done) | (try unfold L40a.N; try simp only [h1, cond_true, cond_false]; try simp only [h2, cond_true, cond_false]; try simp only [h3, cond_true, cond_false]; try simp only [h4, cond_true, cond_false]; try simp only [h5, cond_true, cond_false]; try rfl; done)) (PopOk.pop rfl (by simp [L40a.T, L40a.X, L40a.H, L40a.XH])))))))))))))))))))))))))))⟩
        | false =>
          have h4p := of_decide_eq_false h4
          try have := IntWalk.i64_in (a23 + 1) (by omega)
          have o4 : (0 : Int) ≤ IntKind.i64.wrap (a23 + (1 : Int)) := by first | assumption | omega | (simp_all; done)
          have o5 : IntKind.i64.wrap (a23 + (1 : Int)) ≤ (↑n : Int) ∨ IntKind.i64.wrap (a23 + (1 : Int)) ≤ (0 : Int) := by first | assumption | omega | (simp_all; done)
          have o6 : ((↑n : Int) - IntKind.i64.wrap (a23 + (1 : Int))).toNat < ((↑n : Int) - a23).toNat := by first | assumption | omega | (simp_all; done)
          exact ⟨[.b true, .b false, .b false, .b false, .b false, .b false, .b false, .b false, .b false, .b false, .b false, .b false, .b false, .b false, .b false, .b false, .b false, .b false, .b false, .b false, .b false, .b false], kmp (by kernel_rfl) (And.intro h1 (And.intro (And.intro o0 o1) (And.intro h2 (And.intro h2 (And.intro h2 (And.intro h2 (And.intro h2 (And.intro h3 (And.intro h3 (And.intro h3 (And.intro h4 (And.intro h4 (And.intro h4 (And.intro h4 (And.intro h4 (And.intro h4 (And.intro h4 (And.intro h4 (And.intro h4 (And.intro h3 (And.intro h4 (And.intro h3 (And.intro (rfl : false = false) (L40a.nx n g m (k_ := k_) (z_ := a23) (h_ := [AObj.var (AV.agg [AV.int IntKind.i64 (g a23.toNat).lo, AV.int IntKind.i64 (g a23.toNat).hi])]) (IntKind.i64.wrap (a23 + 1)) (And.intro o4 o5) o6 (by first | (simp only [L40a.N, h1, h2, h3, h4, cond_true, cond_false]; done) | (try unfold L40a.N; try simp only [h1, cond_true, cond_false]; try simp only [h2, cond_true, cond_false]; try simp only [h3, cond_true, cond_false]; try simp only [h4, cond_true, cond_false]; try rfl; done)) (PopOk.pop rfl (by simp [L40a.T, L40a.X, L40a.H, L40a.XH]))))))))))))))))))))))))))⟩
  | false =>
    have h1p := of_decide_eq_false h1
    exact ⟨[.b false], kmp (by kernel_rfl) (And.intro h1 (L40a.en n g m (k_ := k_) (z_ := a23) (.e1 : L40a.O) (by first | (simp only [L40a.N, h1, cond_true, cond_false]; done) | (try unfold L40a.N; try simp only [h1, cond_true, cond_false]; try rfl; done)) PopOk.same))⟩
theorem L40a.e0 (n : Nat) (g : Nat → PD) (hn : n ≤ 9223372036854775807) (m : Int) (k0_1 : ((↑n : Int) == 0) = false) (p0_1 : (↑n : Int) ≠ 0) (k0_2 : ((g (IntKind.i64.wrap ((↑n : Int) - 1)).toNat).lo == m) = true) (p0_2 : (g (IntKind.i64.wrap ((↑n : Int) - 1)).toNat).lo = m) (a23 : Int) (hinv : L40a.inv n g m a23) (hN : L40a.run n g m a23 = (.e0 : L40a.O)) : LoopTo Try.prog (loopN Try.f40 0) (L40a.T n g m a23) (L40a.H n g m a23) (Exit.ret) (L40a.X n g m (.e0 : L40a.O)) (L40a.XH n g m (.e0 : L40a.O)) := by
  have h_ := L40a.spec n g hn m k0_1 p0_1 k0_2 p0_2 ((((↑n : Int) - a23).toNat) + 1) a23 hinv (Nat.lt_succ_self _)
  unfold L40a.run at hN
  simp only [hN] at h_
  exact h_
theorem L40a.e1 (n : Nat) (g : Nat → PD) (hn : n ≤ 9223372036854775807) (m : Int) (k0_1 : ((↑n : Int) == 0) = false) (p0_1 : (↑n : Int) ≠ 0) (k0_2 : ((g (IntKind.i64.wrap ((↑n : Int) - 1)).toNat).lo == m) = true) (p0_2 : (g (IntKind.i64.wrap ((↑n : Int) - 1)).toNat).lo = m) (a23 : Int) (hinv : L40a.inv n g m a23) (hN : L40a.run n g m a23 = (.e1 : L40a.O)) : LoopTo Try.prog (loopN Try.f40 0) (L40a.T n g m a23) (L40a.H n g m a23) (Exit.exit 0) (L40a.X n g m (.e1 : L40a.O)) (L40a.XH n g m (.e1 : L40a.O)) := by
  have h_ := L40a.spec n g hn m k0_1 p0_1 k0_2 p0_2 ((((↑n : Int) - a23).toNat) + 1) a23 hinv (Nat.lt_succ_self _)
  unfold L40a.run at hN
  simp only [hN] at h_
  exact h_

noncomputable def r40.v (n : Nat) (g : Nat → PD) (m : Int) : Int := (bif (↑n : Int) == 0 then 1 else (bif (g (IntKind.i64.wrap ((↑n : Int) - 1)).toNat).lo == m then (match L40a.run n g m 0 with | .e0 => 1 | .e1 => (bif r60.v n g then 6 else 0) ) else 1))
theorem r40 (n : Nat) (g : Nat → PD) (hn : n ≤ 9223372036854775807) (m : Int) (h : AHeap) : Ret Try.prog 40 ([prs n g, AV.int IntKind.i64 m]) h (AV.int IntKind.i64 (r40.v n g m)) h := by
  cases h1 : (↑n : Int) == 0 with
  | true =>
    have h1p := eq_of_beq h1
    exact Ret.of_run1 mix [(AV.int IntKind.i64 (r40.v n g m))] Try.func40 rfl [.b true, .b true, .b true, .b true, .b true, .b true, .b true, .b true, .b true, .b true, .b true] (by simp) (by simp) (kmp (by kernel_rfl) (And.intro h1 (And.intro h1 (And.intro h1 (And.intro h1 (And.intro h1 (And.intro h1 (And.intro h1 (And.intro h1 (And.intro h1 (And.intro h1 (And.intro (rfl : true = true) (And.intro (show (AV.int IntKind.i64 1) = ((AV.int IntKind.i64 (r40.v n g m))) by first | (simp only [r40.v, h1, cond_true, cond_false]; done) | (try unfold r40.v; try simp only [h1, cond_true, cond_false]; try rfl; done) | rfl) trivial))))))))))))) h
  | false =>
    have h1p := ne_of_beq_false h1
    try have := IntWalk.i64_in ((↑n : Int) - 1) (by omega)
    have o0 : (0 : Int) ≤ IntKind.i64.wrap ((↑n : Int) - (1 : Int)) := by first | assumption | omega | (simp_all; done)
    have o1 : IntKind.i64.wrap ((↑n : Int) - (1 : Int)) < (↑n : Int) := by first | assumption | omega | (simp_all; done)
    cases h2 : (g (IntKind.i64.wrap ((↑n : Int) - 1)).toNat).lo == m with
    | true =>
      have h2p := eq_of_beq h2
      have o2 : n ≤ (9223372036854775807 : Nat) := by first | assumption | omega | (simp_all; done)
      have o3 : ((↑n : Int) == (0 : Int)) = false := by first | assumption | omega | (simp_all; done)
      have o4 : (↑n : Int) ≠ (0 : Int) := by first | assumption | omega | (simp_all; done)
      try have := IntWalk.i64_in ((↑n : Int) - 1) (by omega)
      have o5 : ((g (IntKind.i64.wrap ((↑n : Int) - (1 : Int))).toNat).lo == m) = true := by first | assumption | omega | (simp_all; done)
      have o6 : (g (IntKind.i64.wrap ((↑n : Int) - (1 : Int))).toNat).lo = m := by first | assumption | omega | (simp_all; done)
      have o7 : (0 : Int) ≤ (↑n : Int) ∨ (0 : Int) ≤ (0 : Int) := by first | assumption | omega | (simp_all; done)
      cases h3 : L40a.run n g m 0 with
      | e0 =>
        exact Ret.of_run1 mix [(AV.int IntKind.i64 (r40.v n g m))] Try.func40 rfl [.b false, .b false, .b false, .b false, .b false, .b false, .b false, .b false, .b false, .b false, .b false, .loop (others 55 [0, 1, 21, 22, 23]) (Exit.ret) (L40a.X n g m L40a.O.e0) (L40a.XH n g m L40a.O.e0)] (by simp) (by simp) (kmp (by kernel_rfl) (And.intro h1 (And.intro h1 (And.intro h1 (And.intro h1 (And.intro h1 (And.intro (And.intro o0 o1) (And.intro h1 (And.intro h1 (And.intro h1 (And.intro h1 (And.intro h1 (And.intro (show (bnot ((g (IntKind.i64.wrap ((↑n : Int) - 1)).toNat).lo == m)) = false by rw [h2]; try rfl) (And.intro (L40a.e0 (n) (g) o2 (m) o3 o4 o5 o6 (0) (And.intro (show (0 : Int) ≤ (0 : Int) by first | decide | exact Int.NonNeg.mk _) o7) h3) (And.intro (show (AV.int IntKind.i64 1) = ((AV.int IntKind.i64 (r40.v n g m))) by first | (simp only [r40.v, h1, h2, h3, cond_true, cond_false]; done) | (try unfold r40.v; try simp only [h1, cond_true, cond_false]; try simp only [h2, cond_true, cond_false]; try simp only [h3, cond_true, cond_false]; try rfl; done) | rfl) trivial))))))))))))))) h
      | e1 =>
        cases h4 : r60.v n g with
        | true =>
          exact Ret.of_run1 mix [(AV.int IntKind.i64 (r40.v n g m))] Try.func40 rfl [.b false, .b false, .b false, .b false, .b false, .b false, .b false, .b false, .b false, .b false, .b false, .loop (others 55 [0, 1, 21, 22, 23]) (Exit.exit 0) (L40a.X n g m L40a.O.e1) (L40a.XH n g m L40a.O.e1), .ret (AV.bool (r60.v n g)) ([]), .b true] (by simp) (by simp) (kmp (by kernel_rfl) (And.intro h1 (And.intro h1 (And.intro h1 (And.intro h1 (And.intro h1 (And.intro (And.intro o0 o1) (And.intro h1 (And.intro h1 (And.intro h1 (And.intro h1 (And.intro h1 (And.intro (show (bnot ((g (IntKind.i64.wrap ((↑n : Int) - 1)).toNat).lo == m)) = false by rw [h2]; try rfl) (And.intro (L40a.e1 (n) (g) o2 (m) o3 o4 o5 o6 (0) (And.intro (show (0 : Int) ≤ (0 : Int) by first | decide | exact Int.NonNeg.mk _) o7) h3) (And.intro (r60 (n) (g) o2 ([])) (And.intro h4 (And.intro (show (AV.int IntKind.i64 6) = ((AV.int IntKind.i64 (r40.v n g m))) by first | (simp only [r40.v, h1, h2, h4, h3, cond_true, cond_false]; done) | (try unfold r40.v; try simp only [h1, cond_true, cond_false]; try simp only [h2, cond_true, cond_false]; try simp only [h4, cond_true, cond_false]; try simp only [h3, cond_true, cond_false]; try rfl; done) | rfl) trivial))))))))))))))))) h
        | false =>
          exact Ret.of_run1 mix [(AV.int IntKind.i64 (r40.v n g m))] Try.func40 rfl [.b false, .b false, .b false, .b false, .b false, .b false, .b false, .b false, .b false, .b false, .b false, .loop (others 55 [0, 1, 21, 22, 23]) (Exit.exit 0) (L40a.X n g m L40a.O.e1) (L40a.XH n g m L40a.O.e1), .ret (AV.bool (r60.v n g)) ([]), .b false] (by simp) (by simp) (kmp (by kernel_rfl) (And.intro h1 (And.intro h1 (And.intro h1 (And.intro h1 (And.intro h1 (And.intro (And.intro o0 o1) (And.intro h1 (And.intro h1 (And.intro h1 (And.intro h1 (And.intro h1 (And.intro (show (bnot ((g (IntKind.i64.wrap ((↑n : Int) - 1)).toNat).lo == m)) = false by rw [h2]; try rfl) (And.intro (L40a.e1 (n) (g) o2 (m) o3 o4 o5 o6 (0) (And.intro (show (0 : Int) ≤ (0 : Int) by first | decide | exact Int.NonNeg.mk _) o7) h3) (And.intro (r60 (n) (g) o2 ([])) (And.intro h4 (And.intro (show (AV.int IntKind.i64 0) = ((AV.int IntKind.i64 (r40.v n g m))) by first | (simp only [r40.v, h1, h2, h4, h3, cond_true, cond_false]; done) | (try unfold r40.v; try simp only [h1, cond_true, cond_false]; try simp only [h2, cond_true, cond_false]; try simp only [h4, cond_true, cond_false]; try simp only [h3, cond_true, cond_false]; try rfl; done) | rfl) trivial))))))))))))))))) h
    | false =>
      have h2p := ne_of_beq_false h2
      exact Ret.of_run1 mix [(AV.int IntKind.i64 (r40.v n g m))] Try.func40 rfl [.b false, .b false, .b false, .b false, .b false, .b false, .b false, .b false, .b false, .b false, .b true] (by simp) (by simp) (kmp (by kernel_rfl) (And.intro h1 (And.intro h1 (And.intro h1 (And.intro h1 (And.intro h1 (And.intro (And.intro o0 o1) (And.intro h1 (And.intro h1 (And.intro h1 (And.intro h1 (And.intro h1 (And.intro (show (bnot ((g (IntKind.i64.wrap ((↑n : Int) - 1)).toNat).lo == m)) = true by rw [h2]; try rfl) (And.intro (show (AV.int IntKind.i64 1) = ((AV.int IntKind.i64 (r40.v n g m))) by first | (simp only [r40.v, h1, h2, cond_true, cond_false]; done) | (try unfold r40.v; try simp only [h1, cond_true, cond_false]; try simp only [h2, cond_true, cond_false]; try rfl; done) | rfl) trivial)))))))))))))) h

noncomputable def r16.v (n : Nat) (g : Nat → PD) (j1 : Int) (j2 : Int) (k : Nat) (p : Nat → PD) : Int := (bif r36.v (↑n : Int) == 0 then (bif r37.v n g then 6 else (bif r39.v j1 j2 then r40.v k p (↑n : Int) else 6)) else r36.v (↑n : Int))
noncomputable abbrev r16.h0 (n : Nat) (g : Nat → PD) (j1 : Int) (j2 : Int) (k : Nat) (p : Nat → PD) : AHeap := ([AObj.var (AV.agg [AV.sl 2 n fun (i : Nat) => AV.agg [AV.int IntKind.i64 (g i).lo, AV.int IntKind.i64 (g i).hi], AV.int IntKind.i64 j1, AV.int IntKind.i64 j2, AV.sl 2 k fun (i : Nat) => AV.agg [AV.int IntKind.i64 (p i).lo, AV.int IntKind.i64 (p i).hi]])])
theorem r16 (n : Nat) (g : Nat → PD) (hn : n ≤ 9223372036854775807) (j1 : Int) (j2 : Int) (k : Nat) (p : Nat → PD) (hk : k ≤ 9223372036854775807) (h : AHeap) : Ret Try.prog 16 ([rn n g j1 j2 k p]) h (AV.int IntKind.i64 (r16.v n g j1 j2 k p)) h := by
  cases h1 : r36.v (↑n : Int) == 0 with
  | true =>
    have h1p := eq_of_beq h1
    have o0 : n ≤ (9223372036854775807 : Nat) := by first | assumption | omega | (simp_all; done)
    cases h2 : r37.v n g with
    | true =>
      exact Ret.of_run1 mix [(AV.int IntKind.i64 (r16.v n g j1 j2 k p))] Try.func16 rfl [.ret (AV.int IntKind.i64 (r36.v (↑n : Int))) (r16.h0 n g j1 j2 k p), .b false, .ret (AV.bool (r37.v n g)) (r16.h0 n g j1 j2 k p), .b true, .b true, .b true, .b true, .b true, .b true] (by simp) (by simp) (kmp (by kernel_rfl) (And.intro (r36 ((↑n : Int)) (r16.h0 n g j1 j2 k p)) (And.intro (show (bnot (r36.v (↑n : Int) == 0)) = false by rw [h1]; try rfl) (And.intro (r37 (n) (g) o0 (r16.h0 n g j1 j2 k p)) (And.intro h2 (And.intro h2 (And.intro h2 (And.intro h2 (And.intro h2 (And.intro (rfl : true = true) (And.intro (show (AV.int IntKind.i64 6) = ((AV.int IntKind.i64 (r16.v n g j1 j2 k p))) by first | (simp only [r16.v, h1, h2, cond_true, cond_false]; done) | (try unfold r16.v; try simp only [h1, cond_true, cond_false]; try simp only [h2, cond_true, cond_false]; try rfl; done) | rfl) trivial))))))))))) h
    | false =>
      cases h3 : r39.v j1 j2 with
      | true =>
        have o1 : k ≤ (9223372036854775807 : Nat) := by first | assumption | omega | (simp_all; done)
        exact Ret.of_run1 mix [(AV.int IntKind.i64 (r16.v n g j1 j2 k p))] Try.func16 rfl [.ret (AV.int IntKind.i64 (r36.v (↑n : Int))) (r16.h0 n g j1 j2 k p), .b false, .ret (AV.bool (r37.v n g)) (r16.h0 n g j1 j2 k p), .b false, .b false, .b false, .ret (AV.bool (r39.v j1 j2)) (r16.h0 n g j1 j2 k p), .b false, .b false, .b false, .ret (AV.int IntKind.i64 (r40.v k p (↑n : Int))) (r16.h0 n g j1 j2 k p)] (by simp) (by simp) (kmp (by kernel_rfl) (And.intro (r36 ((↑n : Int)) (r16.h0 n g j1 j2 k p)) (And.intro (show (bnot (r36.v (↑n : Int) == 0)) = false by rw [h1]; try rfl) (And.intro (r37 (n) (g) o0 (r16.h0 n g j1 j2 k p)) (And.intro h2 (And.intro h2 (And.intro h2 (And.intro (r39 (j1) (j2) (r16.h0 n g j1 j2 k p)) (And.intro h2 (And.intro h2 (And.intro (show (bnot (r39.v j1 j2)) = false by rw [h3]; try rfl) (And.intro (r40 (k) (p) o1 ((↑n : Int)) (r16.h0 n g j1 j2 k p)) (And.intro (show (AV.int IntKind.i64 (r40.v k p (↑n : Int))) = ((AV.int IntKind.i64 (r16.v n g j1 j2 k p))) by first | (simp only [r16.v, h1, h2, h3, cond_true, cond_false]; done) | (try unfold r16.v; try simp only [h1, cond_true, cond_false]; try simp only [h2, cond_true, cond_false]; try simp only [h3, cond_true, cond_false]; try rfl; done) | rfl) trivial))))))))))))) h
      | false =>
        exact Ret.of_run1 mix [(AV.int IntKind.i64 (r16.v n g j1 j2 k p))] Try.func16 rfl [.ret (AV.int IntKind.i64 (r36.v (↑n : Int))) (r16.h0 n g j1 j2 k p), .b false, .ret (AV.bool (r37.v n g)) (r16.h0 n g j1 j2 k p), .b false, .b false, .b false, .ret (AV.bool (r39.v j1 j2)) (r16.h0 n g j1 j2 k p), .b false, .b false, .b true] (by simp) (by simp) (kmp (by kernel_rfl) (And.intro (r36 ((↑n : Int)) (r16.h0 n g j1 j2 k p)) (And.intro (show (bnot (r36.v (↑n : Int) == 0)) = false by rw [h1]; try rfl) (And.intro (r37 (n) (g) o0 (r16.h0 n g j1 j2 k p)) (And.intro h2 (And.intro h2 (And.intro h2 (And.intro (r39 (j1) (j2) (r16.h0 n g j1 j2 k p)) (And.intro h2 (And.intro h2 (And.intro (show (bnot (r39.v j1 j2)) = true by rw [h3]; try rfl) (And.intro (show (AV.int IntKind.i64 6) = ((AV.int IntKind.i64 (r16.v n g j1 j2 k p))) by first | (simp only [r16.v, h1, h2, h3, cond_true, cond_false]; done) | (try unfold r16.v; try simp only [h1, cond_true, cond_false]; try simp only [h2, cond_true, cond_false]; try simp only [h3, cond_true, cond_false]; try rfl; done) | rfl) trivial)))))))))))) h
  | false =>
    have h1p := ne_of_beq_false h1
    exact Ret.of_run1 mix [(AV.int IntKind.i64 (r16.v n g j1 j2 k p))] Try.func16 rfl [.ret (AV.int IntKind.i64 (r36.v (↑n : Int))) (r16.h0 n g j1 j2 k p), .b true] (by simp) (by simp) (kmp (by kernel_rfl) (And.intro (r36 ((↑n : Int)) (r16.h0 n g j1 j2 k p)) (And.intro (show (bnot (r36.v (↑n : Int) == 0)) = true by rw [h1]; try rfl) (And.intro (show (AV.int IntKind.i64 (r36.v (↑n : Int))) = ((AV.int IntKind.i64 (r16.v n g j1 j2 k p))) by first | (simp only [r16.v, h1, cond_true, cond_false]; done) | (try unfold r16.v; try simp only [h1, cond_true, cond_false]; try rfl; done) | rfl) trivial)))) h

inductive L35a.O where
  | e0
  | e1
noncomputable def L35a.T (n : Nat) (g : Nat → PD) (m : Int) (a5 : Int) : List AV := mkT 80 [(0, AV.sl 2 n fun (i : Nat) => AV.agg [AV.int IntKind.i64 (g i).lo, AV.int IntKind.i64 (g i).hi]), (1, AV.int IntKind.i64 m), (5, AV.int IntKind.i64 a5)]
noncomputable def L35a.H (n : Nat) (g : Nat → PD) (m : Int) (a5 : Int) : AHeap := []
def L35a.inv (n : Nat) (g : Nat → PD) (m : Int) (a5 : Int) : Prop := 0 ≤ a5 ∧ (a5 ≤ (↑n : Int) ∨ a5 ≤ 0)
noncomputable def L35a.mu (n : Nat) (g : Nat → PD) (m : Int) (a5 : Int) : Nat := ((↑n : Int) - a5).toNat
noncomputable def L35a.E : L35a.O → Exit
  | .e0 => Exit.ret
  | .e1 => Exit.exit 0
noncomputable def L35a.X (n : Nat) (g : Nat → PD) (m : Int) : L35a.O → List AV
  | .e0 => mkT 80 [(4, (AV.int IntKind.i64 1))]
  | .e1 => mkT 80 [(0, (AV.sl 2 n fun (i : Nat) => AV.agg [AV.int IntKind.i64 (g i).lo, AV.int IntKind.i64 (g i).hi]))]
noncomputable def L35a.XH (n : Nat) (g : Nat → PD) (m : Int) : L35a.O → AHeap
  | .e0 => ([])
  | .e1 => ([])
noncomputable def L35a.N (n : Nat) (g : Nat → PD) (m : Int) : Nat → Int → L35a.O
  | 0, _ => .e0
  | k_ + 1, a5 => (bif decide (a5 < (↑n : Int)) then (bif decide ((g a5.toNat).lo < 1) then (.e0) else (bif decide ((g a5.toNat).lo > m) then (.e0) else (bif decide (a5 > 0) then (bif decide ((g (IntKind.i64.wrap (a5 - 1)).toNat).lo ≥ (g a5.toNat).lo) then (.e0) else (L35a.N n g m k_ (IntKind.i64.wrap (a5 + 1)))) else (L35a.N n g m k_ (IntKind.i64.wrap (a5 + 1)))))) else (.e1))
noncomputable def L35a.run (n : Nat) (g : Nat → PD) (m : Int) (a5 : Int) : L35a.O := L35a.N n g m ((((↑n : Int) - a5).toNat) + 1) a5
def L35a.Next (n : Nat) (g : Nat → PD) (m : Int) (k_ : Nat) (z_ : Int) (T_ : List AV) (h_ : AHeap) : Prop := LNextP (fun (z_ : Int) => L35a.T n g m z_) (fun (z_ : Int) => L35a.H n g m z_) (fun (z_ : Int) => L35a.inv n g m z_) (fun (z_ : Int) => L35a.mu n g m z_) (fun (k_ : Nat) (z_ : Int) => L35a.N n g m k_ z_) k_ z_ T_ h_
def L35a.End (n : Nat) (g : Nat → PD) (m : Int) (k_ : Nat) (z_ : Int) (e_ : Exit) (T_ : List AV) (h_ : AHeap) : Prop := LEndP (fun (z_ : Int) => L35a.H n g m z_) (fun (k_ : Nat) (z_ : Int) => L35a.N n g m k_ z_) L35a.E (L35a.X n g m) (L35a.XH n g m) k_ z_ e_ T_ h_
theorem L35a.nx (n : Nat) (g : Nat → PD) (m : Int) {k_ : Nat} {z_ : Int} {h_ : AHeap} (s_ : Int) (h1 : L35a.inv n g m s_) (h2 : L35a.mu n g m s_ < L35a.mu n g m z_) (h3 : L35a.N n g m k_ s_ = L35a.N n g m (k_ + 1) z_) (h4 : PopOk (L35a.H n g m z_) h_ (L35a.T n g m s_) (L35a.H n g m s_)) : LNextP (fun (z_ : Int) => L35a.T n g m z_) (fun (z_ : Int) => L35a.H n g m z_) (fun (z_ : Int) => L35a.inv n g m z_) (fun (z_ : Int) => L35a.mu n g m z_) (fun (k_ : Nat) (z_ : Int) => L35a.N n g m k_ z_) k_ z_ (L35a.T n g m s_) h_ := LNextP.mk (Tm := (fun (z_ : Int) => L35a.T n g m z_)) (Hp := (fun (z_ : Int) => L35a.H n g m z_)) (inv := (fun (z_ : Int) => L35a.inv n g m z_)) (mu := (fun (z_ : Int) => L35a.mu n g m z_)) (l := (fun (k_ : Nat) (z_ : Int) => L35a.N n g m k_ z_)) s_ h1 h2 h3 h4
theorem L35a.en (n : Nat) (g : Nat → PD) (m : Int) {k_ : Nat} {z_ : Int} {h_ : AHeap} (o_ : L35a.O) (h3 : L35a.N n g m (k_ + 1) z_ = o_) (h4 : PopOk (L35a.H n g m z_) h_ (L35a.X n g m o_) (L35a.XH n g m o_)) : LEndP (fun (z_ : Int) => L35a.H n g m z_) (fun (k_ : Nat) (z_ : Int) => L35a.N n g m k_ z_) L35a.E (L35a.X n g m) (L35a.XH n g m) k_ z_ (L35a.E o_) (L35a.X n g m o_) h_ := LEndP.mk (Hp := (fun (z_ : Int) => L35a.H n g m z_)) (l := (fun (k_ : Nat) (z_ : Int) => L35a.N n g m k_ z_)) (oE := L35a.E) (oT := L35a.X n g m) (oH := L35a.XH n g m) o_ h3 h4
theorem L35a.spec (n : Nat) (g : Nat → PD) (hn : n ≤ 9223372036854775807) (m : Int) (k0_1 : ((↑n : Int) == 0) = false) (p0_1 : (↑n : Int) ≠ 0) (k0_2 : ((g (IntKind.i64.wrap ((↑n : Int) - 1)).toNat).lo == m) = true) (p0_2 : (g (IntKind.i64.wrap ((↑n : Int) - 1)).toNat).lo = m) (k_ : Nat) (z_ : Int) (hi_ : L35a.inv n g m z_) (hm_ : L35a.mu n g m z_ < k_) : LoopTo Try.prog (loopN Try.f35 0) (L35a.T n g m z_) (L35a.H n g m z_) (L35a.E (L35a.N n g m k_ z_)) (L35a.X n g m (L35a.N n g m k_ z_)) (L35a.XH n g m (L35a.N n g m k_ z_)) := by
  refine LoopTo.fuelP mix (fun (z_ : Int) => L35a.T n g m z_) (fun (z_ : Int) => L35a.H n g m z_) (fun (z_ : Int) => L35a.inv n g m z_) (fun (z_ : Int) => L35a.mu n g m z_) (fun (k_ : Nat) (z_ : Int) => L35a.N n g m k_ z_) L35a.E (L35a.X n g m) (L35a.XH n g m) (others 80 [0, 1, 5]) (others 80 [4]) (others 80 [0]) ?_ k_ z_ hi_ hm_
  clear hm_ hi_ z_ k_
  intro k_ z_ hinv hmu
  revert hinv hmu; revert z_; intro a5 hinv hmu
  have hinv : 0 ≤ a5 ∧ (a5 ≤ (↑n : Int) ∨ a5 ≤ 0) := hinv
  have hmu : (((↑n : Int) - a5).toNat) < k_ + 1 := hmu
  cases h1 : decide (a5 < (↑n : Int)) with
  | true =>
    have h1p := of_decide_eq_true h1
    have o0 : (0 : Int) ≤ a5 := by first | assumption | omega | (simp_all; done)
    have o1 : a5 < (↑n : Int) := by first | assumption | omega | (simp_all; done)
    cases h2 : decide ((g a5.toNat).lo < 1) with
    | true =>
      have h2p := of_decide_eq_true h2
      exact ⟨[.b true, .b true, .b true, .b true, .b true, .b true, .b true, .b true, .b true, .b true, .b true, .b true, .b true, .b true, .b true], kmp (by kernel_rfl) (And.intro h1 (And.intro (And.intro o0 o1) (And.intro h2 (And.intro h2 (And.intro h2 (And.intro h2 (And.intro h2 (And.intro h2 (And.intro h2 (And.intro h2 (And.intro (rfl : true = true) (And.intro (rfl : true = true) (And.intro (rfl : true = true) (And.intro (rfl : true = true) (And.intro (rfl : true = true) (And.intro (rfl : true = true) (L35a.en n g m (k_ := k_) (z_ := a5) (.e0 : L35a.O) (by first | (simp only [L35a.N, h1, h2, cond_true, cond_false]; done) | (try unfold L35a.N; try simp only [h1, cond_true, cond_false]; try simp only [h2, cond_true, cond_false]; try rfl; done)) PopOk.same)))))))))))))))))⟩
    | false =>
      have h2p := of_decide_eq_false h2
      cases h3 : decide ((g a5.toNat).lo > m) with
      | true =>
        have h3p := of_decide_eq_true h3
        exact ⟨[.b true, .b false, .b false, .b false, .b false, .b false, .b false, .b false, .b false, .b true, .b true, .b true, .b true, .b true, .b true], kmp (by kernel_rfl) (And.intro h1 (And.intro (And.intro o0 o1) (And.intro h2 (And.intro h2 (And.intro h2 (And.intro (And.intro o0 o1) (And.intro h2 (And.intro h2 (And.intro h2 (And.intro h2 (And.intro h2 (And.intro h3 (And.intro h3 (And.intro h3 (And.intro h3 (And.intro h3 (And.intro (rfl : true = true) (L35a.en n g m (k_ := k_) (z_ := a5) (.e0 : L35a.O) (by first | (simp only [L35a.N, h1, h2, h3, cond_true, cond_false]; done) | (try unfold L35a.N; try simp only [h1, cond_true, cond_false]; try simp only [h2, cond_true, cond_false]; try simp only [h3, cond_true, cond_false]; try rfl; done)) PopOk.same))))))))))))))))))⟩
      | false =>
        have h3p := of_decide_eq_false h3
        cases h4 : decide (a5 > 0) with
        | true =>
          have h4p := of_decide_eq_true h4
          try have := IntWalk.i64_in (a5 - 1) (by omega)
          have o2 : (0 : Int) ≤ IntKind.i64.wrap (a5 - (1 : Int)) := by first | assumption | omega | (simp_all; done)
          have o3 : IntKind.i64.wrap (a5 - (1 : Int)) < (↑n : Int) := by first | assumption | omega | (simp_all; done)
          cases h5 : decide ((g (IntKind.i64.wrap (a5 - 1)).toNat).lo ≥ (g a5.toNat).lo) with
          | true =>
            have h5p := of_decide_eq_true h5
            exact ⟨[.b true, .b false, .b false, .b false, .b false, .b false, .b false, .b false, .b false, .b false, .b false, .b false, .b true, .b true, .b true, .b true, .b true, .b true, .b true, .b true, .b true, .b true, .b true, .b true, .b false, .b true, .b false, .b true], kmp (by kernel_rfl) (And.intro h1 (And.intro (And.intro o0 o1) (And.intro h2 (And.intro h2 (And.intro h2 (And.intro (And.intro o0 o1) (And.intro h2 (And.intro h2 (And.intro h2 (And.intro h2 (And.intro h2 (And.intro h3 (And.intro h3 (And.intro h3 (And.intro h4 (And.intro h4 (And.intro h4 (And.intro h4 (And.intro (And.intro o2 o3) (And.intro h4 (And.intro h4 (And.intro h4 (And.intro h4 (And.intro h4 (And.intro (And.intro o0 o1) (And.intro h4 (And.intro h4 (And.intro h4 (And.intro h3 (And.intro h4 (And.intro h3 (And.intro h5 (L35a.en n g m (k_ := k_) (z_ := a5) (.e0 : L35a.O) (by first | (simp only [L35a.N, h1, h2, h3, h4, h5, cond_true, cond_false]; done) | (try unfold L35a.N; try simp only [h1, cond_true, cond_false]; try simp only [h2, cond_true, cond_false]; try simp only [h3, cond_true, cond_false]; try simp only [h4, cond_true, cond_false]; try simp only [h5, cond_true, cond_false]; try rfl; done)) PopOk.same)))))))))))))))))))))))))))))))))⟩
          | false =>
            have h5p := of_decide_eq_false h5
            try have := IntWalk.i64_in (a5 + 1) (by omega)
            have o4 : (0 : Int) ≤ IntKind.i64.wrap (a5 + (1 : Int)) := by first | assumption | omega | (simp_all; done)
            have o5 : IntKind.i64.wrap (a5 + (1 : Int)) ≤ (↑n : Int) ∨ IntKind.i64.wrap (a5 + (1 : Int)) ≤ (0 : Int) := by first | assumption | omega | (simp_all; done)
            have o6 : ((↑n : Int) - IntKind.i64.wrap (a5 + (1 : Int))).toNat < ((↑n : Int) - a5).toNat := by first | assumption | omega | (simp_all; done)
            exact ⟨[.b true, .b false, .b false, .b false, .b false, .b false, .b false, .b false, .b false, .b false, .b false, .b false, .b true, .b true, .b true, .b true, .b true, .b true, .b true, .b true, .b true, .b true, .b true, .b true, .b false, .b true, .b false, .b false], kmp (by kernel_rfl) (And.intro h1 (And.intro (And.intro o0 o1) (And.intro h2 (And.intro h2 (And.intro h2 (And.intro (And.intro o0 o1) (And.intro h2 (And.intro h2 (And.intro h2 (And.intro h2 (And.intro h2 (And.intro h3 (And.intro h3 (And.intro h3 (And.intro h4 (And.intro h4 (And.intro h4 (And.intro h4 (And.intro (And.intro o2 o3) (And.intro h4 (And.intro h4 (And.intro h4 (And.intro h4 (And.intro h4 (And.intro (And.intro o0 o1) (And.intro h4 (And.intro h4 (And.intro h4 (And.intro h3 (And.intro h4 (And.intro h3 (And.intro h5 (L35a.nx n g m (k_ := k_) (z_ := a5) (IntKind.i64.wrap (a5 + 1)) (And.intro o4 o5) o6 (by first | (simp only [L35a.N, h1, h2, h3, h4, h5, cond_true, cond_false]; done) | (try unfold L35a.N; try simp only [h1, cond_true, cond_false]; try simp only [h2, cond_true, cond_false]; try simp only [h3, cond_true, cond_false]; try simp only [h4, cond_true, cond_false]; try simp only [h5, cond_true, cond_false]; try rfl; done)) PopOk.same)))))))))))))))))))))))))))))))))⟩
        | false =>
          have h4p := of_decide_eq_false h4
          try have := IntWalk.i64_in (a5 + 1) (by omega)
          have o4 : (0 : Int) ≤ IntKind.i64.wrap (a5 + (1 : Int)) := by first | assumption | omega | (simp_all; done)
          have o5 : IntKind.i64.wrap (a5 + (1 : Int)) ≤ (↑n : Int) ∨ IntKind.i64.wrap (a5 + (1 : Int)) ≤ (0 : Int) := by first | assumption | omega | (simp_all; done)
          have o6 : ((↑n : Int) - IntKind.i64.wrap (a5 + (1 : Int))).toNat < ((↑n : Int) - a5).toNat := by first | assumption | omega | (simp_all; done)
          exact ⟨[.b true, .b false, .b false, .b false, .b false, .b false, .b false, .b false, .b false, .b false, .b false, .b false, .b false, .b false, .b false, .b false, .b false, .b false, .b false, .b false, .b false, .b false, .b false, .b false, .b false, .b false, .b false, .b false], kmp (by kernel_rfl) (And.intro h1 (And.intro (And.intro o0 o1) (And.intro h2 (And.intro h2 (And.intro h2 (And.intro (And.intro o0 o1) (And.intro h2 (And.intro h2 (And.intro h2 (And.intro h2 (And.intro h2 (And.intro h3 (And.intro h3 (And.intro h3 (And.intro h4 (And.intro h4 (And.intro h4 (And.intro h4 (And.intro h4 (And.intro h4 (And.intro h4 (And.intro h4 (And.intro h4 (And.intro h4 (And.intro h4 (And.intro h4 (And.intro h3 (And.intro h4 (And.intro h3 (And.intro (rfl : false = false) (L35a.nx n g m (k_ := k_) (z_ := a5) (IntKind.i64.wrap (a5 + 1)) (And.intro o4 o5) o6 (by first | (simp only [L35a.N, h1, h2, h3, h4, cond_true, cond_false]; done) | (try unfold L35a.N; try simp only [h1, cond_true, cond_false]; try simp only [h2, cond_true, cond_false]; try simp only [h3, cond_true, cond_false]; try simp only [h4, cond_true, cond_false]; try rfl; done)) PopOk.same)))))))))))))))))))))))))))))))⟩
  | false =>
    have h1p := of_decide_eq_false h1
    exact ⟨[.b false], kmp (by kernel_rfl) (And.intro h1 (L35a.en n g m (k_ := k_) (z_ := a5) (.e1 : L35a.O) (by first | (simp only [L35a.N, h1, cond_true, cond_false]; done) | (try unfold L35a.N; try simp only [h1, cond_true, cond_false]; try rfl; done)) PopOk.same))⟩
theorem L35a.e0 (n : Nat) (g : Nat → PD) (hn : n ≤ 9223372036854775807) (m : Int) (k0_1 : ((↑n : Int) == 0) = false) (p0_1 : (↑n : Int) ≠ 0) (k0_2 : ((g (IntKind.i64.wrap ((↑n : Int) - 1)).toNat).lo == m) = true) (p0_2 : (g (IntKind.i64.wrap ((↑n : Int) - 1)).toNat).lo = m) (a5 : Int) (hinv : L35a.inv n g m a5) (hN : L35a.run n g m a5 = (.e0 : L35a.O)) : LoopTo Try.prog (loopN Try.f35 0) (L35a.T n g m a5) (L35a.H n g m a5) (Exit.ret) (L35a.X n g m (.e0 : L35a.O)) (L35a.XH n g m (.e0 : L35a.O)) := by
  have h_ := L35a.spec n g hn m k0_1 p0_1 k0_2 p0_2 ((((↑n : Int) - a5).toNat) + 1) a5 hinv (Nat.lt_succ_self _)
  unfold L35a.run at hN
  simp only [hN] at h_
  exact h_
theorem L35a.e1 (n : Nat) (g : Nat → PD) (hn : n ≤ 9223372036854775807) (m : Int) (k0_1 : ((↑n : Int) == 0) = false) (p0_1 : (↑n : Int) ≠ 0) (k0_2 : ((g (IntKind.i64.wrap ((↑n : Int) - 1)).toNat).lo == m) = true) (p0_2 : (g (IntKind.i64.wrap ((↑n : Int) - 1)).toNat).lo = m) (a5 : Int) (hinv : L35a.inv n g m a5) (hN : L35a.run n g m a5 = (.e1 : L35a.O)) : LoopTo Try.prog (loopN Try.f35 0) (L35a.T n g m a5) (L35a.H n g m a5) (Exit.exit 0) (L35a.X n g m (.e1 : L35a.O)) (L35a.XH n g m (.e1 : L35a.O)) := by
  have h_ := L35a.spec n g hn m k0_1 p0_1 k0_2 p0_2 ((((↑n : Int) - a5).toNat) + 1) a5 hinv (Nat.lt_succ_self _)
  unfold L35a.run at hN
  simp only [hN] at h_
  exact h_

inductive L35b.O where
  | e0
  | e1
noncomputable def L35b.T (n : Nat) (g : Nat → PD) (m : Int) (b6 : Int) : List AV := mkT 80 [(0, AV.sl 2 n fun (i : Nat) => AV.agg [AV.int IntKind.i64 (g i).lo, AV.int IntKind.i64 (g i).hi]), (6, AV.int IntKind.i64 b6)]
noncomputable def L35b.H (n : Nat) (g : Nat → PD) (m : Int) (b6 : Int) : AHeap := []
def L35b.inv (n : Nat) (g : Nat → PD) (m : Int) (b6 : Int) : Prop := 0 ≤ b6 ∧ (b6 ≤ (↑n : Int) ∨ b6 ≤ 0)
noncomputable def L35b.mu (n : Nat) (g : Nat → PD) (m : Int) (b6 : Int) : Nat := ((↑n : Int) - b6).toNat
noncomputable def L35b.E : L35b.O → Exit
  | .e0 => Exit.ret
  | .e1 => Exit.exit 2
noncomputable def L35b.X (n : Nat) (g : Nat → PD) (m : Int) : L35b.O → List AV
  | .e0 => mkT 80 [(4, (AV.int IntKind.i64 6))]
  | .e1 => mkT 80 []
noncomputable def L35b.XH (n : Nat) (g : Nat → PD) (m : Int) : L35b.O → AHeap
  | .e0 => ([])
  | .e1 => ([])
noncomputable def L35b.N (n : Nat) (g : Nat → PD) : Nat → Int → L35b.O
  | 0, _ => .e0
  | k_ + 1, b6 => (bif decide (b6 < (↑n : Int)) then (bif decide ((g b6.toNat).hi < 1) then (.e0) else (bif decide ((g b6.toNat).hi > 1000000000) then (.e0) else (L35b.N n g k_ (IntKind.i64.wrap (b6 + 1))))) else (.e1))
noncomputable def L35b.run (n : Nat) (g : Nat → PD) (b6 : Int) : L35b.O := L35b.N n g ((((↑n : Int) - b6).toNat) + 1) b6
def L35b.Next (n : Nat) (g : Nat → PD) (m : Int) (k_ : Nat) (z_ : Int) (T_ : List AV) (h_ : AHeap) : Prop := LNextP (fun (z_ : Int) => L35b.T n g m z_) (fun (z_ : Int) => L35b.H n g m z_) (fun (z_ : Int) => L35b.inv n g m z_) (fun (z_ : Int) => L35b.mu n g m z_) (fun (k_ : Nat) (z_ : Int) => L35b.N n g k_ z_) k_ z_ T_ h_
def L35b.End (n : Nat) (g : Nat → PD) (m : Int) (k_ : Nat) (z_ : Int) (e_ : Exit) (T_ : List AV) (h_ : AHeap) : Prop := LEndP (fun (z_ : Int) => L35b.H n g m z_) (fun (k_ : Nat) (z_ : Int) => L35b.N n g k_ z_) L35b.E (L35b.X n g m) (L35b.XH n g m) k_ z_ e_ T_ h_
theorem L35b.nx (n : Nat) (g : Nat → PD) (m : Int) {k_ : Nat} {z_ : Int} {h_ : AHeap} (s_ : Int) (h1 : L35b.inv n g m s_) (h2 : L35b.mu n g m s_ < L35b.mu n g m z_) (h3 : L35b.N n g k_ s_ = L35b.N n g (k_ + 1) z_) (h4 : PopOk (L35b.H n g m z_) h_ (L35b.T n g m s_) (L35b.H n g m s_)) : LNextP (fun (z_ : Int) => L35b.T n g m z_) (fun (z_ : Int) => L35b.H n g m z_) (fun (z_ : Int) => L35b.inv n g m z_) (fun (z_ : Int) => L35b.mu n g m z_) (fun (k_ : Nat) (z_ : Int) => L35b.N n g k_ z_) k_ z_ (L35b.T n g m s_) h_ := LNextP.mk (Tm := (fun (z_ : Int) => L35b.T n g m z_)) (Hp := (fun (z_ : Int) => L35b.H n g m z_)) (inv := (fun (z_ : Int) => L35b.inv n g m z_)) (mu := (fun (z_ : Int) => L35b.mu n g m z_)) (l := (fun (k_ : Nat) (z_ : Int) => L35b.N n g k_ z_)) s_ h1 h2 h3 h4
theorem L35b.en (n : Nat) (g : Nat → PD) (m : Int) {k_ : Nat} {z_ : Int} {h_ : AHeap} (o_ : L35b.O) (h3 : L35b.N n g (k_ + 1) z_ = o_) (h4 : PopOk (L35b.H n g m z_) h_ (L35b.X n g m o_) (L35b.XH n g m o_)) : LEndP (fun (z_ : Int) => L35b.H n g m z_) (fun (k_ : Nat) (z_ : Int) => L35b.N n g k_ z_) L35b.E (L35b.X n g m) (L35b.XH n g m) k_ z_ (L35b.E o_) (L35b.X n g m o_) h_ := LEndP.mk (Hp := (fun (z_ : Int) => L35b.H n g m z_)) (l := (fun (k_ : Nat) (z_ : Int) => L35b.N n g k_ z_)) (oE := L35b.E) (oT := L35b.X n g m) (oH := L35b.XH n g m) o_ h3 h4
theorem L35b.spec (n : Nat) (g : Nat → PD) (hn : n ≤ 9223372036854775807) (m : Int) (k1_1 : ((↑n : Int) == 0) = false) (p1_1 : (↑n : Int) ≠ 0) (k1_2 : ((g (IntKind.i64.wrap ((↑n : Int) - 1)).toNat).lo == m) = true) (p1_2 : (g (IntKind.i64.wrap ((↑n : Int) - 1)).toNat).lo = m) (k_ : Nat) (z_ : Int) (hi_ : L35b.inv n g m z_) (hm_ : L35b.mu n g m z_ < k_) : LoopTo Try.prog (loopN Try.f35 1) (L35b.T n g m z_) (L35b.H n g m z_) (L35b.E (L35b.N n g k_ z_)) (L35b.X n g m (L35b.N n g k_ z_)) (L35b.XH n g m (L35b.N n g k_ z_)) := by
  refine LoopTo.fuelP mix (fun (z_ : Int) => L35b.T n g m z_) (fun (z_ : Int) => L35b.H n g m z_) (fun (z_ : Int) => L35b.inv n g m z_) (fun (z_ : Int) => L35b.mu n g m z_) (fun (k_ : Nat) (z_ : Int) => L35b.N n g k_ z_) L35b.E (L35b.X n g m) (L35b.XH n g m) (others 80 [0, 6]) (others 80 [4]) (others 80 []) ?_ k_ z_ hi_ hm_
  clear hm_ hi_ z_ k_
  intro k_ z_ hinv hmu
  revert hinv hmu; revert z_; intro b6 hinv hmu
  have hinv : 0 ≤ b6 ∧ (b6 ≤ (↑n : Int) ∨ b6 ≤ 0) := hinv
  have hmu : (((↑n : Int) - b6).toNat) < k_ + 1 := hmu
  cases h1 : decide (b6 < (↑n : Int)) with
  | true =>
    have h1p := of_decide_eq_true h1
    have o0 : (0 : Int) ≤ b6 := by first | assumption | omega | (simp_all; done)
    have o1 : b6 < (↑n : Int) := by first | assumption | omega | (simp_all; done)
    cases h2 : decide ((g b6.toNat).hi < 1) with
    | true =>
      have h2p := of_decide_eq_true h2
      exact ⟨[.b true, .b true, .b true, .b true, .b true, .b true, .b true, .b true, .b true], kmp (by kernel_rfl) (And.intro h1 (And.intro (And.intro o0 o1) (And.intro h2 (And.intro h2 (And.intro h2 (And.intro h2 (And.intro h2 (And.intro h2 (And.intro h2 (And.intro (rfl : true = true) (L35b.en n g m (k_ := k_) (z_ := b6) (.e0 : L35b.O) (by first | (simp only [L35b.N, h1, h2, cond_true, cond_false]; done) | (try unfold L35b.N; try simp only [h1, cond_true, cond_false]; try simp only [h2, cond_true, cond_false]; try rfl; done)) PopOk.same)))))))))))⟩
    | false =>
      have h2p := of_decide_eq_false h2
      cases h3 : decide ((g b6.toNat).hi > 1000000000) with
      | true =>
        have h3p := of_decide_eq_true h3
        exact ⟨[.b true, .b false, .b false, .b false, .b false, .b false, .b false, .b false, .b true], kmp (by kernel_rfl) (And.intro h1 (And.intro (And.intro o0 o1) (And.intro h2 (And.intro h2 (And.intro h2 (And.intro (And.intro o0 o1) (And.intro h2 (And.intro h2 (And.intro h2 (And.intro h2 (And.intro h3 (L35b.en n g m (k_ := k_) (z_ := b6) (.e0 : L35b.O) (by first | (simp only [L35b.N, h1, h2, h3, cond_true, cond_false]; done) | (try unfold L35b.N; try simp only [h1, cond_true, cond_false]; try simp only [h2, cond_true, cond_false]; try simp only [h3, cond_true, cond_false]; try rfl; done)) PopOk.same))))))))))))⟩
      | false =>
        have h3p := of_decide_eq_false h3
        try have := IntWalk.i64_in (b6 + 1) (by omega)
        have o2 : (0 : Int) ≤ IntKind.i64.wrap (b6 + (1 : Int)) := by first | assumption | omega | (simp_all; done)
        have o3 : IntKind.i64.wrap (b6 + (1 : Int)) ≤ (↑n : Int) ∨ IntKind.i64.wrap (b6 + (1 : Int)) ≤ (0 : Int) := by first | assumption | omega | (simp_all; done)
        have o4 : ((↑n : Int) - IntKind.i64.wrap (b6 + (1 : Int))).toNat < ((↑n : Int) - b6).toNat := by first | assumption | omega | (simp_all; done)
        exact ⟨[.b true, .b false, .b false, .b false, .b false, .b false, .b false, .b false, .b false], kmp (by kernel_rfl) (And.intro h1 (And.intro (And.intro o0 o1) (And.intro h2 (And.intro h2 (And.intro h2 (And.intro (And.intro o0 o1) (And.intro h2 (And.intro h2 (And.intro h2 (And.intro h2 (And.intro h3 (L35b.nx n g m (k_ := k_) (z_ := b6) (IntKind.i64.wrap (b6 + 1)) (And.intro o2 o3) o4 (by first | (simp only [L35b.N, h1, h2, h3, cond_true, cond_false]; done) | (try unfold L35b.N; try simp only [h1, cond_true, cond_false]; try simp only [h2, cond_true, cond_false]; try simp only [h3, cond_true, cond_false]; try rfl; done)) PopOk.same))))))))))))⟩
  | false =>
    have h1p := of_decide_eq_false h1
    exact ⟨[.b false], kmp (by kernel_rfl) (And.intro h1 (L35b.en n g m (k_ := k_) (z_ := b6) (.e1 : L35b.O) (by first | (simp only [L35b.N, h1, cond_true, cond_false]; done) | (try unfold L35b.N; try simp only [h1, cond_true, cond_false]; try rfl; done)) PopOk.same))⟩
theorem L35b.e0 (n : Nat) (g : Nat → PD) (hn : n ≤ 9223372036854775807) (m : Int) (k1_1 : ((↑n : Int) == 0) = false) (p1_1 : (↑n : Int) ≠ 0) (k1_2 : ((g (IntKind.i64.wrap ((↑n : Int) - 1)).toNat).lo == m) = true) (p1_2 : (g (IntKind.i64.wrap ((↑n : Int) - 1)).toNat).lo = m) (b6 : Int) (hinv : L35b.inv n g m b6) (hN : L35b.run n g b6 = (.e0 : L35b.O)) : LoopTo Try.prog (loopN Try.f35 1) (L35b.T n g m b6) (L35b.H n g m b6) (Exit.ret) (L35b.X n g m (.e0 : L35b.O)) (L35b.XH n g m (.e0 : L35b.O)) := by
  have h_ := L35b.spec n g hn m k1_1 p1_1 k1_2 p1_2 ((((↑n : Int) - b6).toNat) + 1) b6 hinv (Nat.lt_succ_self _)
  unfold L35b.run at hN
  simp only [hN] at h_
  exact h_
theorem L35b.e1 (n : Nat) (g : Nat → PD) (hn : n ≤ 9223372036854775807) (m : Int) (k1_1 : ((↑n : Int) == 0) = false) (p1_1 : (↑n : Int) ≠ 0) (k1_2 : ((g (IntKind.i64.wrap ((↑n : Int) - 1)).toNat).lo == m) = true) (p1_2 : (g (IntKind.i64.wrap ((↑n : Int) - 1)).toNat).lo = m) (b6 : Int) (hinv : L35b.inv n g m b6) (hN : L35b.run n g b6 = (.e1 : L35b.O)) : LoopTo Try.prog (loopN Try.f35 1) (L35b.T n g m b6) (L35b.H n g m b6) (Exit.exit 2) (L35b.X n g m (.e1 : L35b.O)) (L35b.XH n g m (.e1 : L35b.O)) := by
  have h_ := L35b.spec n g hn m k1_1 p1_1 k1_2 p1_2 ((((↑n : Int) - b6).toNat) + 1) b6 hinv (Nat.lt_succ_self _)
  unfold L35b.run at hN
  simp only [hN] at h_
  exact h_

noncomputable def r35.v (n : Nat) (g : Nat → PD) (m : Int) : Int := (bif (↑n : Int) == 0 then 1 else (bif (g (IntKind.i64.wrap ((↑n : Int) - 1)).toNat).lo == m then (match L35a.run n g m 0 with | .e0 => 1 | .e1 => (match L35b.run n g 0 with | .e0 => 6 | .e1 => 0 ) ) else 1))
theorem r35 (n : Nat) (g : Nat → PD) (hn : n ≤ 9223372036854775807) (m : Int) (h : AHeap) : Ret Try.prog 35 ([prs n g, AV.int IntKind.i64 m]) h (AV.int IntKind.i64 (r35.v n g m)) h := by
  cases h1 : (↑n : Int) == 0 with
  | true =>
    have h1p := eq_of_beq h1
    exact Ret.of_run1 mix [(AV.int IntKind.i64 (r35.v n g m))] Try.func35 rfl [.b true, .b true, .b true, .b true, .b true, .b true, .b true, .b true, .b true, .b true, .b true] (by simp) (by simp) (kmp (by kernel_rfl) (And.intro h1 (And.intro h1 (And.intro h1 (And.intro h1 (And.intro h1 (And.intro h1 (And.intro h1 (And.intro h1 (And.intro h1 (And.intro h1 (And.intro (rfl : true = true) (And.intro (show (AV.int IntKind.i64 1) = ((AV.int IntKind.i64 (r35.v n g m))) by first | (simp only [r35.v, h1, cond_true, cond_false]; done) | (try unfold r35.v; try simp only [h1, cond_true, cond_false]; try rfl; done) | rfl) trivial))))))))))))) h
  | false =>
    have h1p := ne_of_beq_false h1
    try have := IntWalk.i64_in ((↑n : Int) - 1) (by omega)
    have o0 : (0 : Int) ≤ IntKind.i64.wrap ((↑n : Int) - (1 : Int)) := by first | assumption | omega | (simp_all; done)
    have o1 : IntKind.i64.wrap ((↑n : Int) - (1 : Int)) < (↑n : Int) := by first | assumption | omega | (simp_all; done)
    cases h2 : (g (IntKind.i64.wrap ((↑n : Int) - 1)).toNat).lo == m with
    | true =>
      have h2p := eq_of_beq h2
      have o2 : n ≤ (9223372036854775807 : Nat) := by first | assumption | omega | (simp_all; done)
      have o3 : ((↑n : Int) == (0 : Int)) = false := by first | assumption | omega | (simp_all; done)
      have o4 : (↑n : Int) ≠ (0 : Int) := by first | assumption | omega | (simp_all; done)
      try have := IntWalk.i64_in ((↑n : Int) - 1) (by omega)
      have o5 : ((g (IntKind.i64.wrap ((↑n : Int) - (1 : Int))).toNat).lo == m) = true := by first | assumption | omega | (simp_all; done)
      have o6 : (g (IntKind.i64.wrap ((↑n : Int) - (1 : Int))).toNat).lo = m := by first | assumption | omega | (simp_all; done)
      have o7 : (0 : Int) ≤ (↑n : Int) ∨ (0 : Int) ≤ (0 : Int) := by first | assumption | omega | (simp_all; done)
      cases h3 : L35a.run n g m 0 with
      | e0 =>
        exact Ret.of_run1 mix [(AV.int IntKind.i64 (r35.v n g m))] Try.func35 rfl [.b false, .b false, .b false, .b false, .b false, .b false, .b false, .b false, .b false, .b false, .b false, .loop (others 80 [0, 1, 5]) (Exit.ret) (L35a.X n g m L35a.O.e0) (L35a.XH n g m L35a.O.e0)] (by simp) (by simp) (kmp (by kernel_rfl) (And.intro h1 (And.intro h1 (And.intro h1 (And.intro h1 (And.intro h1 (And.intro (And.intro o0 o1) (And.intro h1 (And.intro h1 (And.intro h1 (And.intro h1 (And.intro h1 (And.intro (show (bnot ((g (IntKind.i64.wrap ((↑n : Int) - 1)).toNat).lo == m)) = false by rw [h2]; try rfl) (And.intro (L35a.e0 (n) (g) o2 (m) o3 o4 o5 o6 (0) (And.intro (show (0 : Int) ≤ (0 : Int) by first | decide | exact Int.NonNeg.mk _) o7) h3) (And.intro (show (AV.int IntKind.i64 1) = ((AV.int IntKind.i64 (r35.v n g m))) by first | (simp only [r35.v, h1, h2, h3, cond_true, cond_false]; done) | (try unfold r35.v; try simp only [h1, cond_true, cond_false]; try simp only [h2, cond_true, cond_false]; try simp only [h3, cond_true, cond_false]; try rfl; done) | rfl) trivial))))))))))))))) h
      | e1 =>
        cases h4 : L35b.run n g 0 with
        | e0 =>
          exact Ret.of_run1 mix [(AV.int IntKind.i64 (r35.v n g m))] Try.func35 rfl [.b false, .b false, .b false, .b false, .b false, .b false, .b false, .b false, .b false, .b false, .b false, .loop (others 80 [0, 1, 5]) (Exit.exit 0) (L35a.X n g m L35a.O.e1) (L35a.XH n g m L35a.O.e1), .loop (others 80 [0, 6]) (Exit.ret) (L35b.X n g m L35b.O.e0) (L35b.XH n g m L35b.O.e0)] (by simp) (by simp) (kmp (by kernel_rfl) (And.intro h1 (And.intro h1 (And.intro h1 (And.intro h1 (And.intro h1 (And.intro (And.intro o0 o1) (And.intro h1 (And.intro h1 (And.intro h1 (And.intro h1 (And.intro h1 (And.intro (show (bnot ((g (IntKind.i64.wrap ((↑n : Int) - 1)).toNat).lo == m)) = false by rw [h2]; try rfl) (And.intro (L35a.e1 (n) (g) o2 (m) o3 o4 o5 o6 (0) (And.intro (show (0 : Int) ≤ (0 : Int) by first | decide | exact Int.NonNeg.mk _) o7) h3) (And.intro (L35b.e0 (n) (g) o2 (m) o3 o4 o5 o6 (0) (And.intro (show (0 : Int) ≤ (0 : Int) by first | decide | exact Int.NonNeg.mk _) o7) h4) (And.intro (show (AV.int IntKind.i64 6) = ((AV.int IntKind.i64 (r35.v n g m))) by first | (simp only [r35.v, h1, h2, h3, h4, cond_true, cond_false]; done) | (try unfold r35.v; try simp only [h1, cond_true, cond_false]; try simp only [h2, cond_true, cond_false]; try simp only [h3, cond_true, cond_false]; try simp only [h4, cond_true, cond_false]; try rfl; done) | rfl) trivial)))))))))))))))) h
        | e1 =>
          exact Ret.of_run1 mix [(AV.int IntKind.i64 (r35.v n g m))] Try.func35 rfl [.b false, .b false, .b false, .b false, .b false, .b false, .b false, .b false, .b false, .b false, .b false, .loop (others 80 [0, 1, 5]) (Exit.exit 0) (L35a.X n g m L35a.O.e1) (L35a.XH n g m L35a.O.e1), .loop (others 80 [0, 6]) (Exit.exit 2) (L35b.X n g m L35b.O.e1) (L35b.XH n g m L35b.O.e1)] (by simp) (by simp) (kmp (by kernel_rfl) (And.intro h1 (And.intro h1 (And.intro h1 (And.intro h1 (And.intro h1 (And.intro (And.intro o0 o1) (And.intro h1 (And.intro h1 (And.intro h1 (And.intro h1 (And.intro h1 (And.intro (show (bnot ((g (IntKind.i64.wrap ((↑n : Int) - 1)).toNat).lo == m)) = false by rw [h2]; try rfl) (And.intro (L35a.e1 (n) (g) o2 (m) o3 o4 o5 o6 (0) (And.intro (show (0 : Int) ≤ (0 : Int) by first | decide | exact Int.NonNeg.mk _) o7) h3) (And.intro (L35b.e1 (n) (g) o2 (m) o3 o4 o5 o6 (0) (And.intro (show (0 : Int) ≤ (0 : Int) by first | decide | exact Int.NonNeg.mk _) o7) h4) (And.intro (show (AV.int IntKind.i64 0) = ((AV.int IntKind.i64 (r35.v n g m))) by first | (simp only [r35.v, h1, h2, h3, h4, cond_true, cond_false]; done) | (try unfold r35.v; try simp only [h1, cond_true, cond_false]; try simp only [h2, cond_true, cond_false]; try simp only [h3, cond_true, cond_false]; try simp only [h4, cond_true, cond_false]; try rfl; done) | rfl) trivial)))))))))))))))) h
    | false =>
      have h2p := ne_of_beq_false h2
      exact Ret.of_run1 mix [(AV.int IntKind.i64 (r35.v n g m))] Try.func35 rfl [.b false, .b false, .b false, .b false, .b false, .b false, .b false, .b false, .b false, .b false, .b true] (by simp) (by simp) (kmp (by kernel_rfl) (And.intro h1 (And.intro h1 (And.intro h1 (And.intro h1 (And.intro h1 (And.intro (And.intro o0 o1) (And.intro h1 (And.intro h1 (And.intro h1 (And.intro h1 (And.intro h1 (And.intro (show (bnot ((g (IntKind.i64.wrap ((↑n : Int) - 1)).toNat).lo == m)) = true by rw [h2]; try rfl) (And.intro (show (AV.int IntKind.i64 1) = ((AV.int IntKind.i64 (r35.v n g m))) by first | (simp only [r35.v, h1, h2, cond_true, cond_false]; done) | (try unfold r35.v; try simp only [h1, cond_true, cond_false]; try simp only [h2, cond_true, cond_false]; try rfl; done) | rfl) trivial)))))))))))))) h

inductive L28a.O where
  | e0 (a0 : Nat) (a1 : List PD)
noncomputable def L28a.T (n : Nat) (g : Nat → PD) (av3 : Nat) (al3 : List PD) (a4 : Int) : List AV := mkT 27 [(0, AV.sl 2 n fun (i : Nat) => AV.agg [AV.int IntKind.i64 (g i).lo, AV.int IntKind.i64 (g i).hi]), (3, AV.ms 0 av3 2 0 (List.map PD.av al3).length), (4, AV.int IntKind.i64 a4)]
noncomputable def L28a.H (n : Nat) (g : Nat → PD) (av3 : Nat) (al3 : List PD) (a4 : Int) : AHeap := [AObj.row 2 av3 (Col.recs (List.map PD.av al3))]
def L28a.inv (n : Nat) (g : Nat → PD) (av3 : Nat) (al3 : List PD) (a4 : Int) : Prop := 0 ≤ a4 ∧ (a4 ≤ (↑n : Int) ∨ a4 ≤ 0) ∧ (↑al3.length : Int) ≤ a4 - 0
noncomputable def L28a.mu (n : Nat) (g : Nat → PD) (av3 : Nat) (al3 : List PD) (a4 : Int) : Nat := ((↑n : Int) - a4).toNat
noncomputable def L28a.E : L28a.O → Exit
  | .e0 a0 a1 => Exit.exit 0
noncomputable def L28a.X (n : Nat) (g : Nat → PD) : L28a.O → List AV
  | .e0 a0 a1 => mkT 27 [(3, (AV.ms 0 a0 2 0 (List.length (List.map PD.av a1))))]
noncomputable def L28a.XH (n : Nat) (g : Nat → PD) : L28a.O → AHeap
  | .e0 a0 a1 => ((AObj.row 2 a0 (Col.recs (List.map PD.av a1))) :: ([]))
noncomputable def L28a.N (n : Nat) (g : Nat → PD) : Nat → Nat → (List PD) → Int → L28a.O
  | 0, _, _, _ => .e0 default default
  | k_ + 1, av3, al3, a4 => (bif decide (a4 < (↑n : Int)) then (L28a.N n g k_ (av3 + 1) (PD.mk (g a4.toNat).lo (g a4.toNat).hi :: al3) (IntKind.i64.wrap (a4 + 1))) else (.e0 (av3) (al3)))
noncomputable def L28a.run (n : Nat) (g : Nat → PD) (av3 : Nat) (al3 : List PD) (a4 : Int) : L28a.O := L28a.N n g ((((↑n : Int) - a4).toNat) + 1) av3 al3 a4
def L28a.Next (n : Nat) (g : Nat → PD) (k_ : Nat) (z_ : Nat × (List PD) × Int) (T_ : List AV) (h_ : AHeap) : Prop := LNextP (fun (z_ : Nat × (List PD) × Int) => L28a.T n g z_.1 z_.2.1 z_.2.2) (fun (z_ : Nat × (List PD) × Int) => L28a.H n g z_.1 z_.2.1 z_.2.2) (fun (z_ : Nat × (List PD) × Int) => L28a.inv n g z_.1 z_.2.1 z_.2.2) (fun (z_ : Nat × (List PD) × Int) => L28a.mu n g z_.1 z_.2.1 z_.2.2) (fun (k_ : Nat) (z_ : Nat × (List PD) × Int) => L28a.N n g k_ z_.1 z_.2.1 z_.2.2) k_ z_ T_ h_
def L28a.End (n : Nat) (g : Nat → PD) (k_ : Nat) (z_ : Nat × (List PD) × Int) (e_ : Exit) (T_ : List AV) (h_ : AHeap) : Prop := LEndP (fun (z_ : Nat × (List PD) × Int) => L28a.H n g z_.1 z_.2.1 z_.2.2) (fun (k_ : Nat) (z_ : Nat × (List PD) × Int) => L28a.N n g k_ z_.1 z_.2.1 z_.2.2) L28a.E (L28a.X n g) (L28a.XH n g) k_ z_ e_ T_ h_
theorem L28a.nx (n : Nat) (g : Nat → PD) {k_ : Nat} {z_ : Nat × (List PD) × Int} {h_ : AHeap} (s_ : Nat × (List PD) × Int) (h1 : L28a.inv n g s_.1 s_.2.1 s_.2.2) (h2 : L28a.mu n g s_.1 s_.2.1 s_.2.2 < L28a.mu n g z_.1 z_.2.1 z_.2.2) (h3 : L28a.N n g k_ s_.1 s_.2.1 s_.2.2 = L28a.N n g (k_ + 1) z_.1 z_.2.1 z_.2.2) (h4 : PopOk (L28a.H n g z_.1 z_.2.1 z_.2.2) h_ (L28a.T n g s_.1 s_.2.1 s_.2.2) (L28a.H n g s_.1 s_.2.1 s_.2.2)) : LNextP (fun (z_ : Nat × (List PD) × Int) => L28a.T n g z_.1 z_.2.1 z_.2.2) (fun (z_ : Nat × (List PD) × Int) => L28a.H n g z_.1 z_.2.1 z_.2.2) (fun (z_ : Nat × (List PD) × Int) => L28a.inv n g z_.1 z_.2.1 z_.2.2) (fun (z_ : Nat × (List PD) × Int) => L28a.mu n g z_.1 z_.2.1 z_.2.2) (fun (k_ : Nat) (z_ : Nat × (List PD) × Int) => L28a.N n g k_ z_.1 z_.2.1 z_.2.2) k_ z_ (L28a.T n g s_.1 s_.2.1 s_.2.2) h_ := LNextP.mk (Tm := (fun (z_ : Nat × (List PD) × Int) => L28a.T n g z_.1 z_.2.1 z_.2.2)) (Hp := (fun (z_ : Nat × (List PD) × Int) => L28a.H n g z_.1 z_.2.1 z_.2.2)) (inv := (fun (z_ : Nat × (List PD) × Int) => L28a.inv n g z_.1 z_.2.1 z_.2.2)) (mu := (fun (z_ : Nat × (List PD) × Int) => L28a.mu n g z_.1 z_.2.1 z_.2.2)) (l := (fun (k_ : Nat) (z_ : Nat × (List PD) × Int) => L28a.N n g k_ z_.1 z_.2.1 z_.2.2)) s_ h1 h2 h3 h4
theorem L28a.en (n : Nat) (g : Nat → PD) {k_ : Nat} {z_ : Nat × (List PD) × Int} {h_ : AHeap} (o_ : L28a.O) (h3 : L28a.N n g (k_ + 1) z_.1 z_.2.1 z_.2.2 = o_) (h4 : PopOk (L28a.H n g z_.1 z_.2.1 z_.2.2) h_ (L28a.X n g o_) (L28a.XH n g o_)) : LEndP (fun (z_ : Nat × (List PD) × Int) => L28a.H n g z_.1 z_.2.1 z_.2.2) (fun (k_ : Nat) (z_ : Nat × (List PD) × Int) => L28a.N n g k_ z_.1 z_.2.1 z_.2.2) L28a.E (L28a.X n g) (L28a.XH n g) k_ z_ (L28a.E o_) (L28a.X n g o_) h_ := LEndP.mk (Hp := (fun (z_ : Nat × (List PD) × Int) => L28a.H n g z_.1 z_.2.1 z_.2.2)) (l := (fun (k_ : Nat) (z_ : Nat × (List PD) × Int) => L28a.N n g k_ z_.1 z_.2.1 z_.2.2)) (oE := L28a.E) (oT := L28a.X n g) (oH := L28a.XH n g) o_ h3 h4
theorem L28a.spec (n : Nat) (g : Nat → PD) (hn : n ≤ 30) (k_ : Nat) (z_ : Nat × (List PD) × Int) (hi_ : L28a.inv n g z_.1 z_.2.1 z_.2.2) (hm_ : L28a.mu n g z_.1 z_.2.1 z_.2.2 < k_) : LoopTo Try.prog (loopN Try.f28 0) (L28a.T n g z_.1 z_.2.1 z_.2.2) (L28a.H n g z_.1 z_.2.1 z_.2.2) (L28a.E (L28a.N n g k_ z_.1 z_.2.1 z_.2.2)) (L28a.X n g (L28a.N n g k_ z_.1 z_.2.1 z_.2.2)) (L28a.XH n g (L28a.N n g k_ z_.1 z_.2.1 z_.2.2)) := by
  refine LoopTo.fuelP mix (fun (z_ : Nat × (List PD) × Int) => L28a.T n g z_.1 z_.2.1 z_.2.2) (fun (z_ : Nat × (List PD) × Int) => L28a.H n g z_.1 z_.2.1 z_.2.2) (fun (z_ : Nat × (List PD) × Int) => L28a.inv n g z_.1 z_.2.1 z_.2.2) (fun (z_ : Nat × (List PD) × Int) => L28a.mu n g z_.1 z_.2.1 z_.2.2) (fun (k_ : Nat) (z_ : Nat × (List PD) × Int) => L28a.N n g k_ z_.1 z_.2.1 z_.2.2) L28a.E (L28a.X n g) (L28a.XH n g) (others 27 [0, 3, 4]) (others 27 [2]) (others 27 [3]) ?_ k_ z_ hi_ hm_
  clear hm_ hi_ z_ k_
  intro k_ z_ hinv hmu
  obtain ⟨av3, al3, a4⟩ := z_
  have hinv : 0 ≤ a4 ∧ (a4 ≤ (↑n : Int) ∨ a4 ≤ 0) ∧ (↑al3.length : Int) ≤ a4 - 0 := hinv
  have hmu : (((↑n : Int) - a4).toNat) < k_ + 1 := hmu
  cases h1 : decide (a4 < (↑n : Int)) with
  | true =>
    have h1p := of_decide_eq_true h1
    have o0 : (0 : Int) ≤ a4 := by first | assumption | omega | (simp_all; done)
    have o1 : a4 < (↑n : Int) := by first | assumption | omega | (simp_all; done)
    have o2 : ((List.map PD.av al3).length + (1 : Nat)) * (16 : Nat) ≤ (140737488355328 : Nat) := by first | assumption | omega | (simp only [List.length_append, List.length_cons, List.length_nil, List.length_map]; omega) | (simp_all; done)
    have o3 : (List.map PD.av al3).length = (Col.recs (List.map PD.av al3)).len := by first | assumption | omega | (simp only [List.length_append, List.length_cons, List.length_nil, List.length_map]; omega) | rfl | (exact Nat.le_refl _) | (simp [Col.len]; done) | (simp_all; done)
    try have := IntWalk.i64_in (a4 + 1) (by omega)
    have o4 : (0 : Int) ≤ IntKind.i64.wrap (a4 + (1 : Int)) := by first | assumption | omega | (simp_all; done)
    have o5 : IntKind.i64.wrap (a4 + (1 : Int)) ≤ (↑n : Int) ∨ IntKind.i64.wrap (a4 + (1 : Int)) ≤ (0 : Int) := by first | assumption | omega | (simp_all; done)
    have o6 : (↑(PD.mk (g a4.toNat).lo (g a4.toNat).hi :: al3).length : Int) ≤ IntKind.i64.wrap (a4 + (1 : Int)) - (0 : Int) := by first | assumption | omega | (simp only [List.length_append, List.length_cons, List.length_nil, List.length_map]; omega) | (simp_all; done)
    have o7 : ((↑n : Int) - IntKind.i64.wrap (a4 + (1 : Int))).toNat < ((↑n : Int) - a4).toNat := by first | assumption | omega | (simp_all; done)
    exact ⟨[.b true, .app .one false], kmp (by kernel_rfl) (And.intro h1 (And.intro (And.intro o0 o1) (And.intro (And.intro o0 o1) (And.intro (And.intro (show (2 : Nat) = (2 : Nat) by first | decide | exact Int.NonNeg.mk _) (And.intro (show AppMode.one.needs 1 fun (a : Nat) => (Col.ofList [AV.agg [AV.int IntKind.i64 (g a4.toNat).lo, AV.int IntKind.i64 (g a4.toNat).hi]]).get a by first | exact ⟨rfl, rfl⟩ | simp [AppMode.needs]) (And.intro o2 (And.intro (rfl : av3 = av3) (And.intro (show (0 : Nat) = (0 : Nat) by first | decide | exact Int.NonNeg.mk _) o3))))) (L28a.nx n g (k_ := k_) (z_ := (av3, al3, a4)) ((av3 + 1, PD.mk (g a4.toNat).lo (g a4.toNat).hi :: al3, IntKind.i64.wrap (a4 + 1))) (And.intro o4 (And.intro o5 o6)) o7 (by first | (simp only [L28a.N, h1, cond_true, cond_false]; done) | (try unfold L28a.N; try simp only [h1, cond_true, cond_false]; try rfl; done)) PopOk.same)))))⟩
  | false =>
    have h1p := of_decide_eq_false h1
    exact ⟨[.b false], kmp (by kernel_rfl) (And.intro h1 (L28a.en n g (k_ := k_) (z_ := (av3, al3, a4)) (.e0 (av3) (al3) : L28a.O) (by first | (simp only [L28a.N, h1, cond_true, cond_false]; done) | (try unfold L28a.N; try simp only [h1, cond_true, cond_false]; try rfl; done)) PopOk.same))⟩
theorem L28a.e0 (n : Nat) (g : Nat → PD) (hn : n ≤ 30) (av3 : Nat) (al3 : List PD) (a4 : Int) (hinv : L28a.inv n g av3 al3 a4) (a0 : Nat) (a1 : List PD) (hN : L28a.run n g av3 al3 a4 = (.e0 a0 a1 : L28a.O)) : LoopTo Try.prog (loopN Try.f28 0) (L28a.T n g av3 al3 a4) (L28a.H n g av3 al3 a4) (Exit.exit 0) (L28a.X n g (.e0 a0 a1 : L28a.O)) (L28a.XH n g (.e0 a0 a1 : L28a.O)) := by
  have h_ := L28a.spec n g hn ((((↑n : Int) - a4).toNat) + 1) (av3, al3, a4) hinv (Nat.lt_succ_self _)
  unfold L28a.run at hN
  simp only [hN] at h_
  exact h_
theorem L28a.len0_1 (n : Nat) (g : Nat → PD) : ∀ (m_ : Nat) (av3 : Nat) (al3 : List PD) (a4 : Int) (a0_ : Nat) (a1_ : List PD), L28a.N n g m_ av3 al3 a4 = (.e0 a0_ a1_ : L28a.O) → (a1_).length ≤ (al3).length + m_ := by
  intro m_
  induction m_ with
  | zero =>
    intro av3 al3 a4 a0_ a1_ h_
    simp only [L28a.N] at h_
    cases h_
    exact Nat.zero_le _
  | succ m_ ih_ =>
    intro av3 al3 a4 a0_ a1_ h_
    cases h1 : decide (a4 < (↑n : Int)) with
    | true =>
      have h1p := of_decide_eq_true h1
      (simp only [L28a.N, h1, cond_true, cond_false] at h_; first | (have := ih_ _ _ _ _ _ h_; simp only [List.length_append, List.length_cons, List.length_nil] at this; omega) | (cases h_; done) | (cases h_; omega))
    | false =>
      have h1p := of_decide_eq_false h1
      (simp only [L28a.N, h1, cond_true, cond_false] at h_; first | (have := ih_ _ _ _ _ _ h_; simp only [List.length_append, List.length_cons, List.length_nil] at this; omega) | (cases h_; done) | (cases h_; omega))
theorem L28a.lenR0_1 (n : Nat) (g : Nat → PD) {av3 : Nat} {al3 : List PD} {a4 : Int} {a0_ : Nat} {a1_ : List PD} (h_ : L28a.run n g av3 al3 a4 = (.e0 a0_ a1_ : L28a.O)) : (a1_).length ≤ (al3).length + ((((↑n : Int) - a4).toNat) + 1) := L28a.len0_1 n g _ av3 al3 a4 a0_ a1_ h_

noncomputable def r28.v (n : Nat) (g : Nat → PD) : List PD := (match L28a.run n g 0 [] 0 with | .e0 h1d0 h1d1 => h1d1 )
theorem r28_ (n : Nat) (g : Nat → PD) (hn : n ≤ 30) (h : AHeap) : Ret Try.prog 28 ([prs n g]) h (avRecs 2 (List.map PD.av (r28.v n g))) h := by
  have o0 : n ≤ (30 : Nat) := by first | assumption | omega | (simp_all; done)
  have o1 : (0 : Int) ≤ (↑n : Int) ∨ (0 : Int) ≤ (0 : Int) := by first | assumption | omega | (simp_all; done)
  cases h1 : L28a.run n g 0 [] 0 with
  | e0 h1d0 h1d1 =>
    try have := L28a.lenR0_1 _ _ (by assumption); (try simp only [List.length_nil] at this)
    have o2 : (0 : Nat) + (List.map PD.av h1d1).length ≤ (Col.recs (List.map PD.av h1d1)).len := by first | assumption | omega | (simp only [List.length_append, List.length_cons, List.length_nil, List.length_map]; omega) | rfl | (exact Nat.le_refl _) | (simp [Col.len]; done) | (simp_all; done)
    exact Ret.of_run1 mix [(avRecs 2 (List.map PD.av (r28.v n g)))] Try.func28 rfl [.virt [] [(none, 3, 2, Col.recs [])], .loop (others 27 [0, 3, 4]) (Exit.exit 0) (L28a.X n g (L28a.O.e0 h1d0 h1d1)) (L28a.XH n g (L28a.O.e0 h1d0 h1d1))] (by simp) (by simp) (kmp (by kernel_rfl) (And.intro (And.intro (rfl : AV.snil = AV.snil) (And.intro (rfl : (0 : Nat) = 0) trivial)) (And.intro (L28a.e0 (n) (g) o0 (0) ([]) (0) (And.intro (show (0 : Int) ≤ (0 : Int) by first | decide | exact Int.NonNeg.mk _) (And.intro o1 (show (0 : Int) ≤ (0 : Int) by first | decide | exact Int.NonNeg.mk _))) h1d0 h1d1 h1) (And.intro (And.intro (rfl : h1d0 = h1d0) (And.intro (show (2 : Nat) = (2 : Nat) by first | decide | exact Int.NonNeg.mk _) (And.intro o2 (show ((avRecs 2 (List.map PD.av h1d1))) = ((avRecs 2 (List.map PD.av (r28.v n g)))) by first | (simp only [r28.v, h1, cond_true, cond_false]; done) | (try unfold r28.v; try simp only [h1, cond_true, cond_false]; try rfl; done) | rfl)))) trivial)))) h
theorem r28 (n : Nat) (g : Nat → PD) (hn : n ≤ 30) (h : AHeap) : Ret Try.prog 28 ([prs n g]) h (recL 2 PD.av (r28.v n g)) h := (r28_ n g hn h).out imp_recL

end Go.Proofs.Ytjdakdjgkpfjkaa

/- the tolerance seat's contracts: spans. -/
open Go
namespace Go.Proofs.Ytjdakdjgkpfjkaa
set_option linter.unusedSimpArgs false
set_option linter.unusedVariables false
set_option maxHeartbeats 0
set_option maxRecDepth 100000
/-- A part. -/
structure PT where
  a : Int
  b : Int
  room : Int
instance : Inhabited PT := ⟨⟨0, 0, 0⟩⟩
def PT.av (x : PT) : AV := .agg [.int .i64 x.a, .int .i64 x.b, .int .i64 x.room]
@[simp] theorem low_pt (lo : Nat) (x : PT) : Low lo x.av = True := by unfold PT.av; simp
noncomputable def r12.v (n : Nat) (k : Nat) : Bool := (bif decide ((↑n : Int) ≤ 30) then decide ((↑k : Int) ≤ 30) else false)
theorem r12 (n : Nat) (g : Nat → PD) (j1 : Int) (j2 : Int) (k : Nat) (p : Nat → PD) (h : AHeap) : Ret Try.prog 12 ([rn n g j1 j2 k p]) h (AV.bool (r12.v n k)) h := by
  cases h1 : decide ((↑n : Int) ≤ 30) with
  | true =>
    have h1p := of_decide_eq_true h1
    exact Ret.of_run1 mix [(AV.bool (r12.v n k))] Try.func12 rfl [.b true, .b true, .b true, .b true, .b true] (by simp) (by simp) (kmp (by kernel_rfl) (And.intro h1 (And.intro h1 (And.intro h1 (And.intro h1 (And.intro h1 (And.intro (show (AV.bool (decide ((↑k : Int) ≤ 30))) = ((AV.bool (r12.v n k))) by first | (simp only [r12.v, h1, cond_true, cond_false]; done) | (try unfold r12.v; try simp only [h1, cond_true, cond_false]; try rfl; done) | rfl) trivial))))))) h
  | false =>
    have h1p := of_decide_eq_false h1
    exact Ret.of_run1 mix [(AV.bool (r12.v n k))] Try.func12 rfl [.b false, .b false, .b false, .b false, .b false] (by simp) (by simp) (kmp (by kernel_rfl) (And.intro h1 (And.intro h1 (And.intro h1 (And.intro h1 (And.intro h1 (And.intro (show (AV.bool false) = ((AV.bool (r12.v n k))) by first | (simp only [r12.v, h1, cond_true, cond_false]; done) | (try unfold r12.v; try simp only [h1, cond_true, cond_false]; try rfl; done) | rfl) trivial))))))) h

noncomputable def r14.v3 (k : Nat) (p : Nat → PD) : List PD := r28.v k p
theorem r14 (n : Nat) (g : Nat → PD) (j1 : Int) (j2 : Int) (k : Nat) (p : Nat → PD) (hk : k ≤ 30) (h : AHeap) : Ret Try.prog 14 ([rn n g j1 j2 k p]) h (AV.agg ((AV.sl 2 n (fun (i : Nat) => AV.agg [AV.int IntKind.i64 (g i).lo, AV.int IntKind.i64 (g i).hi])) :: ((AV.int IntKind.i64 j1) :: ((AV.int IntKind.i64 j2) :: ((AV.sl 2 (List.length (r14.v3 k p)) (fun (i : Nat) => AV.agg [AV.int IntKind.i64 (rget (r28.v k p) i).lo, AV.int IntKind.i64 (rget (r28.v k p) i).hi])) :: []))))) h := by
  have o0 : k ≤ (30 : Nat) := by first | assumption | omega | (simp_all; done)
  exact Ret.of_run1 mix [(AV.agg ((AV.sl 2 n (fun (i : Nat) => AV.agg [AV.int IntKind.i64 (g i).lo, AV.int IntKind.i64 (g i).hi])) :: ((AV.int IntKind.i64 j1) :: ((AV.int IntKind.i64 j2) :: ((AV.sl 2 (List.length (r14.v3 k p)) (fun (i : Nat) => AV.agg [AV.int IntKind.i64 (rget (r28.v k p) i).lo, AV.int IntKind.i64 (rget (r28.v k p) i).hi])) :: [])))))] Try.func14 rfl [.ret (AV.sl 2 (r28.v k p).length fun (i : Nat) => AV.agg [AV.int IntKind.i64 (rget (r28.v k p) i).lo, AV.int IntKind.i64 (rget (r28.v k p) i).hi]) ([AObj.var (AV.agg [AV.sl 2 n fun (i : Nat) => AV.agg [AV.int IntKind.i64 (g i).lo, AV.int IntKind.i64 (g i).hi], AV.int IntKind.i64 j1, AV.int IntKind.i64 j2, AV.sl 2 k fun (i : Nat) => AV.agg [AV.int IntKind.i64 (p i).lo, AV.int IntKind.i64 (p i).hi]]), AObj.var (AV.agg [AV.snil, AV.int IntKind.i64 0, AV.int IntKind.i64 0, AV.snil])])] (by simp) (by simp) (kmp (by kernel_rfl) (And.intro (r28 (k) (p) o0 ([AObj.var (AV.agg [AV.sl 2 n fun (i : Nat) => AV.agg [AV.int IntKind.i64 (g i).lo, AV.int IntKind.i64 (g i).hi], AV.int IntKind.i64 j1, AV.int IntKind.i64 j2, AV.sl 2 k fun (i : Nat) => AV.agg [AV.int IntKind.i64 (p i).lo, AV.int IntKind.i64 (p i).hi]]), AObj.var (AV.agg [AV.snil, AV.int IntKind.i64 0, AV.int IntKind.i64 0, AV.snil])])) (And.intro (And.intro trivial (show (AV.agg [AV.sl 2 n fun (i : Nat) => AV.agg [AV.int IntKind.i64 (g i).lo, AV.int IntKind.i64 (g i).hi], AV.int IntKind.i64 j1, AV.int IntKind.i64 j2, AV.sl 2 (r28.v k p).length fun (i : Nat) => AV.agg [AV.int IntKind.i64 (rget (r28.v k p) i).lo, AV.int IntKind.i64 (rget (r28.v k p) i).hi]]) = ((AV.agg ((AV.sl 2 n (fun (i : Nat) => AV.agg [AV.int IntKind.i64 (g i).lo, AV.int IntKind.i64 (g i).hi])) :: ((AV.int IntKind.i64 j1) :: ((AV.int IntKind.i64 j2) :: ((AV.sl 2 (List.length (r14.v3 k p)) (fun (i : Nat) => AV.agg [AV.int IntKind.i64 (rget (r28.v k p) i).lo, AV.int IntKind.i64 (rget (r28.v k p) i).hi])) :: [])))))) by first | (simp only [r14.v3, cond_true, cond_false]; done) | (try unfold r14.v3; try rfl; done) | rfl)) trivial))) h

inductive L15a.O where
  | e0
  | e1
noncomputable def L15a.T (n : Nat) (g : Nat → PD) (j1 : Int) (j2 : Int) (k : Nat) (p : Nat → PD) (a3 : Int) : List AV := mkT 50 [(1, AV.ptr 0 1 4 0 0), (3, AV.int IntKind.i64 a3)]
noncomputable def L15a.H (n : Nat) (g : Nat → PD) (j1 : Int) (j2 : Int) (k : Nat) (p : Nat → PD) (a3 : Int) : AHeap := [AObj.var (AV.agg [AV.sl 2 n fun (i : Nat) => AV.agg [AV.int IntKind.i64 (g i).lo, AV.int IntKind.i64 (g i).hi], AV.int IntKind.i64 j1, AV.int IntKind.i64 j2, AV.sl 2 k fun (i : Nat) => AV.agg [AV.int IntKind.i64 (p i).lo, AV.int IntKind.i64 (p i).hi]])]
def L15a.inv (n : Nat) (g : Nat → PD) (j1 : Int) (j2 : Int) (k : Nat) (p : Nat → PD) (a3 : Int) : Prop := 0 ≤ a3 ∧ (a3 ≤ (↑n : Int) ∨ a3 ≤ 0)
noncomputable def L15a.mu (n : Nat) (g : Nat → PD) (j1 : Int) (j2 : Int) (k : Nat) (p : Nat → PD) (a3 : Int) : Nat := ((↑n : Int) - a3).toNat
noncomputable def L15a.E : L15a.O → Exit
  | .e0 => Exit.ret
  | .e1 => Exit.exit 0
noncomputable def L15a.X (n : Nat) (g : Nat → PD) (j1 : Int) (j2 : Int) (k : Nat) (p : Nat → PD) : L15a.O → List AV
  | .e0 => mkT 50 [(2, (AV.int IntKind.i64 6))]
  | .e1 => mkT 50 [(1, (AV.ptr 0 1 4 0 0))]
noncomputable def L15a.XH (n : Nat) (g : Nat → PD) (j1 : Int) (j2 : Int) (k : Nat) (p : Nat → PD) : L15a.O → AHeap
  | .e0 => ([AObj.var (AV.agg [AV.sl 2 n fun (i : Nat) => AV.agg [AV.int IntKind.i64 (g i).lo, AV.int IntKind.i64 (g i).hi], AV.int IntKind.i64 j1, AV.int IntKind.i64 j2, AV.sl 2 k fun (i : Nat) => AV.agg [AV.int IntKind.i64 (p i).lo, AV.int IntKind.i64 (p i).hi]])])
  | .e1 => ([AObj.var (AV.agg [AV.sl 2 n fun (i : Nat) => AV.agg [AV.int IntKind.i64 (g i).lo, AV.int IntKind.i64 (g i).hi], AV.int IntKind.i64 j1, AV.int IntKind.i64 j2, AV.sl 2 k fun (i : Nat) => AV.agg [AV.int IntKind.i64 (p i).lo, AV.int IntKind.i64 (p i).hi]])])
noncomputable def L15a.N (n : Nat) (g : Nat → PD) : Nat → Int → L15a.O
  | 0, _ => .e0
  | k_ + 1, a3 => (bif decide (a3 < (↑n : Int)) then (bif decide ((g a3.toNat).lo < 1) then (.e0) else (bif decide ((g a3.toNat).lo > (g a3.toNat).hi) then (.e0) else (bif decide ((g a3.toNat).hi > 1000000) then (.e0) else (L15a.N n g k_ (IntKind.i64.wrap (a3 + 1)))))) else (.e1))
noncomputable def L15a.run (n : Nat) (g : Nat → PD) (a3 : Int) : L15a.O := L15a.N n g ((((↑n : Int) - a3).toNat) + 1) a3
def L15a.Next (n : Nat) (g : Nat → PD) (j1 : Int) (j2 : Int) (k : Nat) (p : Nat → PD) (k_ : Nat) (z_ : Int) (T_ : List AV) (h_ : AHeap) : Prop := LNextP (fun (z_ : Int) => L15a.T n g j1 j2 k p z_) (fun (z_ : Int) => L15a.H n g j1 j2 k p z_) (fun (z_ : Int) => L15a.inv n g j1 j2 k p z_) (fun (z_ : Int) => L15a.mu n g j1 j2 k p z_) (fun (k_ : Nat) (z_ : Int) => L15a.N n g k_ z_) k_ z_ T_ h_
def L15a.End (n : Nat) (g : Nat → PD) (j1 : Int) (j2 : Int) (k : Nat) (p : Nat → PD) (k_ : Nat) (z_ : Int) (e_ : Exit) (T_ : List AV) (h_ : AHeap) : Prop := LEndP (fun (z_ : Int) => L15a.H n g j1 j2 k p z_) (fun (k_ : Nat) (z_ : Int) => L15a.N n g k_ z_) L15a.E (L15a.X n g j1 j2 k p) (L15a.XH n g j1 j2 k p) k_ z_ e_ T_ h_
theorem L15a.nx (n : Nat) (g : Nat → PD) (j1 : Int) (j2 : Int) (k : Nat) (p : Nat → PD) {k_ : Nat} {z_ : Int} {h_ : AHeap} (s_ : Int) (h1 : L15a.inv n g j1 j2 k p s_) (h2 : L15a.mu n g j1 j2 k p s_ < L15a.mu n g j1 j2 k p z_) (h3 : L15a.N n g k_ s_ = L15a.N n g (k_ + 1) z_) (h4 : PopOk (L15a.H n g j1 j2 k p z_) h_ (L15a.T n g j1 j2 k p s_) (L15a.H n g j1 j2 k p s_)) : LNextP (fun (z_ : Int) => L15a.T n g j1 j2 k p z_) (fun (z_ : Int) => L15a.H n g j1 j2 k p z_) (fun (z_ : Int) => L15a.inv n g j1 j2 k p z_) (fun (z_ : Int) => L15a.mu n g j1 j2 k p z_) (fun (k_ : Nat) (z_ : Int) => L15a.N n g k_ z_) k_ z_ (L15a.T n g j1 j2 k p s_) h_ := LNextP.mk (Tm := (fun (z_ : Int) => L15a.T n g j1 j2 k p z_)) (Hp := (fun (z_ : Int) => L15a.H n g j1 j2 k p z_)) (inv := (fun (z_ : Int) => L15a.inv n g j1 j2 k p z_)) (mu := (fun (z_ : Int) => L15a.mu n g j1 j2 k p z_)) (l := (fun (k_ : Nat) (z_ : Int) => L15a.N n g k_ z_)) s_ h1 h2 h3 h4
theorem L15a.en (n : Nat) (g : Nat → PD) (j1 : Int) (j2 : Int) (k : Nat) (p : Nat → PD) {k_ : Nat} {z_ : Int} {h_ : AHeap} (o_ : L15a.O) (h3 : L15a.N n g (k_ + 1) z_ = o_) (h4 : PopOk (L15a.H n g j1 j2 k p z_) h_ (L15a.X n g j1 j2 k p o_) (L15a.XH n g j1 j2 k p o_)) : LEndP (fun (z_ : Int) => L15a.H n g j1 j2 k p z_) (fun (k_ : Nat) (z_ : Int) => L15a.N n g k_ z_) L15a.E (L15a.X n g j1 j2 k p) (L15a.XH n g j1 j2 k p) k_ z_ (L15a.E o_) (L15a.X n g j1 j2 k p o_) h_ := LEndP.mk (Hp := (fun (z_ : Int) => L15a.H n g j1 j2 k p z_)) (l := (fun (k_ : Nat) (z_ : Int) => L15a.N n g k_ z_)) (oE := L15a.E) (oT := L15a.X n g j1 j2 k p) (oH := L15a.XH n g j1 j2 k p) o_ h3 h4
theorem L15a.spec (n : Nat) (g : Nat → PD) (hn : n ≤ 9223372036854775807) (j1 : Int) (j2 : Int) (k : Nat) (p : Nat → PD) (hk : k ≤ 9223372036854775807) (k0_1 : decide ((↑n : Int) > 512) = false) (p0_1 : ¬(↑n : Int) > 512) (k0_2 : ((↑n : Int) == 0) = false) (p0_2 : (↑n : Int) ≠ 0) (k_ : Nat) (z_ : Int) (hi_ : L15a.inv n g j1 j2 k p z_) (hm_ : L15a.mu n g j1 j2 k p z_ < k_) : LoopTo Try.prog (loopN Try.f15 0) (L15a.T n g j1 j2 k p z_) (L15a.H n g j1 j2 k p z_) (L15a.E (L15a.N n g k_ z_)) (L15a.X n g j1 j2 k p (L15a.N n g k_ z_)) (L15a.XH n g j1 j2 k p (L15a.N n g k_ z_)) := by
  refine LoopTo.fuelP mix (fun (z_ : Int) => L15a.T n g j1 j2 k p z_) (fun (z_ : Int) => L15a.H n g j1 j2 k p z_) (fun (z_ : Int) => L15a.inv n g j1 j2 k p z_) (fun (z_ : Int) => L15a.mu n g j1 j2 k p z_) (fun (k_ : Nat) (z_ : Int) => L15a.N n g k_ z_) L15a.E (L15a.X n g j1 j2 k p) (L15a.XH n g j1 j2 k p) (others 50 [1, 3]) (others 50 [2]) (others 50 [1]) ?_ k_ z_ hi_ hm_
  clear hm_ hi_ z_ k_
  intro k_ z_ hinv hmu
  revert hinv hmu; revert z_; intro a3 hinv hmu
  have hinv : 0 ≤ a3 ∧ (a3 ≤ (↑n : Int) ∨ a3 ≤ 0) := hinv
  have hmu : (((↑n : Int) - a3).toNat) < k_ + 1 := hmu
  cases h1 : decide (a3 < (↑n : Int)) with
  | true =>
    have h1p := of_decide_eq_true h1
    have o0 : (0 : Int) ≤ a3 := by first | assumption | omega | (simp_all; done)
    have o1 : a3 < (↑n : Int) := by first | assumption | omega | (simp_all; done)
    cases h2 : decide ((g a3.toNat).lo < 1) with
    | true =>
      have h2p := of_decide_eq_true h2
      exact ⟨[.b true, .b true, .b true, .b true, .b true, .b true, .b true, .b true, .b true, .b true, .b true, .b true], kmp (by kernel_rfl) (And.intro h1 (And.intro (And.intro o0 o1) (And.intro h2 (And.intro h2 (And.intro h2 (And.intro h2 (And.intro h2 (And.intro h2 (And.intro (rfl : true = true) (And.intro (rfl : true = true) (And.intro (rfl : true = true) (And.intro (rfl : true = true) (And.intro (rfl : true = true) (L15a.en n g j1 j2 k p (k_ := k_) (z_ := a3) (h_ := [AObj.var (AV.agg [AV.sl 2 n fun (i : Nat) => AV.agg [AV.int IntKind.i64 (g i).lo, AV.int IntKind.i64 (g i).hi], AV.int IntKind.i64 j1, AV.int IntKind.i64 j2, AV.sl 2 k fun (i : Nat) => AV.agg [AV.int IntKind.i64 (p i).lo, AV.int IntKind.i64 (p i).hi]]), AObj.var (AV.agg [AV.int IntKind.i64 (g a3.toNat).lo, AV.int IntKind.i64 (g a3.toNat).hi])]) (.e0 : L15a.O) (by first | (simp only [L15a.N, h1, h2, cond_true, cond_false]; done) | (try unfold L15a.N; try simp only [h1, cond_true, cond_false]; try simp only [h2, cond_true, cond_false]; try rfl; done)) (PopOk.pop rfl (by simp [L15a.T, L15a.X, L15a.H, L15a.XH]))))))))))))))))⟩
    | false =>
      have h2p := of_decide_eq_false h2
      cases h3 : decide ((g a3.toNat).lo > (g a3.toNat).hi) with
      | true =>
        have h3p := of_decide_eq_true h3
        exact ⟨[.b true, .b false, .b false, .b false, .b false, .b false, .b false, .b true, .b true, .b true, .b true, .b true], kmp (by kernel_rfl) (And.intro h1 (And.intro (And.intro o0 o1) (And.intro h2 (And.intro h2 (And.intro h2 (And.intro h2 (And.intro h2 (And.intro h2 (And.intro h3 (And.intro h3 (And.intro h3 (And.intro h3 (And.intro (rfl : true = true) (L15a.en n g j1 j2 k p (k_ := k_) (z_ := a3) (h_ := [AObj.var (AV.agg [AV.sl 2 n fun (i : Nat) => AV.agg [AV.int IntKind.i64 (g i).lo, AV.int IntKind.i64 (g i).hi], AV.int IntKind.i64 j1, AV.int IntKind.i64 j2, AV.sl 2 k fun (i : Nat) => AV.agg [AV.int IntKind.i64 (p i).lo, AV.int IntKind.i64 (p i).hi]]), AObj.var (AV.agg [AV.int IntKind.i64 (g a3.toNat).lo, AV.int IntKind.i64 (g a3.toNat).hi])]) (.e0 : L15a.O) (by first | (simp only [L15a.N, h1, h2, h3, cond_true, cond_false]; done) | (try unfold L15a.N; try simp only [h1, cond_true, cond_false]; try simp only [h2, cond_true, cond_false]; try simp only [h3, cond_true, cond_false]; try rfl; done)) (PopOk.pop rfl (by simp [L15a.T, L15a.X, L15a.H, L15a.XH]))))))))))))))))⟩
      | false =>
        have h3p := of_decide_eq_false h3
        cases h4 : decide ((g a3.toNat).hi > 1000000) with
        | true =>
          have h4p := of_decide_eq_true h4
          exact ⟨[.b true, .b false, .b false, .b false, .b false, .b false, .b false, .b false, .b false, .b false, .b false, .b true], kmp (by kernel_rfl) (And.intro h1 (And.intro (And.intro o0 o1) (And.intro h2 (And.intro h2 (And.intro h2 (And.intro h2 (And.intro h2 (And.intro h2 (And.intro h3 (And.intro h3 (And.intro h3 (And.intro h3 (And.intro h4 (L15a.en n g j1 j2 k p (k_ := k_) (z_ := a3) (h_ := [AObj.var (AV.agg [AV.sl 2 n fun (i : Nat) => AV.agg [AV.int IntKind.i64 (g i).lo, AV.int IntKind.i64 (g i).hi], AV.int IntKind.i64 j1, AV.int IntKind.i64 j2, AV.sl 2 k fun (i : Nat) => AV.agg [AV.int IntKind.i64 (p i).lo, AV.int IntKind.i64 (p i).hi]]), AObj.var (AV.agg [AV.int IntKind.i64 (g a3.toNat).lo, AV.int IntKind.i64 (g a3.toNat).hi])]) (.e0 : L15a.O) (by first | (simp only [L15a.N, h1, h2, h3, h4, cond_true, cond_false]; done) | (try unfold L15a.N; try simp only [h1, cond_true, cond_false]; try simp only [h2, cond_true, cond_false]; try simp only [h3, cond_true, cond_false]; try simp only [h4, cond_true, cond_false]; try rfl; done)) (PopOk.pop rfl (by simp [L15a.T, L15a.X, L15a.H, L15a.XH]))))))))))))))))⟩
        | false =>
          have h4p := of_decide_eq_false h4
          try have := IntWalk.i64_in (a3 + 1) (by omega)
          have o2 : (0 : Int) ≤ IntKind.i64.wrap (a3 + (1 : Int)) := by first | assumption | omega | (simp_all; done)
          have o3 : IntKind.i64.wrap (a3 + (1 : Int)) ≤ (↑n : Int) ∨ IntKind.i64.wrap (a3 + (1 : Int)) ≤ (0 : Int) := by first | assumption | omega | (simp_all; done)
          have o4 : ((↑n : Int) - IntKind.i64.wrap (a3 + (1 : Int))).toNat < ((↑n : Int) - a3).toNat := by first | assumption | omega | (simp_all; done)
          exact ⟨[.b true, .b false, .b false, .b false, .b false, .b false, .b false, .b false, .b false, .b false, .b false, .b false], kmp (by kernel_rfl) (And.intro h1 (And.intro (And.intro o0 o1) (And.intro h2 (And.intro h2 (And.intro h2 (And.intro h2 (And.intro h2 (And.intro h2 (And.intro h3 (And.intro h3 (And.intro h3 (And.intro h3 (And.intro h4 (L15a.nx n g j1 j2 k p (k_ := k_) (z_ := a3) (h_ := [AObj.var (AV.agg [AV.sl 2 n fun (i : Nat) => AV.agg [AV.int IntKind.i64 (g i).lo, AV.int IntKind.i64 (g i).hi], AV.int IntKind.i64 j1, AV.int IntKind.i64 j2, AV.sl 2 k fun (i : Nat) => AV.agg [AV.int IntKind.i64 (p i).lo, AV.int IntKind.i64 (p i).hi]]), AObj.var (AV.agg [AV.int IntKind.i64 (g a3.toNat).lo, AV.int IntKind.i64 (g a3.toNat).hi])]) (IntKind.i64.wrap (a3 + 1)) (And.intro o2 o3) o4 (by first | (simp only [L15a.N, h1, h2, h3, h4, cond_true, cond_false]; done) | (try unfold L15a.N; try simp only [h1, cond_true, cond_false]; try simp only [h2, cond_true, cond_false]; try simp only [h3, cond_true, cond_false]; try simp only [h4, cond_true, cond_false]; try rfl; done)) (PopOk.pop rfl (by simp [L15a.T, L15a.X, L15a.H, L15a.XH]))))))))))))))))⟩
  | false =>
    have h1p := of_decide_eq_false h1
    exact ⟨[.b false], kmp (by kernel_rfl) (And.intro h1 (L15a.en n g j1 j2 k p (k_ := k_) (z_ := a3) (.e1 : L15a.O) (by first | (simp only [L15a.N, h1, cond_true, cond_false]; done) | (try unfold L15a.N; try simp only [h1, cond_true, cond_false]; try rfl; done)) PopOk.same))⟩
theorem L15a.e0 (n : Nat) (g : Nat → PD) (hn : n ≤ 9223372036854775807) (j1 : Int) (j2 : Int) (k : Nat) (p : Nat → PD) (hk : k ≤ 9223372036854775807) (k0_1 : decide ((↑n : Int) > 512) = false) (p0_1 : ¬(↑n : Int) > 512) (k0_2 : ((↑n : Int) == 0) = false) (p0_2 : (↑n : Int) ≠ 0) (a3 : Int) (hinv : L15a.inv n g j1 j2 k p a3) (hN : L15a.run n g a3 = (.e0 : L15a.O)) : LoopTo Try.prog (loopN Try.f15 0) (L15a.T n g j1 j2 k p a3) (L15a.H n g j1 j2 k p a3) (Exit.ret) (L15a.X n g j1 j2 k p (.e0 : L15a.O)) (L15a.XH n g j1 j2 k p (.e0 : L15a.O)) := by
  have h_ := L15a.spec n g hn j1 j2 k p hk k0_1 p0_1 k0_2 p0_2 ((((↑n : Int) - a3).toNat) + 1) a3 hinv (Nat.lt_succ_self _)
  unfold L15a.run at hN
  simp only [hN] at h_
  exact h_
theorem L15a.e1 (n : Nat) (g : Nat → PD) (hn : n ≤ 9223372036854775807) (j1 : Int) (j2 : Int) (k : Nat) (p : Nat → PD) (hk : k ≤ 9223372036854775807) (k0_1 : decide ((↑n : Int) > 512) = false) (p0_1 : ¬(↑n : Int) > 512) (k0_2 : ((↑n : Int) == 0) = false) (p0_2 : (↑n : Int) ≠ 0) (a3 : Int) (hinv : L15a.inv n g j1 j2 k p a3) (hN : L15a.run n g a3 = (.e1 : L15a.O)) : LoopTo Try.prog (loopN Try.f15 0) (L15a.T n g j1 j2 k p a3) (L15a.H n g j1 j2 k p a3) (Exit.exit 0) (L15a.X n g j1 j2 k p (.e1 : L15a.O)) (L15a.XH n g j1 j2 k p (.e1 : L15a.O)) := by
  have h_ := L15a.spec n g hn j1 j2 k p hk k0_1 p0_1 k0_2 p0_2 ((((↑n : Int) - a3).toNat) + 1) a3 hinv (Nat.lt_succ_self _)
  unfold L15a.run at hN
  simp only [hN] at h_
  exact h_

noncomputable def r15.v (n : Nat) (g : Nat → PD) (j1 : Int) (j2 : Int) (k : Nat) (p : Nat → PD) : Int := (bif decide ((↑n : Int) > 512) then 7 else (bif (↑n : Int) == 0 then 1 else (match L15a.run n g 0 with | .e0 => 6 | .e1 => (bif r34.v j1 j2 then r35.v k p (↑n : Int) else 6) )))
noncomputable abbrev r15.h0 (n : Nat) (g : Nat → PD) (j1 : Int) (j2 : Int) (k : Nat) (p : Nat → PD) : AHeap := ([AObj.var (AV.agg [AV.sl 2 n fun (i : Nat) => AV.agg [AV.int IntKind.i64 (g i).lo, AV.int IntKind.i64 (g i).hi], AV.int IntKind.i64 j1, AV.int IntKind.i64 j2, AV.sl 2 k fun (i : Nat) => AV.agg [AV.int IntKind.i64 (p i).lo, AV.int IntKind.i64 (p i).hi]])])
theorem r15 (n : Nat) (g : Nat → PD) (hn : n ≤ 9223372036854775807) (j1 : Int) (j2 : Int) (k : Nat) (p : Nat → PD) (hk : k ≤ 9223372036854775807) (h : AHeap) : Ret Try.prog 15 ([rn n g j1 j2 k p]) h (AV.int IntKind.i64 (r15.v n g j1 j2 k p)) h := by
  cases h1 : decide ((↑n : Int) > 512) with
  | true =>
    have h1p := of_decide_eq_true h1
    exact Ret.of_run1 mix [(AV.int IntKind.i64 (r15.v n g j1 j2 k p))] Try.func15 rfl [.b true] (by simp) (by simp) (kmp (by kernel_rfl) (And.intro h1 (And.intro (show (AV.int IntKind.i64 7) = ((AV.int IntKind.i64 (r15.v n g j1 j2 k p))) by first | (simp only [r15.v, h1, cond_true, cond_false]; done) | (try unfold r15.v; try simp only [h1, cond_true, cond_false]; try rfl; done) | rfl) trivial))) h
  | false =>
    have h1p := of_decide_eq_false h1
    cases h2 : (↑n : Int) == 0 with
    | true =>
      have h2p := eq_of_beq h2
      exact Ret.of_run1 mix [(AV.int IntKind.i64 (r15.v n g j1 j2 k p))] Try.func15 rfl [.b false, .b true] (by simp) (by simp) (kmp (by kernel_rfl) (And.intro h1 (And.intro h2 (And.intro (show (AV.int IntKind.i64 1) = ((AV.int IntKind.i64 (r15.v n g j1 j2 k p))) by first | (simp only [r15.v, h1, h2, cond_true, cond_false]; done) | (try unfold r15.v; try simp only [h1, cond_true, cond_false]; try simp only [h2, cond_true, cond_false]; try rfl; done) | rfl) trivial)))) h
    | false =>
      have h2p := ne_of_beq_false h2
      have o0 : n ≤ (9223372036854775807 : Nat) := by first | assumption | omega | (simp_all; done)
      have o1 : k ≤ (9223372036854775807 : Nat) := by first | assumption | omega | (simp_all; done)
      have o2 : decide ((↑n : Int) > (512 : Int)) = false := by first | assumption | omega | (simp_all; done)
      have o3 : ¬(↑n : Int) > (512 : Int) := by first | assumption | (simp_all; done)
      have o4 : ((↑n : Int) == (0 : Int)) = false := by first | assumption | omega | (simp_all; done)
      have o5 : (↑n : Int) ≠ (0 : Int) := by first | assumption | omega | (simp_all; done)
      have o6 : (0 : Int) ≤ (↑n : Int) ∨ (0 : Int) ≤ (0 : Int) := by first | assumption | omega | (simp_all; done)
      cases h3 : L15a.run n g 0 with
      | e0 =>
        exact Ret.of_run1 mix [(AV.int IntKind.i64 (r15.v n g j1 j2 k p))] Try.func15 rfl [.b false, .b false, .loop (others 50 [1, 3]) (Exit.ret) (L15a.X n g j1 j2 k p L15a.O.e0) (L15a.XH n g j1 j2 k p L15a.O.e0)] (by simp) (by simp) (kmp (by kernel_rfl) (And.intro h1 (And.intro h2 (And.intro (L15a.e0 (n) (g) o0 (j1) (j2) (k) (p) o1 o2 o3 o4 o5 (0) (And.intro (show (0 : Int) ≤ (0 : Int) by first | decide | exact Int.NonNeg.mk _) o6) h3) (And.intro (show (AV.int IntKind.i64 6) = ((AV.int IntKind.i64 (r15.v n g j1 j2 k p))) by first | (simp only [r15.v, h1, h2, h3, cond_true, cond_false]; done) | (try unfold r15.v; try simp only [h1, cond_true, cond_false]; try simp only [h2, cond_true, cond_false]; try simp only [h3, cond_true, cond_false]; try rfl; done) | rfl) trivial))))) h
      | e1 =>
        cases h4 : r34.v j1 j2 with
        | true =>
          exact Ret.of_run1 mix [(AV.int IntKind.i64 (r15.v n g j1 j2 k p))] Try.func15 rfl [.b false, .b false, .loop (others 50 [1, 3]) (Exit.exit 0) (L15a.X n g j1 j2 k p L15a.O.e1) (L15a.XH n g j1 j2 k p L15a.O.e1), .ret (AV.bool (r34.v j1 j2)) (r15.h0 n g j1 j2 k p), .b false, .ret (AV.int IntKind.i64 (r35.v k p (↑n : Int))) (r15.h0 n g j1 j2 k p)] (by simp) (by simp) (kmp (by kernel_rfl) (And.intro h1 (And.intro h2 (And.intro (L15a.e1 (n) (g) o0 (j1) (j2) (k) (p) o1 o2 o3 o4 o5 (0) (And.intro (show (0 : Int) ≤ (0 : Int) by first | decide | exact Int.NonNeg.mk _) o6) h3) (And.intro (r34 (j1) (j2) (r15.h0 n g j1 j2 k p)) (And.intro (show (bnot (r34.v j1 j2)) = false by rw [h4]; try rfl) (And.intro (r35 (k) (p) o1 ((↑n : Int)) (r15.h0 n g j1 j2 k p)) (And.intro (show (AV.int IntKind.i64 (r35.v k p (↑n : Int))) = ((AV.int IntKind.i64 (r15.v n g j1 j2 k p))) by first | (simp only [r15.v, h1, h2, h4, h3, cond_true, cond_false]; done) | (try unfold r15.v; try simp only [h1, cond_true, cond_false]; try simp only [h2, cond_true, cond_false]; try simp only [h4, cond_true, cond_false]; try simp only [h3, cond_true, cond_false]; try rfl; done) | rfl) trivial)))))))) h
        | false =>
          exact Ret.of_run1 mix [(AV.int IntKind.i64 (r15.v n g j1 j2 k p))] Try.func15 rfl [.b false, .b false, .loop (others 50 [1, 3]) (Exit.exit 0) (L15a.X n g j1 j2 k p L15a.O.e1) (L15a.XH n g j1 j2 k p L15a.O.e1), .ret (AV.bool (r34.v j1 j2)) (r15.h0 n g j1 j2 k p), .b true] (by simp) (by simp) (kmp (by kernel_rfl) (And.intro h1 (And.intro h2 (And.intro (L15a.e1 (n) (g) o0 (j1) (j2) (k) (p) o1 o2 o3 o4 o5 (0) (And.intro (show (0 : Int) ≤ (0 : Int) by first | decide | exact Int.NonNeg.mk _) o6) h3) (And.intro (r34 (j1) (j2) (r15.h0 n g j1 j2 k p)) (And.intro (show (bnot (r34.v j1 j2)) = true by rw [h4]; try rfl) (And.intro (show (AV.int IntKind.i64 6) = ((AV.int IntKind.i64 (r15.v n g j1 j2 k p))) by first | (simp only [r15.v, h1, h2, h4, h3, cond_true, cond_false]; done) | (try unfold r15.v; try simp only [h1, cond_true, cond_false]; try simp only [h2, cond_true, cond_false]; try simp only [h4, cond_true, cond_false]; try simp only [h3, cond_true, cond_false]; try rfl; done) | rfl) trivial))))))) h

inductive L33a.O where
  | e0 (a0 : Int) (a1 : Int)
noncomputable def L33a.T (n : Nat) (g : Nat → PD) (u : Int) (w : Int) (a29 : Int) (ao2_0 : Int) (ao2_1 : Int) : List AV := mkT 38 [(6, AV.ptr 1 1 3 0 0), (7, AV.ptr 2 1 3 0 0), (27, AV.sl 2 (w.toNat - u.toNat) fun (i : Nat) => AV.agg [AV.int IntKind.i64 (g (u.toNat + i)).lo, AV.int IntKind.i64 (g (u.toNat + i)).hi]), (28, AV.int IntKind.i64 (↑(w.toNat - u.toNat) : Int)), (29, AV.int IntKind.i64 a29)]
noncomputable def L33a.H (n : Nat) (g : Nat → PD) (u : Int) (w : Int) (a29 : Int) (ao2_0 : Int) (ao2_1 : Int) : AHeap := [AObj.dead, AObj.var (AV.agg [AV.int IntKind.i64 0, AV.int IntKind.i64 0, AV.int IntKind.i64 0]), AObj.var (AV.agg [AV.int IntKind.i64 ao2_0, AV.int IntKind.i64 ao2_1, AV.int IntKind.i64 (IntKind.i64.wrap (IntKind.i64.wrap (w - u) - 1))])]
def L33a.inv (n : Nat) (g : Nat → PD) (u : Int) (w : Int) (a29 : Int) (ao2_0 : Int) (ao2_1 : Int) : Prop := 0 ≤ a29 ∧ (a29 ≤ (↑(w.toNat - u.toNat) : Int) ∨ a29 ≤ 0)
noncomputable def L33a.mu (n : Nat) (g : Nat → PD) (u : Int) (w : Int) (a29 : Int) (ao2_0 : Int) (ao2_1 : Int) : Nat := ((↑(w.toNat - u.toNat) : Int) - a29).toNat
noncomputable def L33a.E : L33a.O → Exit
  | .e0 a0 a1 => Exit.exit 0
noncomputable def L33a.X (n : Nat) (g : Nat → PD) (u : Int) (w : Int) : L33a.O → List AV
  | .e0 a0 a1 => mkT 38 [(6, (AV.ptr 1 1 3 0 0)), (7, (AV.ptr 2 1 3 0 0))]
noncomputable def L33a.XH (n : Nat) (g : Nat → PD) (u : Int) (w : Int) : L33a.O → AHeap
  | .e0 a0 a1 => ((AObj.dead) :: ((AObj.var (AV.agg [AV.int IntKind.i64 0, AV.int IntKind.i64 0, AV.int IntKind.i64 0])) :: ((AObj.var (AV.agg ((AV.int IntKind.i64 a0) :: ((AV.int IntKind.i64 a1) :: ([AV.int IntKind.i64 (IntKind.i64.wrap (IntKind.i64.wrap (w - u) - 1))]))))) :: ([]))))
noncomputable def L33a.N (g : Nat → PD) (u : Int) (w : Int) : Nat → Int → Int → Int → L33a.O
  | 0, _, _, _ => .e0 default default
  | k_ + 1, a29, ao2_0, ao2_1 => (bif decide (a29 < (↑(w.toNat - u.toNat) : Int)) then (L33a.N g u w k_ (IntKind.i64.wrap (a29 + 1)) (r58.v0 ao2_0 (g (u.toNat + a29.toNat)).lo) (r58.v1 ao2_1 (g (u.toNat + a29.toNat)).hi)) else (.e0 (ao2_0) (ao2_1)))
noncomputable def L33a.run (g : Nat → PD) (u : Int) (w : Int) (a29 : Int) (ao2_0 : Int) (ao2_1 : Int) : L33a.O := L33a.N g u w ((((↑(w.toNat - u.toNat) : Int) - a29).toNat) + 1) a29 ao2_0 ao2_1
def L33a.Next (n : Nat) (g : Nat → PD) (u : Int) (w : Int) (k_ : Nat) (z_ : Int × Int × Int) (T_ : List AV) (h_ : AHeap) : Prop := LNextP (fun (z_ : Int × Int × Int) => L33a.T n g u w z_.1 z_.2.1 z_.2.2) (fun (z_ : Int × Int × Int) => L33a.H n g u w z_.1 z_.2.1 z_.2.2) (fun (z_ : Int × Int × Int) => L33a.inv n g u w z_.1 z_.2.1 z_.2.2) (fun (z_ : Int × Int × Int) => L33a.mu n g u w z_.1 z_.2.1 z_.2.2) (fun (k_ : Nat) (z_ : Int × Int × Int) => L33a.N g u w k_ z_.1 z_.2.1 z_.2.2) k_ z_ T_ h_
def L33a.End (n : Nat) (g : Nat → PD) (u : Int) (w : Int) (k_ : Nat) (z_ : Int × Int × Int) (e_ : Exit) (T_ : List AV) (h_ : AHeap) : Prop := LEndP (fun (z_ : Int × Int × Int) => L33a.H n g u w z_.1 z_.2.1 z_.2.2) (fun (k_ : Nat) (z_ : Int × Int × Int) => L33a.N g u w k_ z_.1 z_.2.1 z_.2.2) L33a.E (L33a.X n g u w) (L33a.XH n g u w) k_ z_ e_ T_ h_
theorem L33a.nx (n : Nat) (g : Nat → PD) (u : Int) (w : Int) {k_ : Nat} {z_ : Int × Int × Int} {h_ : AHeap} (s_ : Int × Int × Int) (h1 : L33a.inv n g u w s_.1 s_.2.1 s_.2.2) (h2 : L33a.mu n g u w s_.1 s_.2.1 s_.2.2 < L33a.mu n g u w z_.1 z_.2.1 z_.2.2) (h3 : L33a.N g u w k_ s_.1 s_.2.1 s_.2.2 = L33a.N g u w (k_ + 1) z_.1 z_.2.1 z_.2.2) (h4 : PopOk (L33a.H n g u w z_.1 z_.2.1 z_.2.2) h_ (L33a.T n g u w s_.1 s_.2.1 s_.2.2) (L33a.H n g u w s_.1 s_.2.1 s_.2.2)) : LNextP (fun (z_ : Int × Int × Int) => L33a.T n g u w z_.1 z_.2.1 z_.2.2) (fun (z_ : Int × Int × Int) => L33a.H n g u w z_.1 z_.2.1 z_.2.2) (fun (z_ : Int × Int × Int) => L33a.inv n g u w z_.1 z_.2.1 z_.2.2) (fun (z_ : Int × Int × Int) => L33a.mu n g u w z_.1 z_.2.1 z_.2.2) (fun (k_ : Nat) (z_ : Int × Int × Int) => L33a.N g u w k_ z_.1 z_.2.1 z_.2.2) k_ z_ (L33a.T n g u w s_.1 s_.2.1 s_.2.2) h_ := LNextP.mk (Tm := (fun (z_ : Int × Int × Int) => L33a.T n g u w z_.1 z_.2.1 z_.2.2)) (Hp := (fun (z_ : Int × Int × Int) => L33a.H n g u w z_.1 z_.2.1 z_.2.2)) (inv := (fun (z_ : Int × Int × Int) => L33a.inv n g u w z_.1 z_.2.1 z_.2.2)) (mu := (fun (z_ : Int × Int × Int) => L33a.mu n g u w z_.1 z_.2.1 z_.2.2)) (l := (fun (k_ : Nat) (z_ : Int × Int × Int) => L33a.N g u w k_ z_.1 z_.2.1 z_.2.2)) s_ h1 h2 h3 h4
theorem L33a.en (n : Nat) (g : Nat → PD) (u : Int) (w : Int) {k_ : Nat} {z_ : Int × Int × Int} {h_ : AHeap} (o_ : L33a.O) (h3 : L33a.N g u w (k_ + 1) z_.1 z_.2.1 z_.2.2 = o_) (h4 : PopOk (L33a.H n g u w z_.1 z_.2.1 z_.2.2) h_ (L33a.X n g u w o_) (L33a.XH n g u w o_)) : LEndP (fun (z_ : Int × Int × Int) => L33a.H n g u w z_.1 z_.2.1 z_.2.2) (fun (k_ : Nat) (z_ : Int × Int × Int) => L33a.N g u w k_ z_.1 z_.2.1 z_.2.2) L33a.E (L33a.X n g u w) (L33a.XH n g u w) k_ z_ (L33a.E o_) (L33a.X n g u w o_) h_ := LEndP.mk (Hp := (fun (z_ : Int × Int × Int) => L33a.H n g u w z_.1 z_.2.1 z_.2.2)) (l := (fun (k_ : Nat) (z_ : Int × Int × Int) => L33a.N g u w k_ z_.1 z_.2.1 z_.2.2)) (oE := L33a.E) (oT := L33a.X n g u w) (oH := L33a.XH n g u w) o_ h3 h4
theorem L33a.spec (n : Nat) (g : Nat → PD) (hn : n ≤ 9223372036854775807) (u : Int) (w : Int) (h0 : 0 ≤ u) (h1 : u ≤ w) (h2 : w ≤ (↑n : Int)) (h3 : w ≤ 9223372036854775807) (k_ : Nat) (z_ : Int × Int × Int) (hi_ : L33a.inv n g u w z_.1 z_.2.1 z_.2.2) (hm_ : L33a.mu n g u w z_.1 z_.2.1 z_.2.2 < k_) : LoopTo Try.prog (loopN Try.f33 0) (L33a.T n g u w z_.1 z_.2.1 z_.2.2) (L33a.H n g u w z_.1 z_.2.1 z_.2.2) (L33a.E (L33a.N g u w k_ z_.1 z_.2.1 z_.2.2)) (L33a.X n g u w (L33a.N g u w k_ z_.1 z_.2.1 z_.2.2)) (L33a.XH n g u w (L33a.N g u w k_ z_.1 z_.2.1 z_.2.2)) := by
  refine LoopTo.fuelP mix (fun (z_ : Int × Int × Int) => L33a.T n g u w z_.1 z_.2.1 z_.2.2) (fun (z_ : Int × Int × Int) => L33a.H n g u w z_.1 z_.2.1 z_.2.2) (fun (z_ : Int × Int × Int) => L33a.inv n g u w z_.1 z_.2.1 z_.2.2) (fun (z_ : Int × Int × Int) => L33a.mu n g u w z_.1 z_.2.1 z_.2.2) (fun (k_ : Nat) (z_ : Int × Int × Int) => L33a.N g u w k_ z_.1 z_.2.1 z_.2.2) L33a.E (L33a.X n g u w) (L33a.XH n g u w) (others 38 [6, 7, 27, 28, 29]) (others 38 [6]) (others 38 [6, 7]) ?_ k_ z_ hi_ hm_
  clear hm_ hi_ z_ k_
  intro k_ z_ hinv hmu
  obtain ⟨a29, ao2_0, ao2_1⟩ := z_
  have hinv : 0 ≤ a29 ∧ (a29 ≤ (↑(w.toNat - u.toNat) : Int) ∨ a29 ≤ 0) := hinv
  have hmu : (((↑(w.toNat - u.toNat) : Int) - a29).toNat) < k_ + 1 := hmu
  cases h1 : decide (a29 < (↑(w.toNat - u.toNat) : Int)) with
  | true =>
    have h1p := of_decide_eq_true h1
    have o0 : (0 : Int) ≤ a29 := by first | assumption | omega | (simp_all; done)
    have o1 : a29 < (↑(w.toNat - u.toNat) : Int) := by first | assumption | omega | (simp_all; done)
    try have := IntWalk.i64_in (a29 + 1) (by omega)
    have o2 : (0 : Int) ≤ IntKind.i64.wrap (a29 + (1 : Int)) := by first | assumption | omega | (simp_all; done)
    have o3 : IntKind.i64.wrap (a29 + (1 : Int)) ≤ (↑(w.toNat - u.toNat) : Int) ∨ IntKind.i64.wrap (a29 + (1 : Int)) ≤ (0 : Int) := by first | assumption | omega | (simp_all; done)
    have o4 : ((↑(w.toNat - u.toNat) : Int) - IntKind.i64.wrap (a29 + (1 : Int))).toNat < ((↑(w.toNat - u.toNat) : Int) - a29).toNat := by first | assumption | omega | (simp_all; done)
    exact ⟨[.b true, .ret (AV.agg [AV.int IntKind.i64 (r58.v0 ao2_0 (g (u.toNat + a29.toNat)).lo), AV.int IntKind.i64 (r58.v1 ao2_1 (g (u.toNat + a29.toNat)).hi), AV.int IntKind.i64 (IntKind.i64.wrap (IntKind.i64.wrap (w - u) - 1))]) ([AObj.dead, AObj.var (AV.agg [AV.int IntKind.i64 0, AV.int IntKind.i64 0, AV.int IntKind.i64 0]), AObj.var (AV.agg [AV.int IntKind.i64 ao2_0, AV.int IntKind.i64 ao2_1, AV.int IntKind.i64 (IntKind.i64.wrap (IntKind.i64.wrap (w - u) - 1))]), AObj.var (AV.agg [AV.int IntKind.i64 (g (u.toNat + a29.toNat)).lo, AV.int IntKind.i64 (g (u.toNat + a29.toNat)).hi])])], kmp (by kernel_rfl) (And.intro h1 (And.intro (And.intro o0 o1) (And.intro (r58 (ao2_0) (ao2_1) (IntKind.i64.wrap (IntKind.i64.wrap (w - u) - 1)) ((g (u.toNat + a29.toNat)).lo) ((g (u.toNat + a29.toNat)).hi) ([AObj.dead, AObj.var (AV.agg [AV.int IntKind.i64 0, AV.int IntKind.i64 0, AV.int IntKind.i64 0]), AObj.var (AV.agg [AV.int IntKind.i64 ao2_0, AV.int IntKind.i64 ao2_1, AV.int IntKind.i64 (IntKind.i64.wrap (IntKind.i64.wrap (w - u) - 1))]), AObj.var (AV.agg [AV.int IntKind.i64 (g (u.toNat + a29.toNat)).lo, AV.int IntKind.i64 (g (u.toNat + a29.toNat)).hi])])) (L33a.nx n g u w (k_ := k_) (z_ := (a29, ao2_0, ao2_1)) (h_ := [AObj.dead, AObj.var (AV.agg [AV.int IntKind.i64 0, AV.int IntKind.i64 0, AV.int IntKind.i64 0]), AObj.var (AV.agg [AV.int IntKind.i64 (r58.v0 ao2_0 (g (u.toNat + a29.toNat)).lo), AV.int IntKind.i64 (r58.v1 ao2_1 (g (u.toNat + a29.toNat)).hi), AV.int IntKind.i64 (IntKind.i64.wrap (IntKind.i64.wrap (w - u) - 1))]), AObj.var (AV.agg [AV.int IntKind.i64 (g (u.toNat + a29.toNat)).lo, AV.int IntKind.i64 (g (u.toNat + a29.toNat)).hi])]) ((IntKind.i64.wrap (a29 + 1), r58.v0 ao2_0 (g (u.toNat + a29.toNat)).lo, r58.v1 ao2_1 (g (u.toNat + a29.toNat)).hi)) (And.intro o2 o3) o4 (by first | (simp only [L33a.N, h1, cond_true, cond_false]; done) | (try unfold L33a.N; try simp only [h1, cond_true, cond_false]; try rfl; done)) (PopOk.popLow _ rfl rfl (by simp [L33a.T, L33a.X, L33a.H, L33a.XH]) (by simp [L33a.T, L33a.X, L33a.H, L33a.XH]))))))⟩
  | false =>
    have h1p := of_decide_eq_false h1
    exact ⟨[.b false], kmp (by kernel_rfl) (And.intro h1 (L33a.en n g u w (k_ := k_) (z_ := (a29, ao2_0, ao2_1)) (.e0 (ao2_0) (ao2_1) : L33a.O) (by first | (simp only [L33a.N, h1, cond_true, cond_false]; done) | (try unfold L33a.N; try simp only [h1, cond_true, cond_false]; try rfl; done)) PopOk.same))⟩
theorem L33a.e0 (n : Nat) (g : Nat → PD) (hn : n ≤ 9223372036854775807) (u : Int) (w : Int) (h0 : 0 ≤ u) (h1 : u ≤ w) (h2 : w ≤ (↑n : Int)) (h3 : w ≤ 9223372036854775807) (a29 : Int) (ao2_0 : Int) (ao2_1 : Int) (hinv : L33a.inv n g u w a29 ao2_0 ao2_1) (a0 : Int) (a1 : Int) (hN : L33a.run g u w a29 ao2_0 ao2_1 = (.e0 a0 a1 : L33a.O)) : LoopTo Try.prog (loopN Try.f33 0) (L33a.T n g u w a29 ao2_0 ao2_1) (L33a.H n g u w a29 ao2_0 ao2_1) (Exit.exit 0) (L33a.X n g u w (.e0 a0 a1 : L33a.O)) (L33a.XH n g u w (.e0 a0 a1 : L33a.O)) := by
  have h_ := L33a.spec n g hn u w h0 h1 h2 h3 ((((↑(w.toNat - u.toNat) : Int) - a29).toNat) + 1) (a29, ao2_0, ao2_1) hinv (Nat.lt_succ_self _)
  unfold L33a.run at hN
  simp only [hN] at h_
  exact h_

inductive L33ax.O where
  | e0 (a0 : Int) (a1 : Int)
noncomputable def L33ax.T (n : Nat) (g : Nat → PD) (u : Int) (w : Int) (a29 : Int) (ao2_0 : Int) (ao2_1 : Int) : List AV := mkT 38 [(6, AV.ptr 1 1 3 0 0), (7, AV.ptr 2 1 3 0 0), (27, AV.sl 2 (w.toNat - u.toNat) fun (i : Nat) => AV.agg [AV.int IntKind.i64 (g (u.toNat + i)).lo, AV.int IntKind.i64 (g (u.toNat + i)).hi]), (28, AV.int IntKind.i64 (↑(w.toNat - u.toNat) : Int)), (29, AV.int IntKind.i64 a29)]
noncomputable def L33ax.H (n : Nat) (g : Nat → PD) (u : Int) (w : Int) (a29 : Int) (ao2_0 : Int) (ao2_1 : Int) : AHeap := [AObj.dead, AObj.var (AV.agg [AV.int IntKind.i64 0, AV.int IntKind.i64 0, AV.int IntKind.i64 0]), AObj.var (AV.agg [AV.int IntKind.i64 ao2_0, AV.int IntKind.i64 ao2_1, AV.int IntKind.i64 (IntKind.i64.wrap (w - u))])]
def L33ax.inv (n : Nat) (g : Nat → PD) (u : Int) (w : Int) (a29 : Int) (ao2_0 : Int) (ao2_1 : Int) : Prop := 0 ≤ a29 ∧ (a29 ≤ (↑(w.toNat - u.toNat) : Int) ∨ a29 ≤ 0)
noncomputable def L33ax.mu (n : Nat) (g : Nat → PD) (u : Int) (w : Int) (a29 : Int) (ao2_0 : Int) (ao2_1 : Int) : Nat := ((↑(w.toNat - u.toNat) : Int) - a29).toNat
noncomputable def L33ax.E : L33ax.O → Exit
  | .e0 a0 a1 => Exit.exit 0
noncomputable def L33ax.X (n : Nat) (g : Nat → PD) (u : Int) (w : Int) : L33ax.O → List AV
  | .e0 a0 a1 => mkT 38 [(6, (AV.ptr 1 1 3 0 0)), (7, (AV.ptr 2 1 3 0 0))]
noncomputable def L33ax.XH (n : Nat) (g : Nat → PD) (u : Int) (w : Int) : L33ax.O → AHeap
  | .e0 a0 a1 => ((AObj.dead) :: ((AObj.var (AV.agg [AV.int IntKind.i64 0, AV.int IntKind.i64 0, AV.int IntKind.i64 0])) :: ((AObj.var (AV.agg ((AV.int IntKind.i64 a0) :: ((AV.int IntKind.i64 a1) :: ([AV.int IntKind.i64 (IntKind.i64.wrap (w - u))]))))) :: ([]))))
noncomputable def L33ax.N (g : Nat → PD) (u : Int) (w : Int) : Nat → Int → Int → Int → L33ax.O
  | 0, _, _, _ => .e0 default default
  | k_ + 1, a29, ao2_0, ao2_1 => (bif decide (a29 < (↑(w.toNat - u.toNat) : Int)) then (L33ax.N g u w k_ (IntKind.i64.wrap (a29 + 1)) (r58.v0 ao2_0 (g (u.toNat + a29.toNat)).lo) (r58.v1 ao2_1 (g (u.toNat + a29.toNat)).hi)) else (.e0 (ao2_0) (ao2_1)))
noncomputable def L33ax.run (g : Nat → PD) (u : Int) (w : Int) (a29 : Int) (ao2_0 : Int) (ao2_1 : Int) : L33ax.O := L33ax.N g u w ((((↑(w.toNat - u.toNat) : Int) - a29).toNat) + 1) a29 ao2_0 ao2_1
def L33ax.Next (n : Nat) (g : Nat → PD) (u : Int) (w : Int) (k_ : Nat) (z_ : Int × Int × Int) (T_ : List AV) (h_ : AHeap) : Prop := LNextP (fun (z_ : Int × Int × Int) => L33ax.T n g u w z_.1 z_.2.1 z_.2.2) (fun (z_ : Int × Int × Int) => L33ax.H n g u w z_.1 z_.2.1 z_.2.2) (fun (z_ : Int × Int × Int) => L33ax.inv n g u w z_.1 z_.2.1 z_.2.2) (fun (z_ : Int × Int × Int) => L33ax.mu n g u w z_.1 z_.2.1 z_.2.2) (fun (k_ : Nat) (z_ : Int × Int × Int) => L33ax.N g u w k_ z_.1 z_.2.1 z_.2.2) k_ z_ T_ h_
def L33ax.End (n : Nat) (g : Nat → PD) (u : Int) (w : Int) (k_ : Nat) (z_ : Int × Int × Int) (e_ : Exit) (T_ : List AV) (h_ : AHeap) : Prop := LEndP (fun (z_ : Int × Int × Int) => L33ax.H n g u w z_.1 z_.2.1 z_.2.2) (fun (k_ : Nat) (z_ : Int × Int × Int) => L33ax.N g u w k_ z_.1 z_.2.1 z_.2.2) L33ax.E (L33ax.X n g u w) (L33ax.XH n g u w) k_ z_ e_ T_ h_
theorem L33ax.nx (n : Nat) (g : Nat → PD) (u : Int) (w : Int) {k_ : Nat} {z_ : Int × Int × Int} {h_ : AHeap} (s_ : Int × Int × Int) (h1 : L33ax.inv n g u w s_.1 s_.2.1 s_.2.2) (h2 : L33ax.mu n g u w s_.1 s_.2.1 s_.2.2 < L33ax.mu n g u w z_.1 z_.2.1 z_.2.2) (h3 : L33ax.N g u w k_ s_.1 s_.2.1 s_.2.2 = L33ax.N g u w (k_ + 1) z_.1 z_.2.1 z_.2.2) (h4 : PopOk (L33ax.H n g u w z_.1 z_.2.1 z_.2.2) h_ (L33ax.T n g u w s_.1 s_.2.1 s_.2.2) (L33ax.H n g u w s_.1 s_.2.1 s_.2.2)) : LNextP (fun (z_ : Int × Int × Int) => L33ax.T n g u w z_.1 z_.2.1 z_.2.2) (fun (z_ : Int × Int × Int) => L33ax.H n g u w z_.1 z_.2.1 z_.2.2) (fun (z_ : Int × Int × Int) => L33ax.inv n g u w z_.1 z_.2.1 z_.2.2) (fun (z_ : Int × Int × Int) => L33ax.mu n g u w z_.1 z_.2.1 z_.2.2) (fun (k_ : Nat) (z_ : Int × Int × Int) => L33ax.N g u w k_ z_.1 z_.2.1 z_.2.2) k_ z_ (L33ax.T n g u w s_.1 s_.2.1 s_.2.2) h_ := LNextP.mk (Tm := (fun (z_ : Int × Int × Int) => L33ax.T n g u w z_.1 z_.2.1 z_.2.2)) (Hp := (fun (z_ : Int × Int × Int) => L33ax.H n g u w z_.1 z_.2.1 z_.2.2)) (inv := (fun (z_ : Int × Int × Int) => L33ax.inv n g u w z_.1 z_.2.1 z_.2.2)) (mu := (fun (z_ : Int × Int × Int) => L33ax.mu n g u w z_.1 z_.2.1 z_.2.2)) (l := (fun (k_ : Nat) (z_ : Int × Int × Int) => L33ax.N g u w k_ z_.1 z_.2.1 z_.2.2)) s_ h1 h2 h3 h4
theorem L33ax.en (n : Nat) (g : Nat → PD) (u : Int) (w : Int) {k_ : Nat} {z_ : Int × Int × Int} {h_ : AHeap} (o_ : L33ax.O) (h3 : L33ax.N g u w (k_ + 1) z_.1 z_.2.1 z_.2.2 = o_) (h4 : PopOk (L33ax.H n g u w z_.1 z_.2.1 z_.2.2) h_ (L33ax.X n g u w o_) (L33ax.XH n g u w o_)) : LEndP (fun (z_ : Int × Int × Int) => L33ax.H n g u w z_.1 z_.2.1 z_.2.2) (fun (k_ : Nat) (z_ : Int × Int × Int) => L33ax.N g u w k_ z_.1 z_.2.1 z_.2.2) L33ax.E (L33ax.X n g u w) (L33ax.XH n g u w) k_ z_ (L33ax.E o_) (L33ax.X n g u w o_) h_ := LEndP.mk (Hp := (fun (z_ : Int × Int × Int) => L33ax.H n g u w z_.1 z_.2.1 z_.2.2)) (l := (fun (k_ : Nat) (z_ : Int × Int × Int) => L33ax.N g u w k_ z_.1 z_.2.1 z_.2.2)) (oE := L33ax.E) (oT := L33ax.X n g u w) (oH := L33ax.XH n g u w) o_ h3 h4
theorem L33ax.spec (n : Nat) (g : Nat → PD) (hn : n ≤ 9223372036854775807) (u : Int) (w : Int) (h0 : 0 ≤ u) (h1 : u ≤ w) (h2 : w ≤ (↑n : Int)) (h3 : w ≤ 9223372036854775807) (k_ : Nat) (z_ : Int × Int × Int) (hi_ : L33ax.inv n g u w z_.1 z_.2.1 z_.2.2) (hm_ : L33ax.mu n g u w z_.1 z_.2.1 z_.2.2 < k_) : LoopTo Try.prog (loopN Try.f33 0) (L33ax.T n g u w z_.1 z_.2.1 z_.2.2) (L33ax.H n g u w z_.1 z_.2.1 z_.2.2) (L33ax.E (L33ax.N g u w k_ z_.1 z_.2.1 z_.2.2)) (L33ax.X n g u w (L33ax.N g u w k_ z_.1 z_.2.1 z_.2.2)) (L33ax.XH n g u w (L33ax.N g u w k_ z_.1 z_.2.1 z_.2.2)) := by
  refine LoopTo.fuelP mix (fun (z_ : Int × Int × Int) => L33ax.T n g u w z_.1 z_.2.1 z_.2.2) (fun (z_ : Int × Int × Int) => L33ax.H n g u w z_.1 z_.2.1 z_.2.2) (fun (z_ : Int × Int × Int) => L33ax.inv n g u w z_.1 z_.2.1 z_.2.2) (fun (z_ : Int × Int × Int) => L33ax.mu n g u w z_.1 z_.2.1 z_.2.2) (fun (k_ : Nat) (z_ : Int × Int × Int) => L33ax.N g u w k_ z_.1 z_.2.1 z_.2.2) L33ax.E (L33ax.X n g u w) (L33ax.XH n g u w) (others 38 [6, 7, 27, 28, 29]) (others 38 [6]) (others 38 [6, 7]) ?_ k_ z_ hi_ hm_
  clear hm_ hi_ z_ k_
  intro k_ z_ hinv hmu
  obtain ⟨a29, ao2_0, ao2_1⟩ := z_
  have hinv : 0 ≤ a29 ∧ (a29 ≤ (↑(w.toNat - u.toNat) : Int) ∨ a29 ≤ 0) := hinv
  have hmu : (((↑(w.toNat - u.toNat) : Int) - a29).toNat) < k_ + 1 := hmu
  cases h1 : decide (a29 < (↑(w.toNat - u.toNat) : Int)) with
  | true =>
    have h1p := of_decide_eq_true h1
    have o0 : (0 : Int) ≤ a29 := by first | assumption | omega | (simp_all; done)
    have o1 : a29 < (↑(w.toNat - u.toNat) : Int) := by first | assumption | omega | (simp_all; done)
    try have := IntWalk.i64_in (a29 + 1) (by omega)
    have o2 : (0 : Int) ≤ IntKind.i64.wrap (a29 + (1 : Int)) := by first | assumption | omega | (simp_all; done)
    have o3 : IntKind.i64.wrap (a29 + (1 : Int)) ≤ (↑(w.toNat - u.toNat) : Int) ∨ IntKind.i64.wrap (a29 + (1 : Int)) ≤ (0 : Int) := by first | assumption | omega | (simp_all; done)
    have o4 : ((↑(w.toNat - u.toNat) : Int) - IntKind.i64.wrap (a29 + (1 : Int))).toNat < ((↑(w.toNat - u.toNat) : Int) - a29).toNat := by first | assumption | omega | (simp_all; done)
    exact ⟨[.b true, .ret (AV.agg [AV.int IntKind.i64 (r58.v0 ao2_0 (g (u.toNat + a29.toNat)).lo), AV.int IntKind.i64 (r58.v1 ao2_1 (g (u.toNat + a29.toNat)).hi), AV.int IntKind.i64 (IntKind.i64.wrap (w - u))]) ([AObj.dead, AObj.var (AV.agg [AV.int IntKind.i64 0, AV.int IntKind.i64 0, AV.int IntKind.i64 0]), AObj.var (AV.agg [AV.int IntKind.i64 ao2_0, AV.int IntKind.i64 ao2_1, AV.int IntKind.i64 (IntKind.i64.wrap (w - u))]), AObj.var (AV.agg [AV.int IntKind.i64 (g (u.toNat + a29.toNat)).lo, AV.int IntKind.i64 (g (u.toNat + a29.toNat)).hi])])], kmp (by kernel_rfl) (And.intro h1 (And.intro (And.intro o0 o1) (And.intro (r58 (ao2_0) (ao2_1) (IntKind.i64.wrap (w - u)) ((g (u.toNat + a29.toNat)).lo) ((g (u.toNat + a29.toNat)).hi) ([AObj.dead, AObj.var (AV.agg [AV.int IntKind.i64 0, AV.int IntKind.i64 0, AV.int IntKind.i64 0]), AObj.var (AV.agg [AV.int IntKind.i64 ao2_0, AV.int IntKind.i64 ao2_1, AV.int IntKind.i64 (IntKind.i64.wrap (w - u))]), AObj.var (AV.agg [AV.int IntKind.i64 (g (u.toNat + a29.toNat)).lo, AV.int IntKind.i64 (g (u.toNat + a29.toNat)).hi])])) (L33ax.nx n g u w (k_ := k_) (z_ := (a29, ao2_0, ao2_1)) (h_ := [AObj.dead, AObj.var (AV.agg [AV.int IntKind.i64 0, AV.int IntKind.i64 0, AV.int IntKind.i64 0]), AObj.var (AV.agg [AV.int IntKind.i64 (r58.v0 ao2_0 (g (u.toNat + a29.toNat)).lo), AV.int IntKind.i64 (r58.v1 ao2_1 (g (u.toNat + a29.toNat)).hi), AV.int IntKind.i64 (IntKind.i64.wrap (w - u))]), AObj.var (AV.agg [AV.int IntKind.i64 (g (u.toNat + a29.toNat)).lo, AV.int IntKind.i64 (g (u.toNat + a29.toNat)).hi])]) ((IntKind.i64.wrap (a29 + 1), r58.v0 ao2_0 (g (u.toNat + a29.toNat)).lo, r58.v1 ao2_1 (g (u.toNat + a29.toNat)).hi)) (And.intro o2 o3) o4 (by first | (simp only [L33ax.N, h1, cond_true, cond_false]; done) | (try unfold L33ax.N; try simp only [h1, cond_true, cond_false]; try rfl; done)) (PopOk.popLow _ rfl rfl (by simp [L33ax.T, L33ax.X, L33ax.H, L33ax.XH]) (by simp [L33ax.T, L33ax.X, L33ax.H, L33ax.XH]))))))⟩
  | false =>
    have h1p := of_decide_eq_false h1
    exact ⟨[.b false], kmp (by kernel_rfl) (And.intro h1 (L33ax.en n g u w (k_ := k_) (z_ := (a29, ao2_0, ao2_1)) (.e0 (ao2_0) (ao2_1) : L33ax.O) (by first | (simp only [L33ax.N, h1, cond_true, cond_false]; done) | (try unfold L33ax.N; try simp only [h1, cond_true, cond_false]; try rfl; done)) PopOk.same))⟩
theorem L33ax.e0 (n : Nat) (g : Nat → PD) (hn : n ≤ 9223372036854775807) (u : Int) (w : Int) (h0 : 0 ≤ u) (h1 : u ≤ w) (h2 : w ≤ (↑n : Int)) (h3 : w ≤ 9223372036854775807) (a29 : Int) (ao2_0 : Int) (ao2_1 : Int) (hinv : L33ax.inv n g u w a29 ao2_0 ao2_1) (a0 : Int) (a1 : Int) (hN : L33ax.run g u w a29 ao2_0 ao2_1 = (.e0 a0 a1 : L33ax.O)) : LoopTo Try.prog (loopN Try.f33 0) (L33ax.T n g u w a29 ao2_0 ao2_1) (L33ax.H n g u w a29 ao2_0 ao2_1) (Exit.exit 0) (L33ax.X n g u w (.e0 a0 a1 : L33ax.O)) (L33ax.XH n g u w (.e0 a0 a1 : L33ax.O)) := by
  have h_ := L33ax.spec n g hn u w h0 h1 h2 h3 ((((↑(w.toNat - u.toNat) : Int) - a29).toNat) + 1) (a29, ao2_0, ao2_1) hinv (Nat.lt_succ_self _)
  unfold L33ax.run at hN
  simp only [hN] at h_
  exact h_

noncomputable def r33.v0 (n : Nat) (g : Nat → PD) (u : Int) (w : Int) : Int := (bif w == (↑n : Int) then (match L33a.run g u w 0 0 0 with | .e0 h2d0 h2d1 => h2d0 ) else (match L33ax.run g u w 0 0 0 with | .e0 h2d0 h2d1 => h2d0 ))
noncomputable def r33.v1 (n : Nat) (g : Nat → PD) (u : Int) (w : Int) : Int := (bif w == (↑n : Int) then (match L33a.run g u w 0 0 0 with | .e0 h2d0 h2d1 => h2d1 ) else (match L33ax.run g u w 0 0 0 with | .e0 h2d0 h2d1 => h2d1 ))
noncomputable def r33.v2 (n : Nat) (g : Nat → PD) (u : Int) (w : Int) : Int := (bif w == (↑n : Int) then (match L33a.run g u w 0 0 0 with | .e0 h2d0 h2d1 => IntKind.i64.wrap (IntKind.i64.wrap (w - u) - 1) ) else (match L33ax.run g u w 0 0 0 with | .e0 h2d0 h2d1 => IntKind.i64.wrap (w - u) ))
theorem r33 (n : Nat) (g : Nat → PD) (hn : n ≤ 9223372036854775807) (j1 : Int) (j2 : Int) (k : Nat) (p : Nat → PD) (u : Int) (w : Int) (h0 : 0 ≤ u) (h1 : u ≤ w) (h2 : w ≤ (↑n : Int)) (h3 : w ≤ 9223372036854775807) (h : AHeap) : Ret Try.prog 33 ([rn n g j1 j2 k p, AV.int IntKind.i64 u, AV.int IntKind.i64 w]) h (AV.agg ((AV.int IntKind.i64 (r33.v0 n g u w)) :: ((AV.int IntKind.i64 (r33.v1 n g u w)) :: ((AV.int IntKind.i64 (r33.v2 n g u w)) :: [])))) h := by
  cases h1 : w == (↑n : Int) with
  | true =>
    have h1p := eq_of_beq h1
    have o0 : (0 : Int) ≤ u := by first | assumption | omega | (simp_all; done)
    have o1 : u ≤ w := by first | assumption | omega | (simp_all; done)
    have o2 : w ≤ (↑n : Int) := by first | assumption | omega | (simp_all; done)
    have o3 : n ≤ (9223372036854775807 : Nat) := by first | assumption | omega | (simp_all; done)
    have o4 : w ≤ (9223372036854775807 : Int) := by first | assumption | omega | (simp_all; done)
    have o5 : (0 : Int) ≤ (↑(w.toNat - u.toNat) : Int) ∨ (0 : Int) ≤ (0 : Int) := by first | assumption | omega | (simp_all; done)
    cases h2 : L33a.run g u w 0 0 0 with
    | e0 h2d0 h2d1 =>
      exact Ret.of_run1 mix [(AV.agg ((AV.int IntKind.i64 (r33.v0 n g u w)) :: ((AV.int IntKind.i64 (r33.v1 n g u w)) :: ((AV.int IntKind.i64 (r33.v2 n g u w)) :: []))))] Try.func33 rfl [.b true, .virt [0] [], .loop (others 38 [6, 7, 27, 28, 29]) (Exit.exit 0) (L33a.X n g u w (L33a.O.e0 h2d0 h2d1)) (L33a.XH n g u w (L33a.O.e0 h2d0 h2d1))] (by simp) (by simp) (kmp (by kernel_rfl) (And.intro h1 (And.intro (And.intro o0 (And.intro o1 o2)) (And.intro trivial (And.intro (L33a.e0 (n) (g) o3 (u) (w) o0 o1 o2 o4 (0) (0) (0) (And.intro (show (0 : Int) ≤ (0 : Int) by first | decide | exact Int.NonNeg.mk _) o5) h2d0 h2d1 h2) (And.intro (And.intro trivial (show (AV.agg [AV.int IntKind.i64 h2d0, AV.int IntKind.i64 h2d1, AV.int IntKind.i64 (IntKind.i64.wrap (IntKind.i64.wrap (w - u) - 1))]) = ((AV.agg ((AV.int IntKind.i64 (r33.v0 n g u w)) :: ((AV.int IntKind.i64 (r33.v1 n g u w)) :: ((AV.int IntKind.i64 (r33.v2 n g u w)) :: []))))) by first | (simp only [r33.v0, r33.v1, r33.v2, h1, h2, cond_true, cond_false]; done) | (try unfold r33.v0; try unfold r33.v1; try unfold r33.v2; try simp only [h1, cond_true, cond_false]; try simp only [h2, cond_true, cond_false]; try rfl; done) | rfl)) trivial)))))) h
  | false =>
    have h1p := ne_of_beq_false h1
    have o0 : (0 : Int) ≤ u := by first | assumption | omega | (simp_all; done)
    have o1 : u ≤ w := by first | assumption | omega | (simp_all; done)
    have o2 : w ≤ (↑n : Int) := by first | assumption | omega | (simp_all; done)
    have o3 : n ≤ (9223372036854775807 : Nat) := by first | assumption | omega | (simp_all; done)
    have o4 : w ≤ (9223372036854775807 : Int) := by first | assumption | omega | (simp_all; done)
    have o5 : (0 : Int) ≤ (↑(w.toNat - u.toNat) : Int) ∨ (0 : Int) ≤ (0 : Int) := by first | assumption | omega | (simp_all; done)
    cases h2 : L33ax.run g u w 0 0 0 with
    | e0 h2d0 h2d1 =>
      exact Ret.of_run1 mix [(AV.agg ((AV.int IntKind.i64 (r33.v0 n g u w)) :: ((AV.int IntKind.i64 (r33.v1 n g u w)) :: ((AV.int IntKind.i64 (r33.v2 n g u w)) :: []))))] Try.func33 rfl [.b false, .virt [0] [], .loop (others 38 [6, 7, 27, 28, 29]) (Exit.exit 0) (L33ax.X n g u w (L33ax.O.e0 h2d0 h2d1)) (L33ax.XH n g u w (L33ax.O.e0 h2d0 h2d1))] (by simp) (by simp) (kmp (by kernel_rfl) (And.intro h1 (And.intro (And.intro o0 (And.intro o1 o2)) (And.intro trivial (And.intro (L33ax.e0 (n) (g) o3 (u) (w) o0 o1 o2 o4 (0) (0) (0) (And.intro (show (0 : Int) ≤ (0 : Int) by first | decide | exact Int.NonNeg.mk _) o5) h2d0 h2d1 h2) (And.intro (And.intro trivial (show (AV.agg [AV.int IntKind.i64 h2d0, AV.int IntKind.i64 h2d1, AV.int IntKind.i64 (IntKind.i64.wrap (w - u))]) = ((AV.agg ((AV.int IntKind.i64 (r33.v0 n g u w)) :: ((AV.int IntKind.i64 (r33.v1 n g u w)) :: ((AV.int IntKind.i64 (r33.v2 n g u w)) :: []))))) by first | (simp only [r33.v0, r33.v1, r33.v2, h1, h2, cond_true, cond_false]; done) | (try unfold r33.v0; try unfold r33.v1; try unfold r33.v2; try simp only [h1, cond_true, cond_false]; try simp only [h2, cond_true, cond_false]; try rfl; done) | rfl)) trivial)))))) h

inductive L17a.O where
  | e0 (a0 : Int) (a1 : Int)
noncomputable def L17a.T (n : Nat) (g : Nat → PD) (j1 : Int) (j2 : Int) (k : Nat) (p : Nat → PD) (u : Int) (w : Int) (a9 : Int) (ao2_0 : Int) (ao2_1 : Int) : List AV := mkT 58 [(2, AV.int IntKind.i64 w), (3, AV.ptr 0 1 4 0 0), (6, AV.ptr 1 1 2 0 0), (8, AV.ptr 2 1 2 0 0), (9, AV.int IntKind.i64 a9)]
noncomputable def L17a.H (n : Nat) (g : Nat → PD) (j1 : Int) (j2 : Int) (k : Nat) (p : Nat → PD) (u : Int) (w : Int) (a9 : Int) (ao2_0 : Int) (ao2_1 : Int) : AHeap := [AObj.var (AV.agg [AV.sl 2 n fun (i : Nat) => AV.agg [AV.int IntKind.i64 (g i).lo, AV.int IntKind.i64 (g i).hi], AV.int IntKind.i64 j1, AV.int IntKind.i64 j2, AV.sl 2 k fun (i : Nat) => AV.agg [AV.int IntKind.i64 (p i).lo, AV.int IntKind.i64 (p i).hi]]), AObj.var (AV.agg [AV.int IntKind.i64 0, AV.int IntKind.i64 0]), AObj.var (AV.agg [AV.int IntKind.i64 ao2_0, AV.int IntKind.i64 ao2_1])]
def L17a.inv (n : Nat) (g : Nat → PD) (j1 : Int) (j2 : Int) (k : Nat) (p : Nat → PD) (u : Int) (w : Int) (a9 : Int) (ao2_0 : Int) (ao2_1 : Int) : Prop := 0 ≤ a9 ∧ a9 ≤ w
noncomputable def L17a.mu (n : Nat) (g : Nat → PD) (j1 : Int) (j2 : Int) (k : Nat) (p : Nat → PD) (u : Int) (w : Int) (a9 : Int) (ao2_0 : Int) (ao2_1 : Int) : Nat := (w - a9).toNat
noncomputable def L17a.E : L17a.O → Exit
  | .e0 a0 a1 => Exit.exit 0
noncomputable def L17a.X (n : Nat) (g : Nat → PD) (j1 : Int) (j2 : Int) (k : Nat) (p : Nat → PD) (u : Int) (w : Int) : L17a.O → List AV
  | .e0 a0 a1 => mkT 58 [(6, (AV.ptr 1 1 2 0 0)), (8, (AV.ptr 2 1 2 0 0))]
noncomputable def L17a.XH (n : Nat) (g : Nat → PD) (j1 : Int) (j2 : Int) (k : Nat) (p : Nat → PD) (u : Int) (w : Int) : L17a.O → AHeap
  | .e0 a0 a1 => ((AObj.var (AV.agg [AV.sl 2 n fun (i : Nat) => AV.agg [AV.int IntKind.i64 (g i).lo, AV.int IntKind.i64 (g i).hi], AV.int IntKind.i64 j1, AV.int IntKind.i64 j2, AV.sl 2 k fun (i : Nat) => AV.agg [AV.int IntKind.i64 (p i).lo, AV.int IntKind.i64 (p i).hi]])) :: ((AObj.var (AV.agg [AV.int IntKind.i64 0, AV.int IntKind.i64 0])) :: ((AObj.var (AV.agg ((AV.int IntKind.i64 a0) :: ((AV.int IntKind.i64 a1) :: ([]))))) :: ([]))))
noncomputable def L17a.N (g : Nat → PD) (w : Int) : Nat → Int → Int → Int → L17a.O
  | 0, _, _, _ => .e0 default default
  | k_ + 1, a9, ao2_0, ao2_1 => (bif decide (a9 < w) then (L17a.N g w k_ (IntKind.i64.wrap (a9 + 1)) (IntKind.i64.wrap (ao2_0 + (g a9.toNat).lo)) (IntKind.i64.wrap (ao2_1 + (g a9.toNat).hi))) else (.e0 (ao2_0) (ao2_1)))
noncomputable def L17a.run (g : Nat → PD) (w : Int) (a9 : Int) (ao2_0 : Int) (ao2_1 : Int) : L17a.O := L17a.N g w (((w - a9).toNat) + 1) a9 ao2_0 ao2_1
def L17a.Next (n : Nat) (g : Nat → PD) (j1 : Int) (j2 : Int) (k : Nat) (p : Nat → PD) (u : Int) (w : Int) (k_ : Nat) (z_ : Int × Int × Int) (T_ : List AV) (h_ : AHeap) : Prop := LNextP (fun (z_ : Int × Int × Int) => L17a.T n g j1 j2 k p u w z_.1 z_.2.1 z_.2.2) (fun (z_ : Int × Int × Int) => L17a.H n g j1 j2 k p u w z_.1 z_.2.1 z_.2.2) (fun (z_ : Int × Int × Int) => L17a.inv n g j1 j2 k p u w z_.1 z_.2.1 z_.2.2) (fun (z_ : Int × Int × Int) => L17a.mu n g j1 j2 k p u w z_.1 z_.2.1 z_.2.2) (fun (k_ : Nat) (z_ : Int × Int × Int) => L17a.N g w k_ z_.1 z_.2.1 z_.2.2) k_ z_ T_ h_
def L17a.End (n : Nat) (g : Nat → PD) (j1 : Int) (j2 : Int) (k : Nat) (p : Nat → PD) (u : Int) (w : Int) (k_ : Nat) (z_ : Int × Int × Int) (e_ : Exit) (T_ : List AV) (h_ : AHeap) : Prop := LEndP (fun (z_ : Int × Int × Int) => L17a.H n g j1 j2 k p u w z_.1 z_.2.1 z_.2.2) (fun (k_ : Nat) (z_ : Int × Int × Int) => L17a.N g w k_ z_.1 z_.2.1 z_.2.2) L17a.E (L17a.X n g j1 j2 k p u w) (L17a.XH n g j1 j2 k p u w) k_ z_ e_ T_ h_
theorem L17a.nx (n : Nat) (g : Nat → PD) (j1 : Int) (j2 : Int) (k : Nat) (p : Nat → PD) (u : Int) (w : Int) {k_ : Nat} {z_ : Int × Int × Int} {h_ : AHeap} (s_ : Int × Int × Int) (h1 : L17a.inv n g j1 j2 k p u w s_.1 s_.2.1 s_.2.2) (h2 : L17a.mu n g j1 j2 k p u w s_.1 s_.2.1 s_.2.2 < L17a.mu n g j1 j2 k p u w z_.1 z_.2.1 z_.2.2) (h3 : L17a.N g w k_ s_.1 s_.2.1 s_.2.2 = L17a.N g w (k_ + 1) z_.1 z_.2.1 z_.2.2) (h4 : PopOk (L17a.H n g j1 j2 k p u w z_.1 z_.2.1 z_.2.2) h_ (L17a.T n g j1 j2 k p u w s_.1 s_.2.1 s_.2.2) (L17a.H n g j1 j2 k p u w s_.1 s_.2.1 s_.2.2)) : LNextP (fun (z_ : Int × Int × Int) => L17a.T n g j1 j2 k p u w z_.1 z_.2.1 z_.2.2) (fun (z_ : Int × Int × Int) => L17a.H n g j1 j2 k p u w z_.1 z_.2.1 z_.2.2) (fun (z_ : Int × Int × Int) => L17a.inv n g j1 j2 k p u w z_.1 z_.2.1 z_.2.2) (fun (z_ : Int × Int × Int) => L17a.mu n g j1 j2 k p u w z_.1 z_.2.1 z_.2.2) (fun (k_ : Nat) (z_ : Int × Int × Int) => L17a.N g w k_ z_.1 z_.2.1 z_.2.2) k_ z_ (L17a.T n g j1 j2 k p u w s_.1 s_.2.1 s_.2.2) h_ := LNextP.mk (Tm := (fun (z_ : Int × Int × Int) => L17a.T n g j1 j2 k p u w z_.1 z_.2.1 z_.2.2)) (Hp := (fun (z_ : Int × Int × Int) => L17a.H n g j1 j2 k p u w z_.1 z_.2.1 z_.2.2)) (inv := (fun (z_ : Int × Int × Int) => L17a.inv n g j1 j2 k p u w z_.1 z_.2.1 z_.2.2)) (mu := (fun (z_ : Int × Int × Int) => L17a.mu n g j1 j2 k p u w z_.1 z_.2.1 z_.2.2)) (l := (fun (k_ : Nat) (z_ : Int × Int × Int) => L17a.N g w k_ z_.1 z_.2.1 z_.2.2)) s_ h1 h2 h3 h4
theorem L17a.en (n : Nat) (g : Nat → PD) (j1 : Int) (j2 : Int) (k : Nat) (p : Nat → PD) (u : Int) (w : Int) {k_ : Nat} {z_ : Int × Int × Int} {h_ : AHeap} (o_ : L17a.O) (h3 : L17a.N g w (k_ + 1) z_.1 z_.2.1 z_.2.2 = o_) (h4 : PopOk (L17a.H n g j1 j2 k p u w z_.1 z_.2.1 z_.2.2) h_ (L17a.X n g j1 j2 k p u w o_) (L17a.XH n g j1 j2 k p u w o_)) : LEndP (fun (z_ : Int × Int × Int) => L17a.H n g j1 j2 k p u w z_.1 z_.2.1 z_.2.2) (fun (k_ : Nat) (z_ : Int × Int × Int) => L17a.N g w k_ z_.1 z_.2.1 z_.2.2) L17a.E (L17a.X n g j1 j2 k p u w) (L17a.XH n g j1 j2 k p u w) k_ z_ (L17a.E o_) (L17a.X n g j1 j2 k p u w o_) h_ := LEndP.mk (Hp := (fun (z_ : Int × Int × Int) => L17a.H n g j1 j2 k p u w z_.1 z_.2.1 z_.2.2)) (l := (fun (k_ : Nat) (z_ : Int × Int × Int) => L17a.N g w k_ z_.1 z_.2.1 z_.2.2)) (oE := L17a.E) (oT := L17a.X n g j1 j2 k p u w) (oH := L17a.XH n g j1 j2 k p u w) o_ h3 h4
theorem L17a.spec (n : Nat) (g : Nat → PD) (hn : n ≤ 9223372036854775807) (j1 : Int) (j2 : Int) (k : Nat) (p : Nat → PD) (u : Int) (w : Int) (h0 : 0 ≤ u) (h1 : u ≤ w) (h2 : w ≤ (↑n : Int)) (h3 : w ≤ 9223372036854775807) (k_ : Nat) (z_ : Int × Int × Int) (hi_ : L17a.inv n g j1 j2 k p u w z_.1 z_.2.1 z_.2.2) (hm_ : L17a.mu n g j1 j2 k p u w z_.1 z_.2.1 z_.2.2 < k_) : LoopTo Try.prog (loopN Try.f17 0) (L17a.T n g j1 j2 k p u w z_.1 z_.2.1 z_.2.2) (L17a.H n g j1 j2 k p u w z_.1 z_.2.1 z_.2.2) (L17a.E (L17a.N g w k_ z_.1 z_.2.1 z_.2.2)) (L17a.X n g j1 j2 k p u w (L17a.N g w k_ z_.1 z_.2.1 z_.2.2)) (L17a.XH n g j1 j2 k p u w (L17a.N g w k_ z_.1 z_.2.1 z_.2.2)) := by
  refine LoopTo.fuelP mix (fun (z_ : Int × Int × Int) => L17a.T n g j1 j2 k p u w z_.1 z_.2.1 z_.2.2) (fun (z_ : Int × Int × Int) => L17a.H n g j1 j2 k p u w z_.1 z_.2.1 z_.2.2) (fun (z_ : Int × Int × Int) => L17a.inv n g j1 j2 k p u w z_.1 z_.2.1 z_.2.2) (fun (z_ : Int × Int × Int) => L17a.mu n g j1 j2 k p u w z_.1 z_.2.1 z_.2.2) (fun (k_ : Nat) (z_ : Int × Int × Int) => L17a.N g w k_ z_.1 z_.2.1 z_.2.2) L17a.E (L17a.X n g j1 j2 k p u w) (L17a.XH n g j1 j2 k p u w) (others 58 [2, 3, 6, 8, 9]) (others 58 [6]) (others 58 [6, 8]) ?_ k_ z_ hi_ hm_
  clear hm_ hi_ z_ k_
  intro k_ z_ hinv hmu
  obtain ⟨a9, ao2_0, ao2_1⟩ := z_
  have hinv : 0 ≤ a9 ∧ a9 ≤ w := hinv
  have hmu : ((w - a9).toNat) < k_ + 1 := hmu
  cases h1 : decide (a9 < w) with
  | true =>
    have h1p := of_decide_eq_true h1
    have o0 : (0 : Int) ≤ a9 := by first | assumption | omega | (simp_all; done)
    have o1 : a9 < (↑n : Int) := by first | assumption | omega | (simp_all; done)
    try have := IntWalk.i64_in (a9 + 1) (by omega)
    have o2 : (0 : Int) ≤ IntKind.i64.wrap (a9 + (1 : Int)) := by first | assumption | omega | (simp_all; done)
    have o3 : IntKind.i64.wrap (a9 + (1 : Int)) ≤ w := by first | assumption | omega | (simp_all; done)
    have o4 : (w - IntKind.i64.wrap (a9 + (1 : Int))).toNat < (w - a9).toNat := by first | assumption | omega | (simp_all; done)
    exact ⟨[.b true], kmp (by kernel_rfl) (And.intro h1 (And.intro (And.intro o0 o1) (And.intro (And.intro o0 o1) (L17a.nx n g j1 j2 k p u w (k_ := k_) (z_ := (a9, ao2_0, ao2_1)) ((IntKind.i64.wrap (a9 + 1), IntKind.i64.wrap (ao2_0 + (g a9.toNat).lo), IntKind.i64.wrap (ao2_1 + (g a9.toNat).hi))) (And.intro o2 o3) o4 (by first | (simp only [L17a.N, h1, cond_true, cond_false]; done) | (try unfold L17a.N; try simp only [h1, cond_true, cond_false]; try rfl; done)) PopOk.same))))⟩
  | false =>
    have h1p := of_decide_eq_false h1
    exact ⟨[.b false], kmp (by kernel_rfl) (And.intro h1 (L17a.en n g j1 j2 k p u w (k_ := k_) (z_ := (a9, ao2_0, ao2_1)) (.e0 (ao2_0) (ao2_1) : L17a.O) (by first | (simp only [L17a.N, h1, cond_true, cond_false]; done) | (try unfold L17a.N; try simp only [h1, cond_true, cond_false]; try rfl; done)) PopOk.same))⟩
theorem L17a.e0 (n : Nat) (g : Nat → PD) (hn : n ≤ 9223372036854775807) (j1 : Int) (j2 : Int) (k : Nat) (p : Nat → PD) (u : Int) (w : Int) (h0 : 0 ≤ u) (h1 : u ≤ w) (h2 : w ≤ (↑n : Int)) (h3 : w ≤ 9223372036854775807) (a9 : Int) (ao2_0 : Int) (ao2_1 : Int) (hinv : L17a.inv n g j1 j2 k p u w a9 ao2_0 ao2_1) (a0 : Int) (a1 : Int) (hN : L17a.run g w a9 ao2_0 ao2_1 = (.e0 a0 a1 : L17a.O)) : LoopTo Try.prog (loopN Try.f17 0) (L17a.T n g j1 j2 k p u w a9 ao2_0 ao2_1) (L17a.H n g j1 j2 k p u w a9 ao2_0 ao2_1) (Exit.exit 0) (L17a.X n g j1 j2 k p u w (.e0 a0 a1 : L17a.O)) (L17a.XH n g j1 j2 k p u w (.e0 a0 a1 : L17a.O)) := by
  have h_ := L17a.spec n g hn j1 j2 k p u w h0 h1 h2 h3 (((w - a9).toNat) + 1) (a9, ao2_0, ao2_1) hinv (Nat.lt_succ_self _)
  unfold L17a.run at hN
  simp only [hN] at h_
  exact h_

noncomputable def r17.v0 (n : Nat) (g : Nat → PD) (j1 : Int) (j2 : Int) (u : Int) (w : Int) : Int := (bif w == (↑n : Int) then (match L17a.run g w u (IntKind.i64.wrap (IntKind.i64.wrap (IntKind.i64.wrap (w - u) - 1) * j1)) (IntKind.i64.wrap (IntKind.i64.wrap (IntKind.i64.wrap (w - u) - 1) * j2)) with | .e0 h2d0 h2d1 => h2d0 ) else (match L17a.run g w u (IntKind.i64.wrap (IntKind.i64.wrap (w - u) * j1)) (IntKind.i64.wrap (IntKind.i64.wrap (w - u) * j2)) with | .e0 h2d0 h2d1 => h2d0 ))
noncomputable def r17.v1 (n : Nat) (g : Nat → PD) (j1 : Int) (j2 : Int) (u : Int) (w : Int) : Int := (bif w == (↑n : Int) then (match L17a.run g w u (IntKind.i64.wrap (IntKind.i64.wrap (IntKind.i64.wrap (w - u) - 1) * j1)) (IntKind.i64.wrap (IntKind.i64.wrap (IntKind.i64.wrap (w - u) - 1) * j2)) with | .e0 h2d0 h2d1 => h2d1 ) else (match L17a.run g w u (IntKind.i64.wrap (IntKind.i64.wrap (w - u) * j1)) (IntKind.i64.wrap (IntKind.i64.wrap (w - u) * j2)) with | .e0 h2d0 h2d1 => h2d1 ))
theorem r17 (n : Nat) (g : Nat → PD) (hn : n ≤ 9223372036854775807) (j1 : Int) (j2 : Int) (k : Nat) (p : Nat → PD) (u : Int) (w : Int) (h0 : 0 ≤ u) (h1 : u ≤ w) (h2 : w ≤ (↑n : Int)) (h3 : w ≤ 9223372036854775807) (h : AHeap) : Ret Try.prog 17 ([rn n g j1 j2 k p, AV.int IntKind.i64 u, AV.int IntKind.i64 w]) h (AV.agg ((AV.int IntKind.i64 (r17.v0 n g j1 j2 u w)) :: ((AV.int IntKind.i64 (r17.v1 n g j1 j2 u w)) :: []))) h := by
  cases h1 : w == (↑n : Int) with
  | true =>
    have h1p := eq_of_beq h1
    have o0 : n ≤ (9223372036854775807 : Nat) := by first | assumption | omega | (simp_all; done)
    have o1 : (0 : Int) ≤ u := by first | assumption | omega | (simp_all; done)
    have o2 : u ≤ w := by first | assumption | omega | (simp_all; done)
    have o3 : w ≤ (↑n : Int) := by first | assumption | omega | (simp_all; done)
    have o4 : w ≤ (9223372036854775807 : Int) := by first | assumption | omega | (simp_all; done)
    cases h2 : L17a.run g w u (IntKind.i64.wrap (IntKind.i64.wrap (IntKind.i64.wrap (w - u) - 1) * j1)) (IntKind.i64.wrap (IntKind.i64.wrap (IntKind.i64.wrap (w - u) - 1) * j2)) with
    | e0 h2d0 h2d1 =>
      exact Ret.of_run1 mix [(AV.agg ((AV.int IntKind.i64 (r17.v0 n g j1 j2 u w)) :: ((AV.int IntKind.i64 (r17.v1 n g j1 j2 u w)) :: [])))] Try.func17 rfl [.b true, .loop (others 58 [2, 3, 6, 8, 9]) (Exit.exit 0) (L17a.X n g j1 j2 k p u w (L17a.O.e0 h2d0 h2d1)) (L17a.XH n g j1 j2 k p u w (L17a.O.e0 h2d0 h2d1))] (by simp) (by simp) (kmp (by kernel_rfl) (And.intro h1 (And.intro (L17a.e0 (n) (g) o0 (j1) (j2) (k) (p) (u) (w) o1 o2 o3 o4 (u) (IntKind.i64.wrap (IntKind.i64.wrap (IntKind.i64.wrap (w - u) - 1) * j1)) (IntKind.i64.wrap (IntKind.i64.wrap (IntKind.i64.wrap (w - u) - 1) * j2)) (And.intro o1 o2) h2d0 h2d1 h2) (And.intro (And.intro trivial (show (AV.agg [AV.int IntKind.i64 h2d0, AV.int IntKind.i64 h2d1]) = ((AV.agg ((AV.int IntKind.i64 (r17.v0 n g j1 j2 u w)) :: ((AV.int IntKind.i64 (r17.v1 n g j1 j2 u w)) :: [])))) by first | (simp only [r17.v0, r17.v1, h1, h2, cond_true, cond_false]; done) | (try unfold r17.v0; try unfold r17.v1; try simp only [h1, cond_true, cond_false]; try simp only [h2, cond_true, cond_false]; try rfl; done) | rfl)) trivial)))) h
  | false =>
    have h1p := ne_of_beq_false h1
    have o0 : n ≤ (9223372036854775807 : Nat) := by first | assumption | omega | (simp_all; done)
    have o1 : (0 : Int) ≤ u := by first | assumption | omega | (simp_all; done)
    have o2 : u ≤ w := by first | assumption | omega | (simp_all; done)
    have o3 : w ≤ (↑n : Int) := by first | assumption | omega | (simp_all; done)
    have o4 : w ≤ (9223372036854775807 : Int) := by first | assumption | omega | (simp_all; done)
    cases h2 : L17a.run g w u (IntKind.i64.wrap (IntKind.i64.wrap (w - u) * j1)) (IntKind.i64.wrap (IntKind.i64.wrap (w - u) * j2)) with
    | e0 h2d0 h2d1 =>
      exact Ret.of_run1 mix [(AV.agg ((AV.int IntKind.i64 (r17.v0 n g j1 j2 u w)) :: ((AV.int IntKind.i64 (r17.v1 n g j1 j2 u w)) :: [])))] Try.func17 rfl [.b false, .loop (others 58 [2, 3, 6, 8, 9]) (Exit.exit 0) (L17a.X n g j1 j2 k p u w (L17a.O.e0 h2d0 h2d1)) (L17a.XH n g j1 j2 k p u w (L17a.O.e0 h2d0 h2d1))] (by simp) (by simp) (kmp (by kernel_rfl) (And.intro h1 (And.intro (L17a.e0 (n) (g) o0 (j1) (j2) (k) (p) (u) (w) o1 o2 o3 o4 (u) (IntKind.i64.wrap (IntKind.i64.wrap (w - u) * j1)) (IntKind.i64.wrap (IntKind.i64.wrap (w - u) * j2)) (And.intro o1 o2) h2d0 h2d1 h2) (And.intro (And.intro trivial (show (AV.agg [AV.int IntKind.i64 h2d0, AV.int IntKind.i64 h2d1]) = ((AV.agg ((AV.int IntKind.i64 (r17.v0 n g j1 j2 u w)) :: ((AV.int IntKind.i64 (r17.v1 n g j1 j2 u w)) :: [])))) by first | (simp only [r17.v0, r17.v1, h1, h2, cond_true, cond_false]; done) | (try unfold r17.v0; try unfold r17.v1; try simp only [h1, cond_true, cond_false]; try simp only [h2, cond_true, cond_false]; try rfl; done) | rfl)) trivial)))) h

noncomputable def r13.v0 (n : Nat) (g : Nat → PD) (j1 : Int) (j2 : Int) (k : Nat) (p : Nat → PD) (u : Int) (w : Int) : Int := (bif r16.v n g j1 j2 k p == 0 then (bif decide (u < 0) then 0 else (bif decide (w > (↑n : Int)) then 0 else (bif decide (u ≥ w) then 0 else IntKind.i64.wrap (r33.v0 n g u w + IntKind.i64.wrap (r33.v2 n g u w * j1))))) else 0)
noncomputable def r13.v1 (n : Nat) (g : Nat → PD) (j1 : Int) (j2 : Int) (k : Nat) (p : Nat → PD) (u : Int) (w : Int) : Int := (bif r16.v n g j1 j2 k p == 0 then (bif decide (u < 0) then 0 else (bif decide (w > (↑n : Int)) then 0 else (bif decide (u ≥ w) then 0 else IntKind.i64.wrap (r33.v1 n g u w + IntKind.i64.wrap (r33.v2 n g u w * j2))))) else 0)
noncomputable def r13.v2 (n : Nat) (g : Nat → PD) (j1 : Int) (j2 : Int) (k : Nat) (p : Nat → PD) (u : Int) (w : Int) : Int := (bif r16.v n g j1 j2 k p == 0 then (bif decide (u < 0) then 6 else (bif decide (w > (↑n : Int)) then 6 else (bif decide (u ≥ w) then 6 else 0))) else r16.v n g j1 j2 k p)
noncomputable abbrev r13.h0 (n : Nat) (g : Nat → PD) (j1 : Int) (j2 : Int) (k : Nat) (p : Nat → PD) (u : Int) (w : Int) : AHeap := ([AObj.var (AV.agg [AV.sl 2 n fun (i : Nat) => AV.agg [AV.int IntKind.i64 (g i).lo, AV.int IntKind.i64 (g i).hi], AV.int IntKind.i64 j1, AV.int IntKind.i64 j2, AV.sl 2 k fun (i : Nat) => AV.agg [AV.int IntKind.i64 (p i).lo, AV.int IntKind.i64 (p i).hi]]), AObj.var (AV.agg [AV.int IntKind.i64 0, AV.int IntKind.i64 0])])
theorem r13 (n : Nat) (g : Nat → PD) (hn : n ≤ 9223372036854775807) (j1 : Int) (j2 : Int) (k : Nat) (p : Nat → PD) (hk : k ≤ 9223372036854775807) (u : Int) (w : Int) (h : AHeap) : Ret Try.prog 13 ([rn n g j1 j2 k p, AV.int IntKind.i64 u, AV.int IntKind.i64 w]) h (AV.tup [(AV.agg ((AV.int IntKind.i64 (r13.v0 n g j1 j2 k p u w)) :: ((AV.int IntKind.i64 (r13.v1 n g j1 j2 k p u w)) :: []))), (AV.int IntKind.i64 (r13.v2 n g j1 j2 k p u w))]) h := by
  have o0 : n ≤ (9223372036854775807 : Nat) := by first | assumption | omega | (simp_all; done)
  have o1 : k ≤ (9223372036854775807 : Nat) := by first | assumption | omega | (simp_all; done)
  cases h1 : r16.v n g j1 j2 k p == 0 with
  | true =>
    have h1p := eq_of_beq h1
    cases h2 : decide (u < 0) with
    | true =>
      have h2p := of_decide_eq_true h2
      exact Ret.of_run1 mix [(AV.agg ((AV.int IntKind.i64 (r13.v0 n g j1 j2 k p u w)) :: ((AV.int IntKind.i64 (r13.v1 n g j1 j2 k p u w)) :: []))), (AV.int IntKind.i64 (r13.v2 n g j1 j2 k p u w))] Try.func13 rfl [.ret (AV.int IntKind.i64 (r16.v n g j1 j2 k p)) (r13.h0 n g j1 j2 k p u w), .b false, .b true, .b true, .b true, .b true, .b true, .b true, .b true, .b true, .b true, .b true, .b true] (by simp) (by simp) (kmp (by kernel_rfl) (And.intro (r16 (n) (g) o0 (j1) (j2) (k) (p) o1 (r13.h0 n g j1 j2 k p u w)) (And.intro (show (bnot (r16.v n g j1 j2 k p == 0)) = false by rw [h1]; try rfl) (And.intro h2 (And.intro h2 (And.intro h2 (And.intro h2 (And.intro h2 (And.intro h2 (And.intro (rfl : true = true) (And.intro (rfl : true = true) (And.intro (rfl : true = true) (And.intro (rfl : true = true) (And.intro (rfl : true = true) (And.intro (And.intro trivial (show (AV.agg [AV.int IntKind.i64 0, AV.int IntKind.i64 0]) = ((AV.agg ((AV.int IntKind.i64 (r13.v0 n g j1 j2 k p u w)) :: ((AV.int IntKind.i64 (r13.v1 n g j1 j2 k p u w)) :: [])))) by first | (simp only [r13.v0, r13.v1, r13.v2, h1, h2, cond_true, cond_false]; done) | (try unfold r13.v0; try unfold r13.v1; try unfold r13.v2; try simp only [h1, cond_true, cond_false]; try simp only [h2, cond_true, cond_false]; try rfl; done) | rfl)) (And.intro (show (AV.int IntKind.i64 6) = ((AV.int IntKind.i64 (r13.v2 n g j1 j2 k p u w))) by first | (simp only [r13.v0, r13.v1, r13.v2, h1, h2, cond_true, cond_false]; done) | (try unfold r13.v0; try unfold r13.v1; try unfold r13.v2; try simp only [h1, cond_true, cond_false]; try simp only [h2, cond_true, cond_false]; try rfl; done) | rfl) trivial)))))))))))))))) h
    | false =>
      have h2p := of_decide_eq_false h2
      cases h3 : decide (w > (↑n : Int)) with
      | true =>
        have h3p := of_decide_eq_true h3
        exact Ret.of_run1 mix [(AV.agg ((AV.int IntKind.i64 (r13.v0 n g j1 j2 k p u w)) :: ((AV.int IntKind.i64 (r13.v1 n g j1 j2 k p u w)) :: []))), (AV.int IntKind.i64 (r13.v2 n g j1 j2 k p u w))] Try.func13 rfl [.ret (AV.int IntKind.i64 (r16.v n g j1 j2 k p)) (r13.h0 n g j1 j2 k p u w), .b false, .b false, .b false, .b false, .b false, .b false, .b false, .b true, .b true, .b true, .b true, .b true] (by simp) (by simp) (kmp (by kernel_rfl) (And.intro (r16 (n) (g) o0 (j1) (j2) (k) (p) o1 (r13.h0 n g j1 j2 k p u w)) (And.intro (show (bnot (r16.v n g j1 j2 k p == 0)) = false by rw [h1]; try rfl) (And.intro h2 (And.intro h2 (And.intro h2 (And.intro h2 (And.intro h2 (And.intro h2 (And.intro h3 (And.intro h3 (And.intro h3 (And.intro h3 (And.intro (rfl : true = true) (And.intro (And.intro trivial (show (AV.agg [AV.int IntKind.i64 0, AV.int IntKind.i64 0]) = ((AV.agg ((AV.int IntKind.i64 (r13.v0 n g j1 j2 k p u w)) :: ((AV.int IntKind.i64 (r13.v1 n g j1 j2 k p u w)) :: [])))) by first | (simp only [r13.v0, r13.v1, r13.v2, h1, h2, h3, cond_true, cond_false]; done) | (try unfold r13.v0; try unfold r13.v1; try unfold r13.v2; try simp only [h1, cond_true, cond_false]; try simp only [h2, cond_true, cond_false]; try simp only [h3, cond_true, cond_false]; try rfl; done) | rfl)) (And.intro (show (AV.int IntKind.i64 6) = ((AV.int IntKind.i64 (r13.v2 n g j1 j2 k p u w))) by first | (simp only [r13.v0, r13.v1, r13.v2, h1, h2, h3, cond_true, cond_false]; done) | (try unfold r13.v0; try unfold r13.v1; try unfold r13.v2; try simp only [h1, cond_true, cond_false]; try simp only [h2, cond_true, cond_false]; try simp only [h3, cond_true, cond_false]; try rfl; done) | rfl) trivial)))))))))))))))) h
      | false =>
        have h3p := of_decide_eq_false h3
        cases h4 : decide (u ≥ w) with
        | true =>
          have h4p := of_decide_eq_true h4
          exact Ret.of_run1 mix [(AV.agg ((AV.int IntKind.i64 (r13.v0 n g j1 j2 k p u w)) :: ((AV.int IntKind.i64 (r13.v1 n g j1 j2 k p u w)) :: []))), (AV.int IntKind.i64 (r13.v2 n g j1 j2 k p u w))] Try.func13 rfl [.ret (AV.int IntKind.i64 (r16.v n g j1 j2 k p)) (r13.h0 n g j1 j2 k p u w), .b false, .b false, .b false, .b false, .b false, .b false, .b false, .b false, .b false, .b false, .b false, .b true] (by simp) (by simp) (kmp (by kernel_rfl) (And.intro (r16 (n) (g) o0 (j1) (j2) (k) (p) o1 (r13.h0 n g j1 j2 k p u w)) (And.intro (show (bnot (r16.v n g j1 j2 k p == 0)) = false by rw [h1]; try rfl) (And.intro h2 (And.intro h2 (And.intro h2 (And.intro h2 (And.intro h2 (And.intro h2 (And.intro h3 (And.intro h3 (And.intro h3 (And.intro h3 (And.intro h4 (And.intro (And.intro trivial (show (AV.agg [AV.int IntKind.i64 0, AV.int IntKind.i64 0]) = ((AV.agg ((AV.int IntKind.i64 (r13.v0 n g j1 j2 k p u w)) :: ((AV.int IntKind.i64 (r13.v1 n g j1 j2 k p u w)) :: [])))) by first | (simp only [r13.v0, r13.v1, r13.v2, h1, h2, h3, h4, cond_true, cond_false]; done) | (try unfold r13.v0; try unfold r13.v1; try unfold r13.v2; try simp only [h1, cond_true, cond_false]; try simp only [h2, cond_true, cond_false]; try simp only [h3, cond_true, cond_false]; try simp only [h4, cond_true, cond_false]; try rfl; done) | rfl)) (And.intro (show (AV.int IntKind.i64 6) = ((AV.int IntKind.i64 (r13.v2 n g j1 j2 k p u w))) by first | (simp only [r13.v0, r13.v1, r13.v2, h1, h2, h3, h4, cond_true, cond_false]; done) | (try unfold r13.v0; try unfold r13.v1; try unfold r13.v2; try simp only [h1, cond_true, cond_false]; try simp only [h2, cond_true, cond_false]; try simp only [h3, cond_true, cond_false]; try simp only [h4, cond_true, cond_false]; try rfl; done) | rfl) trivial)))))))))))))))) h
        | false =>
          have h4p := of_decide_eq_false h4
          have o2 : (0 : Int) ≤ u := by first | assumption | omega | (simp_all; done)
          have o3 : u ≤ w := by first | assumption | omega | (simp_all; done)
          have o4 : w ≤ (↑n : Int) := by first | assumption | omega | (simp_all; done)
          have o5 : w ≤ (9223372036854775807 : Int) := by first | assumption | omega | (simp_all; done)
          exact Ret.of_run1 mix [(AV.agg ((AV.int IntKind.i64 (r13.v0 n g j1 j2 k p u w)) :: ((AV.int IntKind.i64 (r13.v1 n g j1 j2 k p u w)) :: []))), (AV.int IntKind.i64 (r13.v2 n g j1 j2 k p u w))] Try.func13 rfl [.ret (AV.int IntKind.i64 (r16.v n g j1 j2 k p)) (r13.h0 n g j1 j2 k p u w), .b false, .b false, .b false, .b false, .b false, .b false, .b false, .b false, .b false, .b false, .b false, .b false, .ret (AV.agg [AV.int IntKind.i64 (r33.v0 n g u w), AV.int IntKind.i64 (r33.v1 n g u w), AV.int IntKind.i64 (r33.v2 n g u w)]) (r13.h0 n g j1 j2 k p u w)] (by simp) (by simp) (kmp (by kernel_rfl) (And.intro (r16 (n) (g) o0 (j1) (j2) (k) (p) o1 (r13.h0 n g j1 j2 k p u w)) (And.intro (show (bnot (r16.v n g j1 j2 k p == 0)) = false by rw [h1]; try rfl) (And.intro h2 (And.intro h2 (And.intro h2 (And.intro h2 (And.intro h2 (And.intro h2 (And.intro h3 (And.intro h3 (And.intro h3 (And.intro h3 (And.intro h4 (And.intro (r33 (n) (g) o0 (j1) (j2) (k) (p) (u) (w) o2 o3 o4 o5 (r13.h0 n g j1 j2 k p u w)) (And.intro (And.intro trivial (show (AV.agg [AV.int IntKind.i64 (IntKind.i64.wrap (r33.v0 n g u w + IntKind.i64.wrap (r33.v2 n g u w * j1))), AV.int IntKind.i64 (IntKind.i64.wrap (r33.v1 n g u w + IntKind.i64.wrap (r33.v2 n g u w * j2)))]) = ((AV.agg ((AV.int IntKind.i64 (r13.v0 n g j1 j2 k p u w)) :: ((AV.int IntKind.i64 (r13.v1 n g j1 j2 k p u w)) :: [])))) by first | (simp only [r13.v0, r13.v1, r13.v2, h1, h2, h3, h4, cond_true, cond_false]; done) | (try unfold r13.v0; try unfold r13.v1; try unfold r13.v2; try simp only [h1, cond_true, cond_false]; try simp only [h2, cond_true, cond_false]; try simp only [h3, cond_true, cond_false]; try simp only [h4, cond_true, cond_false]; try rfl; done) | rfl)) (And.intro (show (AV.int IntKind.i64 0) = ((AV.int IntKind.i64 (r13.v2 n g j1 j2 k p u w))) by first | (simp only [r13.v0, r13.v1, r13.v2, h1, h2, h3, h4, cond_true, cond_false]; done) | (try unfold r13.v0; try unfold r13.v1; try unfold r13.v2; try simp only [h1, cond_true, cond_false]; try simp only [h2, cond_true, cond_false]; try simp only [h3, cond_true, cond_false]; try simp only [h4, cond_true, cond_false]; try rfl; done) | rfl) trivial))))))))))))))))) h
  | false =>
    have h1p := ne_of_beq_false h1
    exact Ret.of_run1 mix [(AV.agg ((AV.int IntKind.i64 (r13.v0 n g j1 j2 k p u w)) :: ((AV.int IntKind.i64 (r13.v1 n g j1 j2 k p u w)) :: []))), (AV.int IntKind.i64 (r13.v2 n g j1 j2 k p u w))] Try.func13 rfl [.ret (AV.int IntKind.i64 (r16.v n g j1 j2 k p)) (r13.h0 n g j1 j2 k p u w), .b true] (by simp) (by simp) (kmp (by kernel_rfl) (And.intro (r16 (n) (g) o0 (j1) (j2) (k) (p) o1 (r13.h0 n g j1 j2 k p u w)) (And.intro (show (bnot (r16.v n g j1 j2 k p == 0)) = true by rw [h1]; try rfl) (And.intro (And.intro trivial (show (AV.agg [AV.int IntKind.i64 0, AV.int IntKind.i64 0]) = ((AV.agg ((AV.int IntKind.i64 (r13.v0 n g j1 j2 k p u w)) :: ((AV.int IntKind.i64 (r13.v1 n g j1 j2 k p u w)) :: [])))) by first | (simp only [r13.v0, r13.v1, r13.v2, h1, cond_true, cond_false]; done) | (try unfold r13.v0; try unfold r13.v1; try unfold r13.v2; try simp only [h1, cond_true, cond_false]; try rfl; done) | rfl)) (And.intro (show (AV.int IntKind.i64 (r16.v n g j1 j2 k p)) = ((AV.int IntKind.i64 (r13.v2 n g j1 j2 k p u w))) by first | (simp only [r13.v0, r13.v1, r13.v2, h1, cond_true, cond_false]; done) | (try unfold r13.v0; try unfold r13.v1; try unfold r13.v2; try simp only [h1, cond_true, cond_false]; try rfl; done) | rfl) trivial))))) h

inductive L42a.O where
  | e0 (a0 : Nat) (a1 : List PT) (a2 : Int) (a3 : Int)
noncomputable def L42a.T (k : Nat) (p : Nat → PD) (av3 : Nat) (al3 : List PT) (a11 : Int) (ao1_0 : Int) (ao1_1 : Int) : List AV := mkT 31 [(3, AV.ms 2 av3 3 0 (List.map PT.av al3).length), (4, AV.ptr 1 1 2 0 0), (9, AV.sl 2 k fun (i : Nat) => AV.agg [AV.int IntKind.i64 (p i).lo, AV.int IntKind.i64 (p i).hi]), (10, AV.int IntKind.i64 (↑k : Int)), (11, AV.int IntKind.i64 a11)]
noncomputable def L42a.H (k : Nat) (p : Nat → PD) (av3 : Nat) (al3 : List PT) (a11 : Int) (ao1_0 : Int) (ao1_1 : Int) : AHeap := [AObj.dead, AObj.var (AV.agg [AV.int IntKind.i64 ao1_0, AV.int IntKind.i64 ao1_1]), AObj.row 3 av3 (Col.recs (List.map PT.av al3))]
def L42a.inv (k : Nat) (p : Nat → PD) (av3 : Nat) (al3 : List PT) (a11 : Int) (ao1_0 : Int) (ao1_1 : Int) : Prop := 0 ≤ a11 ∧ (a11 ≤ (↑k : Int) ∨ a11 ≤ 0) ∧ (↑al3.length : Int) ≤ a11 - 0
noncomputable def L42a.mu (k : Nat) (p : Nat → PD) (av3 : Nat) (al3 : List PT) (a11 : Int) (ao1_0 : Int) (ao1_1 : Int) : Nat := ((↑k : Int) - a11).toNat
noncomputable def L42a.E : L42a.O → Exit
  | .e0 a0 a1 a2 a3 => Exit.exit 0
noncomputable def L42a.X (k : Nat) (p : Nat → PD) : L42a.O → List AV
  | .e0 a0 a1 a2 a3 => mkT 31 [(3, (AV.ms 2 a0 3 0 (List.length (List.map PT.av a1))))]
noncomputable def L42a.XH (k : Nat) (p : Nat → PD) : L42a.O → AHeap
  | .e0 a0 a1 a2 a3 => ((AObj.dead) :: ((AObj.var (AV.agg ((AV.int IntKind.i64 a2) :: ((AV.int IntKind.i64 a3) :: ([]))))) :: ((AObj.row 3 a0 (Col.recs (List.map PT.av a1))) :: ([]))))
noncomputable def L42a.N (k : Nat) (p : Nat → PD) : Nat → Nat → (List PT) → Int → Int → Int → L42a.O
  | 0, _, _, _, _, _ => .e0 default default default default
  | k_ + 1, av3, al3, a11, ao1_0, ao1_1 => (bif decide (a11 < (↑k : Int)) then (L42a.N k p k_ (av3 + 1) (PT.mk ao1_0 (p a11.toNat).lo (IntKind.i64.wrap ((p a11.toNat).hi - ao1_1)) :: al3) (IntKind.i64.wrap (a11 + 1)) ((p a11.toNat).lo) ((p a11.toNat).hi)) else (.e0 (av3) (al3) (ao1_0) (ao1_1)))
noncomputable def L42a.run (k : Nat) (p : Nat → PD) (av3 : Nat) (al3 : List PT) (a11 : Int) (ao1_0 : Int) (ao1_1 : Int) : L42a.O := L42a.N k p ((((↑k : Int) - a11).toNat) + 1) av3 al3 a11 ao1_0 ao1_1
def L42a.Next (k : Nat) (p : Nat → PD) (k_ : Nat) (z_ : Nat × (List PT) × Int × Int × Int) (T_ : List AV) (h_ : AHeap) : Prop := LNextP (fun (z_ : Nat × (List PT) × Int × Int × Int) => L42a.T k p z_.1 z_.2.1 z_.2.2.1 z_.2.2.2.1 z_.2.2.2.2) (fun (z_ : Nat × (List PT) × Int × Int × Int) => L42a.H k p z_.1 z_.2.1 z_.2.2.1 z_.2.2.2.1 z_.2.2.2.2) (fun (z_ : Nat × (List PT) × Int × Int × Int) => L42a.inv k p z_.1 z_.2.1 z_.2.2.1 z_.2.2.2.1 z_.2.2.2.2) (fun (z_ : Nat × (List PT) × Int × Int × Int) => L42a.mu k p z_.1 z_.2.1 z_.2.2.1 z_.2.2.2.1 z_.2.2.2.2) (fun (k_ : Nat) (z_ : Nat × (List PT) × Int × Int × Int) => L42a.N k p k_ z_.1 z_.2.1 z_.2.2.1 z_.2.2.2.1 z_.2.2.2.2) k_ z_ T_ h_
def L42a.End (k : Nat) (p : Nat → PD) (k_ : Nat) (z_ : Nat × (List PT) × Int × Int × Int) (e_ : Exit) (T_ : List AV) (h_ : AHeap) : Prop := LEndP (fun (z_ : Nat × (List PT) × Int × Int × Int) => L42a.H k p z_.1 z_.2.1 z_.2.2.1 z_.2.2.2.1 z_.2.2.2.2) (fun (k_ : Nat) (z_ : Nat × (List PT) × Int × Int × Int) => L42a.N k p k_ z_.1 z_.2.1 z_.2.2.1 z_.2.2.2.1 z_.2.2.2.2) L42a.E (L42a.X k p) (L42a.XH k p) k_ z_ e_ T_ h_
theorem L42a.nx (k : Nat) (p : Nat → PD) {k_ : Nat} {z_ : Nat × (List PT) × Int × Int × Int} {h_ : AHeap} (s_ : Nat × (List PT) × Int × Int × Int) (h1 : L42a.inv k p s_.1 s_.2.1 s_.2.2.1 s_.2.2.2.1 s_.2.2.2.2) (h2 : L42a.mu k p s_.1 s_.2.1 s_.2.2.1 s_.2.2.2.1 s_.2.2.2.2 < L42a.mu k p z_.1 z_.2.1 z_.2.2.1 z_.2.2.2.1 z_.2.2.2.2) (h3 : L42a.N k p k_ s_.1 s_.2.1 s_.2.2.1 s_.2.2.2.1 s_.2.2.2.2 = L42a.N k p (k_ + 1) z_.1 z_.2.1 z_.2.2.1 z_.2.2.2.1 z_.2.2.2.2) (h4 : PopOk (L42a.H k p z_.1 z_.2.1 z_.2.2.1 z_.2.2.2.1 z_.2.2.2.2) h_ (L42a.T k p s_.1 s_.2.1 s_.2.2.1 s_.2.2.2.1 s_.2.2.2.2) (L42a.H k p s_.1 s_.2.1 s_.2.2.1 s_.2.2.2.1 s_.2.2.2.2)) : LNextP (fun (z_ : Nat × (List PT) × Int × Int × Int) => L42a.T k p z_.1 z_.2.1 z_.2.2.1 z_.2.2.2.1 z_.2.2.2.2) (fun (z_ : Nat × (List PT) × Int × Int × Int) => L42a.H k p z_.1 z_.2.1 z_.2.2.1 z_.2.2.2.1 z_.2.2.2.2) (fun (z_ : Nat × (List PT) × Int × Int × Int) => L42a.inv k p z_.1 z_.2.1 z_.2.2.1 z_.2.2.2.1 z_.2.2.2.2) (fun (z_ : Nat × (List PT) × Int × Int × Int) => L42a.mu k p z_.1 z_.2.1 z_.2.2.1 z_.2.2.2.1 z_.2.2.2.2) (fun (k_ : Nat) (z_ : Nat × (List PT) × Int × Int × Int) => L42a.N k p k_ z_.1 z_.2.1 z_.2.2.1 z_.2.2.2.1 z_.2.2.2.2) k_ z_ (L42a.T k p s_.1 s_.2.1 s_.2.2.1 s_.2.2.2.1 s_.2.2.2.2) h_ := LNextP.mk (Tm := (fun (z_ : Nat × (List PT) × Int × Int × Int) => L42a.T k p z_.1 z_.2.1 z_.2.2.1 z_.2.2.2.1 z_.2.2.2.2)) (Hp := (fun (z_ : Nat × (List PT) × Int × Int × Int) => L42a.H k p z_.1 z_.2.1 z_.2.2.1 z_.2.2.2.1 z_.2.2.2.2)) (inv := (fun (z_ : Nat × (List PT) × Int × Int × Int) => L42a.inv k p z_.1 z_.2.1 z_.2.2.1 z_.2.2.2.1 z_.2.2.2.2)) (mu := (fun (z_ : Nat × (List PT) × Int × Int × Int) => L42a.mu k p z_.1 z_.2.1 z_.2.2.1 z_.2.2.2.1 z_.2.2.2.2)) (l := (fun (k_ : Nat) (z_ : Nat × (List PT) × Int × Int × Int) => L42a.N k p k_ z_.1 z_.2.1 z_.2.2.1 z_.2.2.2.1 z_.2.2.2.2)) s_ h1 h2 h3 h4
theorem L42a.en (k : Nat) (p : Nat → PD) {k_ : Nat} {z_ : Nat × (List PT) × Int × Int × Int} {h_ : AHeap} (o_ : L42a.O) (h3 : L42a.N k p (k_ + 1) z_.1 z_.2.1 z_.2.2.1 z_.2.2.2.1 z_.2.2.2.2 = o_) (h4 : PopOk (L42a.H k p z_.1 z_.2.1 z_.2.2.1 z_.2.2.2.1 z_.2.2.2.2) h_ (L42a.X k p o_) (L42a.XH k p o_)) : LEndP (fun (z_ : Nat × (List PT) × Int × Int × Int) => L42a.H k p z_.1 z_.2.1 z_.2.2.1 z_.2.2.2.1 z_.2.2.2.2) (fun (k_ : Nat) (z_ : Nat × (List PT) × Int × Int × Int) => L42a.N k p k_ z_.1 z_.2.1 z_.2.2.1 z_.2.2.2.1 z_.2.2.2.2) L42a.E (L42a.X k p) (L42a.XH k p) k_ z_ (L42a.E o_) (L42a.X k p o_) h_ := LEndP.mk (Hp := (fun (z_ : Nat × (List PT) × Int × Int × Int) => L42a.H k p z_.1 z_.2.1 z_.2.2.1 z_.2.2.2.1 z_.2.2.2.2)) (l := (fun (k_ : Nat) (z_ : Nat × (List PT) × Int × Int × Int) => L42a.N k p k_ z_.1 z_.2.1 z_.2.2.1 z_.2.2.2.1 z_.2.2.2.2)) (oE := L42a.E) (oT := L42a.X k p) (oH := L42a.XH k p) o_ h3 h4
theorem L42a.spec (k : Nat) (p : Nat → PD) (hk : k ≤ 30) (k_ : Nat) (z_ : Nat × (List PT) × Int × Int × Int) (hi_ : L42a.inv k p z_.1 z_.2.1 z_.2.2.1 z_.2.2.2.1 z_.2.2.2.2) (hm_ : L42a.mu k p z_.1 z_.2.1 z_.2.2.1 z_.2.2.2.1 z_.2.2.2.2 < k_) : LoopTo Try.prog (loopN Try.f42 0) (L42a.T k p z_.1 z_.2.1 z_.2.2.1 z_.2.2.2.1 z_.2.2.2.2) (L42a.H k p z_.1 z_.2.1 z_.2.2.1 z_.2.2.2.1 z_.2.2.2.2) (L42a.E (L42a.N k p k_ z_.1 z_.2.1 z_.2.2.1 z_.2.2.2.1 z_.2.2.2.2)) (L42a.X k p (L42a.N k p k_ z_.1 z_.2.1 z_.2.2.1 z_.2.2.2.1 z_.2.2.2.2)) (L42a.XH k p (L42a.N k p k_ z_.1 z_.2.1 z_.2.2.1 z_.2.2.2.1 z_.2.2.2.2)) := by
  refine LoopTo.fuelP mix (fun (z_ : Nat × (List PT) × Int × Int × Int) => L42a.T k p z_.1 z_.2.1 z_.2.2.1 z_.2.2.2.1 z_.2.2.2.2) (fun (z_ : Nat × (List PT) × Int × Int × Int) => L42a.H k p z_.1 z_.2.1 z_.2.2.1 z_.2.2.2.1 z_.2.2.2.2) (fun (z_ : Nat × (List PT) × Int × Int × Int) => L42a.inv k p z_.1 z_.2.1 z_.2.2.1 z_.2.2.2.1 z_.2.2.2.2) (fun (z_ : Nat × (List PT) × Int × Int × Int) => L42a.mu k p z_.1 z_.2.1 z_.2.2.1 z_.2.2.2.1 z_.2.2.2.2) (fun (k_ : Nat) (z_ : Nat × (List PT) × Int × Int × Int) => L42a.N k p k_ z_.1 z_.2.1 z_.2.2.1 z_.2.2.2.1 z_.2.2.2.2) L42a.E (L42a.X k p) (L42a.XH k p) (others 31 [3, 4, 9, 10, 11]) (others 31 [2]) (others 31 [3]) ?_ k_ z_ hi_ hm_
  clear hm_ hi_ z_ k_
  intro k_ z_ hinv hmu
  obtain ⟨av3, al3, a11, ao1_0, ao1_1⟩ := z_
  have hinv : 0 ≤ a11 ∧ (a11 ≤ (↑k : Int) ∨ a11 ≤ 0) ∧ (↑al3.length : Int) ≤ a11 - 0 := hinv
  have hmu : (((↑k : Int) - a11).toNat) < k_ + 1 := hmu
  cases h1 : decide (a11 < (↑k : Int)) with
  | true =>
    have h1p := of_decide_eq_true h1
    have o0 : (0 : Int) ≤ a11 := by first | assumption | omega | (simp_all; done)
    have o1 : a11 < (↑k : Int) := by first | assumption | omega | (simp_all; done)
    have o2 : ((List.map PT.av al3).length + (1 : Nat)) * (24 : Nat) ≤ (140737488355328 : Nat) := by first | assumption | omega | (simp only [List.length_append, List.length_cons, List.length_nil, List.length_map]; omega) | (simp_all; done)
    have o3 : (List.map PT.av al3).length = (Col.recs (List.map PT.av al3)).len := by first | assumption | omega | (simp only [List.length_append, List.length_cons, List.length_nil, List.length_map]; omega) | rfl | (exact Nat.le_refl _) | (simp [Col.len]; done) | (simp_all; done)
    try have := IntWalk.i64_in (a11 + 1) (by omega)
    have o4 : (0 : Int) ≤ IntKind.i64.wrap (a11 + (1 : Int)) := by first | assumption | omega | (simp_all; done)
    have o5 : IntKind.i64.wrap (a11 + (1 : Int)) ≤ (↑k : Int) ∨ IntKind.i64.wrap (a11 + (1 : Int)) ≤ (0 : Int) := by first | assumption | omega | (simp_all; done)
    try have := IntWalk.i64_in ((p a11.toNat).hi - ao1_1) (by omega)
    have o6 : (↑(PT.mk ao1_0 (p a11.toNat).lo (IntKind.i64.wrap ((p a11.toNat).hi - ao1_1)) :: al3).length : Int) ≤ IntKind.i64.wrap (a11 + (1 : Int)) - (0 : Int) := by first | assumption | omega | (simp only [List.length_append, List.length_cons, List.length_nil, List.length_map]; omega) | (simp_all; done)
    have o7 : ((↑k : Int) - IntKind.i64.wrap (a11 + (1 : Int))).toNat < ((↑k : Int) - a11).toNat := by first | assumption | omega | (simp_all; done)
    exact ⟨[.b true, .app .one false], kmp (by kernel_rfl) (And.intro h1 (And.intro (And.intro o0 o1) (And.intro (And.intro (show (3 : Nat) = (3 : Nat) by first | decide | exact Int.NonNeg.mk _) (And.intro (show AppMode.one.needs 1 fun (a : Nat) => (Col.ofList [AV.agg [AV.int IntKind.i64 ao1_0, AV.int IntKind.i64 (p a11.toNat).lo, AV.int IntKind.i64 (IntKind.i64.wrap ((p a11.toNat).hi - ao1_1))]]).get a by first | exact ⟨rfl, rfl⟩ | simp [AppMode.needs]) (And.intro o2 (And.intro (rfl : av3 = av3) (And.intro (show (0 : Nat) = (0 : Nat) by first | decide | exact Int.NonNeg.mk _) o3))))) (L42a.nx k p (k_ := k_) (z_ := (av3, al3, a11, ao1_0, ao1_1)) (h_ := [AObj.dead, AObj.var (AV.agg [AV.int IntKind.i64 (p a11.toNat).lo, AV.int IntKind.i64 (p a11.toNat).hi]), AObj.row 3 (av3 + 1) (Col.recs (AV.agg [AV.int IntKind.i64 ao1_0, AV.int IntKind.i64 (p a11.toNat).lo, AV.int IntKind.i64 (IntKind.i64.wrap ((p a11.toNat).hi - ao1_1))] :: List.map PT.av al3)), AObj.var (AV.agg [AV.int IntKind.i64 (p a11.toNat).lo, AV.int IntKind.i64 (p a11.toNat).hi])]) ((av3 + 1, PT.mk ao1_0 (p a11.toNat).lo (IntKind.i64.wrap ((p a11.toNat).hi - ao1_1)) :: al3, IntKind.i64.wrap (a11 + 1), (p a11.toNat).lo, (p a11.toNat).hi)) (And.intro o4 (And.intro o5 o6)) o7 (by first | (simp only [L42a.N, h1, cond_true, cond_false]; done) | (try unfold L42a.N; try simp only [h1, cond_true, cond_false]; try rfl; done)) (PopOk.popLow _ rfl rfl (by simp [L42a.T, L42a.X, L42a.H, L42a.XH]) (by simp [L42a.T, L42a.X, L42a.H, L42a.XH]))))))⟩
  | false =>
    have h1p := of_decide_eq_false h1
    exact ⟨[.b false], kmp (by kernel_rfl) (And.intro h1 (L42a.en k p (k_ := k_) (z_ := (av3, al3, a11, ao1_0, ao1_1)) (.e0 (av3) (al3) (ao1_0) (ao1_1) : L42a.O) (by first | (simp only [L42a.N, h1, cond_true, cond_false]; done) | (try unfold L42a.N; try simp only [h1, cond_true, cond_false]; try rfl; done)) PopOk.same))⟩
theorem L42a.e0 (k : Nat) (p : Nat → PD) (hk : k ≤ 30) (av3 : Nat) (al3 : List PT) (a11 : Int) (ao1_0 : Int) (ao1_1 : Int) (hinv : L42a.inv k p av3 al3 a11 ao1_0 ao1_1) (a0 : Nat) (a1 : List PT) (a2 : Int) (a3 : Int) (hN : L42a.run k p av3 al3 a11 ao1_0 ao1_1 = (.e0 a0 a1 a2 a3 : L42a.O)) : LoopTo Try.prog (loopN Try.f42 0) (L42a.T k p av3 al3 a11 ao1_0 ao1_1) (L42a.H k p av3 al3 a11 ao1_0 ao1_1) (Exit.exit 0) (L42a.X k p (.e0 a0 a1 a2 a3 : L42a.O)) (L42a.XH k p (.e0 a0 a1 a2 a3 : L42a.O)) := by
  have h_ := L42a.spec k p hk ((((↑k : Int) - a11).toNat) + 1) (av3, al3, a11, ao1_0, ao1_1) hinv (Nat.lt_succ_self _)
  unfold L42a.run at hN
  simp only [hN] at h_
  exact h_
theorem L42a.len0_1 (k : Nat) (p : Nat → PD) : ∀ (m_ : Nat) (av3 : Nat) (al3 : List PT) (a11 : Int) (ao1_0 : Int) (ao1_1 : Int) (a0_ : Nat) (a1_ : List PT) (a2_ : Int) (a3_ : Int), L42a.N k p m_ av3 al3 a11 ao1_0 ao1_1 = (.e0 a0_ a1_ a2_ a3_ : L42a.O) → (a1_).length ≤ (al3).length + m_ := by
  intro m_
  induction m_ with
  | zero =>
    intro av3 al3 a11 ao1_0 ao1_1 a0_ a1_ a2_ a3_ h_
    simp only [L42a.N] at h_
    cases h_
    exact Nat.zero_le _
  | succ m_ ih_ =>
    intro av3 al3 a11 ao1_0 ao1_1 a0_ a1_ a2_ a3_ h_
    cases h1 : decide (a11 < (↑k : Int)) with
    | true =>
      have h1p := of_decide_eq_true h1
      (simp only [L42a.N, h1, cond_true, cond_false] at h_; first | (have := ih_ _ _ _ _ _ _ _ _ _ h_; simp only [List.length_append, List.length_cons, List.length_nil] at this; omega) | (cases h_; done) | (cases h_; omega))
    | false =>
      have h1p := of_decide_eq_false h1
      (simp only [L42a.N, h1, cond_true, cond_false] at h_; first | (have := ih_ _ _ _ _ _ _ _ _ _ h_; simp only [List.length_append, List.length_cons, List.length_nil] at this; omega) | (cases h_; done) | (cases h_; omega))
theorem L42a.lenR0_1 (k : Nat) (p : Nat → PD) {av3 : Nat} {al3 : List PT} {a11 : Int} {ao1_0 : Int} {ao1_1 : Int} {a0_ : Nat} {a1_ : List PT} {a2_ : Int} {a3_ : Int} (h_ : L42a.run k p av3 al3 a11 ao1_0 ao1_1 = (.e0 a0_ a1_ a2_ a3_ : L42a.O)) : (a1_).length ≤ (al3).length + ((((↑k : Int) - a11).toNat) + 1) := L42a.len0_1 k p _ av3 al3 a11 ao1_0 ao1_1 a0_ a1_ a2_ a3_ h_

noncomputable def r42.v (k : Nat) (p : Nat → PD) : List PT := (match L42a.run k p 0 [] 0 0 0 with | .e0 h1d0 h1d1 h1d2 h1d3 => h1d1 )
theorem r42_ (n : Nat) (g : Nat → PD) (j1 : Int) (j2 : Int) (k : Nat) (p : Nat → PD) (hk : k ≤ 30) (h : AHeap) : Ret Try.prog 42 ([rn n g j1 j2 k p]) h (avRecs 3 (List.map PT.av (r42.v k p))) h := by
  have o0 : k ≤ (30 : Nat) := by first | assumption | omega | (simp_all; done)
  have o1 : (0 : Int) ≤ (↑k : Int) ∨ (0 : Int) ≤ (0 : Int) := by first | assumption | omega | (simp_all; done)
  cases h1 : L42a.run k p 0 [] 0 0 0 with
  | e0 h1d0 h1d1 h1d2 h1d3 =>
    try have := L42a.lenR0_1 _ _ (by assumption); (try simp only [List.length_nil] at this)
    have o2 : (0 : Nat) + (List.map PT.av h1d1).length ≤ (Col.recs (List.map PT.av h1d1)).len := by first | assumption | omega | (simp only [List.length_append, List.length_cons, List.length_nil, List.length_map]; omega) | rfl | (exact Nat.le_refl _) | (simp [Col.len]; done) | (simp_all; done)
    exact Ret.of_run1 mix [(avRecs 3 (List.map PT.av (r42.v k p)))] Try.func42 rfl [.virt [0] [(none, 3, 3, Col.recs [])], .loop (others 31 [3, 4, 9, 10, 11]) (Exit.exit 0) (L42a.X k p (L42a.O.e0 h1d0 h1d1 h1d2 h1d3)) (L42a.XH k p (L42a.O.e0 h1d0 h1d1 h1d2 h1d3))] (by simp) (by simp) (kmp (by kernel_rfl) (And.intro (And.intro (rfl : AV.snil = AV.snil) (And.intro (rfl : (0 : Nat) = 0) trivial)) (And.intro (L42a.e0 (k) (p) o0 (0) ([]) (0) (0) (0) (And.intro (show (0 : Int) ≤ (0 : Int) by first | decide | exact Int.NonNeg.mk _) (And.intro o1 (show (0 : Int) ≤ (0 : Int) by first | decide | exact Int.NonNeg.mk _))) h1d0 h1d1 h1d2 h1d3 h1) (And.intro (And.intro (rfl : h1d0 = h1d0) (And.intro (show (3 : Nat) = (3 : Nat) by first | decide | exact Int.NonNeg.mk _) (And.intro o2 (show ((avRecs 3 (List.map PT.av h1d1))) = ((avRecs 3 (List.map PT.av (r42.v k p)))) by first | (simp only [r42.v, h1, cond_true, cond_false]; done) | (try unfold r42.v; try simp only [h1, cond_true, cond_false]; try rfl; done) | rfl)))) trivial)))) h
theorem r42 (n : Nat) (g : Nat → PD) (j1 : Int) (j2 : Int) (k : Nat) (p : Nat → PD) (hk : k ≤ 30) (h : AHeap) : Ret Try.prog 42 ([rn n g j1 j2 k p]) h (recL 3 PT.av (r42.v k p)) h := (r42_ n g j1 j2 k p hk h).out imp_recL

inductive L21a.O where
  | e0
  | e1
noncomputable def L21a.T (n : Nat) (f : Nat → Int) (m : Nat) (g : Nat → Int) (a5 : Int) : List AV := mkT 26 [(0, AV.sl 1 n fun (i : Nat) => AV.int IntKind.i64 (f i)), (1, AV.sl 1 m fun (i : Nat) => AV.int IntKind.i64 (g i)), (5, AV.int IntKind.i64 a5)]
noncomputable def L21a.H (n : Nat) (f : Nat → Int) (m : Nat) (g : Nat → Int) (a5 : Int) : AHeap := []
def L21a.inv (n : Nat) (f : Nat → Int) (m : Nat) (g : Nat → Int) (a5 : Int) : Prop := 0 ≤ a5 ∧ (a5 ≤ (↑n : Int) ∨ a5 ≤ 0)
noncomputable def L21a.mu (n : Nat) (f : Nat → Int) (m : Nat) (g : Nat → Int) (a5 : Int) : Nat := ((↑n : Int) - a5).toNat
noncomputable def L21a.E : L21a.O → Exit
  | .e0 => Exit.ret
  | .e1 => Exit.exit 0
noncomputable def L21a.X (n : Nat) (f : Nat → Int) (m : Nat) (g : Nat → Int) : L21a.O → List AV
  | .e0 => mkT 26 [(4, (AV.bool false))]
  | .e1 => mkT 26 []
noncomputable def L21a.XH (n : Nat) (f : Nat → Int) (m : Nat) (g : Nat → Int) : L21a.O → AHeap
  | .e0 => ([])
  | .e1 => ([])
noncomputable def L21a.N (n : Nat) (f : Nat → Int) (g : Nat → Int) : Nat → Int → L21a.O
  | 0, _ => .e0
  | k_ + 1, a5 => (bif decide (a5 < (↑n : Int)) then (bif f a5.toNat == g a5.toNat then (L21a.N n f g k_ (IntKind.i64.wrap (a5 + 1))) else (.e0)) else (.e1))
noncomputable def L21a.run (n : Nat) (f : Nat → Int) (g : Nat → Int) (a5 : Int) : L21a.O := L21a.N n f g ((((↑n : Int) - a5).toNat) + 1) a5
def L21a.Next (n : Nat) (f : Nat → Int) (m : Nat) (g : Nat → Int) (k_ : Nat) (z_ : Int) (T_ : List AV) (h_ : AHeap) : Prop := LNextP (fun (z_ : Int) => L21a.T n f m g z_) (fun (z_ : Int) => L21a.H n f m g z_) (fun (z_ : Int) => L21a.inv n f m g z_) (fun (z_ : Int) => L21a.mu n f m g z_) (fun (k_ : Nat) (z_ : Int) => L21a.N n f g k_ z_) k_ z_ T_ h_
def L21a.End (n : Nat) (f : Nat → Int) (m : Nat) (g : Nat → Int) (k_ : Nat) (z_ : Int) (e_ : Exit) (T_ : List AV) (h_ : AHeap) : Prop := LEndP (fun (z_ : Int) => L21a.H n f m g z_) (fun (k_ : Nat) (z_ : Int) => L21a.N n f g k_ z_) L21a.E (L21a.X n f m g) (L21a.XH n f m g) k_ z_ e_ T_ h_
theorem L21a.nx (n : Nat) (f : Nat → Int) (m : Nat) (g : Nat → Int) {k_ : Nat} {z_ : Int} {h_ : AHeap} (s_ : Int) (h1 : L21a.inv n f m g s_) (h2 : L21a.mu n f m g s_ < L21a.mu n f m g z_) (h3 : L21a.N n f g k_ s_ = L21a.N n f g (k_ + 1) z_) (h4 : PopOk (L21a.H n f m g z_) h_ (L21a.T n f m g s_) (L21a.H n f m g s_)) : LNextP (fun (z_ : Int) => L21a.T n f m g z_) (fun (z_ : Int) => L21a.H n f m g z_) (fun (z_ : Int) => L21a.inv n f m g z_) (fun (z_ : Int) => L21a.mu n f m g z_) (fun (k_ : Nat) (z_ : Int) => L21a.N n f g k_ z_) k_ z_ (L21a.T n f m g s_) h_ := LNextP.mk (Tm := (fun (z_ : Int) => L21a.T n f m g z_)) (Hp := (fun (z_ : Int) => L21a.H n f m g z_)) (inv := (fun (z_ : Int) => L21a.inv n f m g z_)) (mu := (fun (z_ : Int) => L21a.mu n f m g z_)) (l := (fun (k_ : Nat) (z_ : Int) => L21a.N n f g k_ z_)) s_ h1 h2 h3 h4
theorem L21a.en (n : Nat) (f : Nat → Int) (m : Nat) (g : Nat → Int) {k_ : Nat} {z_ : Int} {h_ : AHeap} (o_ : L21a.O) (h3 : L21a.N n f g (k_ + 1) z_ = o_) (h4 : PopOk (L21a.H n f m g z_) h_ (L21a.X n f m g o_) (L21a.XH n f m g o_)) : LEndP (fun (z_ : Int) => L21a.H n f m g z_) (fun (k_ : Nat) (z_ : Int) => L21a.N n f g k_ z_) L21a.E (L21a.X n f m g) (L21a.XH n f m g) k_ z_ (L21a.E o_) (L21a.X n f m g o_) h_ := LEndP.mk (Hp := (fun (z_ : Int) => L21a.H n f m g z_)) (l := (fun (k_ : Nat) (z_ : Int) => L21a.N n f g k_ z_)) (oE := L21a.E) (oT := L21a.X n f m g) (oH := L21a.XH n f m g) o_ h3 h4
theorem L21a.spec (n : Nat) (f : Nat → Int) (m : Nat) (g : Nat → Int) (hn : n ≤ 9223372036854775807) (k0_1 : ((↑n : Int) == (↑m : Int)) = true) (p0_1 : (↑n : Int) = (↑m : Int)) (k_ : Nat) (z_ : Int) (hi_ : L21a.inv n f m g z_) (hm_ : L21a.mu n f m g z_ < k_) : LoopTo Try.prog (loopN Try.f21 0) (L21a.T n f m g z_) (L21a.H n f m g z_) (L21a.E (L21a.N n f g k_ z_)) (L21a.X n f m g (L21a.N n f g k_ z_)) (L21a.XH n f m g (L21a.N n f g k_ z_)) := by
  refine LoopTo.fuelP mix (fun (z_ : Int) => L21a.T n f m g z_) (fun (z_ : Int) => L21a.H n f m g z_) (fun (z_ : Int) => L21a.inv n f m g z_) (fun (z_ : Int) => L21a.mu n f m g z_) (fun (k_ : Nat) (z_ : Int) => L21a.N n f g k_ z_) L21a.E (L21a.X n f m g) (L21a.XH n f m g) (others 26 [0, 1, 5]) (others 26 [4]) (others 26 []) ?_ k_ z_ hi_ hm_
  clear hm_ hi_ z_ k_
  intro k_ z_ hinv hmu
  revert hinv hmu; revert z_; intro a5 hinv hmu
  have hinv : 0 ≤ a5 ∧ (a5 ≤ (↑n : Int) ∨ a5 ≤ 0) := hinv
  have hmu : (((↑n : Int) - a5).toNat) < k_ + 1 := hmu
  cases h1 : decide (a5 < (↑n : Int)) with
  | true =>
    have h1p := of_decide_eq_true h1
    have o0 : (0 : Int) ≤ a5 := by first | assumption | omega | (simp_all; done)
    have o1 : a5 < (↑n : Int) := by first | assumption | omega | (simp_all; done)
    have o2 : a5 < (↑m : Int) := by first | assumption | omega | (simp_all; done)
    cases h2 : f a5.toNat == g a5.toNat with
    | true =>
      have h2p := eq_of_beq h2
      try have := IntWalk.i64_in (a5 + 1) (by omega)
      have o3 : (0 : Int) ≤ IntKind.i64.wrap (a5 + (1 : Int)) := by first | assumption | omega | (simp_all; done)
      have o4 : IntKind.i64.wrap (a5 + (1 : Int)) ≤ (↑n : Int) ∨ IntKind.i64.wrap (a5 + (1 : Int)) ≤ (0 : Int) := by first | assumption | omega | (simp_all; done)
      have o5 : ((↑n : Int) - IntKind.i64.wrap (a5 + (1 : Int))).toNat < ((↑n : Int) - a5).toNat := by first | assumption | omega | (simp_all; done)
      exact ⟨[.b true, .b false], kmp (by kernel_rfl) (And.intro h1 (And.intro (And.intro o0 o1) (And.intro (And.intro o0 o2) (And.intro (show (bnot (f a5.toNat == g a5.toNat)) = false by rw [h2]; try rfl) (L21a.nx n f m g (k_ := k_) (z_ := a5) (IntKind.i64.wrap (a5 + 1)) (And.intro o3 o4) o5 (by first | (simp only [L21a.N, h1, h2, cond_true, cond_false]; done) | (try unfold L21a.N; try simp only [h1, cond_true, cond_false]; try simp only [h2, cond_true, cond_false]; try rfl; done)) PopOk.same)))))⟩
    | false =>
      have h2p := ne_of_beq_false h2
      exact ⟨[.b true, .b true], kmp (by kernel_rfl) (And.intro h1 (And.intro (And.intro o0 o1) (And.intro (And.intro o0 o2) (And.intro (show (bnot (f a5.toNat == g a5.toNat)) = true by rw [h2]; try rfl) (L21a.en n f m g (k_ := k_) (z_ := a5) (.e0 : L21a.O) (by first | (simp only [L21a.N, h1, h2, cond_true, cond_false]; done) | (try unfold L21a.N; try simp only [h1, cond_true, cond_false]; try simp only [h2, cond_true, cond_false]; try rfl; done)) PopOk.same)))))⟩
  | false =>
    have h1p := of_decide_eq_false h1
    exact ⟨[.b false], kmp (by kernel_rfl) (And.intro h1 (L21a.en n f m g (k_ := k_) (z_ := a5) (.e1 : L21a.O) (by first | (simp only [L21a.N, h1, cond_true, cond_false]; done) | (try unfold L21a.N; try simp only [h1, cond_true, cond_false]; try rfl; done)) PopOk.same))⟩
theorem L21a.e0 (n : Nat) (f : Nat → Int) (m : Nat) (g : Nat → Int) (hn : n ≤ 9223372036854775807) (k0_1 : ((↑n : Int) == (↑m : Int)) = true) (p0_1 : (↑n : Int) = (↑m : Int)) (a5 : Int) (hinv : L21a.inv n f m g a5) (hN : L21a.run n f g a5 = (.e0 : L21a.O)) : LoopTo Try.prog (loopN Try.f21 0) (L21a.T n f m g a5) (L21a.H n f m g a5) (Exit.ret) (L21a.X n f m g (.e0 : L21a.O)) (L21a.XH n f m g (.e0 : L21a.O)) := by
  have h_ := L21a.spec n f m g hn k0_1 p0_1 ((((↑n : Int) - a5).toNat) + 1) a5 hinv (Nat.lt_succ_self _)
  unfold L21a.run at hN
  simp only [hN] at h_
  exact h_
theorem L21a.e1 (n : Nat) (f : Nat → Int) (m : Nat) (g : Nat → Int) (hn : n ≤ 9223372036854775807) (k0_1 : ((↑n : Int) == (↑m : Int)) = true) (p0_1 : (↑n : Int) = (↑m : Int)) (a5 : Int) (hinv : L21a.inv n f m g a5) (hN : L21a.run n f g a5 = (.e1 : L21a.O)) : LoopTo Try.prog (loopN Try.f21 0) (L21a.T n f m g a5) (L21a.H n f m g a5) (Exit.exit 0) (L21a.X n f m g (.e1 : L21a.O)) (L21a.XH n f m g (.e1 : L21a.O)) := by
  have h_ := L21a.spec n f m g hn k0_1 p0_1 ((((↑n : Int) - a5).toNat) + 1) a5 hinv (Nat.lt_succ_self _)
  unfold L21a.run at hN
  simp only [hN] at h_
  exact h_

noncomputable def r21.v (n : Nat) (f : Nat → Int) (m : Nat) (g : Nat → Int) : Bool := (bif (↑n : Int) == (↑m : Int) then (match L21a.run n f g 0 with | .e0 => false | .e1 => true ) else false)
theorem r21 (n : Nat) (f : Nat → Int) (m : Nat) (g : Nat → Int) (hn : n ≤ 9223372036854775807) (h : AHeap) : Ret Try.prog 21 ([AV.sl 1 n fun (i : Nat) => AV.int IntKind.i64 (f i), AV.sl 1 m fun (i : Nat) => AV.int IntKind.i64 (g i)]) h (AV.bool (r21.v n f m g)) h := by
  cases h1 : (↑n : Int) == (↑m : Int) with
  | true =>
    have h1p := eq_of_beq h1
    have o0 : n ≤ (9223372036854775807 : Nat) := by first | assumption | omega | (simp_all; done)
    have o1 : ((↑n : Int) == (↑m : Int)) = true := by first | assumption | omega | (simp_all; done)
    have o2 : (↑n : Int) = (↑m : Int) := by first | assumption | omega | (simp_all; done)
    have o3 : (0 : Int) ≤ (↑n : Int) ∨ (0 : Int) ≤ (0 : Int) := by first | assumption | omega | (simp_all; done)
    cases h2 : L21a.run n f g 0 with
    | e0 =>
      exact Ret.of_run1 mix [(AV.bool (r21.v n f m g))] Try.func21 rfl [.b false, .loop (others 26 [0, 1, 5]) (Exit.ret) (L21a.X n f m g L21a.O.e0) (L21a.XH n f m g L21a.O.e0)] (by simp) (by simp) (kmp (by kernel_rfl) (And.intro (show (bnot ((↑n : Int) == (↑m : Int))) = false by rw [h1]; try rfl) (And.intro (L21a.e0 (n) (f) (m) (g) o0 o1 o2 (0) (And.intro (show (0 : Int) ≤ (0 : Int) by first | decide | exact Int.NonNeg.mk _) o3) h2) (And.intro (show (AV.bool false) = ((AV.bool (r21.v n f m g))) by first | (simp only [r21.v, h1, h2, cond_true, cond_false]; done) | (try unfold r21.v; try simp only [h1, cond_true, cond_false]; try simp only [h2, cond_true, cond_false]; try rfl; done) | rfl) trivial)))) h
    | e1 =>
      exact Ret.of_run1 mix [(AV.bool (r21.v n f m g))] Try.func21 rfl [.b false, .loop (others 26 [0, 1, 5]) (Exit.exit 0) (L21a.X n f m g L21a.O.e1) (L21a.XH n f m g L21a.O.e1)] (by simp) (by simp) (kmp (by kernel_rfl) (And.intro (show (bnot ((↑n : Int) == (↑m : Int))) = false by rw [h1]; try rfl) (And.intro (L21a.e1 (n) (f) (m) (g) o0 o1 o2 (0) (And.intro (show (0 : Int) ≤ (0 : Int) by first | decide | exact Int.NonNeg.mk _) o3) h2) (And.intro (show (AV.bool true) = ((AV.bool (r21.v n f m g))) by first | (simp only [r21.v, h1, h2, cond_true, cond_false]; done) | (try unfold r21.v; try simp only [h1, cond_true, cond_false]; try simp only [h2, cond_true, cond_false]; try rfl; done) | rfl) trivial)))) h
  | false =>
    have h1p := ne_of_beq_false h1
    exact Ret.of_run1 mix [(AV.bool (r21.v n f m g))] Try.func21 rfl [.b true] (by simp) (by simp) (kmp (by kernel_rfl) (And.intro (show (bnot ((↑n : Int) == (↑m : Int))) = true by rw [h1]; try rfl) (And.intro (show (AV.bool false) = ((AV.bool (r21.v n f m g))) by first | (simp only [r21.v, h1, cond_true, cond_false]; done) | (try unfold r21.v; try simp only [h1, cond_true, cond_false]; try rfl; done) | rfl) trivial))) h

end Go.Proofs.Ytjdakdjgkpfjkaa

/- Plain laws: checks of runs, sums of stretches, parts. Conditions: none. -/
open Go
namespace Go.Proofs.Ytjdakdjgkpfjkaa
set_option linter.unusedVariables false
set_option linter.unusedSimpArgs false
variable {n k : Nat} {g p : Nat → PD} {m j1 j2 : Int}

theorem i64_small {x : Int} (h : -9223372036854775808 ≤ x ∧ x ≤ 9223372036854775807) : IntKind.i64.wrap x = x := IntWalk.i64_in x (by omega)

/-! ### Searches -/
theorem L59_run (hn : n ≤ 9223372036854775807) : L59.run n g 0 = srch (fun i => r38.v (g i)) (fun i => .e0 i) .e1 0 n := by
  have := search_eq (n := n) (fun i => r38.v (g i)) (fun i => L59.O.e0 i) .e1 (N := L59.N n g) (fun k i h => by
    simp only [L59.N, wrap_succ hn h, Int.toNat_natCast]; rw [decide_eq_true (by omega)]; rfl) (fun k => by simp [L59.N]) (n + 1) 0 (Nat.zero_le _) (by omega)
  simpa [L59.run, L59.mu] using this
theorem L77_run (hn : n ≤ 9223372036854775807) : L77.run n g 0 = srch (fun i => r61.v (g i)) (fun i => .e0 i) .e1 0 n := by
  have := search_eq (n := n) (fun i => r61.v (g i)) (fun i => L77.O.e0 i) .e1 (N := L77.N n g) (fun k i h => by
    simp only [L77.N, wrap_succ hn h, Int.toNat_natCast]; rw [decide_eq_true (by omega)]; rfl) (fun k => by simp [L77.N]) (n + 1) 0 (Nat.zero_le _) (by omega)
  simpa [L77.run, L77.mu] using this
theorem r37_any (hn : n ≤ 9223372036854775807) : r37.v n g = anyN n fun i => r38.v (g i) := by
  unfold r37.v r59.v
  rw [L59_run hn]
  rcases srch_cases (fun i => r38.v (g i)) (fun i => L59.O.e0 i) .e1 n 0 with ⟨h1, h2⟩ | ⟨j, h1, h2, h3, h4, h5⟩
  · rw [h2, anyN_false.2 fun i hi => h1 i (Nat.zero_le _) (by omega)]; rfl
  · rw [h5, anyN_true.2 ⟨j, by omega, h3⟩]; simp
theorem r60_any (hn : n ≤ 9223372036854775807) : r60.v n g = anyN n fun i => r61.v (g i) := by
  unfold r60.v r77.v
  rw [L77_run hn]
  rcases srch_cases (fun i => r61.v (g i)) (fun i => L77.O.e0 i) .e1 n 0 with ⟨h1, h2⟩ | ⟨j, h1, h2, h3, h4, h5⟩
  · rw [h2, anyN_false.2 fun i hi => h1 i (Nat.zero_le _) (by omega)]; rfl
  · rw [h5, anyN_true.2 ⟨j, by omega, h3⟩]; simp

/-- A place that is out of order. -/
def plB (g : Nat → PD) (m : Int) (i : Nat) : Bool := decide ((g i).lo < 1) || decide ((g i).lo > m) || (decide (0 < i) && decide ((g (i - 1)).lo ≥ (g i).lo))

theorem pred_idx {i : Nat} (hn : n ≤ 9223372036854775807) (hi : i < n) (h : 0 < i) : (IntKind.i64.wrap ((i : Int) - 1)).toNat = i - 1 := by
  rw [i64_small (by omega)]; omega

theorem L40_run (hn : n ≤ 9223372036854775807) : L40a.run n g m 0 = bif anyN n (plB g m) then .e0 else .e1 := by
  have := search_eq (n := n) (plB g m) (fun _ => L40a.O.e0) .e1 (N := L40a.N n g m) (fun k i h => by
    simp only [L40a.N, wrap_succ hn h, Int.toNat_natCast]
    rw [decide_eq_true (show (i : Int) < n by omega)]
    unfold plB
    by_cases hi : 0 < i
    · rw [pred_idx hn h hi]
      cases decide ((g i).lo < 1) <;> cases decide ((g i).lo > m) <;> cases decide ((g (i - 1)).lo ≥ (g i).lo) <;> simp [hi]
    · obtain rfl : i = 0 := by omega
      cases decide ((g 0).lo < 1) <;> cases decide ((g 0).lo > m) <;> simp) (fun k => by simp [L40a.N]) (n + 1) 0 (Nat.zero_le _) (by omega)
  rw [srch_any] at this
  simpa [L40a.run, L40a.mu] using this
theorem L35a_run (hn : n ≤ 9223372036854775807) : L35a.run n g m 0 = bif anyN n (plB g m) then .e0 else .e1 := by
  have := search_eq (n := n) (plB g m) (fun _ => L35a.O.e0) .e1 (N := L35a.N n g m) (fun k i h => by
    simp only [L35a.N, wrap_succ hn h, Int.toNat_natCast]
    rw [decide_eq_true (show (i : Int) < n by omega)]
    unfold plB
    by_cases hi : 0 < i
    · rw [pred_idx hn h hi]
      cases decide ((g i).lo < 1) <;> cases decide ((g i).lo > m) <;> cases decide ((g (i - 1)).lo ≥ (g i).lo) <;> simp [hi]
    · obtain rfl : i = 0 := by omega
      cases decide ((g 0).lo < 1) <;> cases decide ((g 0).lo > m) <;> simp) (fun k => by simp [L35a.N]) (n + 1) 0 (Nat.zero_le _) (by omega)
  rw [srch_any] at this
  simpa [L35a.run, L35a.mu] using this
theorem L35b_run (hn : n ≤ 9223372036854775807) : L35b.run n g 0 = bif anyN n (fun i => r61.v (g i)) then .e0 else .e1 := by
  have := search_eq (n := n) (fun i => r61.v (g i)) (fun _ => L35b.O.e0) .e1 (N := L35b.N n g) (fun k i h => by
    simp only [L35b.N, wrap_succ hn h, Int.toNat_natCast]
    rw [decide_eq_true (show (i : Int) < n by omega)]
    unfold r61.v
    cases decide ((g i).hi < 1) <;> cases decide ((g i).hi > 1000000000) <;> rfl) (fun k => by simp [L35b.N]) (n + 1) 0 (Nat.zero_le _) (by omega)
  rw [srch_any] at this
  simpa [L35b.run, L35b.mu] using this
theorem L15_run (hn : n ≤ 9223372036854775807) : L15a.run n g 0 = bif anyN n (fun i => r38.v (g i)) then .e0 else .e1 := by
  have := search_eq (n := n) (fun i => r38.v (g i)) (fun _ => L15a.O.e0) .e1 (N := L15a.N n g) (fun k' i h => by
    simp only [L15a.N, wrap_succ hn h, Int.toNat_natCast]
    rw [decide_eq_true (show (i : Int) < n by omega)]
    unfold r38.v
    cases decide ((g i).lo < 1) <;> cases decide ((g i).lo > (g i).hi) <;> cases decide ((g i).hi > 1000000) <;> rfl) (fun k => by simp [L15a.N]) (n + 1) 0 (Nat.zero_le _) (by omega)
  rw [srch_any] at this
  simpa [L15a.run, L15a.mu] using this

/-- The checks say the same. -/
theorem places_same (hn : n ≤ 9223372036854775807) : r35.v n g m = r40.v n g m := by
  unfold r35.v r40.v
  rw [L40_run hn, L35a_run hn, L35b_run hn, r60_any hn]
  cases anyN n (plB g m) <;> cases anyN n (fun i => r61.v (g i)) <;> rfl
theorem check_same (hn : n ≤ 9223372036854775807) (hk : k ≤ 9223372036854775807) : r15.v n g j1 j2 k p = r16.v n g j1 j2 k p := by
  unfold r15.v r16.v r36.v
  rw [L15_run hn, r37_any hn, places_same hk]
  rw [show r39.v j1 j2 = r34.v j1 j2 from rfl]
  cases decide ((n : Int) > 512) <;> cases ((n : Int) == 0) <;> cases anyN n (fun i => r38.v (g i)) <;> cases r34.v j1 j2 <;> rfl

/-! ### Valid runs -/
structure PlOk (n k : Nat) (p : Nat → PD) : Prop where
  pos : 0 < k
  last : (p (k - 1)).lo = n
  lo : ∀ i, i < k → 1 ≤ (p i).lo
  hi : ∀ i, i < k → (p i).lo ≤ n
  inc : ∀ i, i + 1 < k → (p i).lo < (p (i + 1)).lo
  at1 : ∀ i, i < k → 1 ≤ (p i).hi
  at2 : ∀ i, i < k → (p i).hi ≤ 1000000000
structure ROk (n : Nat) (g : Nat → PD) (j1 j2 : Int) (k : Nat) (p : Nat → PD) : Prop where
  pos : 0 < n
  le : n ≤ 512
  l1 : ∀ i, i < n → 1 ≤ (g i).lo
  l2 : ∀ i, i < n → (g i).lo ≤ (g i).hi
  l3 : ∀ i, i < n → (g i).hi ≤ 1000000
  ja : 0 ≤ j1
  jb : j1 ≤ j2
  jc : j2 ≤ 1000
  pl : PlOk n k p

theorem plB_false {i : Nat} (h : plB g m i = false) : 1 ≤ (g i).lo ∧ (g i).lo ≤ m ∧ (0 < i → (g (i - 1)).lo < (g i).lo) := by
  unfold plB at h
  simp only [Bool.or_eq_false_iff, Bool.and_eq_false_iff, decide_eq_false_iff_not] at h
  exact ⟨by omega, by omega, fun hi => by rcases h.2 with q | q <;> omega⟩

theorem placed_ok (hk : k ≤ 9223372036854775807) (h : r40.v k p n = 0) : PlOk n k p := by
  unfold r40.v at h
  rw [L40_run hk, r60_any hk] at h
  cases h0 : ((k : Int) == 0) with
  | true => rw [h0] at h; simp at h
  | false =>
    have h0' : k ≠ 0 := fun e => by subst e; simp at h0
    rw [h0] at h
    have hlast : (IntKind.i64.wrap ((k : Int) - 1)).toNat = k - 1 := by rw [i64_small (by omega)]; omega
    rw [hlast] at h
    cases h1 : ((p (k - 1)).lo == (n : Int)) with
    | false => rw [h1] at h; simp at h
    | true =>
      rw [h1] at h
      cases h2 : anyN k (plB p n) with
      | true => rw [h2] at h; simp at h
      | false =>
        rw [h2] at h
        cases h3 : anyN k (fun i => r61.v (p i)) with
        | true => rw [h3] at h; simp at h
        | false =>
          have a := fun i hi => plB_false (anyN_false.1 h2 i hi)
          have b : ∀ i, i < k → 1 ≤ (p i).hi ∧ (p i).hi ≤ 1000000000 := fun i hi => by
            have := anyN_false.1 h3 i hi
            unfold r61.v at this
            cases h4 : decide ((p i).hi < 1) with
            | true => rw [h4] at this; cases this
            | false =>
              rw [h4] at this
              have := of_decide_eq_false this
              have := of_decide_eq_false h4
              omega
          exact ⟨by omega, eq_of_beq h1, fun i hi => (a i hi).1, fun i hi => (a i hi).2.1, fun i hi => (a (i + 1) hi).2.2 (by omega), fun i hi => (b i hi).1, fun i hi => (b i hi).2⟩

theorem checked (hn : n ≤ 9223372036854775807) (hk : k ≤ 9223372036854775807) (h : r16.v n g j1 j2 k p = 0) : ROk n g j1 j2 k p := by
  unfold r16.v at h
  rw [r37_any hn] at h
  cases h1 : (r36.v (n : Int) == 0) with
  | false => rw [h1] at h; simp only [cond_false] at h; rw [h] at h1; cases h1
  | true =>
    rw [h1] at h
    cases h2 : anyN n (fun i => r38.v (g i)) with
    | true => rw [h2] at h; simp at h
    | false =>
      rw [h2] at h
      cases h3 : r39.v j1 j2 with
      | false => rw [h3] at h; simp at h
      | true =>
        rw [h3] at h
        have hl : ∀ i, i < n → 1 ≤ (g i).lo ∧ (g i).lo ≤ (g i).hi ∧ (g i).hi ≤ 1000000 := fun i hi => by
          have := anyN_false.1 h2 i hi
          unfold r38.v at this
          cases q1 : decide ((g i).lo < 1) <;> cases q2 : decide ((g i).lo > (g i).hi) <;> rw [q1, q2] at this <;> simp at this q1 q2
          omega
        have hn' : 0 < n ∧ n ≤ 512 := by
          have := eq_of_beq h1
          unfold r36.v at this
          cases q1 : decide ((n : Int) > 512) with
          | true => rw [q1] at this; simp at this
          | false =>
            rw [q1] at this
            cases q2 : ((n : Int) == 0) with
            | true => rw [q2] at this; simp at this
            | false =>
              have q3 := of_decide_eq_false q1
              have q4 : (n : Int) ≠ 0 := ne_of_beq_false q2
              omega
        have hj : 0 ≤ j1 ∧ j1 ≤ j2 ∧ j2 ≤ 1000 := by
          unfold r39.v at h3
          cases q1 : decide (j1 ≥ 0) <;> cases q2 : decide (j1 ≤ j2) <;> rw [q1, q2] at h3 <;> simp at h3 q1 q2
          omega
        exact ⟨hn'.1, hn'.2, fun i hi => (hl i hi).1, fun i hi => (hl i hi).2.1, fun i hi => (hl i hi).2.2, hj.1, hj.2.1, hj.2.2, placed_ok hk h⟩

/-! ### Sums -/
def sumB (f : Nat → Int) (u : Nat) : Nat → Int
  | 0 => 0
  | c + 1 => sumB f u c + f (u + c)

theorem sumB_bd {f : Nat → Int} {u : Nat} {b : Int} : ∀ c, (∀ i, u ≤ i → i < u + c → 0 ≤ f i ∧ f i ≤ b) → 0 ≤ sumB f u c ∧ sumB f u c ≤ c * b := by
  intro c
  induction c with
  | zero => intro _; simp [sumB]
  | succ c ih =>
    intro h
    have h1 := ih fun i a b => h i a (by omega)
    have h2 := h (u + c) (by omega) (by omega)
    simp only [sumB]
    rw [show ((c + 1 : Nat) : Int) * b = c * b + b by rw [Int.natCast_add, Int.add_mul]; simp]
    omega

/-- The program's sums of a stretch. -/
theorem L33_run (u w : Nat) (hw : w ≤ 512) (hu : u ≤ w) (hg : ∀ i, u ≤ i → i < w → 0 ≤ (g i).lo ∧ (g i).lo ≤ 1000000 ∧ 0 ≤ (g i).hi ∧ (g i).hi ≤ 1000000) :
    ∀ m c, c ≤ w - u → w - u - c < m → ∃ a b, L33a.N g u w m c (sumB (fun i => (g i).lo) u c) (sumB (fun i => (g i).hi) u c) = .e0 a b ∧ a = sumB (fun i => (g i).lo) u (w - u) ∧ b = sumB (fun i => (g i).hi) u (w - u) := by
  intro m
  induction m with
  | zero => intro c _ h; omega
  | succ m ih =>
    intro c hc hm
    simp only [L33a.N, Int.toNat_natCast]
    by_cases h : c < w - u
    · rw [decide_eq_true (show (c : Int) < ((w - u : Nat) : Int) by omega), wrap_succ (n := w - u) (by omega) h]
      simp only [cond_true, r58.v0, r58.v1]
      have b1 := sumB_bd (f := fun i => (g i).lo) (u := u) (b := 1000000) c fun i a b => ⟨(hg i a (by omega)).1, (hg i a (by omega)).2.1⟩
      have b2 := sumB_bd (f := fun i => (g i).hi) (u := u) (b := 1000000) c fun i a b => ⟨(hg i a (by omega)).2.2.1, (hg i a (by omega)).2.2.2⟩
      have b3 := hg (u + c) (by omega) (by omega)
      rw [i64_small (by omega), i64_small (by omega)]
      exact ih (c + 1) h (by omega)
    · obtain rfl : c = w - u := by omega
      rw [decide_eq_false (by omega)]
      exact ⟨_, _, rfl, rfl, rfl⟩
theorem L33x_run (u w : Nat) (hw : w ≤ 512) (hu : u ≤ w) (hg : ∀ i, u ≤ i → i < w → 0 ≤ (g i).lo ∧ (g i).lo ≤ 1000000 ∧ 0 ≤ (g i).hi ∧ (g i).hi ≤ 1000000) :
    ∀ m c, c ≤ w - u → w - u - c < m → ∃ a b, L33ax.N g u w m c (sumB (fun i => (g i).lo) u c) (sumB (fun i => (g i).hi) u c) = .e0 a b ∧ a = sumB (fun i => (g i).lo) u (w - u) ∧ b = sumB (fun i => (g i).hi) u (w - u) := by
  intro m
  induction m with
  | zero => intro c _ h; omega
  | succ m ih =>
    intro c hc hm
    simp only [L33ax.N, Int.toNat_natCast]
    by_cases h : c < w - u
    · rw [decide_eq_true (show (c : Int) < ((w - u : Nat) : Int) by omega), wrap_succ (n := w - u) (by omega) h]
      simp only [cond_true, r58.v0, r58.v1]
      have b1 := sumB_bd (f := fun i => (g i).lo) (u := u) (b := 1000000) c fun i a b => ⟨(hg i a (by omega)).1, (hg i a (by omega)).2.1⟩
      have b2 := sumB_bd (f := fun i => (g i).hi) (u := u) (b := 1000000) c fun i a b => ⟨(hg i a (by omega)).2.2.1, (hg i a (by omega)).2.2.2⟩
      have b3 := hg (u + c) (by omega) (by omega)
      rw [i64_small (by omega), i64_small (by omega)]
      exact ih (c + 1) h (by omega)
    · obtain rfl : c = w - u := by omega
      rw [decide_eq_false (by omega)]
      exact ⟨_, _, rfl, rfl, rfl⟩

/-- How many joints a stretch has. -/
def jn (n u w : Nat) : Int := (w : Int) - u - (if w = n then 1 else 0)
def sLo (g : Nat → PD) (u w : Nat) : Int := sumB (fun i => (g i).lo) u (w - u)
def sHi (g : Nat → PD) (u w : Nat) : Int := sumB (fun i => (g i).hi) u (w - u)

theorem r33_eq (h : ROk n g j1 j2 k p) {u w : Nat} (hu : u ≤ w) (hw : w ≤ n) : r33.v0 n g u w = sLo g u w ∧ r33.v1 n g u w = sHi g u w ∧ r33.v2 n g u w = jn n u w := by
  have hn := h.le
  have hg : ∀ i, u ≤ i → i < w → 0 ≤ (g i).lo ∧ (g i).lo ≤ 1000000 ∧ 0 ≤ (g i).hi ∧ (g i).hi ≤ 1000000 := fun i _ hi => by
    have := h.l1 i (by omega); have := h.l2 i (by omega); have := h.l3 i (by omega); omega
  obtain ⟨a, b, e1, e2, e3⟩ := L33_run (g := g) u w (by omega) hu hg (w - u + 1) 0 (by omega) (by omega)
  obtain ⟨a', b', f1, f2, f3⟩ := L33x_run (g := g) u w (by omega) hu hg (w - u + 1) 0 (by omega) (by omega)
  have e1' : L33a.run g u w 0 0 0 = .e0 a b := by simpa [L33a.run, L33a.mu, sumB] using e1
  have f1' : L33ax.run g u w 0 0 0 = .e0 a' b' := by simpa [L33ax.run, L33ax.mu, sumB] using f1
  unfold r33.v0 r33.v1 r33.v2 sLo sHi jn
  rw [e1', f1']
  cases hq : ((w : Int) == (n : Int)) with
  | true =>
    have hq' : w = n := by have := eq_of_beq hq; omega
    simp only [cond_true]
    refine ⟨e2, e3, ?_⟩
    rw [i64_small (x := (w : Int) - u) (by omega), i64_small (by omega), if_pos hq']
  | false =>
    have hq' : w ≠ n := fun e => by subst e; simp at hq
    simp only [cond_false]
    refine ⟨f2, f3, ?_⟩
    rw [i64_small (by omega), if_neg hq']
    omega

/-! ### Parts -/
def ptB (p : Nat → PD) (i : Nat) : PT := ⟨if i = 0 then 0 else (p (i - 1)).lo, (p i).lo, (p i).hi - (if i = 0 then 0 else (p (i - 1)).hi)⟩

theorem L42_run (hk : k ≤ 9223372036854775807) (hp : ∀ i, i < k → 1 ≤ (p i).hi ∧ (p i).hi ≤ 1000000000) : ∀ m i v l a b, i ≤ k → k - i < m → a = (if i = 0 then 0 else (p (i - 1)).lo) → b = (if i = 0 then 0 else (p (i - 1)).hi) →
    ∃ v' a' b', L42a.N k p m v l i a b = .e0 v' (((List.range' i (k - i)).map (ptB p)).reverse ++ l) a' b' := by
  intro m
  induction m with
  | zero => intro i v l a b _ h; omega
  | succ m ih =>
    intro i v l a b hi hm ha hb
    simp only [L42a.N, Int.toNat_natCast]
    by_cases h : i < k
    · rw [decide_eq_true (show (i : Int) < k by omega), wrap_succ hk h]
      simp only [cond_true]
      have hroom : IntKind.i64.wrap ((p i).hi - b) = (ptB p i).room := by
        have h1 := hp i h
        unfold ptB
        rw [← hb]
        by_cases e : i = 0
        · rw [if_pos e] at hb; rw [i64_small (by omega)]
        · have h2 := hp (i - 1) (by omega)
          rw [if_neg e] at hb
          rw [i64_small (by omega)]
      obtain ⟨v', a', b', e⟩ := ih (i + 1) (v + 1) (PT.mk a (p i).lo (IntKind.i64.wrap ((p i).hi - b)) :: l) (p i).lo (p i).hi h (by omega) (by simp) (by simp)
      refine ⟨v', a', b', ?_⟩
      rw [e, hroom, show k - i = (k - (i + 1)) + 1 by omega, List.range'_succ, List.map_cons, List.reverse_cons, List.append_assoc]
      have hpt : (PT.mk a (p i).lo (ptB p i).room) = ptB p i := by unfold ptB; rw [← ha]
      rw [hpt]; rfl
    · obtain rfl : i = k := by omega
      rw [decide_eq_false (by omega)]
      exact ⟨v, a, b, by simp⟩

theorem r42_eq (h : ROk n g j1 j2 k p) (hk : k ≤ 30) : r42.v k p = ((List.range k).map (ptB p)).reverse := by
  obtain ⟨v', a', b', e⟩ := L42_run (p := p) (k := k) (by omega) (fun i hi => ⟨h.pl.at1 i hi, h.pl.at2 i hi⟩) (k + 1) 0 0 [] 0 0 (Nat.zero_le _) (by omega) rfl rfl
  unfold r42.v
  have e' : L42a.run k p 0 [] 0 0 0 = .e0 v' (((List.range' 0 (k - 0)).map (ptB p)).reverse ++ []) a' b' := by simpa [L42a.run, L42a.mu] using e
  rw [e', List.append_nil, Nat.sub_zero, List.range_eq_range']

theorem rget_rev {D : Type} [Inhabited D] (f : Nat → D) {k i : Nat} (hi : i < k) : rget ((List.range k).map f).reverse i = f i := by
  unfold rget
  rw [List.getD_eq_getElem?_getD, List.getElem?_reverse (by simp; omega)]
  simp only [List.length_reverse, List.length_map, List.length_range]
  rw [show k - 1 - (k - 1 - i) = i by omega, List.getElem?_map, List.getElem?_range hi]
  rfl

theorem part_get (h : ROk n g j1 j2 k p) (hk : k ≤ 30) {i : Nat} (hi : i < k) : rget (r42.v k p) i = ptB p i := by
  rw [r42_eq h hk, rget_rev _ hi]
theorem part_len (h : ROk n g j1 j2 k p) (hk : k ≤ 30) : (r42.v k p).length = k := by
  rw [r42_eq h hk]; simp

theorem pl_mono (h : PlOk n k p) : ∀ i j, i ≤ j → j < k → (p i).lo ≤ (p j).lo := by
  intro i j hij
  induction hij with
  | refl => intro _; exact Int.le_refl _
  | @step m h' ih => intro hj; have := h.inc m hj; have := ih (by omega); show (p i).lo ≤ (p (m + 1)).lo; omega

/-- A part's stones. -/
theorem pt_bd (h : PlOk n k p) {i : Nat} (hi : i < k) : 0 ≤ (ptB p i).a ∧ (ptB p i).a < (ptB p i).b ∧ (ptB p i).b ≤ n ∧ 1 ≤ (ptB p i).b := by
  have h1 := h.lo i hi
  have h2 := h.hi i hi
  unfold ptB
  by_cases e : i = 0
  · simp only [if_pos e]; omega
  · simp only [if_neg e]
    have h3 := h.lo (i - 1) (by omega)
    have h4 := h.inc (i - 1) (by omega)
    rw [show i - 1 + 1 = i by omega] at h4
    omega

theorem bd_parts (h : ROk n g j1 j2 k p) (hk : k ≤ 30) : (r42.v k p).length ≤ 30 := by rw [part_len h hk]; exact hk
theorem hint_a (h : ROk n g j1 j2 k p) (hk : k ≤ 30) {i : Nat} (hi : i < (r42.v k p).length) : 0 ≤ (rget (r42.v k p) i).a := by
  rw [part_len h hk] at hi; rw [part_get h hk hi]; have := pt_bd h.pl hi; omega
theorem hint_b (h : ROk n g j1 j2 k p) (hk : k ≤ 30) {i : Nat} (hi : i < (r42.v k p).length) : (rget (r42.v k p) i).a ≤ (rget (r42.v k p) i).b := by
  rw [part_len h hk] at hi; rw [part_get h hk hi]; have := pt_bd h.pl hi; omega
theorem hint_c (h : ROk n g j1 j2 k p) (hk : k ≤ 30) {i : Nat} (hi : i < (r42.v k p).length) : (rget (r42.v k p) i).b ≤ n := by
  rw [part_len h hk] at hi; rw [part_get h hk hi]; have := pt_bd h.pl hi; omega
theorem hint_d (h : ROk n g j1 j2 k p) (hk : k ≤ 30) {i : Nat} (hi : i < (r42.v k p).length) : (rget (r42.v k p) i).b ≤ 9223372036854775807 := by
  have := hint_c h hk hi; have := h.le; omega
end Go.Proofs.Ytjdakdjgkpfjkaa

/- the tolerance seat's contracts: parts that fail. -/
open Go
namespace Go.Proofs.Ytjdakdjgkpfjkaa
set_option linter.unusedSimpArgs false
set_option linter.unusedVariables false
set_option maxHeartbeats 0
set_option maxRecDepth 100000
inductive L41a.O where
  | e0 (a0 : Int)
  | e1 (a0 : Int)
  | e2
noncomputable def L41a.T (n : Nat) (g : Nat → PD) (j1 : Int) (j2 : Int) (k : Nat) (p : Nat → PD) (a10 : Int) : List AV := mkT 48 [(1, AV.ptr 0 1 4 0 0), (8, AV.sl 3 (r42.v k p).length fun (i : Nat) => AV.agg [AV.int IntKind.i64 (rget (r42.v k p) i).a, AV.int IntKind.i64 (rget (r42.v k p) i).b, AV.int IntKind.i64 (rget (r42.v k p) i).room]), (9, AV.int IntKind.i64 (↑(r42.v k p).length : Int)), (10, AV.int IntKind.i64 a10)]
noncomputable def L41a.H (n : Nat) (g : Nat → PD) (j1 : Int) (j2 : Int) (k : Nat) (p : Nat → PD) (a10 : Int) : AHeap := [AObj.var (AV.agg [AV.sl 2 n fun (i : Nat) => AV.agg [AV.int IntKind.i64 (g i).lo, AV.int IntKind.i64 (g i).hi], AV.int IntKind.i64 j1, AV.int IntKind.i64 j2, AV.sl 2 k fun (i : Nat) => AV.agg [AV.int IntKind.i64 (p i).lo, AV.int IntKind.i64 (p i).hi]])]
def L41a.inv (n : Nat) (g : Nat → PD) (j1 : Int) (j2 : Int) (k : Nat) (p : Nat → PD) (a10 : Int) : Prop := 0 ≤ a10 ∧ (a10 ≤ (↑(r42.v k p).length : Int) ∨ a10 ≤ 0)
noncomputable def L41a.mu (n : Nat) (g : Nat → PD) (j1 : Int) (j2 : Int) (k : Nat) (p : Nat → PD) (a10 : Int) : Nat := ((↑(r42.v k p).length : Int) - a10).toNat
noncomputable def L41a.E : L41a.O → Exit
  | .e0 a0 => Exit.ret
  | .e1 a0 => Exit.ret
  | .e2 => Exit.exit 0
noncomputable def L41a.X (n : Nat) (g : Nat → PD) (j1 : Int) (j2 : Int) (k : Nat) (p : Nat → PD) : L41a.O → List AV
  | .e0 a0 => mkT 48 [(2, (AV.int IntKind.i64 a0)), (3, (AV.bool true))]
  | .e1 a0 => mkT 48 [(2, (AV.int IntKind.i64 a0)), (3, (AV.bool false))]
  | .e2 => mkT 48 []
noncomputable def L41a.XH (n : Nat) (g : Nat → PD) (j1 : Int) (j2 : Int) (k : Nat) (p : Nat → PD) : L41a.O → AHeap
  | .e0 a0 => ([AObj.var (AV.agg [AV.sl 2 n fun (i : Nat) => AV.agg [AV.int IntKind.i64 (g i).lo, AV.int IntKind.i64 (g i).hi], AV.int IntKind.i64 j1, AV.int IntKind.i64 j2, AV.sl 2 k fun (i : Nat) => AV.agg [AV.int IntKind.i64 (p i).lo, AV.int IntKind.i64 (p i).hi]])])
  | .e1 a0 => ([AObj.var (AV.agg [AV.sl 2 n fun (i : Nat) => AV.agg [AV.int IntKind.i64 (g i).lo, AV.int IntKind.i64 (g i).hi], AV.int IntKind.i64 j1, AV.int IntKind.i64 j2, AV.sl 2 k fun (i : Nat) => AV.agg [AV.int IntKind.i64 (p i).lo, AV.int IntKind.i64 (p i).hi]])])
  | .e2 => ([AObj.var (AV.agg [AV.sl 2 n fun (i : Nat) => AV.agg [AV.int IntKind.i64 (g i).lo, AV.int IntKind.i64 (g i).hi], AV.int IntKind.i64 j1, AV.int IntKind.i64 j2, AV.sl 2 k fun (i : Nat) => AV.agg [AV.int IntKind.i64 (p i).lo, AV.int IntKind.i64 (p i).hi]])])
noncomputable def L41a.N (n : Nat) (g : Nat → PD) (j1 : Int) (j2 : Int) (k : Nat) (p : Nat → PD) : Nat → Int → L41a.O
  | 0, _ => .e0 default
  | k_ + 1, a10 => (bif decide (a10 < (↑(r42.v k p).length : Int)) then (bif decide (IntKind.i64.wrap (r33.v1 n g (rget (r42.v k p) a10.toNat).a (rget (r42.v k p) a10.toNat).b + IntKind.i64.wrap (r33.v2 n g (rget (r42.v k p) a10.toNat).a (rget (r42.v k p) a10.toNat).b * j1)) > (rget (r42.v k p) a10.toNat).room) then (.e0 (a10)) else (bif decide (IntKind.i64.wrap (r33.v0 n g (rget (r42.v k p) a10.toNat).a (rget (r42.v k p) a10.toNat).b + IntKind.i64.wrap (r33.v2 n g (rget (r42.v k p) a10.toNat).a (rget (r42.v k p) a10.toNat).b * j2)) < (rget (r42.v k p) a10.toNat).room) then (.e1 (a10)) else (L41a.N n g j1 j2 k p k_ (IntKind.i64.wrap (a10 + 1))))) else (.e2))
noncomputable def L41a.run (n : Nat) (g : Nat → PD) (j1 : Int) (j2 : Int) (k : Nat) (p : Nat → PD) (a10 : Int) : L41a.O := L41a.N n g j1 j2 k p ((((↑(r42.v k p).length : Int) - a10).toNat) + 1) a10
def L41a.Next (n : Nat) (g : Nat → PD) (j1 : Int) (j2 : Int) (k : Nat) (p : Nat → PD) (k_ : Nat) (z_ : Int) (T_ : List AV) (h_ : AHeap) : Prop := LNextP (fun (z_ : Int) => L41a.T n g j1 j2 k p z_) (fun (z_ : Int) => L41a.H n g j1 j2 k p z_) (fun (z_ : Int) => L41a.inv n g j1 j2 k p z_) (fun (z_ : Int) => L41a.mu n g j1 j2 k p z_) (fun (k_ : Nat) (z_ : Int) => L41a.N n g j1 j2 k p k_ z_) k_ z_ T_ h_
def L41a.End (n : Nat) (g : Nat → PD) (j1 : Int) (j2 : Int) (k : Nat) (p : Nat → PD) (k_ : Nat) (z_ : Int) (e_ : Exit) (T_ : List AV) (h_ : AHeap) : Prop := LEndP (fun (z_ : Int) => L41a.H n g j1 j2 k p z_) (fun (k_ : Nat) (z_ : Int) => L41a.N n g j1 j2 k p k_ z_) L41a.E (L41a.X n g j1 j2 k p) (L41a.XH n g j1 j2 k p) k_ z_ e_ T_ h_
theorem L41a.nx (n : Nat) (g : Nat → PD) (j1 : Int) (j2 : Int) (k : Nat) (p : Nat → PD) {k_ : Nat} {z_ : Int} {h_ : AHeap} (s_ : Int) (h1 : L41a.inv n g j1 j2 k p s_) (h2 : L41a.mu n g j1 j2 k p s_ < L41a.mu n g j1 j2 k p z_) (h3 : L41a.N n g j1 j2 k p k_ s_ = L41a.N n g j1 j2 k p (k_ + 1) z_) (h4 : PopOk (L41a.H n g j1 j2 k p z_) h_ (L41a.T n g j1 j2 k p s_) (L41a.H n g j1 j2 k p s_)) : LNextP (fun (z_ : Int) => L41a.T n g j1 j2 k p z_) (fun (z_ : Int) => L41a.H n g j1 j2 k p z_) (fun (z_ : Int) => L41a.inv n g j1 j2 k p z_) (fun (z_ : Int) => L41a.mu n g j1 j2 k p z_) (fun (k_ : Nat) (z_ : Int) => L41a.N n g j1 j2 k p k_ z_) k_ z_ (L41a.T n g j1 j2 k p s_) h_ := LNextP.mk (Tm := (fun (z_ : Int) => L41a.T n g j1 j2 k p z_)) (Hp := (fun (z_ : Int) => L41a.H n g j1 j2 k p z_)) (inv := (fun (z_ : Int) => L41a.inv n g j1 j2 k p z_)) (mu := (fun (z_ : Int) => L41a.mu n g j1 j2 k p z_)) (l := (fun (k_ : Nat) (z_ : Int) => L41a.N n g j1 j2 k p k_ z_)) s_ h1 h2 h3 h4
theorem L41a.en (n : Nat) (g : Nat → PD) (j1 : Int) (j2 : Int) (k : Nat) (p : Nat → PD) {k_ : Nat} {z_ : Int} {h_ : AHeap} (o_ : L41a.O) (h3 : L41a.N n g j1 j2 k p (k_ + 1) z_ = o_) (h4 : PopOk (L41a.H n g j1 j2 k p z_) h_ (L41a.X n g j1 j2 k p o_) (L41a.XH n g j1 j2 k p o_)) : LEndP (fun (z_ : Int) => L41a.H n g j1 j2 k p z_) (fun (k_ : Nat) (z_ : Int) => L41a.N n g j1 j2 k p k_ z_) L41a.E (L41a.X n g j1 j2 k p) (L41a.XH n g j1 j2 k p) k_ z_ (L41a.E o_) (L41a.X n g j1 j2 k p o_) h_ := LEndP.mk (Hp := (fun (z_ : Int) => L41a.H n g j1 j2 k p z_)) (l := (fun (k_ : Nat) (z_ : Int) => L41a.N n g j1 j2 k p k_ z_)) (oE := L41a.E) (oT := L41a.X n g j1 j2 k p) (oH := L41a.XH n g j1 j2 k p) o_ h3 h4
noncomputable abbrev L41a.h0 (n : Nat) (g : Nat → PD) (j1 : Int) (j2 : Int) (k : Nat) (p : Nat → PD) (a10 : Int) : AHeap := ([AObj.var (AV.agg [AV.sl 2 n fun (i : Nat) => AV.agg [AV.int IntKind.i64 (g i).lo, AV.int IntKind.i64 (g i).hi], AV.int IntKind.i64 j1, AV.int IntKind.i64 j2, AV.sl 2 k fun (i : Nat) => AV.agg [AV.int IntKind.i64 (p i).lo, AV.int IntKind.i64 (p i).hi]]), AObj.var (AV.agg [AV.int IntKind.i64 (rget (r42.v k p) a10.toNat).a, AV.int IntKind.i64 (rget (r42.v k p) a10.toNat).b, AV.int IntKind.i64 (rget (r42.v k p) a10.toNat).room])])
theorem L41a.spec (n : Nat) (g : Nat → PD) (hn : n ≤ 9223372036854775807) (j1 : Int) (j2 : Int) (k : Nat) (p : Nat → PD) (hk : k ≤ 30) (hr : ROk n g j1 j2 k p) (k_ : Nat) (z_ : Int) (hi_ : L41a.inv n g j1 j2 k p z_) (hm_ : L41a.mu n g j1 j2 k p z_ < k_) : LoopTo Try.prog (loopN Try.f41 0) (L41a.T n g j1 j2 k p z_) (L41a.H n g j1 j2 k p z_) (L41a.E (L41a.N n g j1 j2 k p k_ z_)) (L41a.X n g j1 j2 k p (L41a.N n g j1 j2 k p k_ z_)) (L41a.XH n g j1 j2 k p (L41a.N n g j1 j2 k p k_ z_)) := by
  refine LoopTo.fuelP mix (fun (z_ : Int) => L41a.T n g j1 j2 k p z_) (fun (z_ : Int) => L41a.H n g j1 j2 k p z_) (fun (z_ : Int) => L41a.inv n g j1 j2 k p z_) (fun (z_ : Int) => L41a.mu n g j1 j2 k p z_) (fun (k_ : Nat) (z_ : Int) => L41a.N n g j1 j2 k p k_ z_) L41a.E (L41a.X n g j1 j2 k p) (L41a.XH n g j1 j2 k p) (others 48 [1, 8, 9, 10]) (others 48 [2, 3]) (others 48 []) ?_ k_ z_ hi_ hm_
  clear hm_ hi_ z_ k_
  intro k_ z_ hinv hmu
  revert hinv hmu; revert z_; intro a10 hinv hmu
  have hinv : 0 ≤ a10 ∧ (a10 ≤ (↑(r42.v k p).length : Int) ∨ a10 ≤ 0) := hinv
  have hmu : (((↑(r42.v k p).length : Int) - a10).toNat) < k_ + 1 := hmu
  cases h1 : decide (a10 < (↑(r42.v k p).length : Int)) with
  | true =>
    have h1p := of_decide_eq_true h1
    try have := bd_parts (by first | assumption | omega) (by first | assumption | omega)
    have o0 : (0 : Int) ≤ a10 := by first | assumption | omega | (simp_all; done)
    have o1 : a10 < (↑(r42.v k p).length : Int) := by first | assumption | omega | (simp only [List.length_append, List.length_cons, List.length_nil, List.length_map]; omega) | (simp_all; done)
    have o2 : n ≤ (9223372036854775807 : Nat) := by first | assumption | omega | (simp_all; done)
    have o3 : (0 : Int) ≤ (rget (r42.v k p) a10.toNat).a := by first | assumption | omega | (apply hint_a <;> first | assumption | omega) | (simp_all; done)
    have o4 : (rget (r42.v k p) a10.toNat).a ≤ (rget (r42.v k p) a10.toNat).b := by first | assumption | omega | (apply hint_b <;> first | assumption | omega) | (simp_all; done)
    have o5 : (rget (r42.v k p) a10.toNat).b ≤ (↑n : Int) := by first | assumption | omega | (apply hint_c <;> first | assumption | omega) | (simp_all; done)
    have o6 : (rget (r42.v k p) a10.toNat).b ≤ (9223372036854775807 : Int) := by first | assumption | omega | (apply hint_d <;> first | assumption | omega) | (simp_all; done)
    cases h2 : decide (IntKind.i64.wrap (r33.v1 n g (rget (r42.v k p) a10.toNat).a (rget (r42.v k p) a10.toNat).b + IntKind.i64.wrap (r33.v2 n g (rget (r42.v k p) a10.toNat).a (rget (r42.v k p) a10.toNat).b * j1)) > (rget (r42.v k p) a10.toNat).room) with
    | true =>
      have h2p := of_decide_eq_true h2
      exact ⟨[.b true, .ret (AV.agg [AV.int IntKind.i64 (r33.v0 n g (rget (r42.v k p) a10.toNat).a (rget (r42.v k p) a10.toNat).b), AV.int IntKind.i64 (r33.v1 n g (rget (r42.v k p) a10.toNat).a (rget (r42.v k p) a10.toNat).b), AV.int IntKind.i64 (r33.v2 n g (rget (r42.v k p) a10.toNat).a (rget (r42.v k p) a10.toNat).b)]) (L41a.h0 n g j1 j2 k p a10), .b true], kmp (by kernel_rfl) (And.intro h1 (And.intro (And.intro o0 o1) (And.intro (r33 (n) (g) o2 (j1) (j2) (k) (p) ((rget (r42.v k p) a10.toNat).a) ((rget (r42.v k p) a10.toNat).b) o3 o4 o5 o6 (L41a.h0 n g j1 j2 k p a10)) (And.intro h2 (L41a.en n g j1 j2 k p (k_ := k_) (z_ := a10) (h_ := [AObj.var (AV.agg [AV.sl 2 n fun (i : Nat) => AV.agg [AV.int IntKind.i64 (g i).lo, AV.int IntKind.i64 (g i).hi], AV.int IntKind.i64 j1, AV.int IntKind.i64 j2, AV.sl 2 k fun (i : Nat) => AV.agg [AV.int IntKind.i64 (p i).lo, AV.int IntKind.i64 (p i).hi]]), AObj.var (AV.agg [AV.int IntKind.i64 (rget (r42.v k p) a10.toNat).a, AV.int IntKind.i64 (rget (r42.v k p) a10.toNat).b, AV.int IntKind.i64 (rget (r42.v k p) a10.toNat).room]), AObj.var (AV.agg [AV.int IntKind.i64 (r33.v0 n g (rget (r42.v k p) a10.toNat).a (rget (r42.v k p) a10.toNat).b), AV.int IntKind.i64 (r33.v1 n g (rget (r42.v k p) a10.toNat).a (rget (r42.v k p) a10.toNat).b), AV.int IntKind.i64 (r33.v2 n g (rget (r42.v k p) a10.toNat).a (rget (r42.v k p) a10.toNat).b)])]) (.e0 (a10) : L41a.O) (by first | (simp only [L41a.N, h1, h2, cond_true, cond_false]; done) | (try unfold L41a.N; try simp only [h1, cond_true, cond_false]; try simp only [h2, cond_true, cond_false]; try rfl; done)) (PopOk.pop rfl (by simp [L41a.T, L41a.X, L41a.H, L41a.XH])))))))⟩
    | false =>
      have h2p := of_decide_eq_false h2
      cases h3 : decide (IntKind.i64.wrap (r33.v0 n g (rget (r42.v k p) a10.toNat).a (rget (r42.v k p) a10.toNat).b + IntKind.i64.wrap (r33.v2 n g (rget (r42.v k p) a10.toNat).a (rget (r42.v k p) a10.toNat).b * j2)) < (rget (r42.v k p) a10.toNat).room) with
      | true =>
        have h3p := of_decide_eq_true h3
        exact ⟨[.b true, .ret (AV.agg [AV.int IntKind.i64 (r33.v0 n g (rget (r42.v k p) a10.toNat).a (rget (r42.v k p) a10.toNat).b), AV.int IntKind.i64 (r33.v1 n g (rget (r42.v k p) a10.toNat).a (rget (r42.v k p) a10.toNat).b), AV.int IntKind.i64 (r33.v2 n g (rget (r42.v k p) a10.toNat).a (rget (r42.v k p) a10.toNat).b)]) (L41a.h0 n g j1 j2 k p a10), .b false, .b true], kmp (by kernel_rfl) (And.intro h1 (And.intro (And.intro o0 o1) (And.intro (r33 (n) (g) o2 (j1) (j2) (k) (p) ((rget (r42.v k p) a10.toNat).a) ((rget (r42.v k p) a10.toNat).b) o3 o4 o5 o6 (L41a.h0 n g j1 j2 k p a10)) (And.intro h2 (And.intro h3 (L41a.en n g j1 j2 k p (k_ := k_) (z_ := a10) (h_ := [AObj.var (AV.agg [AV.sl 2 n fun (i : Nat) => AV.agg [AV.int IntKind.i64 (g i).lo, AV.int IntKind.i64 (g i).hi], AV.int IntKind.i64 j1, AV.int IntKind.i64 j2, AV.sl 2 k fun (i : Nat) => AV.agg [AV.int IntKind.i64 (p i).lo, AV.int IntKind.i64 (p i).hi]]), AObj.var (AV.agg [AV.int IntKind.i64 (rget (r42.v k p) a10.toNat).a, AV.int IntKind.i64 (rget (r42.v k p) a10.toNat).b, AV.int IntKind.i64 (rget (r42.v k p) a10.toNat).room]), AObj.var (AV.agg [AV.int IntKind.i64 (r33.v0 n g (rget (r42.v k p) a10.toNat).a (rget (r42.v k p) a10.toNat).b), AV.int IntKind.i64 (r33.v1 n g (rget (r42.v k p) a10.toNat).a (rget (r42.v k p) a10.toNat).b), AV.int IntKind.i64 (r33.v2 n g (rget (r42.v k p) a10.toNat).a (rget (r42.v k p) a10.toNat).b)])]) (.e1 (a10) : L41a.O) (by first | (simp only [L41a.N, h1, h2, h3, cond_true, cond_false]; done) | (try unfold L41a.N; try simp only [h1, cond_true, cond_false]; try simp only [h2, cond_true, cond_false]; try simp only [h3, cond_true, cond_false]; try rfl; done)) (PopOk.pop rfl (by simp [L41a.T, L41a.X, L41a.H, L41a.XH]))))))))⟩
      | false =>
        have h3p := of_decide_eq_false h3
        try have := bd_parts (by first | assumption | omega) (by first | assumption | omega)
        try have := IntWalk.i64_in (a10 + 1) (by omega)
        have o7 : (0 : Int) ≤ IntKind.i64.wrap (a10 + (1 : Int)) := by first | assumption | omega | (simp_all; done)
        have o8 : IntKind.i64.wrap (a10 + (1 : Int)) ≤ (↑(r42.v k p).length : Int) ∨ IntKind.i64.wrap (a10 + (1 : Int)) ≤ (0 : Int) := by first | assumption | omega | (simp only [List.length_append, List.length_cons, List.length_nil, List.length_map]; omega) | (simp_all; done)
        have o9 : ((↑(r42.v k p).length : Int) - IntKind.i64.wrap (a10 + (1 : Int))).toNat < ((↑(r42.v k p).length : Int) - a10).toNat := by first | assumption | omega | (simp only [List.length_append, List.length_cons, List.length_nil, List.length_map]; omega) | (simp_all; done)
        exact ⟨[.b true, .ret (AV.agg [AV.int IntKind.i64 (r33.v0 n g (rget (r42.v k p) a10.toNat).a (rget (r42.v k p) a10.toNat).b), AV.int IntKind.i64 (r33.v1 n g (rget (r42.v k p) a10.toNat).a (rget (r42.v k p) a10.toNat).b), AV.int IntKind.i64 (r33.v2 n g (rget (r42.v k p) a10.toNat).a (rget (r42.v k p) a10.toNat).b)]) (L41a.h0 n g j1 j2 k p a10), .b false, .b false], kmp (by kernel_rfl) (And.intro h1 (And.intro (And.intro o0 o1) (And.intro (r33 (n) (g) o2 (j1) (j2) (k) (p) ((rget (r42.v k p) a10.toNat).a) ((rget (r42.v k p) a10.toNat).b) o3 o4 o5 o6 (L41a.h0 n g j1 j2 k p a10)) (And.intro h2 (And.intro h3 (L41a.nx n g j1 j2 k p (k_ := k_) (z_ := a10) (h_ := [AObj.var (AV.agg [AV.sl 2 n fun (i : Nat) => AV.agg [AV.int IntKind.i64 (g i).lo, AV.int IntKind.i64 (g i).hi], AV.int IntKind.i64 j1, AV.int IntKind.i64 j2, AV.sl 2 k fun (i : Nat) => AV.agg [AV.int IntKind.i64 (p i).lo, AV.int IntKind.i64 (p i).hi]]), AObj.var (AV.agg [AV.int IntKind.i64 (rget (r42.v k p) a10.toNat).a, AV.int IntKind.i64 (rget (r42.v k p) a10.toNat).b, AV.int IntKind.i64 (rget (r42.v k p) a10.toNat).room]), AObj.var (AV.agg [AV.int IntKind.i64 (r33.v0 n g (rget (r42.v k p) a10.toNat).a (rget (r42.v k p) a10.toNat).b), AV.int IntKind.i64 (r33.v1 n g (rget (r42.v k p) a10.toNat).a (rget (r42.v k p) a10.toNat).b), AV.int IntKind.i64 (r33.v2 n g (rget (r42.v k p) a10.toNat).a (rget (r42.v k p) a10.toNat).b)])]) (IntKind.i64.wrap (a10 + 1)) (And.intro o7 o8) o9 (by first | (simp only [L41a.N, h1, h2, h3, cond_true, cond_false]; done) | (try unfold L41a.N; try simp only [h1, cond_true, cond_false]; try simp only [h2, cond_true, cond_false]; try simp only [h3, cond_true, cond_false]; try rfl; done)) (PopOk.pop rfl (by simp [L41a.T, L41a.X, L41a.H, L41a.XH]))))))))⟩
  | false =>
    have h1p := of_decide_eq_false h1
    exact ⟨[.b false], kmp (by kernel_rfl) (And.intro h1 (L41a.en n g j1 j2 k p (k_ := k_) (z_ := a10) (.e2 : L41a.O) (by first | (simp only [L41a.N, h1, cond_true, cond_false]; done) | (try unfold L41a.N; try simp only [h1, cond_true, cond_false]; try rfl; done)) PopOk.same))⟩
theorem L41a.e0 (n : Nat) (g : Nat → PD) (hn : n ≤ 9223372036854775807) (j1 : Int) (j2 : Int) (k : Nat) (p : Nat → PD) (hk : k ≤ 30) (hr : ROk n g j1 j2 k p) (a10 : Int) (hinv : L41a.inv n g j1 j2 k p a10) (a0 : Int) (hN : L41a.run n g j1 j2 k p a10 = (.e0 a0 : L41a.O)) : LoopTo Try.prog (loopN Try.f41 0) (L41a.T n g j1 j2 k p a10) (L41a.H n g j1 j2 k p a10) (Exit.ret) (L41a.X n g j1 j2 k p (.e0 a0 : L41a.O)) (L41a.XH n g j1 j2 k p (.e0 a0 : L41a.O)) := by
  have h_ := L41a.spec n g hn j1 j2 k p hk hr ((((↑(r42.v k p).length : Int) - a10).toNat) + 1) a10 hinv (Nat.lt_succ_self _)
  unfold L41a.run at hN
  simp only [hN] at h_
  exact h_
theorem L41a.e1 (n : Nat) (g : Nat → PD) (hn : n ≤ 9223372036854775807) (j1 : Int) (j2 : Int) (k : Nat) (p : Nat → PD) (hk : k ≤ 30) (hr : ROk n g j1 j2 k p) (a10 : Int) (hinv : L41a.inv n g j1 j2 k p a10) (a0 : Int) (hN : L41a.run n g j1 j2 k p a10 = (.e1 a0 : L41a.O)) : LoopTo Try.prog (loopN Try.f41 0) (L41a.T n g j1 j2 k p a10) (L41a.H n g j1 j2 k p a10) (Exit.ret) (L41a.X n g j1 j2 k p (.e1 a0 : L41a.O)) (L41a.XH n g j1 j2 k p (.e1 a0 : L41a.O)) := by
  have h_ := L41a.spec n g hn j1 j2 k p hk hr ((((↑(r42.v k p).length : Int) - a10).toNat) + 1) a10 hinv (Nat.lt_succ_self _)
  unfold L41a.run at hN
  simp only [hN] at h_
  exact h_
theorem L41a.e2 (n : Nat) (g : Nat → PD) (hn : n ≤ 9223372036854775807) (j1 : Int) (j2 : Int) (k : Nat) (p : Nat → PD) (hk : k ≤ 30) (hr : ROk n g j1 j2 k p) (a10 : Int) (hinv : L41a.inv n g j1 j2 k p a10) (hN : L41a.run n g j1 j2 k p a10 = (.e2 : L41a.O)) : LoopTo Try.prog (loopN Try.f41 0) (L41a.T n g j1 j2 k p a10) (L41a.H n g j1 j2 k p a10) (Exit.exit 0) (L41a.X n g j1 j2 k p (.e2 : L41a.O)) (L41a.XH n g j1 j2 k p (.e2 : L41a.O)) := by
  have h_ := L41a.spec n g hn j1 j2 k p hk hr ((((↑(r42.v k p).length : Int) - a10).toNat) + 1) a10 hinv (Nat.lt_succ_self _)
  unfold L41a.run at hN
  simp only [hN] at h_
  exact h_

noncomputable def r41.v0 (n : Nat) (g : Nat → PD) (j1 : Int) (j2 : Int) (k : Nat) (p : Nat → PD) : Int := (match L41a.run n g j1 j2 k p 0 with | .e0 h1d0 => h1d0 | .e1 h1d0 => h1d0 | .e2 => -1 )
noncomputable def r41.v1 (n : Nat) (g : Nat → PD) (j1 : Int) (j2 : Int) (k : Nat) (p : Nat → PD) : Bool := (match L41a.run n g j1 j2 k p 0 with | .e0 h1d0 => true | .e1 h1d0 => false | .e2 => false )
noncomputable abbrev r41.h0 (n : Nat) (g : Nat → PD) (j1 : Int) (j2 : Int) (k : Nat) (p : Nat → PD) : AHeap := ([AObj.var (AV.agg [AV.sl 2 n fun (i : Nat) => AV.agg [AV.int IntKind.i64 (g i).lo, AV.int IntKind.i64 (g i).hi], AV.int IntKind.i64 j1, AV.int IntKind.i64 j2, AV.sl 2 k fun (i : Nat) => AV.agg [AV.int IntKind.i64 (p i).lo, AV.int IntKind.i64 (p i).hi]])])
theorem r41 (n : Nat) (g : Nat → PD) (hn : n ≤ 9223372036854775807) (j1 : Int) (j2 : Int) (k : Nat) (p : Nat → PD) (hk : k ≤ 30) (hr : ROk n g j1 j2 k p) (h : AHeap) : Ret Try.prog 41 ([rn n g j1 j2 k p]) h (AV.tup [(AV.int IntKind.i64 (r41.v0 n g j1 j2 k p)), (AV.bool (r41.v1 n g j1 j2 k p))]) h := by
  try have := bd_parts (by first | assumption | omega) (by first | assumption | omega)
  have o0 : k ≤ (30 : Nat) := by first | assumption | omega | (simp_all; done)
  have o1 : n ≤ (9223372036854775807 : Nat) := by first | assumption | omega | (simp_all; done)
  have o2 : ROk n g j1 j2 k p := by first | assumption | (simp_all; done)
  have o3 : (0 : Int) ≤ (↑(r42.v k p).length : Int) ∨ (0 : Int) ≤ (0 : Int) := by first | assumption | omega | (simp only [List.length_append, List.length_cons, List.length_nil, List.length_map]; omega) | (simp_all; done)
  cases h1 : L41a.run n g j1 j2 k p 0 with
  | e0 h1d0 =>
    exact Ret.of_run1 mix [(AV.int IntKind.i64 (r41.v0 n g j1 j2 k p)), (AV.bool (r41.v1 n g j1 j2 k p))] Try.func41 rfl [.ret (AV.sl 3 (r42.v k p).length fun (i : Nat) => AV.agg [AV.int IntKind.i64 (rget (r42.v k p) i).a, AV.int IntKind.i64 (rget (r42.v k p) i).b, AV.int IntKind.i64 (rget (r42.v k p) i).room]) (r41.h0 n g j1 j2 k p), .loop (others 48 [1, 8, 9, 10]) (Exit.ret) (L41a.X n g j1 j2 k p (L41a.O.e0 h1d0)) (L41a.XH n g j1 j2 k p (L41a.O.e0 h1d0))] (by simp) (by simp) (kmp (by kernel_rfl) (And.intro (r42 (n) (g) (j1) (j2) (k) (p) o0 (r41.h0 n g j1 j2 k p)) (And.intro (L41a.e0 (n) (g) o1 (j1) (j2) (k) (p) o0 o2 (0) (And.intro (show (0 : Int) ≤ (0 : Int) by first | decide | exact Int.NonNeg.mk _) o3) h1d0 h1) (And.intro (show (AV.int IntKind.i64 h1d0) = ((AV.int IntKind.i64 (r41.v0 n g j1 j2 k p))) by first | (simp only [r41.v0, r41.v1, h1, cond_true, cond_false]; done) | (try unfold r41.v0; try unfold r41.v1; try simp only [h1, cond_true, cond_false]; try rfl; done) | rfl) (And.intro (show (AV.bool true) = ((AV.bool (r41.v1 n g j1 j2 k p))) by first | (simp only [r41.v0, r41.v1, h1, cond_true, cond_false]; done) | (try unfold r41.v0; try unfold r41.v1; try simp only [h1, cond_true, cond_false]; try rfl; done) | rfl) trivial))))) h
  | e1 h1d0 =>
    exact Ret.of_run1 mix [(AV.int IntKind.i64 (r41.v0 n g j1 j2 k p)), (AV.bool (r41.v1 n g j1 j2 k p))] Try.func41 rfl [.ret (AV.sl 3 (r42.v k p).length fun (i : Nat) => AV.agg [AV.int IntKind.i64 (rget (r42.v k p) i).a, AV.int IntKind.i64 (rget (r42.v k p) i).b, AV.int IntKind.i64 (rget (r42.v k p) i).room]) (r41.h0 n g j1 j2 k p), .loop (others 48 [1, 8, 9, 10]) (Exit.ret) (L41a.X n g j1 j2 k p (L41a.O.e1 h1d0)) (L41a.XH n g j1 j2 k p (L41a.O.e1 h1d0))] (by simp) (by simp) (kmp (by kernel_rfl) (And.intro (r42 (n) (g) (j1) (j2) (k) (p) o0 (r41.h0 n g j1 j2 k p)) (And.intro (L41a.e1 (n) (g) o1 (j1) (j2) (k) (p) o0 o2 (0) (And.intro (show (0 : Int) ≤ (0 : Int) by first | decide | exact Int.NonNeg.mk _) o3) h1d0 h1) (And.intro (show (AV.int IntKind.i64 h1d0) = ((AV.int IntKind.i64 (r41.v0 n g j1 j2 k p))) by first | (simp only [r41.v0, r41.v1, h1, cond_true, cond_false]; done) | (try unfold r41.v0; try unfold r41.v1; try simp only [h1, cond_true, cond_false]; try rfl; done) | rfl) (And.intro (show (AV.bool false) = ((AV.bool (r41.v1 n g j1 j2 k p))) by first | (simp only [r41.v0, r41.v1, h1, cond_true, cond_false]; done) | (try unfold r41.v0; try unfold r41.v1; try simp only [h1, cond_true, cond_false]; try rfl; done) | rfl) trivial))))) h
  | e2 =>
    exact Ret.of_run1 mix [(AV.int IntKind.i64 (r41.v0 n g j1 j2 k p)), (AV.bool (r41.v1 n g j1 j2 k p))] Try.func41 rfl [.ret (AV.sl 3 (r42.v k p).length fun (i : Nat) => AV.agg [AV.int IntKind.i64 (rget (r42.v k p) i).a, AV.int IntKind.i64 (rget (r42.v k p) i).b, AV.int IntKind.i64 (rget (r42.v k p) i).room]) (r41.h0 n g j1 j2 k p), .loop (others 48 [1, 8, 9, 10]) (Exit.exit 0) (L41a.X n g j1 j2 k p L41a.O.e2) (L41a.XH n g j1 j2 k p L41a.O.e2)] (by simp) (by simp) (kmp (by kernel_rfl) (And.intro (r42 (n) (g) (j1) (j2) (k) (p) o0 (r41.h0 n g j1 j2 k p)) (And.intro (L41a.e2 (n) (g) o1 (j1) (j2) (k) (p) o0 o2 (0) (And.intro (show (0 : Int) ≤ (0 : Int) by first | decide | exact Int.NonNeg.mk _) o3) h1) (And.intro (show (AV.int IntKind.i64 (-1)) = ((AV.int IntKind.i64 (r41.v0 n g j1 j2 k p))) by first | (simp only [r41.v0, r41.v1, h1, cond_true, cond_false]; done) | (try unfold r41.v0; try unfold r41.v1; try simp only [h1, cond_true, cond_false]; try rfl; done) | rfl) (And.intro (show (AV.bool false) = ((AV.bool (r41.v1 n g j1 j2 k p))) by first | (simp only [r41.v0, r41.v1, h1, cond_true, cond_false]; done) | (try unfold r41.v0; try unfold r41.v1; try simp only [h1, cond_true, cond_false]; try rfl; done) | rfl) trivial))))) h

end Go.Proofs.Ytjdakdjgkpfjkaa

/- Plain laws: the first part that fails. Conditions: none. -/
open Go
namespace Go.Proofs.Ytjdakdjgkpfjkaa
set_option linter.unusedVariables false
set_option linter.unusedSimpArgs false
variable {n k : Nat} {g p : Nat → PD} {m j1 j2 : Int}

def pa (p : Nat → PD) (i : Nat) : Nat := if i = 0 then 0 else (p (i - 1)).lo.toNat
def pb (p : Nat → PD) (i : Nat) : Nat := (p i).lo.toNat
def prm (p : Nat → PD) (i : Nat) : Int := (p i).hi - (if i = 0 then 0 else (p (i - 1)).hi)

theorem pa_eq (h : PlOk n k p) {i : Nat} (hi : i < k) : (ptB p i).a = pa p i := by
  unfold ptB pa
  by_cases e : i = 0
  · simp [e]
  · have := h.lo (i - 1) (by omega)
    simp only [if_neg e]; omega
theorem pb_eq (h : PlOk n k p) {i : Nat} (hi : i < k) : (ptB p i).b = pb p i := by
  unfold ptB pb
  have := h.lo i hi
  simp only; omega
theorem pab (h : PlOk n k p) {i : Nat} (hi : i < k) : pa p i < pb p i ∧ pb p i ≤ n := by
  have := pt_bd h hi
  rw [pa_eq h hi, pb_eq h hi] at this
  omega

theorem sLo_bd (h : ROk n g j1 j2 k p) {u w : Nat} (hu : u ≤ w) (hw : w ≤ n) : 0 ≤ sLo g u w ∧ sLo g u w ≤ 512000000 := by
  have := sumB_bd (f := fun i => (g i).lo) (u := u) (b := 1000000) (w - u) fun i a b => by have := h.l1 i (by omega); have := h.l2 i (by omega); have := h.l3 i (by omega); omega
  have := h.le
  unfold sLo; omega
theorem sHi_bd (h : ROk n g j1 j2 k p) {u w : Nat} (hu : u ≤ w) (hw : w ≤ n) : 0 ≤ sHi g u w ∧ sHi g u w ≤ 512000000 := by
  have := sumB_bd (f := fun i => (g i).hi) (u := u) (b := 1000000) (w - u) fun i a b => by have := h.l1 i (by omega); have := h.l2 i (by omega); have := h.l3 i (by omega); omega
  have := h.le
  unfold sHi; omega
theorem jn_bd {u w : Nat} (hu : u < w) (hw : w ≤ n) (hn : n ≤ 512) : 0 ≤ jn n u w ∧ jn n u w ≤ 512 := by
  unfold jn; split <;> omega
theorem jn_mul {u w : Nat} {j : Int} (hu : u < w) (hw : w ≤ n) (hn : n ≤ 512) (h0 : 0 ≤ j) (h1 : j ≤ 1000) : 0 ≤ jn n u w * j ∧ jn n u w * j ≤ 512000 := by
  obtain ⟨a, b⟩ := jn_bd hu hw hn
  have c := Int.mul_nonneg a h0
  have d : jn n u w * j ≤ 512 * 1000 := Int.mul_le_mul b h1 h0 (by omega)
  omega

def long (n : Nat) (g : Nat → PD) (j1 : Int) (p : Nat → PD) (i : Nat) : Bool := decide (sHi g (pa p i) (pb p i) + jn n (pa p i) (pb p i) * j1 > prm p i)
def short (n : Nat) (g : Nat → PD) (j2 : Int) (p : Nat → PD) (i : Nat) : Bool := decide (sLo g (pa p i) (pb p i) + jn n (pa p i) (pb p i) * j2 < prm p i)

theorem r33_part (h : ROk n g j1 j2 k p) (hk : k ≤ 30) {i : Nat} (hi : i < k) :
    r33.v0 n g (rget (r42.v k p) i).a (rget (r42.v k p) i).b = sLo g (pa p i) (pb p i) ∧
    r33.v1 n g (rget (r42.v k p) i).a (rget (r42.v k p) i).b = sHi g (pa p i) (pb p i) ∧
    r33.v2 n g (rget (r42.v k p) i).a (rget (r42.v k p) i).b = jn n (pa p i) (pb p i) := by
  rw [part_get h hk hi, pa_eq h.pl hi, pb_eq h.pl hi]
  have := pab h.pl hi
  exact r33_eq h (by omega) (by omega)

theorem L41_run (h : ROk n g j1 j2 k p) (hk : k ≤ 30) : L41a.run n g j1 j2 k p 0 = srch (fun i => long n g j1 p i || short n g j2 p i) (fun i => bif long n g j1 p i then .e0 i else .e1 i) .e2 0 k := by
  have := search_eq (n := k) (fun i => long n g j1 p i || short n g j2 p i) (fun i => bif long n g j1 p i then L41a.O.e0 i else .e1 i) .e2 (N := L41a.N n g j1 j2 k p) (fun k' i hi => by
    obtain ⟨e1, e2, e3⟩ := r33_part h hk hi
    rw [part_get h hk hi] at e1 e2 e3
    simp only [L41a.N, wrap_succ (n := k) (by omega) hi, Int.toNat_natCast, e1, e2, e3, part_get h hk hi, part_len h hk]
    rw [decide_eq_true (show (i : Int) < k by omega)]
    have hab := pab h.pl hi
    have hn := h.le
    have m1 := jn_mul (n := n) (j := j1) hab.1 hab.2 hn h.ja (by have := h.jb; have := h.jc; omega)
    have m2 := jn_mul (n := n) (j := j2) hab.1 hab.2 hn (by have := h.ja; have := h.jb; omega) h.jc
    have b1 := sLo_bd h (Nat.le_of_lt hab.1) hab.2
    have b2 := sHi_bd h (Nat.le_of_lt hab.1) hab.2

    simp only [i64_small (x := jn n (pa p i) (pb p i) * j1) (by omega), i64_small (x := jn n (pa p i) (pb p i) * j2) (by omega)]

    simp only [i64_small (x := sHi g (pa p i) (pb p i) + jn n (pa p i) (pb p i) * j1) (by omega), i64_small (x := sLo g (pa p i) (pb p i) + jn n (pa p i) (pb p i) * j2) (by omega)]
    show (bif true then (bif long n g j1 p i then _ else (bif short n g j2 p i then _ else _)) else _) = _
    cases long n g j1 p i <;> cases short n g j2 p i <;> rfl) (fun k' => by simp only [L41a.N]; rw [part_len h hk]; simp) (k + 1) 0 (Nat.zero_le _) (by omega)
  rw [← part_len h hk] at this
  simpa [L41a.run, L41a.mu, part_len h hk] using this

/-- What `failing` hands back. -/
theorem r41_cases (h : ROk n g j1 j2 k p) (hk : k ≤ 30) :
    ((∀ i, i < k → long n g j1 p i = false ∧ short n g j2 p i = false) ∧ r41.v0 n g j1 j2 k p = -1 ∧ r41.v1 n g j1 j2 k p = false) ∨
    ∃ i, i < k ∧ (long n g j1 p i || short n g j2 p i) = true ∧ (∀ l, l < i → long n g j1 p l = false ∧ short n g j2 p l = false) ∧ r41.v0 n g j1 j2 k p = i ∧ r41.v1 n g j1 j2 k p = long n g j1 p i := by
  unfold r41.v0 r41.v1
  rw [L41_run h hk]
  rcases srch_cases (fun i => long n g j1 p i || short n g j2 p i) (fun i => bif long n g j1 p i then L41a.O.e0 i else .e1 i) .e2 k 0 with ⟨a1, a2⟩ | ⟨i, a1, a2, a3, a4, a5⟩
  · rw [a2]
    exact .inl ⟨fun i hi => by simpa using a1 i (Nat.zero_le _) (by omega), rfl, rfl⟩
  · rw [a5]
    refine .inr ⟨i, by omega, a3, fun l hl => by simpa using a4 l (Nat.zero_le _) hl, ?_, ?_⟩ <;> cases long n g j1 p i <;> rfl

theorem ok_of (hn : n ≤ 9223372036854775807) (hk : k ≤ 9223372036854775807) (h : (r16.v n g j1 j2 k p == 0) = true) : ROk n g j1 j2 k p := checked hn hk (eq_of_beq h)
theorem bd_first (h : ROk n g j1 j2 k p) (hk : k ≤ 30) : r41.v0 n g j1 j2 k p < (r42.v k p).length := by
  rw [part_len h hk]
  rcases r41_cases h hk with ⟨_, e, _⟩ | ⟨i, hi, _, _, e, _⟩ <;> omega
theorem bd_failed (h : ROk n g j1 j2 k p) (hk : k ≤ 30) (h0 : ¬ (r41.v0 n g j1 j2 k p < 0)) : r41.v0 n g j1 j2 k p < (r42.v k p).length ∧ 0 ≤ (rget (r42.v k p) (r41.v0 n g j1 j2 k p).toNat).a ∧ (rget (r42.v k p) (r41.v0 n g j1 j2 k p).toNat).a ≤ (rget (r42.v k p) (r41.v0 n g j1 j2 k p).toNat).b ∧ (rget (r42.v k p) (r41.v0 n g j1 j2 k p).toNat).b ≤ n ∧ (rget (r42.v k p) (r41.v0 n g j1 j2 k p).toNat).b ≤ 512 := by
  have hb := bd_first h hk
  have hi : (r41.v0 n g j1 j2 k p).toNat < (r42.v k p).length := by omega
  have := hint_a h hk hi; have := hint_b h hk hi; have := hint_c h hk hi; have := h.le; omega
theorem bd_failed2 (h : (r16.v n g j1 j2 k p == 0) = true) (hn : n ≤ 9223372036854775807) (hk : k ≤ 30) (h0 : ¬ (r41.v0 n g j1 j2 k p < 0)) : r41.v0 n g j1 j2 k p < (r42.v k p).length ∧ 0 ≤ (rget (r42.v k p) (r41.v0 n g j1 j2 k p).toNat).a ∧ (rget (r42.v k p) (r41.v0 n g j1 j2 k p).toNat).a ≤ (rget (r42.v k p) (r41.v0 n g j1 j2 k p).toNat).b ∧ (rget (r42.v k p) (r41.v0 n g j1 j2 k p).toNat).b ≤ n ∧ (rget (r42.v k p) (r41.v0 n g j1 j2 k p).toNat).b ≤ 512 :=
  bd_failed (ok_of hn (by omega) h) hk h0
end Go.Proofs.Ytjdakdjgkpfjkaa
