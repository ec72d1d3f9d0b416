/- the tolerance seat's contracts: checks. -/
import Derived.Test.YtjdakdjgkpfjkaaC0
open Go
namespace Go.Proofs.Ytjdakdjgkpfjkaa
set_option linter.unusedSimpArgs false
set_option linter.unusedVariables false
set_option maxHeartbeats 0
set_option maxRecDepth 100000

/-- A pair of whole numbers: an interval, or a place. -/
structure PD where
  lo : Int
  hi : Int
instance : Inhabited PD := ⟨⟨0, 0⟩⟩
def PD.av (x : PD) : AV := .agg [.int .i64 x.lo, .int .i64 x.hi]
def prs (n : Nat) (g : Nat → PD) : AV := .sl 2 n (fun i => (g i).av)
@[simp] theorem low_pd (lo : Nat) (x : PD) : Low lo x.av = True := by unfold PD.av; simp
@[simp] theorem low_prs (lo n : Nat) (g : Nat → PD) : Low lo (prs n g) = True := by unfold prs; simp
/-- A run: its stones, its joint, its places. -/
def rn (n : Nat) (g : Nat → PD) (j1 j2 : Int) (k : Nat) (p : Nat → PD) : AV := .agg [prs n g, .int .i64 j1, .int .i64 j2, prs k p]
@[simp] theorem low_rn (lo n : Nat) (g : Nat → PD) (j1 j2 : Int) (k : Nat) (p : Nat → PD) : Low lo (rn n g j1 j2 k p) = True := by unfold rn; simp

noncomputable def r36.v (n : Int) : Int := (bif decide (n > 512) then 7 else (bif n == 0 then 1 else 0))
theorem r36 (n : Int) (h : AHeap) : Ret Try.prog 36 ([AV.int IntKind.i64 n]) h (AV.int IntKind.i64 (r36.v n)) h := by
  cases h1 : decide (n > 512) with
  | true =>
    have h1p := of_decide_eq_true h1
    exact Ret.of_run1 mix [(AV.int IntKind.i64 (r36.v n))] Try.func36 rfl [.b true] (by simp) (by simp) (kmp (by kernel_rfl) (And.intro h1 (And.intro (show (AV.int IntKind.i64 7) = ((AV.int IntKind.i64 (r36.v n))) by first | (simp only [r36.v, h1, cond_true, cond_false]; done) | (try unfold r36.v; try simp only [h1, cond_true, cond_false]; try rfl; done) | rfl) trivial))) h
  | false =>
    have h1p := of_decide_eq_false h1
    cases h2 : n == 0 with
    | true =>
      have h2p := eq_of_beq h2
      exact Ret.of_run1 mix [(AV.int IntKind.i64 (r36.v n))] Try.func36 rfl [.b false, .b true] (by simp) (by simp) (kmp (by kernel_rfl) (And.intro h1 (And.intro h2 (And.intro (show (AV.int IntKind.i64 1) = ((AV.int IntKind.i64 (r36.v n))) by first | (simp only [r36.v, h1, h2, cond_true, cond_false]; done) | (try unfold r36.v; try simp only [h1, cond_true, cond_false]; try simp only [h2, cond_true, cond_false]; try rfl; done) | rfl) trivial)))) h
    | false =>
      have h2p := ne_of_beq_false h2
      exact Ret.of_run1 mix [(AV.int IntKind.i64 (r36.v n))] Try.func36 rfl [.b false, .b false] (by simp) (by simp) (kmp (by kernel_rfl) (And.intro h1 (And.intro h2 (And.intro (show (AV.int IntKind.i64 0) = ((AV.int IntKind.i64 (r36.v n))) by first | (simp only [r36.v, h1, h2, cond_true, cond_false]; done) | (try unfold r36.v; try simp only [h1, cond_true, cond_false]; try simp only [h2, cond_true, cond_false]; try rfl; done) | rfl) trivial)))) h

noncomputable def r34.v (a : Int) (b : Int) : Bool := (bif decide (a ≥ 0) then (bif decide (a ≤ b) then decide (b ≤ 1000) else false) else false)
theorem r34 (a : Int) (b : Int) (h : AHeap) : Ret Try.prog 34 ([AV.agg [AV.int IntKind.i64 a, AV.int IntKind.i64 b]]) h (AV.bool (r34.v a b)) h := by
  cases h1 : decide (a ≥ 0) with
  | true =>
    have h1p := of_decide_eq_true h1
    cases h2 : decide (a ≤ b) with
    | true =>
      have h2p := of_decide_eq_true h2
      exact Ret.of_run1 mix [(AV.bool (r34.v a b))] Try.func34 rfl [.b true, .b true, .b true, .b true, .b true, .b true, .b true, .b true, .b true, .b true] (by simp) (by simp) (kmp (by kernel_rfl) (And.intro h1 (And.intro h1 (And.intro h1 (And.intro h1 (And.intro h1 (And.intro h1 (And.intro h2 (And.intro h2 (And.intro h2 (And.intro h2 (And.intro (show (AV.bool (decide (b ≤ 1000))) = ((AV.bool (r34.v a b))) by first | (simp only [r34.v, h1, h2, cond_true, cond_false]; done) | (try unfold r34.v; try simp only [h1, cond_true, cond_false]; try simp only [h2, cond_true, cond_false]; try rfl; done) | rfl) trivial)))))))))))) h
    | false =>
      have h2p := of_decide_eq_false h2
      exact Ret.of_run1 mix [(AV.bool (r34.v a b))] Try.func34 rfl [.b true, .b true, .b true, .b true, .b true, .b true, .b false, .b false, .b false, .b false] (by simp) (by simp) (kmp (by kernel_rfl) (And.intro h1 (And.intro h1 (And.intro h1 (And.intro h1 (And.intro h1 (And.intro h1 (And.intro h2 (And.intro h2 (And.intro h2 (And.intro h2 (And.intro (show (AV.bool false) = ((AV.bool (r34.v a b))) by first | (simp only [r34.v, h1, h2, cond_true, cond_false]; done) | (try unfold r34.v; try simp only [h1, cond_true, cond_false]; try simp only [h2, cond_true, cond_false]; try rfl; done) | rfl) trivial)))))))))))) h
  | false =>
    have h1p := of_decide_eq_false h1
    exact Ret.of_run1 mix [(AV.bool (r34.v a b))] Try.func34 rfl [.b false, .b false, .b false, .b false, .b false, .b false, .b false, .b false, .b false, .b false] (by simp) (by simp) (kmp (by kernel_rfl) (And.intro h1 (And.intro h1 (And.intro h1 (And.intro h1 (And.intro h1 (And.intro h1 (And.intro (rfl : false = false) (And.intro (rfl : false = false) (And.intro (rfl : false = false) (And.intro (rfl : false = false) (And.intro (show (AV.bool false) = ((AV.bool (r34.v a b))) by first | (simp only [r34.v, h1, cond_true, cond_false]; done) | (try unfold r34.v; try simp only [h1, cond_true, cond_false]; try rfl; done) | rfl) trivial)))))))))))) h

noncomputable def r39.v (a : Int) (b : Int) : Bool := (bif decide (a ≥ 0) then (bif decide (a ≤ b) then decide (b ≤ 1000) else false) else false)
theorem r39 (a : Int) (b : Int) (h : AHeap) : Ret Try.prog 39 ([AV.agg [AV.int IntKind.i64 a, AV.int IntKind.i64 b]]) h (AV.bool (r39.v a b)) h := by
  cases h1 : decide (a ≥ 0) with
  | true =>
    have h1p := of_decide_eq_true h1
    cases h2 : decide (a ≤ b) with
    | true =>
      have h2p := of_decide_eq_true h2
      exact Ret.of_run1 mix [(AV.bool (r39.v a b))] Try.func39 rfl [.b true, .b true, .b true, .b true, .b true, .b true, .b true, .b true, .b true, .b true] (by simp) (by simp) (kmp (by kernel_rfl) (And.intro h1 (And.intro h1 (And.intro h1 (And.intro h1 (And.intro h1 (And.intro h1 (And.intro h2 (And.intro h2 (And.intro h2 (And.intro h2 (And.intro (show (AV.bool (decide (b ≤ 1000))) = ((AV.bool (r39.v a b))) by first | (simp only [r39.v, h1, h2, cond_true, cond_false]; done) | (try unfold r39.v; try simp only [h1, cond_true, cond_false]; try simp only [h2, cond_true, cond_false]; try rfl; done) | rfl) trivial)))))))))))) h
    | false =>
      have h2p := of_decide_eq_false h2
      exact Ret.of_run1 mix [(AV.bool (r39.v a b))] Try.func39 rfl [.b true, .b true, .b true, .b true, .b true, .b true, .b false, .b false, .b false, .b false] (by simp) (by simp) (kmp (by kernel_rfl) (And.intro h1 (And.intro h1 (And.intro h1 (And.intro h1 (And.intro h1 (And.intro h1 (And.intro h2 (And.intro h2 (And.intro h2 (And.intro h2 (And.intro (show (AV.bool false) = ((AV.bool (r39.v a b))) by first | (simp only [r39.v, h1, h2, cond_true, cond_false]; done) | (try unfold r39.v; try simp only [h1, cond_true, cond_false]; try simp only [h2, cond_true, cond_false]; try rfl; done) | rfl) trivial)))))))))))) h
  | false =>
    have h1p := of_decide_eq_false h1
    exact Ret.of_run1 mix [(AV.bool (r39.v a b))] Try.func39 rfl [.b false, .b false, .b false, .b false, .b false, .b false, .b false, .b false, .b false, .b false] (by simp) (by simp) (kmp (by kernel_rfl) (And.intro h1 (And.intro h1 (And.intro h1 (And.intro h1 (And.intro h1 (And.intro h1 (And.intro (rfl : false = false) (And.intro (rfl : false = false) (And.intro (rfl : false = false) (And.intro (rfl : false = false) (And.intro (show (AV.bool false) = ((AV.bool (r39.v a b))) by first | (simp only [r39.v, h1, cond_true, cond_false]; done) | (try unfold r39.v; try simp only [h1, cond_true, cond_false]; try rfl; done) | rfl) trivial)))))))))))) h

noncomputable def r38.v (x : PD) : Bool := (bif decide (x.lo < 1) then true else (bif decide (x.lo > x.hi) then true else decide (x.hi > 1000000)))
theorem r38 (x : PD) (h : AHeap) : Ret Try.prog 38 ([x.av]) h (AV.bool (r38.v x)) h := by
  cases h1 : decide (x.lo < 1) with
  | true =>
    have h1p := of_decide_eq_true h1
    exact Ret.of_run1 mix [(AV.bool (r38.v x))] Try.func38 rfl [.b true, .b true, .b true, .b true, .b true, .b true, .b true, .b true, .b true, .b true] (by simp) (by simp) (kmp (by kernel_rfl) (And.intro h1 (And.intro h1 (And.intro h1 (And.intro h1 (And.intro h1 (And.intro h1 (And.intro (rfl : true = true) (And.intro (rfl : true = true) (And.intro (rfl : true = true) (And.intro (rfl : true = true) (And.intro (show (AV.bool true) = ((AV.bool (r38.v x))) by first | (simp only [r38.v, h1, cond_true, cond_false]; done) | (try unfold r38.v; try simp only [h1, cond_true, cond_false]; try rfl; done) | rfl) trivial)))))))))))) h
  | false =>
    have h1p := of_decide_eq_false h1
    cases h2 : decide (x.lo > x.hi) with
    | true =>
      have h2p := of_decide_eq_true h2
      exact Ret.of_run1 mix [(AV.bool (r38.v x))] Try.func38 rfl [.b false, .b false, .b false, .b false, .b false, .b false, .b true, .b true, .b true, .b true] (by simp) (by simp) (kmp (by kernel_rfl) (And.intro h1 (And.intro h1 (And.intro h1 (And.intro h1 (And.intro h1 (And.intro h1 (And.intro h2 (And.intro h2 (And.intro h2 (And.intro h2 (And.intro (show (AV.bool true) = ((AV.bool (r38.v x))) by first | (simp only [r38.v, h1, h2, cond_true, cond_false]; done) | (try unfold r38.v; try simp only [h1, cond_true, cond_false]; try simp only [h2, cond_true, cond_false]; try rfl; done) | rfl) trivial)))))))))))) h
    | false =>
      have h2p := of_decide_eq_false h2
      exact Ret.of_run1 mix [(AV.bool (r38.v x))] Try.func38 rfl [.b false, .b false, .b false, .b false, .b false, .b false, .b false, .b false, .b false, .b false] (by simp) (by simp) (kmp (by kernel_rfl) (And.intro h1 (And.intro h1 (And.intro h1 (And.intro h1 (And.intro h1 (And.intro h1 (And.intro h2 (And.intro h2 (And.intro h2 (And.intro h2 (And.intro (show (AV.bool (decide (x.hi > 1000000))) = ((AV.bool (r38.v x))) by first | (simp only [r38.v, h1, h2, cond_true, cond_false]; done) | (try unfold r38.v; try simp only [h1, cond_true, cond_false]; try simp only [h2, cond_true, cond_false]; try rfl; done) | rfl) trivial)))))))))))) h

noncomputable def r61.v (x : PD) : Bool := (bif decide (x.hi < 1) then true else decide (x.hi > 1000000000))
theorem r61 (x : PD) (h : AHeap) : Ret Try.prog 61 ([x.av]) h (AV.bool (r61.v x)) h := by
  cases h1 : decide (x.hi < 1) with
  | true =>
    have h1p := of_decide_eq_true h1
    exact Ret.of_run1 mix [(AV.bool (r61.v x))] Try.func61 rfl [.b true, .b true, .b true, .b true] (by simp) (by simp) (kmp (by kernel_rfl) (And.intro h1 (And.intro h1 (And.intro h1 (And.intro h1 (And.intro (show (AV.bool true) = ((AV.bool (r61.v x))) by first | (simp only [r61.v, h1, cond_true, cond_false]; done) | (try unfold r61.v; try simp only [h1, cond_true, cond_false]; try rfl; done) | rfl) trivial)))))) h
  | false =>
    have h1p := of_decide_eq_false h1
    exact Ret.of_run1 mix [(AV.bool (r61.v x))] Try.func61 rfl [.b false, .b false, .b false, .b false] (by simp) (by simp) (kmp (by kernel_rfl) (And.intro h1 (And.intro h1 (And.intro h1 (And.intro h1 (And.intro (show (AV.bool (decide (x.hi > 1000000000))) = ((AV.bool (r61.v x))) by first | (simp only [r61.v, h1, cond_true, cond_false]; done) | (try unfold r61.v; try simp only [h1, cond_true, cond_false]; try rfl; done) | rfl) trivial)))))) h

noncomputable def r58.v0 (a : Int) (d : Int) : Int := IntKind.i64.wrap (a + d)
noncomputable def r58.v1 (b : Int) (e : Int) : Int := IntKind.i64.wrap (b + e)
theorem r58 (a : Int) (b : Int) (c : Int) (d : Int) (e : Int) (h : AHeap) : Ret Try.prog 58 ([AV.agg [AV.int IntKind.i64 a, AV.int IntKind.i64 b, AV.int IntKind.i64 c], AV.agg [AV.int IntKind.i64 d, AV.int IntKind.i64 e]]) h (AV.agg ((AV.int IntKind.i64 (r58.v0 a d)) :: ((AV.int IntKind.i64 (r58.v1 b e)) :: ((AV.int IntKind.i64 c) :: [])))) h := by
  exact Ret.of_run1 mix [(AV.agg ((AV.int IntKind.i64 (r58.v0 a d)) :: ((AV.int IntKind.i64 (r58.v1 b e)) :: ((AV.int IntKind.i64 c) :: []))))] Try.func58 rfl [] (by simp) (by simp) (kmp (by kernel_rfl) (And.intro (And.intro trivial (show (AV.agg [AV.int IntKind.i64 (IntKind.i64.wrap (a + d)), AV.int IntKind.i64 (IntKind.i64.wrap (b + e)), AV.int IntKind.i64 c]) = ((AV.agg ((AV.int IntKind.i64 (r58.v0 a d)) :: ((AV.int IntKind.i64 (r58.v1 b e)) :: ((AV.int IntKind.i64 c) :: []))))) by first | (simp only [r58.v0, r58.v1, cond_true, cond_false]; done) | (try unfold r58.v0; try unfold r58.v1; try rfl; done) | rfl)) trivial)) h

inductive L59.O where
  | e0 (a0 : Int)
  | e1
noncomputable def L59.T (n : Nat) (g : Nat → PD) (i : Int) : List AV := mkT 19 [(0, AV.sl 2 n fun (i : Nat) => AV.agg [AV.int IntKind.i64 (g i).lo, AV.int IntKind.i64 (g i).hi]), (1, AV.fn 38 []), (7, AV.int IntKind.i64 (↑n : Int)), (8, AV.int IntKind.i64 i)]
noncomputable def L59.H (n : Nat) (g : Nat → PD) (i : Int) : AHeap := []
def L59.inv (n : Nat) (g : Nat → PD) (i : Int) : Prop := 0 ≤ i ∧ i ≤ (↑n : Int)
noncomputable def L59.mu (n : Nat) (g : Nat → PD) (i : Int) : Nat := ((↑n : Int) - i).toNat
noncomputable def L59.E : L59.O → Exit
  | .e0 a0 => Exit.ret
  | .e1 => Exit.exit 0
noncomputable def L59.X (n : Nat) (g : Nat → PD) : L59.O → List AV
  | .e0 a0 => mkT 19 [(4, (AV.int IntKind.i64 a0))]
  | .e1 => mkT 19 []
noncomputable def L59.XH (n : Nat) (g : Nat → PD) : L59.O → AHeap
  | .e0 a0 => ([])
  | .e1 => ([])
noncomputable def L59.N (n : Nat) (g : Nat → PD) : Nat → Int → L59.O
  | 0, _ => .e0 default
  | k_ + 1, i => (bif decide (i < (↑n : Int)) then (bif r38.v (g i.toNat) then (.e0 (i)) else (L59.N n g k_ (IntKind.i64.wrap (i + 1)))) else (.e1))
noncomputable def L59.run (n : Nat) (g : Nat → PD) (i : Int) : L59.O := L59.N n g ((((↑n : Int) - i).toNat) + 1) i
def L59.Next (n : Nat) (g : Nat → PD) (k_ : Nat) (z_ : Int) (T_ : List AV) (h_ : AHeap) : Prop := LNextP (fun (z_ : Int) => L59.T n g z_) (fun (z_ : Int) => L59.H n g z_) (fun (z_ : Int) => L59.inv n g z_) (fun (z_ : Int) => L59.mu n g z_) (fun (k_ : Nat) (z_ : Int) => L59.N n g k_ z_) k_ z_ T_ h_
def L59.End (n : Nat) (g : Nat → PD) (k_ : Nat) (z_ : Int) (e_ : Exit) (T_ : List AV) (h_ : AHeap) : Prop := LEndP (fun (z_ : Int) => L59.H n g z_) (fun (k_ : Nat) (z_ : Int) => L59.N n g k_ z_) L59.E (L59.X n g) (L59.XH n g) k_ z_ e_ T_ h_
theorem L59.nx (n : Nat) (g : Nat → PD) {k_ : Nat} {z_ : Int} {h_ : AHeap} (s_ : Int) (h1 : L59.inv n g s_) (h2 : L59.mu n g s_ < L59.mu n g z_) (h3 : L59.N n g k_ s_ = L59.N n g (k_ + 1) z_) (h4 : PopOk (L59.H n g z_) h_ (L59.T n g s_) (L59.H n g s_)) : LNextP (fun (z_ : Int) => L59.T n g z_) (fun (z_ : Int) => L59.H n g z_) (fun (z_ : Int) => L59.inv n g z_) (fun (z_ : Int) => L59.mu n g z_) (fun (k_ : Nat) (z_ : Int) => L59.N n g k_ z_) k_ z_ (L59.T n g s_) h_ := LNextP.mk (Tm := (fun (z_ : Int) => L59.T n g z_)) (Hp := (fun (z_ : Int) => L59.H n g z_)) (inv := (fun (z_ : Int) => L59.inv n g z_)) (mu := (fun (z_ : Int) => L59.mu n g z_)) (l := (fun (k_ : Nat) (z_ : Int) => L59.N n g k_ z_)) s_ h1 h2 h3 h4
theorem L59.en (n : Nat) (g : Nat → PD) {k_ : Nat} {z_ : Int} {h_ : AHeap} (o_ : L59.O) (h3 : L59.N n g (k_ + 1) z_ = o_) (h4 : PopOk (L59.H n g z_) h_ (L59.X n g o_) (L59.XH n g o_)) : LEndP (fun (z_ : Int) => L59.H n g z_) (fun (k_ : Nat) (z_ : Int) => L59.N n g k_ z_) L59.E (L59.X n g) (L59.XH n g) k_ z_ (L59.E o_) (L59.X n g o_) h_ := LEndP.mk (Hp := (fun (z_ : Int) => L59.H n g z_)) (l := (fun (k_ : Nat) (z_ : Int) => L59.N n g k_ z_)) (oE := L59.E) (oT := L59.X n g) (oH := L59.XH n g) o_ h3 h4
theorem L59.spec (n : Nat) (g : Nat → PD) (hn : n ≤ 9223372036854775807) (k_ : Nat) (z_ : Int) (hi_ : L59.inv n g z_) (hm_ : L59.mu n g z_ < k_) : LoopTo Try.prog (loopN Try.f59 0) (L59.T n g z_) (L59.H n g z_) (L59.E (L59.N n g k_ z_)) (L59.X n g (L59.N n g k_ z_)) (L59.XH n g (L59.N n g k_ z_)) := by
  refine LoopTo.fuelP mix (fun (z_ : Int) => L59.T n g z_) (fun (z_ : Int) => L59.H n g z_) (fun (z_ : Int) => L59.inv n g z_) (fun (z_ : Int) => L59.mu n g z_) (fun (k_ : Nat) (z_ : Int) => L59.N n g k_ z_) L59.E (L59.X n g) (L59.XH n g) (others 19 [0, 1, 7, 8]) (others 19 [4]) (others 19 []) ?_ k_ z_ hi_ hm_
  clear hm_ hi_ z_ k_
  intro k_ z_ hinv hmu
  revert hinv hmu; revert z_; intro i hinv hmu
  have hinv : 0 ≤ i ∧ i ≤ (↑n : Int) := hinv
  have hmu : (((↑n : Int) - i).toNat) < k_ + 1 := hmu
  cases h1 : decide (i < (↑n : Int)) with
  | true =>
    have h1p := of_decide_eq_true h1
    have o0 : (0 : Int) ≤ i := by first | assumption | omega | (simp_all; done)
    have o1 : i < (↑n : Int) := by first | assumption | omega | (simp_all; done)
    cases h2 : r38.v (g i.toNat) with
    | true =>
      exact ⟨[.b true, .ret (AV.bool (r38.v (g i.toNat))) ([]), .b true], kmp (by kernel_rfl) (And.intro h1 (And.intro (And.intro o0 o1) (And.intro (r38 (g i.toNat) ([])) (And.intro h2 (L59.en n g (k_ := k_) (z_ := i) (.e0 (i) : L59.O) (by first | (simp only [L59.N, h1, h2, cond_true, cond_false]; done) | (try unfold L59.N; try simp only [h1, cond_true, cond_false]; try simp only [h2, cond_true, cond_false]; try rfl; done)) PopOk.same)))))⟩
    | false =>
      try have := IntWalk.i64_in (i + 1) (by omega)
      have o2 : (0 : Int) ≤ IntKind.i64.wrap (i + (1 : Int)) := by first | assumption | omega | (simp_all; done)
      have o3 : IntKind.i64.wrap (i + (1 : Int)) ≤ (↑n : Int) := by first | assumption | omega | (simp_all; done)
      have o4 : ((↑n : Int) - IntKind.i64.wrap (i + (1 : Int))).toNat < ((↑n : Int) - i).toNat := by first | assumption | omega | (simp_all; done)
      exact ⟨[.b true, .ret (AV.bool (r38.v (g i.toNat))) ([]), .b false], kmp (by kernel_rfl) (And.intro h1 (And.intro (And.intro o0 o1) (And.intro (r38 (g i.toNat) ([])) (And.intro h2 (L59.nx n g (k_ := k_) (z_ := i) (IntKind.i64.wrap (i + 1)) (And.intro o2 o3) o4 (by first | (simp only [L59.N, h1, h2, cond_true, cond_false]; done) | (try unfold L59.N; try simp only [h1, cond_true, cond_false]; try simp only [h2, cond_true, cond_false]; try rfl; done)) PopOk.same)))))⟩
  | false =>
    have h1p := of_decide_eq_false h1
    exact ⟨[.b false], kmp (by kernel_rfl) (And.intro h1 (L59.en n g (k_ := k_) (z_ := i) (.e1 : L59.O) (by first | (simp only [L59.N, h1, cond_true, cond_false]; done) | (try unfold L59.N; try simp only [h1, cond_true, cond_false]; try rfl; done)) PopOk.same))⟩
theorem L59.e0 (n : Nat) (g : Nat → PD) (hn : n ≤ 9223372036854775807) (i : Int) (hinv : L59.inv n g i) (a0 : Int) (hN : L59.run n g i = (.e0 a0 : L59.O)) : LoopTo Try.prog (loopN Try.f59 0) (L59.T n g i) (L59.H n g i) (Exit.ret) (L59.X n g (.e0 a0 : L59.O)) (L59.XH n g (.e0 a0 : L59.O)) := by
  have h_ := L59.spec n g hn ((((↑n : Int) - i).toNat) + 1) i hinv (Nat.lt_succ_self _)
  unfold L59.run at hN
  simp only [hN] at h_
  exact h_
theorem L59.e1 (n : Nat) (g : Nat → PD) (hn : n ≤ 9223372036854775807) (i : Int) (hinv : L59.inv n g i) (hN : L59.run n g i = (.e1 : L59.O)) : LoopTo Try.prog (loopN Try.f59 0) (L59.T n g i) (L59.H n g i) (Exit.exit 0) (L59.X n g (.e1 : L59.O)) (L59.XH n g (.e1 : L59.O)) := by
  have h_ := L59.spec n g hn ((((↑n : Int) - i).toNat) + 1) i hinv (Nat.lt_succ_self _)
  unfold L59.run at hN
  simp only [hN] at h_
  exact h_

noncomputable def r59.v (n : Nat) (g : Nat → PD) : Int := (match L59.run n g 0 with | .e0 h1d0 => h1d0 | .e1 => -1 )
theorem r59 (n : Nat) (g : Nat → PD) (hn : n ≤ 9223372036854775807) (h : AHeap) : Ret Try.prog 59 ([prs n g, AV.fn 38 []]) h (AV.int IntKind.i64 (r59.v n g)) h := by
  have o0 : n ≤ (9223372036854775807 : Nat) := by first | assumption | omega | (simp_all; done)
  have o1 : (0 : Int) ≤ (↑n : Int) := by first | assumption | omega | (simp_all; done)
  cases h1 : L59.run n g 0 with
  | e0 h1d0 =>
    exact Ret.of_run1 mix [(AV.int IntKind.i64 (r59.v n g))] Try.func59 rfl [.loop (others 19 [0, 1, 7, 8]) (Exit.ret) (L59.X n g (L59.O.e0 h1d0)) (L59.XH n g (L59.O.e0 h1d0))] (by simp) (by simp) (kmp (by kernel_rfl) (And.intro (L59.e0 (n) (g) o0 (0) (And.intro (show (0 : Int) ≤ (0 : Int) by first | decide | exact Int.NonNeg.mk _) o1) h1d0 h1) (And.intro (show (AV.int IntKind.i64 h1d0) = ((AV.int IntKind.i64 (r59.v n g))) by first | (simp only [r59.v, h1, cond_true, cond_false]; done) | (try unfold r59.v; try simp only [h1, cond_true, cond_false]; try rfl; done) | rfl) trivial))) h
  | e1 =>
    exact Ret.of_run1 mix [(AV.int IntKind.i64 (r59.v n g))] Try.func59 rfl [.loop (others 19 [0, 1, 7, 8]) (Exit.exit 0) (L59.X n g L59.O.e1) (L59.XH n g L59.O.e1)] (by simp) (by simp) (kmp (by kernel_rfl) (And.intro (L59.e1 (n) (g) o0 (0) (And.intro (show (0 : Int) ≤ (0 : Int) by first | decide | exact Int.NonNeg.mk _) o1) h1) (And.intro (show (AV.int IntKind.i64 (-1)) = ((AV.int IntKind.i64 (r59.v n g))) by first | (simp only [r59.v, h1, cond_true, cond_false]; done) | (try unfold r59.v; try simp only [h1, cond_true, cond_false]; try rfl; done) | rfl) trivial))) h

noncomputable def r37.v (n : Nat) (g : Nat → PD) : Bool := decide (r59.v n g ≥ 0)
theorem r37 (n : Nat) (g : Nat → PD) (hn : n ≤ 9223372036854775807) (h : AHeap) : Ret Try.prog 37 ([prs n g, AV.fn 38 []]) h (AV.bool (r37.v n g)) h := by
  have o0 : n ≤ (9223372036854775807 : Nat) := by first | assumption | omega | (simp_all; done)
  exact Ret.of_run1 mix [(AV.bool (r37.v n g))] Try.func37 rfl [.ret (AV.int IntKind.i64 (r59.v n g)) ([])] (by simp) (by simp) (kmp (by kernel_rfl) (And.intro (r59 (n) (g) o0 ([])) (And.intro (show (AV.bool (decide (r59.v n g ≥ 0))) = ((AV.bool (r37.v n g))) by first | (simp only [r37.v, cond_true, cond_false]; done) | (try unfold r37.v; try rfl; done) | rfl) trivial))) h

inductive L77.O where
  | e0 (a0 : Int)
  | e1
noncomputable def L77.T (n : Nat) (g : Nat → PD) (i : Int) : List AV := mkT 19 [(0, AV.sl 2 n fun (i : Nat) => AV.agg [AV.int IntKind.i64 (g i).lo, AV.int IntKind.i64 (g i).hi]), (1, AV.fn 61 []), (7, AV.int IntKind.i64 (↑n : Int)), (8, AV.int IntKind.i64 i)]
noncomputable def L77.H (n : Nat) (g : Nat → PD) (i : Int) : AHeap := []
def L77.inv (n : Nat) (g : Nat → PD) (i : Int) : Prop := 0 ≤ i ∧ i ≤ (↑n : Int)
noncomputable def L77.mu (n : Nat) (g : Nat → PD) (i : Int) : Nat := ((↑n : Int) - i).toNat
noncomputable def L77.E : L77.O → Exit
  | .e0 a0 => Exit.ret
  | .e1 => Exit.exit 0
noncomputable def L77.X (n : Nat) (g : Nat → PD) : L77.O → List AV
  | .e0 a0 => mkT 19 [(4, (AV.int IntKind.i64 a0))]
  | .e1 => mkT 19 []
noncomputable def L77.XH (n : Nat) (g : Nat → PD) : L77.O → AHeap
  | .e0 a0 => ([])
  | .e1 => ([])
noncomputable def L77.N (n : Nat) (g : Nat → PD) : Nat → Int → L77.O
  | 0, _ => .e0 default
  | k_ + 1, i => (bif decide (i < (↑n : Int)) then (bif r61.v (g i.toNat) then (.e0 (i)) else (L77.N n g k_ (IntKind.i64.wrap (i + 1)))) else (.e1))
noncomputable def L77.run (n : Nat) (g : Nat → PD) (i : Int) : L77.O := L77.N n g ((((↑n : Int) - i).toNat) + 1) i
def L77.Next (n : Nat) (g : Nat → PD) (k_ : Nat) (z_ : Int) (T_ : List AV) (h_ : AHeap) : Prop := LNextP (fun (z_ : Int) => L77.T n g z_) (fun (z_ : Int) => L77.H n g z_) (fun (z_ : Int) => L77.inv n g z_) (fun (z_ : Int) => L77.mu n g z_) (fun (k_ : Nat) (z_ : Int) => L77.N n g k_ z_) k_ z_ T_ h_
def L77.End (n : Nat) (g : Nat → PD) (k_ : Nat) (z_ : Int) (e_ : Exit) (T_ : List AV) (h_ : AHeap) : Prop := LEndP (fun (z_ : Int) => L77.H n g z_) (fun (k_ : Nat) (z_ : Int) => L77.N n g k_ z_) L77.E (L77.X n g) (L77.XH n g) k_ z_ e_ T_ h_
theorem L77.nx (n : Nat) (g : Nat → PD) {k_ : Nat} {z_ : Int} {h_ : AHeap} (s_ : Int) (h1 : L77.inv n g s_) (h2 : L77.mu n g s_ < L77.mu n g z_) (h3 : L77.N n g k_ s_ = L77.N n g (k_ + 1) z_) (h4 : PopOk (L77.H n g z_) h_ (L77.T n g s_) (L77.H n g s_)) : LNextP (fun (z_ : Int) => L77.T n g z_) (fun (z_ : Int) => L77.H n g z_) (fun (z_ : Int) => L77.inv n g z_) (fun (z_ : Int) => L77.mu n g z_) (fun (k_ : Nat) (z_ : Int) => L77.N n g k_ z_) k_ z_ (L77.T n g s_) h_ := LNextP.mk (Tm := (fun (z_ : Int) => L77.T n g z_)) (Hp := (fun (z_ : Int) => L77.H n g z_)) (inv := (fun (z_ : Int) => L77.inv n g z_)) (mu := (fun (z_ : Int) => L77.mu n g z_)) (l := (fun (k_ : Nat) (z_ : Int) => L77.N n g k_ z_)) s_ h1 h2 h3 h4
theorem L77.en (n : Nat) (g : Nat → PD) {k_ : Nat} {z_ : Int} {h_ : AHeap} (o_ : L77.O) (h3 : L77.N n g (k_ + 1) z_ = o_) (h4 : PopOk (L77.H n g z_) h_ (L77.X n g o_) (L77.XH n g o_)) : LEndP (fun (z_ : Int) => L77.H n g z_) (fun (k_ : Nat) (z_ : Int) => L77.N n g k_ z_) L77.E (L77.X n g) (L77.XH n g) k_ z_ (L77.E o_) (L77.X n g o_) h_ := LEndP.mk (Hp := (fun (z_ : Int) => L77.H n g z_)) (l := (fun (k_ : Nat) (z_ : Int) => L77.N n g k_ z_)) (oE := L77.E) (oT := L77.X n g) (oH := L77.XH n g) o_ h3 h4
theorem L77.spec (n : Nat) (g : Nat → PD) (hn : n ≤ 9223372036854775807) (k_ : Nat) (z_ : Int) (hi_ : L77.inv n g z_) (hm_ : L77.mu n g z_ < k_) : LoopTo Try.prog (loopN Try.f77 0) (L77.T n g z_) (L77.H n g z_) (L77.E (L77.N n g k_ z_)) (L77.X n g (L77.N n g k_ z_)) (L77.XH n g (L77.N n g k_ z_)) := by
  refine LoopTo.fuelP mix (fun (z_ : Int) => L77.T n g z_) (fun (z_ : Int) => L77.H n g z_) (fun (z_ : Int) => L77.inv n g z_) (fun (z_ : Int) => L77.mu n g z_) (fun (k_ : Nat) (z_ : Int) => L77.N n g k_ z_) L77.E (L77.X n g) (L77.XH n g) (others 19 [0, 1, 7, 8]) (others 19 [4]) (others 19 []) ?_ k_ z_ hi_ hm_
  clear hm_ hi_ z_ k_
  intro k_ z_ hinv hmu
  revert hinv hmu; revert z_; intro i hinv hmu
  have hinv : 0 ≤ i ∧ i ≤ (↑n : Int) := hinv
  have hmu : (((↑n : Int) - i).toNat) < k_ + 1 := hmu
  cases h1 : decide (i < (↑n : Int)) with
  | true =>
    have h1p := of_decide_eq_true h1
    have o0 : (0 : Int) ≤ i := by first | assumption | omega | (simp_all; done)
    have o1 : i < (↑n : Int) := by first | assumption | omega | (simp_all; done)
    cases h2 : r61.v (g i.toNat) with
    | true =>
      exact ⟨[.b true, .ret (AV.bool (r61.v (g i.toNat))) ([]), .b true], kmp (by kernel_rfl) (And.intro h1 (And.intro (And.intro o0 o1) (And.intro (r61 (g i.toNat) ([])) (And.intro h2 (L77.en n g (k_ := k_) (z_ := i) (.e0 (i) : L77.O) (by first | (simp only [L77.N, h1, h2, cond_true, cond_false]; done) | (try unfold L77.N; try simp only [h1, cond_true, cond_false]; try simp only [h2, cond_true, cond_false]; try rfl; done)) PopOk.same)))))⟩
    | false =>
      try have := IntWalk.i64_in (i + 1) (by omega)
      have o2 : (0 : Int) ≤ IntKind.i64.wrap (i + (1 : Int)) := by first | assumption | omega | (simp_all; done)
      have o3 : IntKind.i64.wrap (i + (1 : Int)) ≤ (↑n : Int) := by first | assumption | omega | (simp_all; done)
      have o4 : ((↑n : Int) - IntKind.i64.wrap (i + (1 : Int))).toNat < ((↑n : Int) - i).toNat := by first | assumption | omega | (simp_all; done)
      exact ⟨[.b true, .ret (AV.bool (r61.v (g i.toNat))) ([]), .b false], kmp (by kernel_rfl) (And.intro h1 (And.intro (And.intro o0 o1) (And.intro (r61 (g i.toNat) ([])) (And.intro h2 (L77.nx n g (k_ := k_) (z_ := i) (IntKind.i64.wrap (i + 1)) (And.intro o2 o3) o4 (by first | (simp only [L77.N, h1, h2, cond_true, cond_false]; done) | (try unfold L77.N; try simp only [h1, cond_true, cond_false]; try simp only [h2, cond_true, cond_false]; try rfl; done)) PopOk.same)))))⟩
  | false =>
    have h1p := of_decide_eq_false h1
    exact ⟨[.b false], kmp (by kernel_rfl) (And.intro h1 (L77.en n g (k_ := k_) (z_ := i) (.e1 : L77.O) (by first | (simp only [L77.N, h1, cond_true, cond_false]; done) | (try unfold L77.N; try simp only [h1, cond_true, cond_false]; try rfl; done)) PopOk.same))⟩
theorem L77.e0 (n : Nat) (g : Nat → PD) (hn : n ≤ 9223372036854775807) (i : Int) (hinv : L77.inv n g i) (a0 : Int) (hN : L77.run n g i = (.e0 a0 : L77.O)) : LoopTo Try.prog (loopN Try.f77 0) (L77.T n g i) (L77.H n g i) (Exit.ret) (L77.X n g (.e0 a0 : L77.O)) (L77.XH n g (.e0 a0 : L77.O)) := by
  have h_ := L77.spec n g hn ((((↑n : Int) - i).toNat) + 1) i hinv (Nat.lt_succ_self _)
  unfold L77.run at hN
  simp only [hN] at h_
  exact h_
theorem L77.e1 (n : Nat) (g : Nat → PD) (hn : n ≤ 9223372036854775807) (i : Int) (hinv : L77.inv n g i) (hN : L77.run n g i = (.e1 : L77.O)) : LoopTo Try.prog (loopN Try.f77 0) (L77.T n g i) (L77.H n g i) (Exit.exit 0) (L77.X n g (.e1 : L77.O)) (L77.XH n g (.e1 : L77.O)) := by
  have h_ := L77.spec n g hn ((((↑n : Int) - i).toNat) + 1) i hinv (Nat.lt_succ_self _)
  unfold L77.run at hN
  simp only [hN] at h_
  exact h_

noncomputable def r77.v (n : Nat) (g : Nat → PD) : Int := (match L77.run n g 0 with | .e0 h1d0 => h1d0 | .e1 => -1 )
theorem r77 (n : Nat) (g : Nat → PD) (hn : n ≤ 9223372036854775807) (h : AHeap) : Ret Try.prog 77 ([prs n g, AV.fn 61 []]) h (AV.int IntKind.i64 (r77.v n g)) h := by
  have o0 : n ≤ (9223372036854775807 : Nat) := by first | assumption | omega | (simp_all; done)
  have o1 : (0 : Int) ≤ (↑n : Int) := by first | assumption | omega | (simp_all; done)
  cases h1 : L77.run n g 0 with
  | e0 h1d0 =>
    exact Ret.of_run1 mix [(AV.int IntKind.i64 (r77.v n g))] Try.func77 rfl [.loop (others 19 [0, 1, 7, 8]) (Exit.ret) (L77.X n g (L77.O.e0 h1d0)) (L77.XH n g (L77.O.e0 h1d0))] (by simp) (by simp) (kmp (by kernel_rfl) (And.intro (L77.e0 (n) (g) o0 (0) (And.intro (show (0 : Int) ≤ (0 : Int) by first | decide | exact Int.NonNeg.mk _) o1) h1d0 h1) (And.intro (show (AV.int IntKind.i64 h1d0) = ((AV.int IntKind.i64 (r77.v n g))) by first | (simp only [r77.v, h1, cond_true, cond_false]; done) | (try unfold r77.v; try simp only [h1, cond_true, cond_false]; try rfl; done) | rfl) trivial))) h
  | e1 =>
    exact Ret.of_run1 mix [(AV.int IntKind.i64 (r77.v n g))] Try.func77 rfl [.loop (others 19 [0, 1, 7, 8]) (Exit.exit 0) (L77.X n g L77.O.e1) (L77.XH n g L77.O.e1)] (by simp) (by simp) (kmp (by kernel_rfl) (And.intro (L77.e1 (n) (g) o0 (0) (And.intro (show (0 : Int) ≤ (0 : Int) by first | decide | exact Int.NonNeg.mk _) o1) h1) (And.intro (show (AV.int IntKind.i64 (-1)) = ((AV.int IntKind.i64 (r77.v n g))) by first | (simp only [r77.v, h1, cond_true, cond_false]; done) | (try unfold r77.v; try simp only [h1, cond_true, cond_false]; try rfl; done) | rfl) trivial))) h

noncomputable def r60.v (n : Nat) (g : Nat → PD) : Bool := decide (r77.v n g ≥ 0)
theorem r60 (n : Nat) (g : Nat → PD) (hn : n ≤ 9223372036854775807) (h : AHeap) : Ret Try.prog 60 ([prs n g, AV.fn 61 []]) h (AV.bool (r60.v n g)) h := by
  have o0 : n ≤ (9223372036854775807 : Nat) := by first | assumption | omega | (simp_all; done)
  exact Ret.of_run1 mix [(AV.bool (r60.v n g))] Try.func60 rfl [.ret (AV.int IntKind.i64 (r77.v n g)) ([])] (by simp) (by simp) (kmp (by kernel_rfl) (And.intro (r77 (n) (g) o0 ([])) (And.intro (show (AV.bool (decide (r77.v n g ≥ 0))) = ((AV.bool (r60.v n g))) by first | (simp only [r60.v, cond_true, cond_false]; done) | (try unfold r60.v; try rfl; done) | rfl) trivial))) h

end Go.Proofs.Ytjdakdjgkpfjkaa
